/- What the keeper's room does. Conditions: it lies in memory as KpR says, its traces are traces' numbers. -/
import Derived.Test.YtniggacgkhkgiaaEv1
import Derived.Deep.QuietTactic
import Derived.BigQuiet
import Derived.Deep.DeepCutAuto
namespace Go.Sp
open Go.RowKit
theorem leastG_mem (less : Int → Int → Bool) : ∀ (l : List Int) (m : Int), leastG less m l = m ∨ leastG less m l ∈ l
  | [], m => .inl rfl
  | x :: r, m => by
    have e : leastG less m (x :: r) = leastG less (bif less x m then x else m) r := rfl
    rw [e]
    rcases leastG_mem less r (bif less x m then x else m) with h | h
    · rw [h]
      cases less x m with
      | true => exact .inr List.mem_cons_self
      | false => exact .inl rfl
    · exact .inr (List.mem_cons_of_mem _ h)
theorem leastP_mem (s : Int) {l : List Int} (h : l ≠ []) : leastP s l ∈ l := by
  cases l with
  | nil => exact absurd rfl h
  | cons x r =>
    rcases leastG_mem (lessP s) r x with e | e
    · show leastG (lessP s) x r ∈ x :: r
      rw [e]; exact List.mem_cons_self
    · exact List.mem_cons_of_mem _ e
/-- the traces that may go -/
def mayK (K : Kp) : List Int := (K.M.map Prod.fst).filter fun x => !hasK K.pins x
def leastK (K : Kp) (k : Int) : Int := leastP K.seed (mayK K ++ [k])
/-- the keeper behind room -/
def roomK (K : Kp) (k : Int) : Kp := bif (mayK K).isEmpty then { K with lost := mput k () K.lost } else { K with M := mdel (leastK K k) K.M, lost := mput (leastK K k) () K.lost, gone := K.gone ++ [leastK K k] }
def roomE (K : Kp) (k : Int) : Int := bif (mayK K).isEmpty then 6 else bif decide (leastK K k = k) then 10 else 0
/-- traces' numbers -/
def Nums (K : Kp) : Prop := ∀ p ∈ K.M, 1 ≤ p.1 ∧ p.1 ≤ 65535
theorem leastK_rg {K : Kp} {k : Int} (h : Nums K) (hk : 1 ≤ k ∧ k ≤ 65535) : 1 ≤ leastK K k ∧ leastK K k ≤ 65535 := by
  have hm := leastP_mem K.seed (l := mayK K ++ [k]) (by simp)
  rcases List.mem_append.1 hm with e | e
  · obtain ⟨e1, _⟩ := List.mem_filter.1 e
    obtain ⟨p, hp, e2⟩ := List.mem_map.1 e1
    have := h p hp
    unfold leastK
    rw [← e2]; exact this
  · simp at e
    unfold leastK
    rw [e]; exact hk
end Go.Sp
namespace Go.Proofs.Ytniggacgkhkgiaa.Ev
open Go.RowKit Go.Sp Msg Pool Hash
section
variable {w w' w1 w2 : World} {R Rp Rp' : Nat → Prop} {kb pb ib lb : Nat} {gv gv' : Value} {K : Kp} {k : Int}
set_option maxRecDepth 100000 in
theorem says_any {xb : Nat} (h : Krep w R Rp kb pb ib lb gv K) (hx : w.cell? ⟨xb, 0, none⟩ = some (.pointer (some ⟨kb, 0, none⟩))) : Says w xb (hasK K.pins) := by
  intro x
  have c2 := h.cell (j := 2) rfl
  have hl := h.lookI x
  clear h
  generalize hasK K.pins x = b at hl ⊢
  go_enter Try.func120, Try.ntmps120
  go_wp2
  go_ret
  exact ⟨rfl, by first | rfl | trivial⟩

theorem app_gone {xb : Nat} {u : Value} {t : TypeId} {o : Obj} (h : Krep w R Rp kb pb ib lb gv K) (hbx : w.heap[xb]? = some (.cells #[u] t (0, 0))) (hx : gv.ownBlock ≠ some xb) (ho : Only (fun g => gv.ownBlock = some g) (w.alloc o).drew w2) :
    w2.cell? ⟨xb, 0, none⟩ = some u ∧ w2.cell? ⟨kb, 4, none⟩ = some gv ∧ w2.frozen? ⟨kb, 4, none⟩ = false ∧ Only (fun g => gv.ownBlock = some g) w w2 := by
  have hb : Below w.heap.size w (w.alloc o).drew := (below_alloc (Below.refl _ w) o).drew
  have hO : Only (fun g => gv.ownBlock = some g) w w2 := (only_of_below hb _).trans ho
  have h1 := hO.heap hbx hx
  have h2 := hO.heap h.blk h.gk
  exact ⟨cell_blk h1 rfl, cell_blk h2 rfl, froz_blk h2 4, hO⟩
set_option maxRecDepth 100000 in
set_option maxHeartbeats 4000000 in
theorem room_any (h : KpR w R kb K) (hk : 1 ≤ k ∧ k ≤ 65535) (hn : Nums K) (hg : K.gone.length ≤ 1000) : Calls Try.prog 95 #[.pointer (some ⟨kb, 0, none⟩), .int .i64 k] w fun e w' => e = .returned (.int .i64 (roomE K k)) ∧ KOut w R kb (roomK K k) w' := by
  obtain ⟨io, zo, hio, hzo, ho1, ho2, ho3⟩ := info_at (P := Try.prog) (e := 3) (f := (1, 8, 1)) (by kernel_rfl)
  obtain ⟨Rp, pb, ib, lb, gv, h⟩ := h
  have hA := below_alloc (Below.refl w.heap.size w) (.cells #[.pointer (some ⟨kb, 0, none⟩)] 84)
  have hbx := heap_new w (.cells #[.pointer (some ⟨kb, 0, none⟩)] 84) rfl
  have hK1 := h.below hA
  have hkeys := h.pm.keys
  have hzx : w.heap.size < (w.alloc (.cells #[.pointer (some ⟨kb, 0, none⟩)] 84)).heap.size := by simp
  go_enter Try.func95, Try.ntmps95
  have hlt := h.rlt
  have c0 := hK1.cell (j := 0) rfl
  go_wp2_with fail
  generalize (w.alloc (.cells #[.pointer (some ⟨kb, 0, none⟩)] 84)) = w1 at hA hbx hK1 hzx c0 ⊢
  refine (hK1.pm.traces).mono ?_
  rintro e w2 ⟨v2, rfl, hs2, hn2, hb2⟩
  have hK2 := hK1.below hb2
  have hbx2 := (hb2.block _ (Array.getElem?_eq_some_iff.1 hbx).1).trans hbx
  have hB2 := below_trans' hb2 hA
  have hzx2 := Nat.lt_of_lt_of_le hzx hb2.size
  have hno : ∀ g, v2.ownBlock = some g → w1.heap.size ≤ g := hn2
  have hRv : ∀ b, R b → v2.ownBlock ≠ some b := fun b hb e => by have := hno b e; have := hlt b hb; omega
  have hxv : v2.ownBlock ≠ some w.heap.size := fun e => by have := hno _ e; omega
  have hml : (K.M.map Prod.fst).length ≤ 16 := by rw [List.length_map]; exact hkeys
  have HD := delf_any (f := hasK K.pins) (xb := w.heap.size) hs2 (by omega) (fun w' hO => says_any (hK2.only hO hRv) (by
    have := hO.heap hbx2 hxv
    exact cell_blk this rfl))
  clear hs2 hK1 hbx hb2 hA c0 hn2
  go_wp2_with fail
  refine HD.mono ?_
  rintro e w3 ⟨v3, rfl, hs3, hv3, hO3⟩
  clear HD
  have hK3 := hK2.only hO3 hRv
  have hbx3 := hO3.heap hbx2 hxv
  have hB3 : Below w.heap.size w w3 := hB2.trans (hO3.below hB2.size fun i hi e => by have := hno i e; omega)
  have hR3 : ∀ b, R b → v3.ownBlock ≠ some b := fun b hb e => hRv b hb (hv3 b e)
  have hx3 : v3.ownBlock ≠ some w.heap.size := fun e => hxv (hv3 _ e)
  have hz3 : w.heap.size < w3.heap.size := Nat.lt_of_lt_of_le hzx2 hO3.size
  have hm3 : mayK K = (K.M.map Prod.fst).filter fun x => !hasK K.pins x := rfl
  rw [← hm3] at hs3
  have hml3 : (mayK K).length ≤ 16 := by rw [hm3]; exact Nat.le_trans (List.length_filter_le _ _) hml
  have hVN := Lib.hid (show ∀ g, v3.ownBlock = some g → w.heap.size ≤ g from fun g hg => by have := hno g (hv3 g hg); omega)
  have HLT := Lib.hid hlt
  clear hK2 hbx2 hB2 hzx2 hzx hO3 hno hRv hxv hv3 hm3 hml h hlt
  obtain ⟨n9, hn9⟩ : ∃ n9, n9 = (mayK K).length := ⟨_, rfl⟩
  rw [← hn9] at hs3 hml3
  obtain ⟨va, vc, rfl⟩ := hs3.form
  have c0 := hK3.cell (j := 0) rfl
  have c3 := hK3.cell (j := 3) rfl
  have x0 : w3.cell? ⟨w.heap.size, 0, none⟩ = some (.pointer (some ⟨kb, 0, none⟩)) := cell_blk hbx3 rfl
  cases hmt : mayK K with
  | nil =>
    have hE := Lib.hid (show roomE K k = 6 by unfold roomE; rw [hmt]; rfl)
    have hR := Lib.hid (show roomK K k = { K with lost := mput k () K.lost } by unfold roomK; rw [hmt]; rfl)
    rw [hmt] at hn9
    simp only [List.length_nil] at hn9
    subst hn9
    obtain ⟨w4, hrun, hI, hO⟩ := hK3.lost.update (P := Try.prog) Try.underlying132 Try.underlying3 (k := k) (WalkArith.wf_i64 (by omega)) ()
    simp only [eTrue] at hrun
    obtain ⟨h1, h2⟩ := hK3.setLost hI hO
    have H := Lib.hid (And.intro h1 (And.intro h2 hB3))
    clear hI hO h1 h2 hK3 hs3 hR3 hx3 hB3 hbx3 hmt hml3
    go_wp2
    go_ret
    refine ⟨by rw [hE.out] <;> rfl, R, ⟨Rp, pb, ib, lb, gv, by rw [hR.out]; exact H.out.1⟩, fun b hb => .inl hb, (only_of_below H.out.2.2 R).trans H.out.2.1⟩
  | cons y ys =>
    have hL : leastK K k = leastP K.seed (y :: (ys ++ [k])) := by unfold leastK; rw [hmt]; rfl
    have hrg := leastK_rg hn hk
    obtain ⟨l, hl⟩ : ∃ l, l = leastK K k := ⟨_, rfl⟩
    have HR := Lib.hid (show roomK K k = { K with M := mdel l K.M, lost := mput l () K.lost, gone := K.gone ++ [l] } by unfold roomK; rw [hmt, hl]; rfl)
    have HE := Lib.hid (show roomE K k = bif decide (l = k) then 10 else 0 by unfold roomE; rw [hmt, hl]; rfl)
    rw [← hl] at hL hrg
    rw [hmt] at hs3 hn9
    rw [List.length_cons] at hn9
    have HLq := Lib.hid hL
    clear hl hmt hL
    have c1 := hK3.cell (j := 1) (u := .int .u64 K.seed) rfl
    have hn0 : 0 < n9 := by omega
    have HN := Lib.hid hn9.symm
    clear hn9
    have hz0 : ((n9 : Int) == 0) = false := by simp; omega
    have hz1 : decide ((n9 : Int) = 0) = false := by simp; omega
    have hz2 : (n9 == 0) = false := by simp; omega
    clear c0 c3
    go_wp2_with fail
    have hKd := hK3.below (Below.refl w3.heap.size w3).drew
    have hsD := hs3.drew
    have q0 : w3.drew.cell? ⟨w.heap.size, 0, none⟩ = some (.pointer (some ⟨kb, 0, none⟩)) := x0
    have q1 : w3.drew.cell? ⟨kb, 1, none⟩ = some (.int .u64 K.seed) := c1
    have hkR : R kb := hK3.rk.1
    have hBd := hB3.drew
    have hbxd : w3.drew.heap[w.heap.size]? = _ := hbx3
    go_region_held3 (fun w' => w'.cell? ⟨w.heap.size, 0, none⟩ = some (.pointer (some ⟨kb, 0, none⟩)) ∧ w'.cell? ⟨kb, 1, none⟩ = some (.int .u64 K.seed)) (first | exact ⟨q0, q1⟩ | exact ⟨cell_alloc q0 _, cell_alloc q1 _⟩ | exact ⟨r0, r1⟩ | exact ⟨s0, s1⟩)
      (first
      | (refine step_appd (v := .slice va n9 vc) (n := n9) (m := 1) (c := 1) (news := [.int .i64 k]) rfl _ _ _ rfl Try.underlying31 hio hzo ho1 ho2 ho3 rfl (by first | exact hsD | exact hsD.alloc _) (by omega) rfl rfl (cells_new _ _ _ rfl) (by simp [Value.oneCell']) (by unfold maxLen; omega) (by omega) rfl ?_
         rintro b8 o8 c8 w8 hs8 ho8 hv8
         have hO8 : Only (fun g => (Value.slice va n9 vc).ownBlock = some g) w3.drew w8 := (only_of_below (below_alloc (Below.refl _ w3.drew) _) _).trans ho8
         have hr8 : RS w8 1 eInt (.slice (some ⟨b8, o8, none⟩) (n9 + 1) c8) (y :: (ys ++ [k])) := SL.ints (e := 3) (by
           have : (y :: (ys ++ [k])).length = n9 + 1 := by simp; have := HN.out; omega
           rw [this]
           show SL w8.heap 3 1 _ (n9 + 1) ((y :: (ys ++ [k])).map Sp.zI)
           rw [show (y :: (ys ++ [k])).map Sp.zI = (y :: ys).map Sp.zI ++ [.int .i64 k] by simp [zI]]
           exact hs8)
         have r0 : w8.cell? ⟨w.heap.size, 0, none⟩ = some (.pointer (some ⟨kb, 0, none⟩)) := cell_blk (hO8.heap hbxd hx3) rfl
         have r1 : w8.cell? ⟨kb, 1, none⟩ = some (.int .u64 K.seed) := (hKd.only hO8 hR3).cell rfl)
      | (go_at_call 121
         refine (least_any (s := K.seed) hr8).mono ?_
         rintro e w10 ⟨rfl, hb10⟩
         rw [← HLq.out]
         have s0 : w10.cell? ⟨w.heap.size, 0, none⟩ = some (.pointer (some ⟨kb, 0, none⟩)) := by rw [hb10.cell (World.block_lt_of_cell? _ _ r0)]; exact r0
         have s1 : w10.cell? ⟨kb, 1, none⟩ = some (.int .u64 K.seed) := by rw [hb10.cell (World.block_lt_of_cell? _ _ r1)]; exact r1)
      | fail)
    have hK10 := (hKd.only hO8 hR3).below hb10
    have hbx10 := (hb10.block _ (Array.getElem?_eq_some_iff.1 (hO8.heap hbxd hx3)).1).trans (hO8.heap hbxd hx3)
    have hno3 : ∀ g, (Value.slice va n9 vc).ownBlock = some g → w.heap.size ≤ g := fun g hg => hVN.out g hg
    have hB10 : Below w.heap.size w w10 := (hBd.trans (hO8.below hBd.size fun i hi e => by have := hno3 i e; omega)).trans (hb10.mono (Nat.le_trans hBd.size hO8.size))
    clear hKd hsD q0 q1 hBd hbxd hO8 hr8 r0 r1 s0 s1 hs8 ho8 hv8 hb10 hs3 hR3 hx3 hK3 x0 c1 hno3 hB3 hbx3 hz0 hz1 hz2
    have c0 := hK10.cell (j := 0) rfl
    have x0 : w10.cell? ⟨w.heap.size, 0, none⟩ = some (.pointer (some ⟨kb, 0, none⟩)) := cell_blk hbx10 rfl
    have hxR : ¬ R w.heap.size := fun e => by have := HLT.out _ e; omega
    go_wp2_with fail
    refine (hK10.pm.drop l).mono ?_
    rintro e w11 ⟨⟨n11, rfl⟩, R', F', hP11, hR11, hO11⟩
    obtain ⟨hK11, hO11'⟩ := hK10.setPool hP11 hR11 hO11
    have hbx11 := hO11'.heap hbx10 hxR
    have hxR11 : ¬ (R w.heap.size ∨ R' w.heap.size) := fun e => by
      rcases e with e | e
      · exact hxR e
      · rcases hR11 _ e with e | e
        · exact hxR (hK10.rp _ e)
        · have := (Array.getElem?_eq_some_iff.1 hbx10).1; omega
    have hR11' : ∀ b, (R b ∨ R' b) → R b ∨ w.heap.size ≤ b := fun b hb => by
      rcases hb with hb | hb
      · exact .inl hb
      · rcases hR11 b hb with e | e
        · exact .inl (hK10.rp b e)
        · exact .inr (Nat.le_trans hB10.size e)
    have hOw : Only R w w11 := (only_of_below hB10 R).trans hO11'
    have c3 := hK11.cell (j := 3) rfl
    have x0' : w11.cell? ⟨w.heap.size, 0, none⟩ = some (.pointer (some ⟨kb, 0, none⟩)) := cell_blk hbx11 rfl
    obtain ⟨w12, hrun, hI, hO12⟩ := hK11.lost.update (P := Try.prog) Try.underlying132 Try.underlying3 (k := l) (WalkArith.wf_i64 (by omega)) ()
    simp only [eTrue] at hrun
    obtain ⟨hK12, hO12'⟩ := hK11.setLost hI hO12
    have hbx12 := hO12'.heap hbx11 hxR11
    have H12 := Lib.hid (And.intro hK12 (And.intro hO12' (And.intro hR11' (And.intro hOw (And.intro hbx12 hxR11)))))
    clear hK10 hbx10 hB10 c0 x0 hP11 hR11 hO11 hK11 hO11' hbx11 hR11' hOw hI hO12 hK12 hO12' hbx12
    go_upto_region 8 with (fail)
    obtain ⟨hK12, hO12', hR11', hOw, hbx12, hxR11⟩ := H12.out
    obtain ⟨ga, gc, rfl⟩ := hK12.gone.form
    have c4 := hK12.cell (j := 4) rfl
    have x0 : w12.cell? ⟨w.heap.size, 0, none⟩ = some (.pointer (some ⟨kb, 0, none⟩)) := cell_blk hbx12 rfl
    have hgs := hK12.gone
    simp only at hgs c4
    have hgx : (Value.slice ga K.gone.length gc).ownBlock ≠ some w.heap.size := fun e => hxR11 (hK12.rg _ e).1
    have HG := fun o w2 ho => app_gone (o := o) (w2 := w2) hK12 hbx12 hgx ho
    have hkz := hK12.rlt _ hK12.rk.1
    have hxz := (Array.getElem?_eq_some_iff.1 hbx12).1
    have hf4 := froz_blk hK12.blk 4
    have HK := Lib.hid (And.intro hK12 (And.intro hO12' (And.intro hR11' hOw)))
    clear hK12 hO12' hR11' hOw hbx12 hxR11 H12 x0' c3 hrun hxR hgx
    go_cut [] (fun wx => ∃ gv' R'', Krep wx R'' R' kb pb ib lb gv' { K with M := mdel l K.M, lost := mput l () K.lost, gone := K.gone ++ [l] } ∧ (∀ b, R'' b → R b ∨ w.heap.size ≤ b) ∧ Only R w wx)
    case first =>
      go_region_law
        ((refine step_appd (v := .slice ga K.gone.length gc) rfl _ _ _ rfl Try.underlying31 hio hzo ho1 ho2 ho3 rfl ((hgs.alloc _).drew) (by omega) (m := 1) (news := [.int .i64 l]) rfl rfl (cells_new _ _ _ (by simp)) (by simp [Value.oneCell']) (by unfold maxLen; omega) (by omega) (by simp; rfl) ?_; intro b8 o8 c8 w8 hs8 ho8 hv8; obtain ⟨k1, k2, k3, k4⟩ := HG _ _ ho8; clear ho8))
      all_goals (
        obtain ⟨hK12, hO12', hR11', hOw⟩ := HK.out
        obtain ⟨hK13, hO13⟩ := hK12.setGone (gs := K.gone ++ [l]) k4 (gv' := .slice (some ⟨b8, o8, none⟩) (K.gone.length + 1) c8) (by
          have e1 : (K.gone ++ [l]).length = K.gone.length + 1 := by simp
          rw [e1, List.map_append]; exact hs8) (by
          rcases hv8 with e | e
          · exact .inl (by rw [e]; rfl)
          · exact .inr ⟨b8, rfl, by omega⟩)
        generalize w8.setCell ⟨kb, 4, none⟩ (.slice (some ⟨b8, o8, none⟩) (K.gone.length + 1) c8) = w13 at hK13 hO13 ⊢
        have hR13 : ∀ g, (Value.slice (some ⟨b8, o8, none⟩) (K.gone.length + 1) c8).ownBlock = some g → R g ∨ w.heap.size ≤ g := fun g hg => by
          simp [Value.ownBlock] at hg
          subst hg
          rcases hv8 with e | e
          · exact hR11' _ (hK12.rg _ e).1
          · exact .inr (by have := Nat.le_trans hOw.size hO12'.size; omega)
        clear hs8 hv8 k1 k2 k3 k4 hgs HG
        go_wp2_with fail
        go_meet
        exact ⟨_, _, hK13, fun b hb => by
          rcases hb with hb | hb
          · exact hR11' b hb
          · exact hR13 b hb, hOw.trans' (hO12'.trans hO13) fun i hi e => (hR11' i e).resolve_right (by omega)⟩)
    case rest =>
      obtain ⟨gv', R'', hKc, hRc, hOc⟩ := hcut
      clear hgs HG c4 x0 hf4
      cases hlk : decide (l = k) with
      | true =>
        have hlk' : l = k := of_decide_eq_true hlk
        have b1 : (l == k) = true := by simp [hlk']
        have H := Lib.hid (show roomE K k = 10 by rw [HE.out, hlk]; rfl)
        clear hlk hlk'
        go_wp2
        go_ret
        exact ⟨by rw [H.out] <;> rfl, R'', ⟨R', pb, ib, lb, gv', by rw [HR.out]; exact hKc⟩, hRc, hOc⟩
      | false =>
        have hlk' : ¬ l = k := of_decide_eq_false hlk
        have b1 : (l == k) = false := by simp [hlk']
        have H := Lib.hid (show roomE K k = 0 by rw [HE.out, hlk]; rfl)
        clear hlk hlk'
        go_wp2
        go_ret
        exact ⟨by rw [H.out] <;> rfl, R'', ⟨R', pb, ib, lb, gv', by rw [HR.out]; exact hKc⟩, hRc, hOc⟩
end
end Go.Proofs.Ytniggacgkhkgiaa.Ev
