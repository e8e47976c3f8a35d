/- The reference's keeper in memory; its In, out, New, Pin, Unpin, Forget. Conditions: it lies in memory as Kf says. -/
import Derived.Test.YtniggacgkhkgiaaPref5
import Derived.Test.YtniggacgkhkgiaaPref2
import Derived.Test.YtniggacgkhkgiaaEv4
namespace Go.Proofs.Ytniggacgkhkgiaa.Kref
open Go.RowKit Go.Sp Msg Ev Pool Pref

/-- the keeper at block rb: its pool at pb, the pinned ps in pv, the lost ls in lv, those that went in gv -/
structure Kf (w : World) (R Rp : Nat → Prop) (rb pb : Nat) (pv lv gv : Value) (K : Kp) (ps ls : List Int) : Prop where
  blk : w.heap[rb]? = some (.cells #[.pointer (some ⟨pb, 0, none⟩), .int .u64 K.seed, pv, lv, gv] 107 (0, 0))
  pool : ∃ tv av us, Qrep w Rp pb K.N K.M tv av us
  pins : SL w.heap 3 1 pv ps.length (ps.map Sp.zI)
  lost : SL w.heap 3 1 lv ls.length (ls.map Sp.zI)
  gone : SL w.heap 3 1 gv K.gone.length (K.gone.map Sp.zI)
  rr : R rb ∧ ¬ Rp rb
  rpv : ∀ g, pv.ownBlock = some g → R g ∧ ¬ Rp g
  rlv : ∀ g, lv.ownBlock = some g → R g ∧ ¬ Rp g
  rgv : ∀ g, gv.ownBlock = some g → R g ∧ ¬ Rp g
  dpl : ∀ g, pv.ownBlock = some g → lv.ownBlock ≠ some g
  dpg : ∀ g, pv.ownBlock = some g → gv.ownBlock ≠ some g
  dlg : ∀ g, lv.ownBlock = some g → gv.ownBlock ≠ some g
  rp : ∀ b, Rp b → R b
  rlt : ∀ b, R b → b < w.heap.size
  psm : ∀ x, x ∈ ps ↔ hasK K.pins x = true
  lsm : ∀ x, x ∈ ls ↔ hasK K.lost x = true
section
variable {w w' w2 : World} {R Rp Rp' F : Nat → Prop} {rb pb : Nat} {pv lv gv pv' lv' gv' : Value} {K K' : Kp} {ps ls ps' ls' : List Int} {k : Int}
theorem Kf.only (h : Kf w R Rp rb pb pv lv gv K ps ls) (o : Only F w w') (hF : ∀ b, R b → ¬ F b) : Kf w' R Rp rb pb pv lv gv K ps ls := by
  obtain ⟨tv, av, us, hq⟩ := h.pool
  exact ⟨o.heap h.blk (hF _ h.rr.1), ⟨tv, av, us, hq.only o (fun b hb => hF b (h.rp b hb))⟩, h.pins.only o (fun g hg => hF g (h.rpv g hg).1), h.lost.only o (fun g hg => hF g (h.rlv g hg).1), h.gone.only o (fun g hg => hF g (h.rgv g hg).1), h.rr, h.rpv, h.rlv, h.rgv, h.dpl, h.dpg, h.dlg, h.rp, fun b hb => Nat.lt_of_lt_of_le (h.rlt b hb) o.size, h.psm, h.lsm⟩
theorem Kf.below (h : Kf w R Rp rb pb pv lv gv K ps ls) (o : Below w.heap.size w w') : Kf w' R Rp rb pb pv lv gv K ps ls := h.only (only_of_below o (fun _ => False)) (fun _ _ => id)
theorem Kf.cell (h : Kf w R Rp rb pb pv lv gv K ps ls) {j : Nat} {u : Value} (hu : (#[.pointer (some ⟨pb, 0, none⟩), .int .u64 K.seed, pv, lv, gv] : Array Value)[j]? = some u) : w.cell? ⟨rb, j, none⟩ = some u := cell_blk h.blk hu
theorem Kf.nb (h : Kf w R Rp rb pb pv lv gv K ps ls) {n : Nat} {v : Value} {cs : List Value} (x : SL w.heap 3 1 v n cs) : v.ownBlock ≠ some rb := sl_not h.blk x (by decide)
/-- another one of the slices in the keeper's block: what is told of the new ones -/
theorem Kf.next (h : Kf w R Rp rb pb pv lv gv K ps ls) (hO : Only F w w2) (hF : ∀ b, F b → R b ∧ ¬ Rp b) (hblk : w2.heap[rb]? = some (.cells #[.pointer (some ⟨pb, 0, none⟩), .int .u64 K'.seed, pv', lv', gv'] 107 (0, 0)))
    (p2 : SL w2.heap 3 1 pv' ps'.length (ps'.map Sp.zI)) (l2 : SL w2.heap 3 1 lv' ls'.length (ls'.map Sp.zI)) (g2 : SL w2.heap 3 1 gv' K'.gone.length (K'.gone.map Sp.zI))
    (np : ∀ g, pv'.ownBlock = some g → pv.ownBlock = some g ∨ w.heap.size ≤ g) (nl : ∀ g, lv'.ownBlock = some g → lv.ownBlock = some g ∨ w.heap.size ≤ g) (ng : ∀ g, gv'.ownBlock = some g → gv.ownBlock = some g ∨ w.heap.size ≤ g)
    (dpl : ∀ g, pv'.ownBlock = some g → lv'.ownBlock ≠ some g) (dpg : ∀ g, pv'.ownBlock = some g → gv'.ownBlock ≠ some g) (dlg : ∀ g, lv'.ownBlock = some g → gv'.ownBlock ≠ some g)
    (psm : ∀ x, x ∈ ps' ↔ hasK K'.pins x = true) (lsm : ∀ x, x ∈ ls' ↔ hasK K'.lost x = true) (eM : K'.M = K.M) (eN : K'.N = K.N) :
    Kf w2 (fun b => R b ∨ (w.heap.size ≤ b ∧ b < w2.heap.size ∧ ¬ Rp b)) Rp rb pb pv' lv' gv' K' ps' ls' ∧ Only R w w2 := by
  obtain ⟨tv, av, us, hq⟩ := h.pool
  have hRp : ∀ b, w.heap.size ≤ b → ¬ Rp b := fun b hb e => by have := h.rlt b (h.rp b e); omega
  refine ⟨⟨hblk, ⟨tv, av, us, by rw [eM, eN]; exact hq.only hO (fun b hb e => (hF b e).2 hb)⟩, p2, l2, g2, ⟨.inl h.rr.1, h.rr.2⟩, fun g hg => ?_, fun g hg => ?_, fun g hg => ?_, dpl, dpg, dlg, fun b hb => .inl (h.rp b hb), fun b hb => ?_, psm, lsm⟩, hO.mono fun b _ e => (hF b e).1⟩
  · rcases np g hg with e | e
    · exact ⟨.inl (h.rpv g e).1, (h.rpv g e).2⟩
    · exact ⟨.inr ⟨e, p2.lt g hg, hRp g e⟩, hRp g e⟩
  · rcases nl g hg with e | e
    · exact ⟨.inl (h.rlv g e).1, (h.rlv g e).2⟩
    · exact ⟨.inr ⟨e, l2.lt g hg, hRp g e⟩, hRp g e⟩
  · rcases ng g hg with e | e
    · exact ⟨.inl (h.rgv g e).1, (h.rgv g e).2⟩
    · exact ⟨.inr ⟨e, g2.lt g hg, hRp g e⟩, hRp g e⟩
  · rcases hb with hb | hb
    · exact Nat.lt_of_lt_of_le (h.rlt b hb) hO.size
    · exact hb.2.1
/-- another pool -/
theorem Kf.setPool {M : List (Int × List Spn)} (h : Kf w R Rp rb pb pv lv gv K ps ls) (hQ : QOut w Rp pb K.N M w2) : ∃ Rp', Kf w2 (fun b => R b ∨ Rp' b) Rp' rb pb pv lv gv { K with M := M } ps ls ∧ (∀ b, Rp' b → Rp b ∨ w.heap.size ≤ b) ∧ Only R w w2 := by
  obtain ⟨Rp', tv, av, us, hq, hR, hO⟩ := hQ
  have hn : ∀ b, R b → ¬ Rp b → ¬ Rp' b := fun b h1 h2 e => by
    rcases hR b e with e | e
    · exact h2 e
    · have := h.rlt b h1; omega
  exact ⟨Rp', ⟨hO.heap h.blk h.rr.2, ⟨tv, av, us, hq⟩, h.pins.only hO (fun g hg => (h.rpv g hg).2), h.lost.only hO (fun g hg => (h.rlv g hg).2), h.gone.only hO (fun g hg => (h.rgv g hg).2), ⟨.inl h.rr.1, hn _ h.rr.1 h.rr.2⟩, fun g hg => ⟨.inl (h.rpv g hg).1, hn _ (h.rpv g hg).1 (h.rpv g hg).2⟩, fun g hg => ⟨.inl (h.rlv g hg).1, hn _ (h.rlv g hg).1 (h.rlv g hg).2⟩, fun g hg => ⟨.inl (h.rgv g hg).1, hn _ (h.rgv g hg).1 (h.rgv g hg).2⟩, h.dpl, h.dpg, h.dlg, fun b hb => .inr hb, fun b hb => by
    rcases hb with hb | hb
    · exact Nat.lt_of_lt_of_le (h.rlt b hb) hO.size
    · exact hq.rlt b hb, h.psm, h.lsm⟩, hR, hO.mono fun b _ e => h.rp b e⟩
/-- the keeper, without its inner blocks; no list of its longer than q -/
def KfR (w : World) (R : Nat → Prop) (rb : Nat) (K : Kp) (q : Nat) : Prop := ∃ Rp pb pv lv gv ps ls, Kf w R Rp rb pb pv lv gv K ps ls ∧ ps.length ≤ q ∧ ls.length ≤ q
theorem KfR.only {q : Nat} (h : KfR w R rb K q) (o : Only F w w') (hF : ∀ b, R b → ¬ F b) : KfR w' R rb K q := by
  obtain ⟨Rp, pb, pv, lv, gv, ps, ls, h, hq⟩ := h
  exact ⟨Rp, pb, pv, lv, gv, ps, ls, h.only o hF, hq⟩
theorem KfR.below {q : Nat} (h : KfR w R rb K q) (o : Below w.heap.size w w') : KfR w' R rb K q := h.only (only_of_below o (fun _ => False)) (fun _ _ => id)
theorem KfR.lt {q : Nat} (h : KfR w R rb K q) : ∀ b, R b → b < w.heap.size := by
  obtain ⟨Rp, pb, pv, lv, gv, ps, ls, h, hq⟩ := h
  exact h.rlt
def KfO (w : World) (R : Nat → Prop) (rb : Nat) (K : Kp) (q : Nat) (w' : World) : Prop := ∃ R', KfR w' R' rb K q ∧ (∀ b, R' b → R b ∨ w.heap.size ≤ b) ∧ Only R w w'

set_option maxHeartbeats 1000000 in
theorem in_any {v : Value} {xs : List Int} (hr : RS w 1 eInt v xs) (hn : xs.length ≤ 1000000) (x : Int) :
    Calls Try.prog 53 #[v, .int .i64 x] w fun e w' => e = .returned (.bool (xs.contains x)) ∧ w = w' := by
  obtain ⟨_, a, cap, rfl, hc⟩ := id hr
  go_enter Try.func53, Try.ntmps53
  go_wp2
  go_loopw [5] (fun i wr => ∃ j : Nat, j ≤ xs.length ∧ i = .int .i64 j ∧ wr = w ∧ x ∉ xs.take j) (fun i _ => xs.length - (intOf i).toNat)
  case atStart => exact ⟨0, Nat.zero_le _, rfl, rfl, by simp⟩
  case round =>
    obtain ⟨j, hj, rfl, rfl, hJ⟩ := hrel
    by_cases hjn : j < xs.length
    · obtain ⟨b, off, rfl, hb, hcl⟩ := hc (by omega)
      obtain ⟨y, hy⟩ : ∃ y, xs[j]? = some y := ⟨_, List.getElem?_eq_getElem hjn⟩
      have hcy : wr.cell? ⟨b, off + j, none⟩ = some (.int .i64 y) := by
        have := hcl j y 0 _ hy rfl
        simpa using this
      have HY := Lib.hid hy
      have HJ := Lib.hid hJ
      clear hy hJ hcl
      by_cases e : y = x
      · subst e
        have hm : xs.contains y = true := List.contains_iff_mem.2 (List.mem_of_getElem? HY.out)
        go_wp2
        go_ret
        exact ⟨by rw [hm]; rfl, by first | rfl | trivial⟩
      · have hyx : (y == x) = false := by simp [e]
        go_wp2
        refine ⟨⟨j + 1, by omega, by go_num, by first | rfl | trivial, fun hm => ?_⟩, by simp [intOf]; omega⟩
        rw [List.take_add_one, HY.out] at hm
        rcases List.mem_append.1 hm with hm | hm
        · exact HJ.out hm
        · simp at hm; exact e hm.symm
    · have hje : j = xs.length := by omega
      subst hje
      rw [List.take_length] at hJ
      have hm : xs.contains x = false := by
        cases h : xs.contains x with
        | false => rfl
        | true => exact absurd (List.contains_iff_mem.1 h) hJ
      clear hJ
      go_wp2
      go_ret
      exact ⟨by rw [hm]; rfl, by first | rfl | trivial⟩

set_option maxRecDepth 100000 in
set_option maxHeartbeats 1000000 in
theorem out_any {v : Value} {xs : List Int} (hr : RS w 1 eInt v xs) (hn : xs.length ≤ 100000) (x : Int) :
    Calls Try.prog 103 #[v, .int .i64 x] w fun e w' => ∃ v', e = .returned v' ∧ SL w'.heap 3 1 v' (xs.filter (fun y => decide (y ≠ x))).length ((xs.filter (fun y => decide (y ≠ x))).map Sp.zI) ∧ (∀ g, v'.ownBlock = some g → w.heap.size ≤ g) ∧ Below w.heap.size w w' := by
  obtain ⟨_, a, cap, rfl, hc⟩ := id hr
  obtain ⟨i0, z0, hi, hz, hz1, hz2, hz3⟩ := info_at (P := Try.prog) (e := 3) (f := (1, 8, 1)) (by kernel_rfl)
  go_enter Try.func103, Try.ntmps103
  go_wp2
  go_loopw [5, 6] (fun out i wr => ∃ j : Nat, j ≤ xs.length ∧ i = .int .i64 j ∧ SL wr.heap 3 1 out ((xs.take j).filter (fun y => decide (y ≠ x))).length (((xs.take j).filter (fun y => decide (y ≠ x))).map Sp.zI) ∧ (∀ g, out.ownBlock = some g → w.heap.size ≤ g) ∧ Below w.heap.size w wr) (fun _ i _ => xs.length - (intOf i).toNat)
  case atStart => exact ⟨0, Nat.zero_le _, rfl, SL.nil _ _ _, fun g hg => by simp [Value.ownBlock] at hg, Below.refl _ _⟩
  case round =>
    obtain ⟨j, hj, rfl, hs, hg, hb⟩ := hrel
    by_cases hjn : j < xs.length
    · obtain ⟨b, off, rfl, hbw, hcl⟩ := hc (by omega)
      obtain ⟨y, hy⟩ : ∃ y, xs[j]? = some y := ⟨_, List.getElem?_eq_getElem hjn⟩
      have hcell : ∀ W, Below w.heap.size w W → W.cell? ⟨b, off + j, none⟩ = some (.int .i64 y) := fun W hW => by
        rw [World.cell?_of_block (w := w) ((only_of_below hW (fun _ => False)).block b hbw id)]
        have := hcl j y 0 _ hy rfl
        simpa using this
      have hcy := hcell wr hb
      have hF : (xs.take (j + 1)).filter (fun y => decide (y ≠ x)) = (xs.take j).filter (fun y => decide (y ≠ x)) ++ if decide (y ≠ x) then [y] else [] := by
        rw [List.take_add_one, hy, Option.toList_some, List.filter_append]
        by_cases e : y = x <;> simp [e]
      have hlen : ((xs.take j).filter (fun y => decide (y ≠ x))).length ≤ 100000 := Nat.le_trans (List.length_filter_le _ _) (by simp; omega)
      generalize (xs.take j).filter (fun y => decide (y ≠ x)) = o at *
      have HF := Lib.hid hF
      clear hF hy hcl hcell
      by_cases e : y = x
      · have b1 : (y != x) = false := by simp [e]
        go_wp2
        refine ⟨⟨j + 1, by omega, by go_num, by rw [HF.out, if_neg (by simp [e]), List.append_nil]; exact hs, hg, hb⟩, by simp [intOf]; omega⟩
      · have b1 : (y != x) = true := by simp [e]
        have HE := Lib.hid e
        clear e
        go_wp2_with (at_builtin; refine halt ?_)
        refine Halt.go ?_
        refine wpList_appd (v := u5) rfl _ _ _ rfl Try.underlying31 hi hz hz1 hz2 hz3 rfl (hs.alloc _) (m := 1) (news := [.int .i64 y]) rfl rfl (cells_new _ _ _ rfl) (by simp [Value.oneCell']) (by unfold maxLen; omega) (by omega) ?_
        rintro v5 w5 hs5 ho5 hv5
        have hb5 : Below w.heap.size w w5 := (hb.alloc hb.size _).trans (ho5.below (by have := hb.size; simp; omega) (fun i hi e => by have := hg i e; omega))
        have hg5 : ∀ g, v5.ownBlock = some g → w.heap.size ≤ g := fun g hg' => by
          rcases hv5 with e | e
          · exact hg g (by rw [← e]; exact hg')
          · rw [e] at hg'; cases hg'; have := hb.size; simp; omega
        clear hs ho5 hv5 hg hb hcy
        go_wp2
        refine ⟨⟨j + 1, by omega, by go_num, ?_, hg5, hb5⟩, by simp [intOf]; omega⟩
        rw [HF.out, if_pos (by simp [HE.out]), List.length_append, List.map_append]
        exact hs5
    · have hje : j = xs.length := by omega
      subst hje
      rw [List.take_length] at hs
      go_wp2
      go_ret
      exact ⟨_, rfl, hs, hg, hb⟩
end
end Go.Proofs.Ytniggacgkhkgiaa.Kref
