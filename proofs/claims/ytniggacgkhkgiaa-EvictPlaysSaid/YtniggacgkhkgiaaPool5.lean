/- What the pool's last does where a free buffer is taken. Conditions: it lies in memory as Prep says, its buffers are linked as Pinv says. -/
import Derived.Test.YtniggacgkhkgiaaPool4
namespace Go.Proofs.Ytniggacgkhkgiaa.Pool
open Go.RowKit Go.Sp Msg
/-- a slice without its first element -/
theorem slice_tail (w : World) {b o n c : Nat} (hc : n + 1 ≤ c) : ∃ o', (o' = o ∨ o' = o + 1) ∧ (c = 1 → o' = o) ∧ (c ≠ 1 → o' = o + 1) ∧ ∀ w2 : World, (Instr.sliceAt 31 (.slice (some ⟨b, o, none⟩) (n + 1) c) (some (.int .i64 1)) none none).run Try.prog w2 = .ok (.slice (some ⟨b, o', none⟩) n (c - 1)) w2 := by
  have hsz : ∀ w2 : World, (sizeOf (Try.prog.elem 31)).run Try.prog w2 = .ok 1 w2 := fun w2 => by kernel_rfl
  have hu : Try.prog.underlying 31 = some (.slice (Try.prog.elem 31)) := by kernel_rfl
  refine ⟨if c = 1 then o else o + 1, ?_, ?_, ?_, fun w2 => ?_⟩
  · by_cases h : c = 1 <;> simp [h]
  · intro h; simp [h]
  · intro h; simp [h]
  · rw [run_sliceAt_slice w2 31 _ _ _ _ hu, run_slice_l w2 31 _ _ _ hu .i64 1 (by omega) (by omega), hsz]
    by_cases h : c = 1
    · subst h; simp [sliced, Result.andThen]
    · simp [sliced, Result.andThen, h, Addr.add]
theorem sl_tail1 {w : World} {e : TypeId} {b o n c o' : Nat} {u : Value} {cs : List Value} (x : SL w.heap e 1 (.slice (some ⟨b, o, none⟩) (n + 1) c) (n + 1) (u :: cs)) (h1 : c = 1 → o' = o) (h2 : c ≠ 1 → o' = o + 1) : SL w.heap e 1 (.slice (some ⟨b, o', none⟩) n (c - 1)) n cs := by
  obtain ⟨hl, hx⟩ := x
  have hlc : cs.length = n := by simp at hl; omega
  refine ⟨by omega, ?_⟩
  rcases hx with ⟨hv, _⟩ | ⟨b', off', cap', cur, hv, q1, q2, hb, q3, q4⟩
  · simp at hv
  simp only [Value.slice.injEq, Option.some.injEq, Addr.mk.injEq] at hv
  obtain ⟨⟨rfl, rfl, _⟩, _, rfl⟩ := hv
  refine .inr ⟨b, o', c - 1, cur, rfl, by omega, by omega, hb, ?_, fun j v hv => ?_⟩
  · by_cases h : c = 1
    · rw [h1 h]; omega
    · rw [h2 h]; omega
  · have hj := (List.getElem?_eq_some_iff.1 hv).1
    have hc : c ≠ 1 := by omega
    rw [h2 hc]
    have := q4 (j + 1) v (by simpa using hv)
    rw [← this]; congr 1; omega

theorem stop_store {P : Program} {ops : Array Oper} {rest : List Oper} {o : Oper} {a : Act} {w : World} {Q : Exit → Act → World → Prop} (t : TypeId) (x y : Operand) (hop : o.op = .store t x y) (h : Sp.Halt (wpList P ops Q (o :: rest) a w)) : wpList P ops Q (o :: rest) a w := h
/-- the map's answer at a trace -/
def ChainAt (m : Rows) (k : Int) (v : Value) (l : List Int) : Prop := mget k m = some (v, l) ∨ (mget k m = none ∧ v = .slice none 0 0 ∧ l = [])
theorem mmap_mput {α β : Type} (f : α → β) (k : Int) (v : α) {m : List (Int × α)} (h : KS m) : mmap f (mput k v m) = mput k (f v) (mmap f m) :=
  KS.ext (KS.mmap f h.mput) (KS.mmap f h).mput (fun j => by
    rw [mget_mmap, mget_mput, mget_mput, mget_mmap]
    split <;> rfl)
theorem Prep.there {w : World} {R : Nat → Prop} {pb bb mb : Nat} {fv : Value} {bf : List Bf} {fr : List Int} {m : Rows} (h : Prep w R pb bb mb fv bf fr m) {n : Nat} (hn : n < bf.length) : w.there bb (n * 10) 10 := fun j hj => by
  have hb : bf[n]? = some bf[n] := List.getElem?_eq_getElem hn
  have g := h.buf hb (j := j) (List.getElem?_eq_getElem (by show j < 10; exact hj))
  exact ⟨by rw [g]; rfl, h.bfs.free _⟩
section
variable {w w1 w2 : World} {R : Nat → Prop} {pb bb mb N : Nat} {fv : Value} {bf : List Bf} {fr : List Int} {m : Rows} {k : Int}

set_option maxRecDepth 100000 in
set_option maxHeartbeats 4000000 in
theorem last_take {i : Int} (h : Prep w R pb bb mb fv bf (i :: fr) m) (hI : Pinv N bf (i :: fr) (mS m)) (hk16 : 1 ≤ k ∧ k ≤ 65535) (hno : mget k (mS m) = none ∨ ∃ l' i, mget k (mS m) = some (l' ++ [i]) ∧ (bufAt bf i).n = 3) :
    Calls Try.prog 119 #[.pointer (some ⟨pb, 0, none⟩), .int .i64 k] w fun e w' => e = .returned (.pointer (some ⟨bb, i.toNat * 10, none⟩)) ∧ ∃ fv' R' m', Prep w' R' pb bb mb fv' (bf.set i.toNat zBf) fr m' ∧ mS m' = mput k (lgetA k (mS m) ++ [i]) (mS m) ∧ (∀ b, R' b → R b ∨ w.heap.size ≤ b) ∧ Only R w w' := by
  obtain ⟨io, zo, hio, hzo, ho1, ho2, ho3⟩ := info_at (P := Try.prog) (e := 3) (f := (1, 8, 1)) (by kernel_rfl)
  obtain ⟨v0, l0, hl, _, _, rfl, hk, _⟩ := h.look k
  have hl0 := hl w rfl
  have c0 := h.c0
  have c2 := h.c2
  have hN := hI.hN
  have h16 := hI.n16
  have hsm := hI.small k
  have hri := hI.rg i (by simp)
  obtain ⟨n, rfl⟩ : ∃ n : Nat, i = n := ⟨i.toNat, by omega⟩
  have hnb : n < bf.length := by omega
  have hfr := h.free
  rw [List.length_cons, List.map_cons] at hfr
  obtain ⟨fb, fo, fc, rfl, hfb, hfc, _⟩ := hfr.form' (by omega)
  have f0 : w.cell? ⟨fb, fo, none⟩ = some (.int .i64 (n : Int)) := by have := hfr.cell (j := 0) (u := .int .i64 (n : Int)) rfl; simpa using this
  have c1 := h.c1
  have HLE := Lib.hid (show (lgetA k (mS m)).length ≤ 16 from Nat.le_trans hsm h16.2)
  obtain ⟨fo', hfo, hf1, hf2, hSl⟩ := slice_tail w (b := fb) (o := fo) (n := fr.length) (c := fc) hfc
  have hfr' := sl_tail1 hfr hf1 hf2
  obtain ⟨hP5, hO5⟩ := h.setFree (fr' := fr) (Only.refl _ _) hfr' (.inl rfl)
  have fz1 := froz_blk h.blk 1
  have hp := h.rlt _ h.rp
  have HH := Lib.hid (And.intro h hnb)
  have b3 : decide ((fr.length : Int) + 1 = 0) = false := decide_eq_false (by omega)
  have b4 : (((fr.length : Int) + 1) == 0) = false := by simp; omega
  have hnN : n < N := by omega
  have HFR := Lib.hid hfr'
  have HSL := Lib.hid hSl
  clear hfr' hSl hP5 hO5 hfb hf1 hf2 hfo
  obtain ⟨L, hL⟩ : ∃ L, L = lgetA k (mS m) := ⟨_, rfl⟩
  rw [← hL] at hsm hk ⊢
  rcases hno with e | ⟨l', j, e, hn⟩
  case' inl =>
    rw [mget_mmap] at e
    have em : mget k m = none := by
      cases em : mget k m with
      | none => rfl
      | some p => rw [em] at e; cases e
    have hL0 : L = [] := by rw [hL]; unfold lgetA; rw [mget_mmap, em]; rfl
    have hv0 : v0 = .slice none 0 0 := by
      rcases hk with hk | ⟨_, hv, _⟩
      · rw [em] at hk; cases hk
      · exact hv
    obtain ⟨va, c, vc, hvc, hc⟩ : ∃ va c vc, v0 = .slice va c vc ∧ c = 0 := ⟨none, 0, 0, hv0, rfl⟩
    have HE := Lib.hid (And.intro (show ChainAt m k (.slice va c vc) L from .inr ⟨em, by rw [← hvc]; exact hv0, hL0⟩) (And.intro hL.symm (show c = L.length by rw [hL0]; exact hc)))
    subst hvc
    have b1 : decide (0 < (c : Int)) = false := decide_eq_false (by omega)
    have b1' : decide (0 < c) = false := decide_eq_false (by omega)
    clear hl h hI hfr e em hL hL0 hk hv0 hc
    go_enter Try.func119, Try.ntmps119
    go_wp2
    go_quiet (fail)
    have hSl := HSL.out
    clear hl0 b1 b1'
  case' inr =>
    obtain ⟨vb, vo, vc, n3, rfl, hnb3, hbn3, hm, g0, hn3⟩ := h.tail hI e
    have hL2 : L = l' ++ [(n3 : Int)] := by rw [hL]; unfold lgetA; rw [e]; rfl
    have hv0 := hk.resolve_right (fun e => by rw [hm] at e; cases e.1)
    rw [hm] at hv0
    simp only [Option.some.injEq, Prod.mk.injEq] at hv0
    obtain ⟨rfl, _⟩ := hv0
    have g9 : w.cell? ⟨bb, n3 * 10 + 9, none⟩ = some (.int .i64 ((bufAt bf (n3 : Int)).n : Int)) := h.buf hbn3 rfl
    rw [hn] at g9
    have hle : l'.length + 1 ≤ N := by rw [hL2] at hsm; simpa using hsm
    have HE := Lib.hid (And.intro (show ChainAt m k (.slice (some ⟨vb, vo, none⟩) (l'.length + 1) vc) L from .inl (by rw [hL2]; exact hm)) (And.intro hL.symm (show l'.length + 1 = L.length by rw [hL2]; simp)))
    rw [hN] at hnb3
    clear hl h hI hfr e hbn3 hm hn hn3 hL hL2 hk hsm
    go_enter Try.func119, Try.ntmps119
    go_wp2
    go_quiet (fail)
    have hSl := HSL.out
    clear hl0 g0 g9
    generalize (some ⟨vb, vo, none⟩ : Option Addr) = va at HE ⊢
    generalize l'.length + 1 = c at HE ⊢
  all_goals (
    go_upto_region 9 with (fail)
    obtain ⟨hP5, hO5⟩ := (HH.out.1.heap (w' := w.drewN nq) rfl).setFree (fr' := fr) (Only.refl _ _) (show SL (w.drewN nq).heap 3 1 (.slice (some ⟨fb, fo', none⟩) fr.length (fc - 1)) fr.length (fr.map Sp.zI) from HFR.out) (.inl rfl)
    have hO5w := (only_of_below (belowN (Below.refl w.heap.size w) nq) R).trans hO5
    generalize ((w.drewN nq).setCell ⟨pb, 1, none⟩ (.slice (some ⟨fb, fo', none⟩) fr.length (fc - 1))) = w5 at hP5 hO5w ⊢
    have hR5 : ∀ b, (R b ∨ (Value.slice (some ⟨fb, fo', none⟩) fr.length (fc - 1)).ownBlock = some b) → R b := fun b e => by
      rcases e with e | e
      · exact e
      · simp [Value.ownBlock] at e; exact HH.out.1.fo b (by simp [Value.ownBlock, e])
    replace hP5 := hP5.mono hR5 (fun b hb => Nat.lt_of_lt_of_le (HH.out.1.rlt b hb) hO5w.size)
    obtain ⟨hsc, hcR, hcp, hcm, hcb, hcf, hcd⟩ := hP5.chain HE.out.1
    rw [← HE.out.2.2] at hsc
    have q2 : w5.drew.cell? ⟨pb, 2, none⟩ = some (.map (some mb)) := hP5.c2
    have hscD := hsc.drew
    have hPd := hP5.heap (w' := w5.drew) rfl
    have hcN : c ≤ 16 := by rw [HE.out.2.2, ← HE.out.2.1]; exact HLE.out
    clear hO5 hSl c0 c1 c2 f0 fz1 b3 b4
    go_region_held3 (fun w' => w'.cell? ⟨pb, 2, none⟩ = some (.map (some mb))) (first | exact q2 | exact cell_alloc q2 _ | exact q8 | exact q9)
      (first
      | (refine step_appd (v := .slice va c vc) (n := c) (m := 1) (c := 1) (news := [.int .i64 (n : Int)]) rfl _ _ _ rfl Try.underlying31 hio hzo ho1 ho2 ho3 rfl (by first | exact hscD | exact hscD.alloc _) (by omega) rfl rfl (cells_new _ _ _ rfl) (by simp [Value.oneCell']) (by unfold maxLen; omega) (by omega) rfl ?_
         intro b8 o8 c8 w8 hs8 ho8 hv8
         have hO8 : Only (fun g => (Value.slice va c vc).ownBlock = some g) w5.drew w8 := (only_of_below (below_alloc (Below.refl _ w5.drew) _) _).trans ho8
         have hs8' : SL w8.heap 3 1 (.slice (some ⟨b8, o8, none⟩) (c + 1) c8) (L ++ [(n : Int)]).length ((L ++ [(n : Int)]).map Sp.zI) := by
           rw [List.length_append, ← HE.out.2.2, List.map_append]; exact hs8
         obtain ⟨w9, hrun9, hI9, hO9⟩ := (hPd.mp.only hO8 hcm).update (P := Try.prog) Try.underlying188 Try.underlying3 (k := k) (WalkArith.wf_i64 (by omega)) ((.slice (some ⟨b8, o8, none⟩) (c + 1) c8 : Value), L ++ [(n : Int)])
         have q8 : w8.cell? ⟨pb, 2, none⟩ = some (.map (some mb)) := by rw [World.cell?_of_block (w := w5.drew) (hO8.block pb (World.block_lt_of_cell? _ _ q2) hcp)]; exact q2
         have q9 : w9.cell? ⟨pb, 2, none⟩ = some (.map (some mb)) := by rw [World.cell?_of_block (w := w8) (hO9.block pb (World.block_lt_of_cell? _ _ q8) (fun e => hP5.pm e.symm))]; exact q8)
      | fail)
    obtain ⟨hP9, hO9w⟩ := hPd.setRow (k := k) hcR hcp hcm hcb hcf hcd hO8 hs8' (by
      rcases hv8 with e | e
      · exact .inl (by rw [e]; rfl)
      · exact .inr ⟨b8, rfl, by rw [e]; simp⟩) hI9 hO9
    have hO9r : Only R w w9 := hO5w.drew.trans' hO9w (fun i hi e => e)
    have hv9 : ∀ g, (Value.slice (some ⟨b8, o8, none⟩) (c + 1) c8).ownBlock = some g → R g ∨ w.heap.size ≤ g := fun g hg => by
      simp [Value.ownBlock] at hg
      subst hg
      rcases hv8 with e | e
      · exact .inl (hcR _ e)
      · exact .inr (by rw [e]; have := hO5w.size; simp; omega)
    have hks := hP5.mp.ks
    have hth := hP9.there HH.out.2
    have c0 := hP9.c0
    have hbn : bf[n]? = some (bf[n]'HH.out.2) := List.getElem?_eq_getElem HH.out.2
    have hnb := HH.out.2
    have H9 := Lib.hid (And.intro hP9 (And.intro hO9r (And.intro hv9 (And.intro hks hbn))))
    rw [hN] at c0
    clear hP9 hO9r hv9 hks hbn hPd hscD hsc q2 q8 q9 hcR hcp hcm hcb hcf hcd hO8 hs8' hs8 ho8 hv8 hI9 hO9 hrun9 hO9w hP5 hO5w hR5 hnb
    go_wp2_with (with_reducible refine stop_store 195 _ _ rfl ?_)
    refine Sp.Halt.go ?_
    refine wpList_store_mid rfl 195 _ _ rfl bb (n * 10) #[.int .i64 0, .int .i64 0, .string ⟨#[]⟩, .int .i64 0, .int .i64 0, .string ⟨#[]⟩, .int .i64 0, .int .i64 0, .string ⟨#[]⟩, .int .i64 0] (by simp only [go_sem]; simp) (by simp only [go_sem]; simp) hth (by kernel_rfl) (by simp [Value.oneCell']) ?_
    obtain ⟨hP9, hO9r, hv9, hks, hbn⟩ := H9.out
    obtain ⟨hP10, hO10⟩ := hP9.setBuf (q := n) (y' := zBf) (p := []) (s := []) (vs := eBf zBf) (ws := eBf (bf[n]'HH.out.2)) hbn (by simp) (by simp) rfl
    change wpList _ _ _ _ _ (w9.setCells bb (n * 10 + ([] : List Value).length) (eBf zBf))
    generalize w9.setCells bb (n * 10 + ([] : List Value).length) (eBf zBf) = w10 at hP10 hO10 ⊢
    have hO10r := hO9r.trans' hO10 (fun i hi e => by
      rcases e with e | e
      · exact e
      · rcases hv9 i e with e2 | e2
        · exact e2
        · omega)
    have c0 := hP10.c0
    rw [List.length_set, hN] at c0
    have HZ := Lib.hid (And.intro hP10 (And.intro hO10r (And.intro hv9 hks)))
    clear hP9 hO9r hv9 hks hbn hP10 hO10 hO10r H9 hth
    go_wp2
    go_ret
    obtain ⟨hP10, hO10r, hv9, hks⟩ := HZ.out
    refine ⟨by simp, _, _, _, by rw [Int.toNat_natCast]; exact hP10, mmap_mput _ _ _ hks, fun b hb => ?_, hO10r⟩
    rcases hb with hb | hb
    · exact .inl hb
    · exact hv9 b hb)
end
end Go.Proofs.Ytniggacgkhkgiaa.Pool
