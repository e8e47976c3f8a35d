/- The pool as its spans trace by trace; the keeper in memory, what it tells, Pin, Unpin. Conditions: they lie in memory as PM and Krep say. -/
import Derived.Test.YtniggacgkhkgiaaPool6
import Derived.Test.YtniggacgkhkgiaaHash1
import Derived.Test.YtniggacgkhkgiaaCloneI
namespace Go.Sp
open Go.RowKit
/-- buffers that are used -/
def usedM (M : List (Int × List Spn)) : Nat := (M.map fun p => (p.2.length + 2) / 3).sum
theorem Pinv.used {N : Nat} {bf : List Bf} {fr : List Int} {ch : List (Int × List Int)} (h : Pinv N bf fr ch) : fr.length + usedM (mmap (spOf bf) ch) = N := by
  have h1 : usedM (mmap (spOf bf) ch) = (ch.map fun p => p.2.length).sum := by
    unfold usedM mmap
    rw [List.map_map]
    congr 1
    refine List.map_congr_left fun p hp => ?_
    have h2 := h.chlen p.1
    unfold lgetA at h2
    rw [mget_of_mem h.ks hp] at h2
    exact h2.symm
  have h2 : (chAll ch).length = (ch.map fun p => p.2.length).sum := by unfold chAll; rw [List.length_flatMap]
  have h3 := h.cnt
  rw [List.length_append] at h3
  omega
theorem Pinv.ne {N : Nat} {bf : List Bf} {fr : List Int} {ch : List (Int × List Int)} (h : Pinv N bf fr ch) : ∀ p ∈ mmap (spOf bf) ch, p.2 ≠ [] := fun p hp e => by
  unfold mmap at hp
  obtain ⟨q, hq, rfl⟩ := List.mem_map.1 hp
  obtain ⟨l', i, e1, h1, h2⟩ := h.ok q.1 q.2 (mget_of_mem h.ks hq)
  have h3 := h.len h1 (i := i)
  simp only at e
  rw [e1] at e
  rw [e] at h3
  simp at h3
  omega
theorem i64_little {x : Int} (h0 : 0 ≤ x) (h1 : x ≤ 1000000000) : IntKind.i64.wrap x = x := by
  simp only [IntKind.wrap, IntKind.signed, IntKind.bits]
  simp; omega
def eTrue (_ : Unit) : Value := .bool true
/-- the keeper -/
structure Kp where
  N : Nat
  seed : Int
  M : List (Int × List Spn)
  pins : List (Int × Unit)
  lost : List (Int × Unit)
  gone : List Int
def hasK (m : List (Int × Unit)) (k : Int) : Bool := (mget k m).isSome
end Go.Sp
namespace Go.Proofs.Ytniggacgkhkgiaa.Pool
open Go.RowKit Go.Sp Msg
/-- the pool, as its spans trace by trace, and how many buffers are free -/
def PM (w : World) (R : Nat → Prop) (pb N : Nat) (M : List (Int × List Spn)) (F : Nat) : Prop := ∃ bb mb fv bf fr m, Prep w R pb bb mb fv bf fr m ∧ Pinv N bf fr (mS m) ∧ M = mmap (spOf bf) (mS m) ∧ F = fr.length
section
variable {w w' : World} {R : Nat → Prop} {pb N F : Nat} {M : List (Int × List Spn)} {k : Int} {s : ByteArray}
theorem PM.below (h : PM w R pb N M F) (o : Below w.heap.size w w') : PM w' R pb N M F := by
  obtain ⟨bb, mb, fv, bf, fr, m, h1, h2⟩ := h
  exact ⟨bb, mb, fv, bf, fr, m, h1.below o, h2⟩
theorem PM.only {G : Nat → Prop} (h : PM w R pb N M F) (o : Only G w w') (hG : ∀ b, R b → ¬ G b) : PM w' R pb N M F := by
  obtain ⟨bb, mb, fv, bf, fr, m, h1, h2⟩ := h
  exact ⟨bb, mb, fv, bf, fr, m, h1.only o hG, h2⟩
theorem PM.lt (h : PM w R pb N M F) : ∀ b, R b → b < w.heap.size := by
  obtain ⟨bb, mb, fv, bf, fr, m, h1, h2⟩ := h
  exact h1.rlt
theorem PM.rp (h : PM w R pb N M F) : R pb := by
  obtain ⟨bb, mb, fv, bf, fr, m, h1, h2⟩ := h
  exact h1.rp
theorem PM.ks (h : PM w R pb N M F) : KS M := by
  obtain ⟨bb, mb, fv, bf, fr, m, h1, h2, rfl, _⟩ := h
  exact KS.mmap _ h2.ks
theorem PM.used (h : PM w R pb N M F) : F + usedM M = N ∧ 1 ≤ N ∧ N ≤ 16 := by
  obtain ⟨bb, mb, fv, bf, fr, m, h1, h2, rfl, rfl⟩ := h
  exact ⟨h2.used, h2.n16⟩
theorem PM.ne (h : PM w R pb N M F) : ∀ p ∈ M, p.2 ≠ [] := by
  obtain ⟨bb, mb, fv, bf, fr, m, h1, h2, rfl, rfl⟩ := h
  exact h2.ne
theorem PM.keys (h : PM w R pb N M F) : M.length ≤ 16 := by
  obtain ⟨bb, mb, fv, bf, fr, m, h1, h2, rfl, rfl⟩ := h
  have := h2.chkeys
  simpa [mmap] using this
theorem PM.sp48 (h : PM w R pb N M F) (k : Int) : (lgetA k M).length ≤ 48 := by
  obtain ⟨bb, mb, fv, bf, fr, m, h1, h2, rfl, rfl⟩ := h
  rw [lgetA_mmap]; exact h2.sp48 k
theorem PM.write_no (h : PM w R pb N M F) (hr : rightSp (k, ((lgetA k M).length : Int) + 1, s) = false) : Calls Try.prog 94 #[.pointer (some ⟨pb, 0, none⟩), .int .i64 k, .string s] w fun e w' => e = .returned (.tuple #[.agg #[.int .i64 0, .int .i64 0, .string ⟨#[]⟩], .int .i64 1]) ∧ Below w.heap.size w w' := by
  obtain ⟨bb, mb, fv, bf, fr, m, h1, h2, rfl, rfl⟩ := h
  rw [lgetA_mmap] at hr
  exact Pool.write_no h1 h2 hr
theorem PM.write_full (h : PM w R pb N M F) (hr : rightSp (k, ((lgetA k M).length : Int) + 1, s) = true) (h3 : (lgetA k M).length % 3 = 0) (hF : F = 0) : Calls Try.prog 94 #[.pointer (some ⟨pb, 0, none⟩), .int .i64 k, .string s] w fun e w' => e = .returned (.tuple #[.agg #[.int .i64 0, .int .i64 0, .string ⟨#[]⟩], .int .i64 6]) ∧ Below w.heap.size w w' := by
  obtain ⟨bb, mb, fv, bf, fr, m, h1, h2, rfl, rfl⟩ := h
  cases fr with
  | nil => rw [lgetA_mmap] at hr; exact Pool.write_full h1 h2 hr h3
  | cons i r => simp at hF
theorem PM.write_ok (h : PM w R pb N M F) (hr : rightSp (k, ((lgetA k M).length : Int) + 1, s) = true) (hroom : (lgetA k M).length % 3 ≠ 0 ∨ 0 < F) : Calls Try.prog 94 #[.pointer (some ⟨pb, 0, none⟩), .int .i64 k, .string s] w fun e w' => e = .returned (.tuple #[.agg #[.int .i64 k, .int .i64 (((lgetA k M).length : Int) + 1), .string s], .int .i64 0]) ∧
    ∃ R', PM w' R' pb N (mput k (lgetA k M ++ [(k, ((lgetA k M).length : Int) + 1, s)]) M) (bif decide ((lgetA k M).length % 3 = 0) then F - 1 else F) ∧ (∀ b, R' b → R b ∨ w.heap.size ≤ b) ∧ Only R w w' := by
  obtain ⟨bb, mb, fv, bf, fr, m, h1, h2, rfl, rfl⟩ := h
  have hL := lgetA_mmap (bf := bf) (ch := mS m) k
  have hr' := hr
  rw [hL] at hr'
  refine (Pool.write_ok h1 h2 hr' hroom).mono ?_
  rintro e w' ⟨rfl, fv', R', bf', fr', m', g1, g2, g3, g4, g5, g6⟩
  refine ⟨by rw [hL], R', ⟨bb, mb, fv', bf', fr', m', g1, g2, ?_, g4.symm⟩, g5, g6⟩
  rw [g3, hL]
theorem PM.drop (h : PM w R pb N M F) (k : Int) : Calls Try.prog 122 #[.pointer (some ⟨pb, 0, none⟩), .int .i64 k] w fun e w' => (∃ n : Nat, e = .returned (.int .i64 n)) ∧ ∃ R' F', PM w' R' pb N (mdel k M) F' ∧ (∀ b, R' b → R b ∨ w.heap.size ≤ b) ∧ Only R w w' := by
  obtain ⟨bb, mb, fv, bf, fr, m, h1, h2, rfl, rfl⟩ := h
  refine (drop_any h1 h2 k).mono ?_
  rintro e w' ⟨rfl, fv', R', g1, g2, g3⟩
  have hm : mS (mdel k m) = mdel k (mS m) := mmap_mdel _ k h1.mp.ks
  exact ⟨⟨_, rfl⟩, R', _, ⟨bb, mb, fv', bf, _, _, g1, by rw [hm]; exact h2.drop k, by rw [hm, mmap_mdel _ k h2.ks], rfl⟩, g2, g3⟩
theorem PM.spans (h : PM w R pb N M F) (k : Int) : Calls Try.prog 104 #[.pointer (some ⟨pb, 0, none⟩), .int .i64 k] w fun e w' => ∃ v, e = .returned v ∧ SL w'.heap 89 3 v (lgetA k M).length ((lgetA k M).flatMap eSpn) ∧ (∀ g, v.ownBlock = some g → w.heap.size ≤ g) ∧ Below w.heap.size w w' := by
  obtain ⟨bb, mb, fv, bf, fr, m, h1, h2, rfl, rfl⟩ := h
  rw [lgetA_mmap]
  exact spans_any h1 h2 k
theorem PM.traces (h : PM w R pb N M F) : Calls Try.prog 98 #[.pointer (some ⟨pb, 0, none⟩)] w fun e w' => ∃ v, e = .returned v ∧ SL w'.heap 3 1 v (M.map Prod.fst).length ((M.map Prod.fst).map Sp.zI) ∧ (∀ g, v.ownBlock = some g → w.heap.size ≤ g) ∧ Below w.heap.size w w' := by
  have hk := h.keys
  obtain ⟨bb, mb, fv, bf, fr, m, h1, h2, rfl, rfl⟩ := h
  have hml : m.length ≤ 16 := by simpa [mmap] using hk
  refine (traces_any h1 (by omega)).mono ?_
  rintro e w' ⟨v, rfl, hs, hn, hb⟩
  refine ⟨v, rfl, ?_, hn, hb⟩
  have e1 : (mmap (spOf bf) (mS m)).map Prod.fst = m.map Prod.fst := by simp [mmap, List.map_map, Function.comp_def]
  rw [e1, List.length_map, List.map_map]
  exact hs
theorem PM.size (h : PM w R pb N M F) : Calls Try.prog 96 #[.pointer (some ⟨pb, 0, none⟩)] w fun e w' => e = .returned (.int .i64 N) ∧ w = w' := by
  obtain ⟨bb, mb, fv, bf, fr, m, h1, h2, rfl, rfl⟩ := h
  have := size_any h1
  rw [h2.hN] at this
  exact this
theorem PM.free (h : PM w R pb N M F) : Calls Try.prog 97 #[.pointer (some ⟨pb, 0, none⟩)] w fun e w' => e = .returned (.int .i64 F) ∧ w = w' := by
  obtain ⟨bb, mb, fv, bf, fr, m, h1, h2, rfl, rfl⟩ := h
  exact free_any h1
end
end Go.Proofs.Ytniggacgkhkgiaa.Pool
namespace Go.Proofs.Ytniggacgkhkgiaa.Ev
open Go.RowKit Go.Sp Msg Pool

/-- the keeper in memory -/
structure Krep (w : World) (R Rp : Nat → Prop) (kb pb ib lb : Nat) (gv : Value) (K : Kp) : Prop where
  blk : w.heap[kb]? = some (.cells #[.pointer (some ⟨pb, 0, none⟩), .int .u64 K.seed, .map (some ib), .map (some lb), gv] 169 (0, 0))
  pm : PM w Rp pb K.N K.M (K.N - usedM K.M)
  pins : IMap w.heap ib eTrue K.pins
  lost : IMap w.heap lb eTrue K.lost
  gone : SL w.heap 3 1 gv K.gone.length (K.gone.map Sp.zI)
  rk : R kb ∧ ¬ Rp kb
  ri : R ib ∧ ¬ Rp ib
  rl : R lb ∧ ¬ Rp lb
  rg : ∀ g, gv.ownBlock = some g → R g ∧ ¬ Rp g
  rp : ∀ b, Rp b → R b
  il : ib ≠ lb
  rlt : ∀ b, R b → b < w.heap.size
section
variable {w w' w1 w2 : World} {R Rp Rp' : Nat → Prop} {kb pb ib lb : Nat} {gv gv' : Value} {K : Kp} {k : Int}
theorem Krep.only {G : Nat → Prop} (h : Krep w R Rp kb pb ib lb gv K) (o : Only G w w') (hG : ∀ b, R b → ¬ G b) : Krep w' R Rp kb pb ib lb gv K :=
  ⟨o.heap h.blk (hG _ h.rk.1), h.pm.only o (fun b hb => hG b (h.rp b hb)), h.pins.only o (hG _ h.ri.1), h.lost.only o (hG _ h.rl.1), h.gone.only o (fun g hg => hG g (h.rg g hg).1), h.rk, h.ri, h.rl, h.rg, h.rp, h.il, fun b hb => Nat.lt_of_lt_of_le (h.rlt b hb) o.size⟩
theorem Krep.below (h : Krep w R Rp kb pb ib lb gv K) (o : Below w.heap.size w w') : Krep w' R Rp kb pb ib lb gv K := h.only (only_of_below o (fun _ => False)) (fun _ _ => id)
theorem Krep.cell (h : Krep w R Rp kb pb ib lb gv K) {j : Nat} {u : Value} (hu : (#[.pointer (some ⟨pb, 0, none⟩), .int .u64 K.seed, .map (some ib), .map (some lb), gv] : Array Value)[j]? = some u) : w.cell? ⟨kb, j, none⟩ = some u := cell_blk h.blk hu
theorem zB (w : World) : (zeroValue 4).run Try.prog w = .ok (.bool false) w := by kernel_rfl
theorem hasB (m : List (Int × Unit)) (k : Int) : ((mget k m).map eTrue).getD (.bool false) = .bool (hasK m k) := by
  unfold hasK; cases mget k m <;> rfl
theorem Krep.lookI (h : Krep w R Rp kb pb ib lb gv K) (k : Int) : (Instr.lookup 132 (.map (some ib)) (.int .i64 k) false).run Try.prog w = .ok (.bool (hasK K.pins k)) w := by
  have := h.pins.lookup (P := Try.prog) false Try.underlying132 Try.underlying3 (zB _) k
  simp only [Bool.false_eq_true, if_false] at this
  rw [← hasB]; exact this
theorem Krep.lookL (h : Krep w R Rp kb pb ib lb gv K) (k : Int) : (Instr.lookup 132 (.map (some lb)) (.int .i64 k) false).run Try.prog w = .ok (.bool (hasK K.lost k)) w := by
  have := h.lost.lookup (P := Try.prog) false Try.underlying132 Try.underlying3 (zB _) k
  simp only [Bool.false_eq_true, if_false] at this
  rw [← hasB]; exact this
theorem Krep.gi (h : Krep w R Rp kb pb ib lb gv K) : gv.ownBlock ≠ some ib := sl_map h.pins h.gone
theorem Krep.gl (h : Krep w R Rp kb pb ib lb gv K) : gv.ownBlock ≠ some lb := sl_map h.lost h.gone
theorem Krep.gk (h : Krep w R Rp kb pb ib lb gv K) : gv.ownBlock ≠ some kb := sl_not h.blk h.gone (by decide)
theorem Krep.ki (h : Krep w R Rp kb pb ib lb gv K) : ib ≠ kb := map_ne_cells h.pins h.blk
theorem Krep.kl (h : Krep w R Rp kb pb ib lb gv K) : lb ≠ kb := map_ne_cells h.lost h.blk
/-- another map of the pinned -/
theorem Krep.setPins (h : Krep w R Rp kb pb ib lb gv K) {m : List (Int × Unit)} (hI : IMap w1.heap ib eTrue m) (hO : Only (· = ib) w w1) : Krep w1 R Rp kb pb ib lb gv { K with pins := m } ∧ Only R w w1 :=
  ⟨⟨hO.heap h.blk (fun e => h.ki e.symm), h.pm.only hO (fun b hb e => h.ri.2 (by rw [← e]; exact hb)), hI, h.lost.only hO (fun e => h.il e.symm), h.gone.only hO (fun g hg e => h.gi (by rw [hg, e])), h.rk, h.ri, h.rl, h.rg, h.rp, h.il, fun b hb => Nat.lt_of_lt_of_le (h.rlt b hb) hO.size⟩, hO.mono fun b _ e => by rw [e]; exact h.ri.1⟩
/-- another map of the lost -/
theorem Krep.setLost (h : Krep w R Rp kb pb ib lb gv K) {m : List (Int × Unit)} (hI : IMap w1.heap lb eTrue m) (hO : Only (· = lb) w w1) : Krep w1 R Rp kb pb ib lb gv { K with lost := m } ∧ Only R w w1 :=
  ⟨⟨hO.heap h.blk (fun e => h.kl e.symm), h.pm.only hO (fun b hb e => h.rl.2 (by rw [← e]; exact hb)), h.pins.only hO (fun e => h.il e), hI, h.gone.only hO (fun g hg e => h.gl (by rw [hg, e])), h.rk, h.ri, h.rl, h.rg, h.rp, h.il, fun b hb => Nat.lt_of_lt_of_le (h.rlt b hb) hO.size⟩, hO.mono fun b _ e => by rw [e]; exact h.rl.1⟩
/-- another pool -/
theorem Krep.setPool (h : Krep w R Rp kb pb ib lb gv K) {M : List (Int × List Spn)} {F : Nat} (hP : PM w1 Rp' pb K.N M F) (hR : ∀ b, Rp' b → Rp b ∨ w.heap.size ≤ b) (hO : Only Rp w w1) :
    Krep w1 (fun b => R b ∨ Rp' b) Rp' kb pb ib lb gv { K with M := M } ∧ Only R w w1 := by
  have hF : F = K.N - usedM M := by have := hP.used.1; omega
  rw [hF] at hP
  have hn : ∀ b, R b → ¬ Rp b → ¬ Rp' b := fun b h1 h2 e => by
    rcases hR b e with e | e
    · exact h2 e
    · have := h.rlt b h1; omega
  exact ⟨⟨hO.heap h.blk h.rk.2, hP, h.pins.only hO h.ri.2, h.lost.only hO h.rl.2, h.gone.only hO (fun g hg => (h.rg g hg).2), ⟨.inl h.rk.1, hn _ h.rk.1 h.rk.2⟩, ⟨.inl h.ri.1, hn _ h.ri.1 h.ri.2⟩, ⟨.inl h.rl.1, hn _ h.rl.1 h.rl.2⟩, fun g hg => ⟨.inl (h.rg g hg).1, hn _ (h.rg g hg).1 (h.rg g hg).2⟩, fun b hb => .inr hb, h.il, fun b hb => by
    rcases hb with hb | hb
    · exact Nat.lt_of_lt_of_le (h.rlt b hb) hO.size
    · exact hP.lt b hb⟩, hO.mono fun b _ e => h.rp b e⟩
/-- another list of those that went -/
theorem Krep.setGone (h : Krep w R Rp kb pb ib lb gv K) {gs : List Int} (hO : Only (fun g => gv.ownBlock = some g) w w1) (hs : SL w1.heap 3 1 gv' gs.length (gs.map Sp.zI)) (hn : gv'.ownBlock = gv.ownBlock ∨ ∃ g, gv'.ownBlock = some g ∧ w.heap.size ≤ g) :
    Krep (w1.setCell ⟨kb, 4, none⟩ gv') (fun b => R b ∨ gv'.ownBlock = some b) Rp kb pb ib lb gv' { K with gone := gs } ∧ Only R w (w1.setCell ⟨kb, 4, none⟩ gv') := by
  have hp1 : w1.heap[kb]? = _ := hO.heap h.blk h.gk
  have hset : Only (· = kb) w1 (w1.setCell ⟨kb, 4, none⟩ gv') := (Only.refl (· = kb) w1).setCell (fun _ => rfl) _
  have hO2 : Only (fun b => gv.ownBlock = some b ∨ b = kb) w (w1.setCell ⟨kb, 4, none⟩ gv') := (hO.mono fun b _ e => .inl e).trans (hset.mono fun b _ e => .inr e)
  have hnp : gv'.ownBlock ≠ some kb := sl_not hp1 hs (by decide)
  have hno : ∀ g, gv'.ownBlock = some g → gv.ownBlock = some g ∨ w.heap.size ≤ g := fun g hg => by
    rcases hn with e | ⟨g', e, hle⟩
    · exact .inl (by rw [← e]; exact hg)
    · rw [e] at hg; cases hg; exact .inr hle
  refine ⟨⟨(heap_setCell_cells hp1 gv').trans rfl, h.pm.only hO2 (fun b hb e => ?_), h.pins.only hO2 (fun e => ?_), h.lost.only hO2 (fun e => ?_), hs.only hset (fun g hg e => hnp (by rw [hg, e])), ⟨.inl h.rk.1, h.rk.2⟩, ⟨.inl h.ri.1, h.ri.2⟩, ⟨.inl h.rl.1, h.rl.2⟩, fun g hg => ⟨.inr hg, fun e => ?_⟩, fun b hb => .inl (h.rp b hb), h.il, fun b hb => ?_⟩, hO2.mono fun b _ e => ?_⟩
  · rcases e with e | e
    · exact (h.rg b e).2 hb
    · exact h.rk.2 (by rw [← e]; exact hb)
  · rcases e with e | e
    · exact h.gi e
    · exact h.ki e
  · rcases e with e | e
    · exact h.gl e
    · exact h.kl e
  · rcases hno g hg with e2 | e2
    · exact (h.rg g e2).2 e
    · have := h.pm.lt g e; omega
  · rcases hb with hb | hb
    · exact Nat.lt_of_lt_of_le (h.rlt b hb) hO2.size
    · exact Nat.lt_of_lt_of_le (hs.lt b hb) hset.size
  · rcases e with e | e
    · exact (h.rg b e).1
    · rw [e]; exact h.rk.1
end
/-- the keeper, without its inner blocks -/
def KpR (w : World) (R : Nat → Prop) (kb : Nat) (K : Kp) : Prop := ∃ Rp pb ib lb gv, Krep w R Rp kb pb ib lb gv K
section
variable {w w' : World} {R : Nat → Prop} {kb : Nat} {K : Kp} {k : Int}
theorem KpR.below (h : KpR w R kb K) (o : Below w.heap.size w w') : KpR w' R kb K := by
  obtain ⟨Rp, pb, ib, lb, gv, h⟩ := h
  exact ⟨Rp, pb, ib, lb, gv, h.below o⟩
theorem KpR.only {G : Nat → Prop} (h : KpR w R kb K) (o : Only G w w') (hG : ∀ b, R b → ¬ G b) : KpR w' R kb K := by
  obtain ⟨Rp, pb, ib, lb, gv, h⟩ := h
  exact ⟨Rp, pb, ib, lb, gv, h.only o hG⟩
theorem KpR.lt (h : KpR w R kb K) : ∀ b, R b → b < w.heap.size := by
  obtain ⟨Rp, pb, ib, lb, gv, h⟩ := h
  exact h.rlt
def KOut (w : World) (R : Nat → Prop) (kb : Nat) (K : Kp) (w' : World) : Prop := ∃ R', KpR w' R' kb K ∧ (∀ b, R' b → R b ∨ w.heap.size ≤ b) ∧ Only R w w'
set_option maxRecDepth 100000 in
theorem pinned_any (h : KpR w R kb K) (k : Int) : Calls Try.prog 52 #[.pointer (some ⟨kb, 0, none⟩), .int .i64 k] w fun e w' => e = .returned (.bool (hasK K.pins k)) ∧ w = w' := by
  obtain ⟨Rp, pb, ib, lb, gv, h⟩ := h
  have c2 := h.cell (j := 2) rfl
  have hl := h.lookI k
  clear h
  generalize hasK K.pins k = b at hl ⊢
  go_enter Try.func52, Try.ntmps52
  go_wp2
  go_ret
  exact ⟨rfl, by first | rfl | trivial⟩
set_option maxRecDepth 100000 in
theorem lost_any (h : KpR w R kb K) (k : Int) : Calls Try.prog 41 #[.pointer (some ⟨kb, 0, none⟩), .int .i64 k] w fun e w' => e = .returned (.bool (hasK K.lost k)) ∧ w = w' := by
  obtain ⟨Rp, pb, ib, lb, gv, h⟩ := h
  have c3 := h.cell (j := 3) rfl
  have hl := h.lookL k
  clear h
  generalize hasK K.lost k = b at hl ⊢
  go_enter Try.func41, Try.ntmps41
  go_wp2
  go_ret
  exact ⟨rfl, by first | rfl | trivial⟩
set_option maxRecDepth 100000 in
theorem spans_any (h : KpR w R kb K) (k : Int) : Calls Try.prog 55 #[.pointer (some ⟨kb, 0, none⟩), .int .i64 k] w fun e w' => ∃ v, e = .returned v ∧ SL w'.heap 89 3 v (lgetA k K.M).length ((lgetA k K.M).flatMap eSpn) ∧ (∀ g, v.ownBlock = some g → w.heap.size ≤ g) ∧ Below w.heap.size w w' := by
  obtain ⟨Rp, pb, ib, lb, gv, h⟩ := h
  have c0 := h.cell (j := 0) rfl
  have HC := h.pm.spans k
  clear h
  go_enter Try.func55, Try.ntmps55
  go_wp2_with fail
  refine HC.mono ?_
  rintro e w1 ⟨v, rfl, hs, hn, hb⟩
  go_wp2
  go_ret
  exact ⟨_, rfl, hs, hn, hb⟩
set_option maxRecDepth 100000 in
theorem traces_any (h : KpR w R kb K) : Calls Try.prog 44 #[.pointer (some ⟨kb, 0, none⟩)] w fun e w' => ∃ v, e = .returned v ∧ RS w' 1 eInt v (K.M.map Prod.fst) ∧ (∀ g, v.ownBlock = some g → w.heap.size ≤ g) ∧ Below w.heap.size w w' := by
  obtain ⟨Rp, pb, ib, lb, gv, h⟩ := h
  have c0 := h.cell (j := 0) rfl
  have HC := h.pm.traces
  clear h
  go_enter Try.func44, Try.ntmps44
  go_wp2_with fail
  refine HC.mono ?_
  rintro e w1 ⟨v, rfl, hs, hn, hb⟩
  go_wp2
  go_ret
  exact ⟨_, rfl, SL.ints hs, hn, hb⟩
set_option maxRecDepth 100000 in
theorem pin_any (h : KpR w R kb K) (hk : (Lit.int .i64 k).wf = true) : Calls Try.prog 40 #[.pointer (some ⟨kb, 0, none⟩), .int .i64 k] w fun e w' => e = .returned (.tuple #[]) ∧ KOut w R kb { K with pins := mput k () K.pins } w' := by
  obtain ⟨Rp, pb, ib, lb, gv, h⟩ := h
  have c2 := h.cell (j := 2) rfl
  obtain ⟨w1, hrun, hI, hO⟩ := h.pins.update (P := Try.prog) Try.underlying132 Try.underlying3 hk ()
  simp only [eTrue] at hrun
  obtain ⟨h1, h2⟩ := h.setPins hI hO
  have H := Lib.hid (And.intro h1 h2)
  clear h hI hO h1 h2
  go_enter Try.func40, Try.ntmps40
  go_wp2
  go_end0
  exact ⟨rfl, R, ⟨Rp, pb, ib, lb, gv, H.out.1⟩, fun b hb => .inl hb, H.out.2⟩
set_option maxRecDepth 100000 in
theorem unpin_any (h : KpR w R kb K) (k : Int) : Calls Try.prog 99 #[.pointer (some ⟨kb, 0, none⟩), .int .i64 k] w fun e w' => e = .returned (.tuple #[]) ∧ KOut w R kb { K with pins := mdel k K.pins } w' := by
  obtain ⟨Rp, pb, ib, lb, gv, h⟩ := h
  have c2 := h.cell (j := 2) rfl
  go_enter Try.func99, Try.ntmps99
  go_wp2_with (at_delete; refine wpList_dele (enc := eTrue) rfl _ _ _ _ rfl Try.underlying132 Try.underlying3 rfl rfl (by exact h.pins) ?_; rintro w1 hI hO)
  obtain ⟨h1, h2⟩ := h.setPins hI hO
  go_end0
  exact ⟨rfl, R, ⟨Rp, pb, ib, lb, gv, h1⟩, fun b hb => .inl hb, h2⟩
set_option maxRecDepth 100000 in
theorem evicted_any (h : KpR w R kb K) (hl : K.gone.length ≤ 1000) : Calls Try.prog 42 #[.pointer (some ⟨kb, 0, none⟩)] w fun e w' => ∃ v, e = .returned v ∧ RS w' 1 eInt v K.gone ∧ (∀ g, v.ownBlock = some g → w.heap.size ≤ g) ∧ Below w.heap.size w w' := by
  obtain ⟨Rp, pb, ib, lb, gv, h⟩ := h
  have c4 := h.cell (j := 4) rfl
  have hs := SL.ints h.gone
  clear h
  go_enter Try.func42, Try.ntmps42
  go_wp2_with fail
  refine (cloneR_any hs (by omega)).mono ?_
  rintro e w1 ⟨v, rfl, hr, hn, hb⟩
  go_wp2
  go_ret
  exact ⟨_, rfl, hr, fun g hg => (hn g hg).1, hb⟩
set_option maxRecDepth 100000 in
set_option maxHeartbeats 2000000 in
theorem used_any (h : KpR w R kb K) : Calls Try.prog 43 #[.pointer (some ⟨kb, 0, none⟩)] w fun e w' => e = .returned (.int .i64 (usedM K.M)) ∧ Below w.heap.size w w' := by
  obtain ⟨Rp, pb, ib, lb, gv, h⟩ := h
  have c0 := h.cell (j := 0) rfl
  have hu := h.pm.used
  have HS := (h.below (Below.refl w.heap.size w).drew).pm.size
  have HF := (h.below (Below.refl w.heap.size w).drew).pm.free
  clear h
  obtain ⟨M, hM⟩ : ∃ M, M = usedM K.M := ⟨_, rfl⟩
  rw [← hM] at hu HF ⊢
  have HF := HF
  obtain ⟨F, hF⟩ : ∃ F, F = K.N - M := ⟨_, rfl⟩
  rw [← hF] at hu HF
  clear hF
  generalize K.N = N at hu HS
  have q0 : w.drew.cell? ⟨kb, 0, none⟩ = some (.pointer (some ⟨pb, 0, none⟩)) := c0
  have HU := Lib.hid (show ((N : Int) - (F : Int)) = (M : Int) by omega)
  have HB := Lib.hid hu
  clear hu hM
  go_enter Try.func43, Try.ntmps43
  go_wp2
  go_region_held3 (fun w' => w'.cell? ⟨kb, 0, none⟩ = some (.pointer (some ⟨pb, 0, none⟩))) (exact q0)
    (first
    | (go_at_call 96
       refine HS.mono ?_
       rintro e w' ⟨rfl, rfl⟩)
    | (go_at_call 97
       refine HF.mono ?_
       rintro e w' ⟨rfl, rfl⟩))
  have hw : IntKind.i64.wrap ((N : Int) - (F : Int)) = (M : Int) := by rw [HU.out]; have := HB.out; exact i64_little (by omega) (by omega)
  rw [hw]
  go_wp2
  go_ret
  exact ⟨rfl, (Below.refl w.heap.size w).drew⟩
end
end Go.Proofs.Ytniggacgkhkgiaa.Ev
