/- The reference's object of crumb in memory, and what its Of answers. Conditions: the receiver lies in memory as Frep says. -/
import Derived.Test.YtcdjeblcmgghhaaCrumbRef
namespace Go.Proofs.Ytcdjeblcmgghhaa.Crumb
open Go.RowKit Go.Sp

/-- the object at block rb: n agents, the traces in tv, their lists' slices us in av; R: the blocks that are its own -/
structure Frep (w : World) (R : Nat → Prop) (rb : Nat) (n : Int) (M : List (Int × List Int)) (tv av : Value) (us : List Value) : Prop where
  blk : w.heap[rb]? = some (.cells #[.int .i64 n, tv, av] 106 (0, 0))
  st : SL w.heap 3 1 tv M.length (M.map fun p => .int .i64 p.1)
  sa : SL w.heap 28 1 av M.length us
  el : ∀ (i : Nat) (u : Value) (p : Int × List Int), us[i]? = some u → M[i]? = some p → SL w.heap 3 1 u p.2.length (p.2.map Sp.zI)
  rr : R rb
  rt : ∀ g, tv.ownBlock = some g → R g
  ra : ∀ g, av.ownBlock = some g → R g
  re : ∀ (i : Nat) (u : Value), us[i]? = some u → ∀ g, u.ownBlock = some g → R g
  rlt : ∀ b, R b → b < w.heap.size

section
variable {w w' : World} {R : Nat → Prop} {rb : Nat} {n : Int} {M : List (Int × List Int)} {tv av : Value} {us : List Value}

theorem Frep.c0 (h : Frep w R rb n M tv av us) : w.cell? ⟨rb, 0, none⟩ = some (.int .i64 n) := by simp [World.cell?, h.blk]
theorem Frep.c1 (h : Frep w R rb n M tv av us) : w.cell? ⟨rb, 1, none⟩ = some tv := by simp [World.cell?, h.blk]
theorem Frep.c2 (h : Frep w R rb n M tv av us) : w.cell? ⟨rb, 2, none⟩ = some av := by simp [World.cell?, h.blk]
theorem Frep.only {F : Nat → Prop} (h : Frep w R rb n M tv av us) (o : Only F w w') (hF : ∀ b, R b → ¬ F b) : Frep w' R rb n M tv av us :=
  ⟨o.heap h.blk (hF _ h.rr), h.st.only o (fun g hg => hF _ (h.rt g hg)), h.sa.only o (fun g hg => hF _ (h.ra g hg)), fun i u p hu hp => (h.el i u p hu hp).only o (fun g hg => hF _ (h.re i u hu g hg)), h.rr, h.rt, h.ra, h.re, fun b hb => Nat.lt_of_lt_of_le (h.rlt b hb) o.size⟩
theorem Frep.ul (h : Frep w R rb n M tv av us) : us.length = M.length := by have := h.sa.1; omega

theorem lget_at {M : List (Int × List Int)} {j : Nat} {k : Int} {l : List Int} (hj : M[j]? = some (k, l)) (hn : ∀ i, i < j → ∀ p, M[i]? = some p → p.1 ≠ k) : lget k M = l := by
  induction M generalizing j with
  | nil => simp at hj
  | cons p r ih =>
    cases j with
    | zero => simp at hj; subst hj; simp [lget, mget]
    | succ j =>
      have h0 := hn 0 (by omega) p rfl
      have := ih (j := j) (by simpa using hj) (fun i hi q hq => hn (i + 1) (by omega) q (by simpa using hq))
      rw [← this]
      simp [lget, mget, h0]
theorem lget_none {M : List (Int × List Int)} {k : Int} (hn : ∀ (i : Nat), ∀ p, M[i]? = some p → p.1 ≠ k) : lget k M = [] := by
  have : mget k M = none := mget_none.2 fun p hp => by
    obtain ⟨i, hi, e⟩ := List.mem_iff_getElem.1 hp
    exact hn i p (by rw [List.getElem?_eq_getElem hi, e])
  rw [lget, this]; rfl

set_option maxRecDepth 100000 in
set_option maxHeartbeats 1000000 in
theorem refOf_any (h : Frep w R rb n M tv av us) (k : Int) :
    Calls Try.prog 52 #[.pointer (some ⟨rb, 0, none⟩), .int .i64 k] w fun e w' => ∃ u, e = .returned u ∧ SL w.heap 3 1 u (lget k M).length ((lget k M).map Sp.zI) ∧ (∀ g, u.ownBlock = some g → R g) ∧ w = w' := by
  have c1 := h.c1
  have c2 := h.c2
  obtain ⟨ta, tc, rfl⟩ := h.st.form
  obtain ⟨aa, ac, rfl⟩ := h.sa.form
  have hml := h.st.le
  unfold maxLen at hml
  go_enter Try.func52, Try.ntmps52
  go_wp2
  go_loopw [5] (fun i wr => ∃ j : Nat, j ≤ M.length ∧ i = .int .i64 j ∧ wr = w ∧ ∀ q, q < j → ∀ p, M[q]? = some p → p.1 ≠ k) (fun i _ => M.length - (intOf i).toNat)
  case atStart => exact ⟨0, Nat.zero_le _, rfl, rfl, fun q hq => by omega⟩
  case round =>
    obtain ⟨j, hj, rfl, rfl, hJ⟩ := hrel
    by_cases hjn : j < M.length
    · obtain ⟨⟨t, l⟩, hp⟩ : ∃ p, M[j]? = some p := ⟨_, List.getElem?_eq_getElem hjn⟩
      obtain ⟨tb, toff, tcap, hv, _⟩ := h.st.form' (by omega)
      simp only [Value.slice.injEq, true_and] at hv
      obtain ⟨rfl, rfl⟩ := hv
      have hct : wr.cell? ⟨tb, toff + j, none⟩ = some (.int .i64 t) := h.st.cell (by rw [List.getElem?_map, hp]; rfl)
      obtain ⟨ab, aoff, acap, hv, _⟩ := h.sa.form' (by omega)
      simp only [Value.slice.injEq, true_and] at hv
      obtain ⟨rfl, rfl⟩ := hv
      obtain ⟨u, hu⟩ : ∃ u, us[j]? = some u := ⟨_, List.getElem?_eq_getElem (by have := h.ul; omega)⟩
      have hcu : wr.cell? ⟨ab, aoff + j, none⟩ = some u := h.sa.cell hu
      have hel := h.el j u _ hu hp
      have hre := h.re j u hu
      have HJ := Lib.hid hJ
      have HP := Lib.hid hp
      clear hJ hp hu h
      by_cases e : t = k
      · subst e
        have hl := lget_at HP.out HJ.out
        have HL := Lib.hid hl
        clear hl
        go_wp2
        go_ret
        refine ⟨_, rfl, ?_, hre, by first | rfl | trivial⟩
        rw [HL.out]; exact hel
      · have htk : (t == k) = false := by simp [e]
        go_wp2
        refine ⟨⟨j + 1, by omega, by go_num, by first | rfl | trivial, fun q hq p hp => ?_⟩, by simp [intOf]; omega⟩
        by_cases eq : q = j
        · subst eq
          rw [HP.out] at hp; cases hp; exact e
        · exact HJ.out q (by omega) p hp
    · have hje : j = M.length := by omega
      subst hje
      have hl := lget_none (M := M) (k := k) (fun i p hp => hJ i (List.getElem?_eq_some_iff.1 hp).1 p hp)
      have HL := Lib.hid hl
      clear hl hJ
      go_wp2
      go_ret
      refine ⟨_, rfl, ?_, fun g hg => by simp [Value.ownBlock] at hg, by first | rfl | trivial⟩
      rw [HL.out]; exact SL.nil _ _ _
end
end Go.Proofs.Ytcdjeblcmgghhaa.Crumb
