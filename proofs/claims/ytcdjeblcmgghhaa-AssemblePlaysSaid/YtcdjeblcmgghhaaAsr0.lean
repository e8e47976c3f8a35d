/- The reference's assembler, the plain part: what is kept is kept once for each place, and what its part finds is what the assembler's finds. No condition beyond those each lemma names. -/
import Derived.Test.YtcdjeblcmgghhaaAsm6
namespace Go.Sp
open Go.RowKit
/-- no two kept chunks are of one place; those of one agent have one number -/
structure Uq (C : List Chk) : Prop where
  pw : C.Pairwise fun c d => c.a = d.a → c.i ≠ d.i ∧ c.n = d.n
  rg : ∀ c ∈ C, 0 ≤ c.i ∧ c.i < c.n ∧ c.n ≤ 500 ∧ c.xs.length ≤ 2
theorem Uq.nil : Uq [] := ⟨List.Pairwise.nil, by simp⟩
theorem refuse_no {C : List Chk} {c : Chk} (h : refuse C c = false) : ∀ d ∈ C, d.a = c.a → d.i ≠ c.i ∧ d.n = c.n := fun d hd e => by
  unfold refuse at h
  rw [List.any_eq_false] at h
  have := h d hd
  simp [e] at this
  exact ⟨this.2, this.1⟩
theorem Uq.keep {C : List Chk} (h : Uq C) {c : Chk} (hc : 0 ≤ c.i ∧ c.i < c.n ∧ c.n ≤ 500 ∧ c.xs.length ≤ 2) : Uq (keepC C c) := by
  cases hr : refuse C c with
  | true => rw [keepC_true hr]; exact h
  | false =>
    rw [keepC_false hr]
    refine ⟨List.pairwise_append.2 ⟨h.pw, List.pairwise_singleton _ _, fun d hd d' hd' e => ?_⟩, fun d hd => ?_⟩
    · rw [List.mem_singleton.1 hd'] at e ⊢
      exact refuse_no hr d hd e
    · rcases List.mem_append.1 hd with hd | hd
      · exact h.rg d hd
      · rw [List.mem_singleton.1 hd]; exact hc
def mtc (a i : Int) (c : Chk) : Bool := decide (c.a = a) && decide (c.i = i)
theorem filter_at {a i : Int} : ∀ {C : List Chk}, C.Pairwise (fun c d => c.a = d.a → c.i ≠ d.i ∧ c.n = d.n) → C.filter (mtc a i) = (chkAt C a i).toList
  | [], _ => rfl
  | c :: r, h => by
    obtain ⟨h1, h2⟩ := List.pairwise_cons.1 h
    have ih := filter_at (a := a) (i := i) h2
    unfold chkAt at ih ⊢
    cases hc : decide (c.a = a) && decide (c.i = i) with
    | true =>
      rw [List.filter_cons_of_pos (by exact hc), List.find?_cons_of_pos (by exact hc)]
      have : r.filter (mtc a i) = [] := by
        rw [List.filter_eq_nil_iff]
        intro d hd e
        simp only [Bool.and_eq_true, decide_eq_true_eq] at hc
        unfold mtc at e
        simp only [Bool.and_eq_true, decide_eq_true_eq] at e
        exact (h1 d hd (hc.1.trans e.1.symm)).1 (hc.2.trans e.2.symm)
      rw [this]; rfl
    | false =>
      rw [List.filter_cons_of_neg (by unfold mtc; rw [hc]; simp), List.find?_cons_of_neg (by rw [hc]; simp)]
      exact ih
theorem same_n : ∀ {C : List Chk}, C.Pairwise (fun c d => c.a = d.a → c.i ≠ d.i ∧ c.n = d.n) → ∀ c ∈ C, ∀ d ∈ C, c.a = d.a → c.n = d.n
  | [], _, c, hc, _, _, _ => by simp at hc
  | x :: r, h, c, hc, d, hd, e => by
    obtain ⟨h1, h2⟩ := List.pairwise_cons.1 h
    rcases List.mem_cons.1 hc with ec | hc'
    · rcases List.mem_cons.1 hd with ed | hd'
      · rw [ec, ed]
      · rw [ec]; rw [ec] at e; exact (h1 d hd' e).2
    · rcases List.mem_cons.1 hd with ed | hd'
      · rw [ed]; rw [ed] at e; exact (h1 c hc' e.symm).2.symm
      · exact same_n h2 c hc' d hd' e
/-- what the reference's part has behind i places -/
def outTo (C : List Chk) (a : Int) (i : Nat) : List Spn := (List.range i).flatMap fun k : Nat => ((chkAt C a k).map (fun c => c.xs)).getD []
theorem outTo_succ (C : List Chk) (a : Int) (i : Nat) : outTo C a (i + 1) = outTo C a i ++ ((chkAt C a i).map (fun c => c.xs)).getD [] := by
  unfold outTo; rw [List.range_succ, List.flatMap_append]; simp
theorem outTo_len {C : List Chk} (h : Uq C) (a : Int) : ∀ i, (outTo C a i).length ≤ 2 * i
  | 0 => by simp [outTo]
  | i + 1 => by
    rw [outTo_succ, List.length_append]
    have := outTo_len h a i
    cases e : chkAt C a i with
    | none => simp; omega
    | some c =>
      have := (h.rg c (List.mem_of_find?_eq_some e)).2.2.2
      simp; omega
structure PIv (C : List Chk) (a : Int) (i : Nat) (n : Int) : Prop where
  st : (i = 0 ∧ n = 0) ∨ (0 < i ∧ ∃ c0, C.find? (fun c => decide (c.a = a)) = some c0 ∧ n = c0.n ∧ 1 ≤ n ∧ n ≤ 500 ∧ (i : Int) ≤ n)
  al : ∀ k : Nat, k < i → (chkAt C a k).isSome = true
theorem find_chk {C : List Chk} {a i : Int} {c : Chk} (h : chkAt C a i = some c) : c ∈ C ∧ c.a = a ∧ c.i = i := by
  unfold chkAt at h
  have h2 := List.find?_some h
  simp only [Bool.and_eq_true, decide_eq_true_eq] at h2
  exact ⟨List.mem_of_find?_eq_some h, h2⟩
theorem PIv.next {C : List Chk} {a : Int} {i : Nat} {n : Int} (U : Uq C) (h : PIv C a i n) (hin : n = 0 ∨ (i : Int) < n) {c : Chk} (hc : chkAt C a i = some c) : PIv C a (i + 1) c.n := by
  obtain ⟨hm, ha, hi⟩ := find_chk hc
  have hr := U.rg c hm
  refine ⟨.inr ⟨by omega, ?_⟩, fun k hk => ?_⟩
  · cases hf : C.find? (fun c => decide (c.a = a)) with
    | none =>
      rw [List.find?_eq_none] at hf
      exact absurd ha (by simpa using hf c hm)
    | some c0 =>
      have h0 := List.mem_of_find?_eq_some hf
      have ha0 := List.find?_some hf
      simp only [decide_eq_true_eq] at ha0
      have := same_n U.pw c0 h0 c hm (ha0.trans ha.symm)
      exact ⟨c0, rfl, this.symm, by omega, by omega, by omega⟩
  · by_cases e : k = i
    · subst e; rw [hc]; rfl
    · exact h.al k (by omega)
theorem PIv.lack {C : List Chk} {a : Int} {i : Nat} {n : Int} (U : Uq C) (h : PIv C a i n) (hin : n = 0 ∨ (i : Int) < n) (hc : chkAt C a i = none) : partL C a = none := by
  unfold partL
  cases hf : C.find? (fun c => decide (c.a = a)) with
  | none => rfl
  | some c0 =>
    have hr := U.rg c0 (List.mem_of_find?_eq_some hf)
    have hlt : (i : Int) < c0.n := by
      rcases h.st with ⟨h0, hn⟩ | ⟨_, c1, h1, h2, h3, _⟩
      · omega
      · rw [hf] at h1; cases h1; omega
    have : (List.range c0.n.toNat).all (fun k : Nat => (chkAt C a k).isSome) = false := by
      rw [List.all_eq_false]
      exact ⟨i, List.mem_range.2 (by omega), by rw [hc]; simp⟩
    simp only [this]; rfl
theorem PIv.full {C : List Chk} {a : Int} {i : Nat} {n : Int} (h : PIv C a i n) (hn : n ≠ 0) (hin : ¬ (i : Int) < n) : partL C a = some (outTo C a i) := by
  rcases h.st with ⟨_, h0⟩ | ⟨_, c0, hf, h1, h2, h3, h4⟩
  · exact absurd h0 hn
  · have e : i = c0.n.toNat := by omega
    unfold partL
    rw [hf]
    have : (List.range c0.n.toNat).all (fun k : Nat => (chkAt C a k).isSome) = true := by
      rw [List.all_eq_true]
      intro k hk
      exact h.al k (by have := List.mem_range.1 hk; omega)
    simp only [this, cond_true]
    rw [e]; rfl
/-- behind k chunks of a place -/
def atF (C : List Chk) (a i : Int) (k : Nat) : List Chk := (C.take k).filter (mtc a i)
def atN (n : Int) (F : List Chk) : Int := match F.getLast? with
  | none => n
  | some c => c.n
theorem atF_succ {C : List Chk} {a i : Int} {k : Nat} {c : Chk} (hc : C[k]? = some c) : atF C a i (k + 1) = atF C a i k ++ bif mtc a i c then [c] else [] := by
  unfold atF
  rw [List.take_add_one, hc, List.filter_append]
  cases h : mtc a i c <;> simp [h]
theorem atF_all {C : List Chk} (U : Uq C) (a i : Int) : atF C a i C.length = (chkAt C a i).toList := by
  unfold atF; rw [List.take_length]; exact filter_at U.pw
theorem atF_len (C : List Chk) (a i : Int) (k : Nat) : (atF C a i k).length ≤ k := by
  unfold atF
  refine Nat.le_trans (List.length_filter_le _ _) ?_
  rw [List.length_take]; omega
theorem atF_xs {C : List Chk} (U : Uq C) (a i : Int) (k : Nat) : ((atF C a i k).flatMap fun c => c.xs).length ≤ 2 * k := by
  have h : ∀ l : List Chk, (∀ c ∈ l, c ∈ C) → (l.flatMap fun c => c.xs).length ≤ 2 * l.length := by
    intro l
    induction l with
    | nil => intro _; simp
    | cons c r ih =>
      intro hl
      have h1 := ih (fun d hd => hl d (List.mem_cons_of_mem _ hd))
      have h2 := (U.rg c (hl c List.mem_cons_self)).2.2.2
      rw [List.flatMap_cons, List.length_append, List.length_cons]; omega
  have h1 := h (atF C a i k) (fun c hc => List.mem_of_mem_take (List.mem_filter.1 hc).1)
  have := atF_len C a i k
  omega
theorem rowOk_drop {t : Int} {l : List Spn} {q : Nat} {x : Spn} (hx : l[q]? = some x) (k : Nat) : rowOk t (l.drop q) k = (decide (x.1 = t) && (decide (x.2.1 = (k : Int) + 1) && rowOk t (l.drop (q + 1)) (k + 1))) := by
  obtain ⟨hq, e⟩ := List.getElem?_eq_some_iff.1 hx
  rw [List.drop_eq_getElem_cons hq, e, rowOk_cons]
theorem partR_none {t : Int} {C : List Chk} {a n : Int} (h : partL C a = none) : partR t C a n = ([], false) := by unfold partR; rw [h]
theorem partR_some {t : Int} {C : List Chk} {a n : Int} {l : List Spn} (h : partL C a = some l) : partR t C a n = (l, decide ((l.length : Int) = n) && rowOk t l 0) := by unfold partR; rw [h]
end Go.Sp
