/- What assemble's part says of an agent's chunks. Conditions: the assembler lies in memory as Arep says. -/
import Derived.Test.YtcdjeblcmgghhaaAsm3
namespace Go.Sp
open Go.MapKept Go.RowKit

theorem rising_in : ∀ {l m : List Int}, l.Pairwise (· < ·) → m.Pairwise (· < ·) → (∀ x ∈ l, x ∈ m) → l.length ≤ m.length
  | [], m, _, _, _ => by simp
  | x :: l, [], _, _, h => by have := h x List.mem_cons_self; simp at this
  | x :: l, y :: m, h1, h2, h => by
    have a1 := List.pairwise_cons.1 h1
    have a2 := List.pairwise_cons.1 h2
    by_cases e : x = y
    · subst e
      have := rising_in a1.2 a2.2 (fun z hz => by
        rcases List.mem_cons.1 (h z (List.mem_cons_of_mem _ hz)) with e | hz'
        · subst e; have := a1.1 z hz; omega
        · exact hz')
      simp; omega
    · have hx : x ∈ m := by
        rcases List.mem_cons.1 (h x List.mem_cons_self) with e' | hx
        · exact absurd e' e
        · exact hx
      have hy := a2.1 x hx
      have := rising_in h1 a2.2 (fun z hz => by
        rcases List.mem_cons.1 (h z hz) with e' | hz'
        · subst e'
          rcases List.mem_cons.1 hz with e'' | hz2
          · omega
          · have := a1.1 z hz2; omega
        · exact hz')
      simp at this ⊢; omega

theorem mget_some_iff {α : Type} {m : List (Int × α)} {k : Int} : (mget k m).isSome = true ↔ k ∈ m.map Prod.fst := by
  constructor
  · intro h
    cases hk : mget k m with
    | none => rw [hk] at h; cases h
    | some v => exact List.mem_map.2 ⟨(k, v), mget_mem hk, rfl⟩
  · intro h
    obtain ⟨p, hp, e⟩ := List.mem_map.1 h
    cases hk : mget k m with
    | none => exact absurd e ((mget_none.1 hk) p hp)
    | some v => rfl

/-- a map of numbers below N has N of them just if it has them all -/
theorem full_iff {α : Type} {m : List (Int × α)} (hs : KS m) (N : Nat) (hb : ∀ p ∈ m, 0 ≤ p.1 ∧ p.1 < (N : Int)) : m.length = N ↔ ∀ k : Nat, k < N → (mget (k : Int) m).isSome = true := by
  have hr : (m.map Prod.fst).Pairwise (· < ·) := List.pairwise_map.2 hs
  have hb' : ∀ a ∈ m.map Prod.fst, 0 ≤ a ∧ a < (N : Int) := fun a ha => by
    obtain ⟨p, hp, rfl⟩ := List.mem_map.1 ha
    exact hb p hp
  have hle := rising_len hr hb' (by omega)
  rw [List.length_map] at hle
  constructor
  · intro hN k hk
    refine mget_some_iff.2 (Classical.byContradiction fun hn => ?_)
    have h1 := rising_len (insI_sorted (k : Int) hr hn) (lo := 0) (hi := N) (fun a ha => by
      rcases mem_insI.1 ha with rfl | ha
      · omega
      · exact hb' a ha) (by omega)
    rw [insI_len, List.length_map] at h1
    omega
  · intro h
    have h1 : (((List.range N).map fun k : Nat => (k : Int)) : List Int).Pairwise (· < ·) := List.pairwise_map.2 (List.pairwise_lt_range.imp fun h => by omega)
    have := rising_in h1 hr (fun x hx => by
      obtain ⟨k, hk, rfl⟩ := List.mem_map.1 hx
      exact mget_some_iff.1 (h k (List.mem_range.1 hk)))
    rw [List.length_map, List.length_map, List.length_range] at this
    omega

theorem eSpn_one (x : Spn) : ∀ u ∈ eSpn x, u.oneCell' = true := by
  intro u hu
  simp [eSpn] at hu
  rcases hu with rfl | rfl | rfl <;> rfl

/-! ### an agent's spans, by what is kept -/
def chkAt (C : List Chk) (a i : Int) : Option Chk := C.find? fun c => decide (c.a = a) && decide (c.i = i)
def partL (C : List Chk) (a : Int) : Option (List Spn) := match C.find? (fun c => decide (c.a = a)) with
  | none => none
  | some c0 => bif (List.range c0.n.toNat).all (fun k : Nat => (chkAt C a k).isSome) then some ((List.range c0.n.toNat).flatMap fun k : Nat => ((chkAt C a k).map (fun c => c.xs)).getD []) else none
/-- its spans, and whether they are there -/
def partR (t : Int) (C : List Chk) (a n : Int) : List Spn × Bool := match partL C a with
  | none => ([], false)
  | some l => (l, decide ((l.length : Int) = n) && rowOk t l 0)
def rowL (ch : List (Int × (Value × List Spn))) (q : Nat) : List Spn := (List.range q).flatMap fun k : Nat => ((mget (k : Int) ch).map Prod.snd).getD []
theorem rowL_succ (ch : List (Int × (Value × List Spn))) (q : Nat) : rowL ch (q + 1) = rowL ch q ++ ((mget (q : Int) ch).map Prod.snd).getD [] := by
  unfold rowL; rw [List.range_succ, List.flatMap_append]; simp
theorem rowL_len {ch : List (Int × (Value × List Spn))} (h : ∀ i x, mget i ch = some x → x.2.length ≤ 2) : ∀ q, (rowL ch q).length ≤ 2 * q
  | 0 => by simp [rowL]
  | q + 1 => by
    rw [rowL_succ, List.length_append]
    have := rowL_len h q
    cases hx : mget (q : Int) ch with
    | none => simp; omega
    | some x => have := h _ _ hx; simp; omega

section
variable {rows : List (Int × Nat)} {g : Int → Ro} {C : List Chk} {a : Int} {b : Nat}
theorem Tie.chkAt (T : Tie rows g C) (h : mget a rows = some b) (k : Int) : (Sp.chkAt C a k).map (fun c => c.xs) = (mget k (g a).ch).map Prod.snd := by
  unfold Sp.chkAt
  cases hf : C.find? (fun c => decide (c.a = a) && decide (c.i = k)) with
  | some c =>
    have h1 := List.mem_of_find?_eq_some hf
    have h2 := List.find?_some hf
    simp at h2
    obtain ⟨v, h4⟩ := T.t4 c h1
    rw [h2.1, h2.2] at h4
    rw [h4]; rfl
  | none =>
    cases hx : mget k (g a).ch with
    | none => rfl
    | some x =>
      have h3 := T.t3 a b k x h hx
      have := List.find?_eq_none.1 hf _ h3
      simp at this
theorem Tie.partL_none (T : Tie rows g C) (h : mget a rows = none) : partL C a = none := by
  unfold partL
  rw [List.find?_eq_none.2 fun c hc => by simp [(T.t1 a).1 h c hc]]
theorem Tie.first (T : Tie rows g C) (h : mget a rows = some b) : ∃ c0, C.find? (fun c => decide (c.a = a)) = some c0 ∧ c0.n = (g a).tot ∧ 0 ≤ (g a).tot ∧ (g a).tot ≤ 500 := by
  cases hf : C.find? (fun c => decide (c.a = a)) with
  | none =>
    have : ∀ c ∈ C, c.a ≠ a := fun c hc => by have := List.find?_eq_none.1 hf c hc; simpa using this
    rw [(T.t1 a).2 this] at h; cases h
  | some c0 =>
    have h1 := List.mem_of_find?_eq_some hf
    have h2 : c0.a = a := by have := List.find?_some hf; simpa using this
    have h3 := T.t2 c0 h1
    have h5 := T.t5 c0 h1
    rw [h2] at h3
    exact ⟨c0, rfl, h3, by omega, by omega⟩
theorem Tie.keys (T : Tie rows g C) (h : mget a rows = some b) (hs : KS (g a).ch) : ∀ p ∈ (g a).ch, 0 ≤ p.1 ∧ p.1 < ((g a).tot.toNat : Int) := fun p hp => by
  have h3 := T.t5 _ (T.t3 a b p.1 p.2 h (mget_of_mem hs hp))
  simp only at h3
  omega
theorem Tie.small (T : Tie rows g C) (h : mget a rows = some b) : ∀ i x, mget i (g a).ch = some x → x.2.length ≤ 2 := fun i x hx => (T.t5 _ (T.t3 a b i x h hx)).2.2.2
theorem Tie.all (T : Tie rows g C) (h : mget a rows = some b) (N : Nat) : (List.range N).all (fun k => (Sp.chkAt C a k).isSome) = true ↔ ∀ k : Nat, k < N → (mget (k : Int) (g a).ch).isSome = true := by
  rw [List.all_eq_true]
  have : ∀ k : Nat, (Sp.chkAt C a k).isSome = (mget (k : Int) (g a).ch).isSome := fun k => by
    have := congrArg Option.isSome (T.chkAt h (k : Int))
    simpa using this
  constructor
  · intro h1 k hk; rw [← this k]; exact h1 k (List.mem_range.2 hk)
  · intro h1 k hk; rw [this k]; exact h1 k (List.mem_range.1 hk)
theorem Tie.partL_lack (T : Tie rows g C) (h : mget a rows = some b) (hs : KS (g a).ch) (hn : (g a).ch.length ≠ (g a).tot.toNat) : partL C a = none := by
  obtain ⟨c0, h1, h2, _⟩ := T.first h
  unfold partL
  rw [h1]
  simp only [h2]
  cases he : (List.range (g a).tot.toNat).all (fun k => (Sp.chkAt C a k).isSome) with
  | false => rfl
  | true => exact absurd ((full_iff hs _ (T.keys h hs)).2 ((T.all h _).1 he)) hn
theorem Tie.partL_full (T : Tie rows g C) (h : mget a rows = some b) (hs : KS (g a).ch) (hn : (g a).ch.length = (g a).tot.toNat) : partL C a = some (rowL (g a).ch (g a).tot.toNat) := by
  obtain ⟨c0, h1, h2, _⟩ := T.first h
  unfold partL
  rw [h1]
  simp only [h2]
  rw [(T.all h _).2 ((full_iff hs _ (T.keys h hs)).1 hn)]
  simp only [cond_true, rowL]
  congr 2
  funext k
  rw [T.chkAt h]
end
end Go.Sp
