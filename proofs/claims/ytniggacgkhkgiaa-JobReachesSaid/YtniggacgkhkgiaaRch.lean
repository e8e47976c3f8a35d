/- Whom one comes to, from name to name: plain. No condition beyond those each lemma names. -/
import Derived.Test.YtniggacgkhkgiaaNames
import Derived.Test.YtniggacgkhkgiaaBase
import Derived.Lib.Hide
import Derived.Deep.LoopGhost
namespace Go.Sp
open Go.RowKit

def eB (b : Bool) : Value := .bool b

/-- whom one comes to -/
inductive Rch (N : List (List Int)) (a : Int) : Int → Prop
  | base : 0 ≤ a → a < N.length → Rch N a a
  | step {x y : Int} {l : List Int} : Rch N a x → N[x.toNat]? = some l → y ∈ l → 0 ≤ y → y < N.length → Rch N a y

theorem Rch.rng {N : List (List Int)} {a x : Int} (h : Rch N a x) : 0 ≤ x ∧ x < N.length := by
  cases h with
  | base h1 h2 => exact ⟨h1, h2⟩
  | step _ _ _ h1 h2 => exact ⟨h1, h2⟩

theorem Rch.trans {N : List (List Int)} {a x y : Int} (h : Rch N a x) (k : Rch N x y) : Rch N a y := by
  induction k with
  | base _ _ => exact h
  | step _ h1 h2 h3 h4 ih => exact .step ih h1 h2 h3 h4

/-- two rising lists of the same numbers are one -/
theorem rising_ext : ∀ {l l' : List Int}, l.Pairwise (· < ·) → l'.Pairwise (· < ·) → (∀ x, x ∈ l ↔ x ∈ l') → l = l'
  | [], [], _, _, _ => rfl
  | [], y :: r, _, _, h => by have := (h y).2 List.mem_cons_self; simp at this
  | x :: r, [], _, _, h => by have := (h x).1 List.mem_cons_self; simp at this
  | x :: r, y :: s, h1, h2, h => by
    have a1 := List.pairwise_cons.1 h1
    have a2 := List.pairwise_cons.1 h2
    have e : x = y := by
      have b1 := (h x).1 List.mem_cons_self
      have b2 := (h y).2 List.mem_cons_self
      rcases List.mem_cons.1 b1 with e | b1
      · exact e
      · rcases List.mem_cons.1 b2 with e | b2
        · exact e.symm
        · have := a2.1 x b1; have := a1.1 y b2; omega
    subst e
    rw [rising_ext a1.2 a2.2 fun z => ?_]
    constructor
    · intro hz
      rcases List.mem_cons.1 ((h z).1 (List.mem_cons_of_mem _ hz)) with e | hz'
      · subst e; have := a1.1 z hz; omega
      · exact hz'
    · intro hz
      rcases List.mem_cons.1 ((h z).2 (List.mem_cons_of_mem _ hz)) with e | hz'
      · subst e; have := a2.1 z hz; omega
      · exact hz'

/-- the answer's list -/
def IsReach (N : List (List Int)) (a : Int) (L : List Int) : Prop := L.Pairwise (· < ·) ∧ ∀ x, x ∈ L ↔ Rch N a x

theorem IsReach.ext {N : List (List Int)} {a : Int} {L L' : List Int} (h : IsReach N a L) (h' : IsReach N a L') : L = L' :=
  rising_ext h.1 h'.1 fun x => (h.2 x).trans (h'.2 x).symm

theorem IsReach.nil {N : List (List Int)} {a : Int} (h : ¬ (0 ≤ a ∧ a < N.length)) : IsReach N a [] := by
  refine ⟨List.Pairwise.nil, fun x => ⟨fun e => by simp at e, fun e => ?_⟩⟩
  induction e with
  | base h1 h2 => exact absurd ⟨h1, h2⟩ h
  | step _ _ _ _ _ ih => simp at ih

/-- what has been met: Q in the order met, p of them done -/
structure QI (N : List (List Int)) (a : Int) (Q : List Int) (p : Nat) (M : List (Int × Bool)) : Prop where
  ks : KS M
  mg : ∀ k, mget k M = if k ∈ Q then some true else none
  ml : M.length = Q.length
  snd : ∀ x ∈ Q, Rch N a x
  hd : a ∈ Q
  cl : ∀ i, i < p → ∀ x, Q[i]? = some x → ∀ l, N[x.toNat]? = some l → ∀ y ∈ l, 0 ≤ y → y < N.length → y ∈ Q
  ple : p ≤ Q.length

theorem QI.len {N : List (List Int)} {a : Int} {Q : List Int} {p : Nat} {M : List (Int × Bool)} (h : QI N a Q p M) : Q.length ≤ N.length := by
  have hs : (M.map Prod.fst).Pairwise (· < ·) := List.pairwise_map.2 h.ks
  have := rising_len (lo := 0) (hi := N.length) hs (fun x hx => by
    obtain ⟨q, hq, rfl⟩ := List.mem_map.1 hx
    have hm := mget_of_mem h.ks hq
    rw [h.mg] at hm
    split at hm
    · rename_i hin; exact (h.snd _ hin).rng
    · cases hm) (by omega)
  rw [List.length_map, h.ml] at this
  omega

theorem QI.start {N : List (List Int)} {a : Int} (h0 : 0 ≤ a) (h1 : a < N.length) : QI N a [a] 0 [(a, true)] :=
  ⟨by simp [KS], fun k => by by_cases e : k = a <;> simp [mget, e, Ne.symm], rfl, fun x hx => by simp at hx; subst hx; exact .base h0 h1, by simp, fun i hi => by omega, by simp⟩

/-- one more is met -/
theorem QI.add {N : List (List Int)} {a : Int} {Q : List Int} {p : Nat} {M : List (Int × Bool)} (h : QI N a Q p M) {y : Int} (hy : y ∉ Q) (hr : Rch N a y) : QI N a (Q ++ [y]) p (mput y true M) := by
  refine ⟨h.ks.mput, fun k => ?_, ?_, fun x hx => ?_, by simp [h.hd], fun i hi x hx l hl z hz z0 z1 => ?_, by have := h.ple; simp; omega⟩
  · rw [mget_mput, h.mg]
    by_cases e : k = y <;> simp [e]
  · have hn : mget y M = none := by rw [h.mg, if_neg hy]
    have := (mput_perm (k := y) (v := true) h.ks).length_eq
    rw [mdel_none hn] at this
    simp [this, h.ml]
  · rcases List.mem_append.1 hx with hx | hx
    · exact h.snd x hx
    · simp at hx; subst hx; exact hr
  · have hlt : i < Q.length := by have := h.ple; omega
    rw [List.getElem?_append_left hlt] at hx
    exact List.mem_append_left _ (h.cl i hi x hx l hl z hz z0 z1)

theorem QI.done {N : List (List Int)} {a : Int} {Q : List Int} {M : List (Int × Bool)} (h : QI N a Q Q.length M) : IsReach N a (M.map Prod.fst) := by
  have hm : ∀ x, x ∈ M.map Prod.fst ↔ x ∈ Q := fun x => by
    constructor
    · intro hx
      obtain ⟨q, hq, rfl⟩ := List.mem_map.1 hx
      have hg := mget_of_mem h.ks hq
      rw [h.mg] at hg
      split at hg
      · assumption
      · cases hg
    · intro hx
      have hg := h.mg x
      rw [if_pos hx] at hg
      exact List.mem_map.2 ⟨_, mget_mem hg, rfl⟩
  refine ⟨List.pairwise_map.2 h.ks, fun x => (hm x).trans ⟨h.snd x, fun hr => ?_⟩⟩
  induction hr with
  | base _ _ => exact h.hd
  | step _ h1 h2 h3 h4 ih =>
    obtain ⟨i, hi, hx⟩ := List.mem_iff_getElem.1 ih
    exact h.cl i hi _ (by rw [List.getElem?_eq_getElem hi, hx]) _ h1 _ h2 h3 h4

theorem QI.next {N : List (List Int)} {a : Int} {Q : List Int} {p : Nat} {M : List (Int × Bool)} (h : QI N a Q p M) {x : Int} {l : List Int} (hp : Q[p]? = some x) (hl : N[x.toNat]? = some l) (hc : ∀ y ∈ l, 0 ≤ y → y < N.length → y ∈ Q) : QI N a Q (p + 1) M :=
  ⟨h.ks, h.mg, h.ml, h.snd, h.hd, fun i hi z hz l' hl' => by
    by_cases e : i = p
    · subst e; rw [hp] at hz; cases hz; rw [hl] at hl'; cases hl'; exact hc
    · exact h.cl i (by omega) z hz l' hl', by have := (List.getElem?_eq_some_iff.1 hp).1; omega⟩

/-- a slice without its head: Go keeps the address where the capacity is used up -/
theorem SL.tail {h : Array Obj} {e : TypeId} {b off n cap : Nat} {c : Value} {cs : List Value} (x : SL h e 1 (.slice (some ⟨b, off, none⟩) (n + 1) cap) (n + 1) (c :: cs)) (a : Addr) (ha : a = ⟨b, off + 1, none⟩ ∨ (cap = 1 ∧ a = ⟨b, off, none⟩)) : SL h e 1 (.slice (some a) n (cap - 1)) n cs := by
  rcases x.2 with ⟨hv, _⟩ | ⟨b', off', cap', cur, hv, h1, h2, hb, h3, h4⟩
  · simp at hv
  · simp at hv
    obtain ⟨⟨rfl, rfl⟩, rfl⟩ := hv
    have hl : cs.length = n * 1 := by have := x.1; simp at this; omega
    rcases ha with rfl | ⟨rfl, rfl⟩
    · refine ⟨hl, .inr ⟨b, off + 1, cap - 1, cur, rfl, by omega, by omega, hb, by omega, fun j u hu => ?_⟩⟩
      have := h4 (j + 1) u (by simpa using hu)
      rw [show off + 1 + j = off + (j + 1) from by omega]
      exact this
    · have hn : n = 0 := by omega
      subst hn
      have hc : cs = [] := List.eq_nil_of_length_eq_zero (by omega)
      subst hc
      exact ⟨rfl, .inr ⟨b, off, 0, cur, rfl, by omega, by omega, hb, by omega, fun j u hu => by simp at hu⟩⟩

end Go.Sp
namespace Go.Proofs.Ytniggacgkhkgiaa.Crumb
open Go.RowKit Go.Sp
theorem below_cell {w wr : World} {b o : Nat} (h : Below w.heap.size w wr) (hb : b < w.heap.size) {u : Value} (e : w.cell? ⟨b, o, none⟩ = some u) : wr.cell? ⟨b, o, none⟩ = some u := by
  rw [World.cell?_of_block (w := w) ((only_of_below h (fun _ => False)).block b hb id)]; exact e

end Go.Proofs.Ytniggacgkhkgiaa.Crumb
