/- Names: a slice of slices of ints that is only read, and such an argument of a row. No condition beyond those each lemma names. -/
import Derived.Test.YtniggacgkhkgiaaArgs
namespace Go.Sp
open Go.RowKit
def eV (u : Value) : List Value := [u]
/-- v is a slice of slices of ints that reads as N -/
def NM (w : World) (v : Value) (N : List (List Int)) : Prop :=
  ∃ vs : List Value, vs.length = N.length ∧ RS w 1 eV v vs ∧ ∀ (i : Nat) (u : Value) (l : List Int), vs[i]? = some u → N[i]? = some l → RS w 1 eInt u l

theorem NM.only {w w' : World} {v : Value} {N : List (List Int)} (h : NM w v N) {F : Nat → Prop} (o : Only F w w') (hF : ∀ k, k < w.heap.size → ¬ F k) : NM w' v N := by
  obtain ⟨vs, h1, h2, h3⟩ := h
  have key : ∀ {α : Type} {s : Nat} {enc : α → List Value} {u : Value} {xs : List α}, RS w s enc u xs → RS w' s enc u xs := by
    intro α s enc u xs hr
    obtain ⟨hl, a, cap, rfl, h2⟩ := hr
    refine ⟨hl, a, cap, rfl, fun hn => ?_⟩
    obtain ⟨b, off, rfl, hb, h4⟩ := h2 hn
    refine ⟨b, off, rfl, Nat.lt_of_lt_of_le hb o.size, fun i x j u hx hu => ?_⟩
    rw [World.cell?_of_block (w := w) (o.block b hb (hF b hb))]
    exact h4 i x j u hx hu
  exact ⟨vs, h1, key h2, fun i u l hu hl => key (h3 i u l hu hl)⟩
theorem NM.below {w w' : World} {v : Value} {N : List (List Int)} (h : NM w v N) (o : Below w.heap.size w w') : NM w' v N := NM.only h (only_of_below o (fun _ => False)) (fun _ _ => id)

theorem choose_list {α β : Type} {p : α → β → Prop} : ∀ {xs : List α}, (∀ x ∈ xs, ∃ y, p x y) → ∃ ys : List β, ys.length = xs.length ∧ ∀ (i : Nat) (x : α) (y : β), xs[i]? = some x → ys[i]? = some y → p x y
  | [], _ => ⟨[], rfl, fun i x y h => by simp at h⟩
  | x :: xs, h => by
    obtain ⟨y, hy⟩ := h x List.mem_cons_self
    obtain ⟨ys, h1, h2⟩ := choose_list (xs := xs) (p := p) (fun z hz => h z (List.mem_cons_of_mem _ hz))
    refine ⟨y :: ys, by simp [h1], fun i a b ha hb => ?_⟩
    cases i with
    | zero => simp at ha hb; subst ha; subst hb; exact hy
    | succ i => exact h2 i a b (by simpa using ha) (by simpa using hb)

end Go.Sp
namespace Go.Proofs.Ytniggacgkhkgiaa
open Go.RowKit Go.Sp Go.WideShapes
set_option maxRecDepth 100000 in
/-- names, as the row hands them over -/
theorem arg_names {H : Type} {enc : TypeId × Value → H} {w : World} {v : Value} {d : DataW H} {ps : List MemPlace} {base : Nat} (u : Value.okWide Try.prog w .any base 67 v)
    (k : DataW.Trod enc Try.prog w 0 (fun _ => true) true 67 v d ps) (z : (d.weights Try.prog 67).all (· ≤ reachBytes) = true) : ∃ N, NM w v N := by
  obtain ⟨vs, h1, h2, _⟩ := arg_slice (size := 1) (elt := eV) (Q := fun u => ∃ l, RS w 1 eInt u l) Try.underlying67 (by kernel_rfl) (by omega) (fun m ds h => by
    obtain ⟨v, xs, e, h3, _, _⟩ := rs_of_rd (size := 1) (elt := eInt) (Q := fun _ => True) h Try.underlying31 (by kernel_rfl) (by omega) (fun m ds h => by
      obtain ⟨a, e, _⟩ := rd_int h Try.underlying3
      exact ⟨a, e.symm, trivial⟩)
    exact ⟨v, e.symm, xs, h3⟩) u k z
  obtain ⟨N, h4, h5⟩ := choose_list h2
  exact ⟨N, vs, h4.symm, h1, h5⟩

end Go.Proofs.Ytniggacgkhkgiaa
