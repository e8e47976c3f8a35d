/- What the reference's Write builds where a trace is new: two slices side by side. No condition beyond those each lemma names. -/
import Derived.Test.YtniggacgkhkgiaaPref1
namespace Go.Sp
open Go.RowKit
section
variable {α : Type}
def pt1G (t : Int) (l : α) (s : List (Int × α) × Bool) (p : Int × α) : List (Int × α) × Bool := if !s.2 && decide (t < p.1) then (s.1 ++ [(t, l), p], true) else (s.1 ++ [p], s.2)
def putG (t : Int) (l : α) (M : List (Int × α)) : List (Int × α) × Bool := M.foldl (pt1G t l) ([], false)
theorem putG_snoc (t : Int) (l : α) (p : Int × α) (M : List (Int × α)) : putG t l (M ++ [p]) = pt1G t l (putG t l M) p := by simp [putG, List.foldl_append]
theorem putG_len (t : Int) (l : α) (M : List (Int × α)) : (putG t l M).1.length ≤ 2 * M.length := by
  have h : ∀ (M : List (Int × α)) (s : List (Int × α) × Bool), (M.foldl (pt1G t l) s).1.length ≤ s.1.length + 2 * M.length := by
    intro M
    induction M with
    | nil => intro s; simp
    | cons y r ih =>
      intro s
      have := ih (pt1G t l s y)
      rw [List.foldl_cons]
      have h2 : (pt1G t l s y).1.length ≤ s.1.length + 2 := by unfold pt1G; split <;> simp
      simp; omega
  simpa [putG] using h M ([], false)
theorem putG_after (t : Int) (l : α) : ∀ (M a : List (Int × α)), M.foldl (pt1G t l) (a, true) = (a ++ M, true)
  | [], a => by simp
  | y :: r, a => by
    rw [List.foldl_cons]
    have : pt1G t l (a, true) y = (a ++ [y], true) := by simp [pt1G]
    rw [this, putG_after t l r]; simp
theorem putG_from (t : Int) (l : α) : ∀ (M a : List (Int × α)), (∀ p ∈ M, p.1 ≠ t) → M.foldl (pt1G t l) (a, false) = if M.any (fun y => decide (t < y.1)) then (a ++ mput t l M, true) else (a ++ M, false)
  | [], a, _ => by simp
  | y :: r, a, hn => by
    rw [List.foldl_cons]
    have hy := hn y List.mem_cons_self
    by_cases h : t < y.1
    · have : pt1G t l (a, false) y = (a ++ [(t, l), y], true) := by simp [pt1G, h]
      rw [this, putG_after]
      simp [h, mput]
    · have : pt1G t l (a, false) y = (a ++ [y], false) := by simp [pt1G, h]
      rw [this, putG_from t l r _ (fun p hp => hn p (List.mem_cons_of_mem _ hp))]
      simp only [List.any_cons, h, decide_false, Bool.false_or]
      split <;> simp [mput, h, hy]
theorem mput_lastG (t : Int) (l : α) : ∀ {M : List (Int × α)}, (∀ p ∈ M, p.1 ≠ t) → M.any (fun y => decide (t < y.1)) = false → mput t l M = M ++ [(t, l)]
  | [], _, _ => rfl
  | y :: r, hn, h => by
    simp only [List.any_cons, Bool.or_eq_false_iff, decide_eq_false_iff_not] at h
    unfold mput
    rw [if_neg h.1, if_neg (hn y List.mem_cons_self), mput_lastG t l (fun p hp => hn p (List.mem_cons_of_mem _ hp)) h.2]; rfl
theorem putG_put (t : Int) (l : α) {M : List (Int × α)} (hn : ∀ p ∈ M, p.1 ≠ t) : (if (putG t l M).2 then (putG t l M).1 else (putG t l M).1 ++ [(t, l)]) = mput t l M := by
  unfold putG
  rw [putG_from t l M [] hn]
  cases h : M.any (fun y => decide (t < y.1)) with
  | true => simp
  | false => simp [mput_lastG t l hn h]
end
end Go.Sp
namespace Go.Proofs.Ytniggacgkhkgiaa.Pref
open Go.RowKit Go.Sp Msg Ev
/-- two slices that are being built: the traces in T, their spans' slices us2 in A -/
structure Two3 (w0 wr : World) (P : Nat → Prop) (F : List (Int × List Spn)) (T A : Value) (us2 : List Value) : Prop where
  st : SL wr.heap 3 1 T F.length (F.map fun p => .int .i64 p.1)
  sa : SL wr.heap 35 1 A F.length us2
  nt : ∀ g, T.ownBlock = some g → w0.heap.size ≤ g
  na : ∀ g, A.ownBlock = some g → w0.heap.size ≤ g
  below : Below w0.heap.size w0 wr
  el : ∀ (i : Nat) (u : Value) (p : Int × List Spn), us2[i]? = some u → F[i]? = some p → SL wr.heap 89 3 u p.2.length (p.2.flatMap eSpn)
  re : ∀ (i : Nat) (u : Value), us2[i]? = some u → ∀ g, u.ownBlock = some g → P g
section
variable {w0 wr wx w5 w7 : World} {P : Nat → Prop} {F : List (Int × List Spn)} {T A T' A' u v5 : Value} {us2 : List Value} {x : Int} {l : List Spn}
theorem Two3.nil (w0 : World) (P : Nat → Prop) : Two3 w0 w0 P [] (.slice none 0 0) (.slice none 0 0) [] :=
  ⟨SL.nil _ _ _, SL.nil _ _ _, fun g hg => by simp [Value.ownBlock] at hg, fun g hg => by simp [Value.ownBlock] at hg, Below.refl _ _, fun i u p hu => by simp at hu, fun i u hu => by simp at hu⟩
/-- an append to the traces -/
theorem Two3.stepT (h : Two3 w0 wr P F T A us2) (hx : Below wr.heap.size wr wx) (ho : Only (fun g => T.ownBlock = some g) wx w5) (hv : v5.ownBlock = T.ownBlock ∨ v5.ownBlock = some wx.heap.size) :
    Below w0.heap.size w0 w5 ∧ (∀ g, v5.ownBlock = some g → w0.heap.size ≤ g) ∧ SL w5.heap 35 1 A F.length us2 ∧ ∀ u n cs, SL wr.heap 89 3 u n cs → SL w5.heap 89 3 u n cs := by
  have hbx := h.below.trans (hx.mono h.below.size)
  have hz := Nat.le_trans h.below.size hx.size
  exact ⟨hbx.trans (ho.below hz fun i hi e => by have := h.nt i e; omega), fun g hg => by
    rcases hv with e | e
    · exact h.nt g (by rw [← e]; exact hg)
    · rw [e] at hg; cases hg; exact hz, (h.sa.only (only_of_below hx (fun _ => False)) (fun _ _ => id)).only ho (fun g hg e => sl_two' h.st h.sa (by decide) g e hg), fun u n cs hs => (hs.only (only_of_below hx (fun _ => False)) (fun _ _ => id)).only ho (fun g hg e => sl_two' h.st hs (by decide) g e hg)⟩
/-- an append to the slices, behind one to the traces -/
theorem Two3.stepA (h : Two3 w0 wr P F T A us2) {n : Nat} {cs : List Value} (st : SL w5.heap 3 1 v5 n cs) (sa : SL w5.heap 35 1 A F.length us2) (hb5 : Below w0.heap.size w0 w5) (hx : Below w5.heap.size w5 wx) (ho : Only (fun g => A.ownBlock = some g) wx w7) (hv : A'.ownBlock = A.ownBlock ∨ A'.ownBlock = some wx.heap.size) :
    Below w0.heap.size w0 w7 ∧ (∀ g, A'.ownBlock = some g → w0.heap.size ≤ g) ∧ SL w7.heap 3 1 v5 n cs ∧ (∀ u n cs, SL w5.heap 89 3 u n cs → SL w7.heap 89 3 u n cs) ∧ ∀ u n cs, SL wx.heap 89 3 u n cs → SL w7.heap 89 3 u n cs := by
  have hbx := hb5.trans (hx.mono hb5.size)
  have hz := Nat.le_trans hb5.size hx.size
  have sax := sa.only (only_of_below hx (fun _ => False)) (fun _ _ => id)
  have hE : ∀ u n cs, SL wx.heap 89 3 u n cs → SL w7.heap 89 3 u n cs := fun u n cs hs => hs.only ho (fun g hg e => sl_two' sax hs (by decide) g e hg)
  exact ⟨hbx.trans (ho.below hz fun i hi e => by have := h.na i e; omega), fun g hg => by
    rcases hv with e | e
    · exact h.na g (by rw [← e]; exact hg)
    · rw [e] at hg; cases hg; exact hz, (st.only (only_of_below hx (fun _ => False)) (fun _ _ => id)).only ho (fun g hg e => sl_two' st sa (by decide) g hg e), fun u n cs hs => hE u n cs (hs.only (only_of_below hx (fun _ => False)) (fun _ _ => id)), hE⟩
theorem Two3.snoc (h : Two3 w0 wr P F T A us2) (st : SL w7.heap 3 1 T' (F.length + 1) ((F.map fun p => Value.int .i64 p.1) ++ [.int .i64 x])) (sa : SL w7.heap 35 1 A' (F.length + 1) (us2 ++ [u])) (nt : ∀ g, T'.ownBlock = some g → w0.heap.size ≤ g) (na : ∀ g, A'.ownBlock = some g → w0.heap.size ≤ g) (b7 : Below w0.heap.size w0 w7)
    (hE : ∀ u n cs, SL wr.heap 89 3 u n cs → SL w7.heap 89 3 u n cs) (hu : SL w7.heap 89 3 u l.length (l.flatMap eSpn)) (pu : ∀ g, u.ownBlock = some g → P g) :
    Two3 w0 w7 P (F ++ [(x, l)]) T' A' (us2 ++ [u]) := by
  have hul : us2.length = F.length := by have := h.sa.1; omega
  refine ⟨by rw [List.length_append, List.map_append]; exact st, by rw [List.length_append]; exact sa, nt, na, b7, fun i v p hv hp => ?_, fun i v hv => ?_⟩
  · by_cases hi : i < F.length
    · rw [List.getElem?_append_left (by omega)] at hv hp
      exact hE _ _ _ (h.el i v p hv hp)
    · rw [List.getElem?_append_right (by omega)] at hv hp
      have hi0 : i - F.length = 0 := by have := (List.getElem?_eq_some_iff.1 hp).1; simp at this; omega
      rw [hul, hi0] at hv
      rw [hi0] at hp
      simp at hv hp
      subst hv; subst hp
      exact hu
  · by_cases hi : i < us2.length
    · rw [List.getElem?_append_left hi] at hv
      exact h.re i v hv
    · rw [List.getElem?_append_right (by omega)] at hv
      have hi0 : i - us2.length = 0 := by have := (List.getElem?_eq_some_iff.1 hv).1; simp at this; omega
      rw [hi0] at hv
      simp at hv
      subst hv
      exact pu
end
end Go.Proofs.Ytniggacgkhkgiaa.Pref
