/- What the reference's Add does to its object. Conditions: the receiver lies in memory as Frep says; its lists are rising and short. -/
import Derived.Test.YtcdjeblcmgghhaaCrumbRef3
import Derived.Test.YtcdjeblcmgghhaaCrumb1
namespace Go.Sp
open Go.RowKit

abbrev PL := List (Int × List Int)
def pt1 (t : Int) (l : List Int) (s : PL × Bool) (p : Int × List Int) : PL × Bool := if !s.2 && decide (t < p.1) then (s.1 ++ [(t, l), p], true) else (s.1 ++ [p], s.2)
def putTo (t : Int) (l : List Int) (M : PL) : PL × Bool := M.foldl (pt1 t l) ([], false)
theorem putTo_snoc (t : Int) (l : List Int) (p : Int × List Int) (M : PL) : putTo t l (M ++ [p]) = pt1 t l (putTo t l M) p := by simp [putTo, List.foldl_append]
theorem putTo_len (t : Int) (l : List Int) (M : PL) : (putTo t l M).1.length ≤ 2 * M.length := by
  have h : ∀ (M : PL) (s : PL × Bool), (M.foldl (pt1 t l) s).1.length ≤ s.1.length + 2 * M.length := by
    intro M
    induction M with
    | nil => intro s; simp
    | cons y r ih =>
      intro s
      have := ih (pt1 t l s y)
      rw [List.foldl_cons]
      have h2 : (pt1 t l s y).1.length ≤ s.1.length + 2 := by unfold pt1; split <;> simp
      simp; omega
  simpa [putTo] using h M ([], false)
theorem putTo_after (t : Int) (l : List Int) : ∀ (M a : PL), M.foldl (pt1 t l) (a, true) = (a ++ M, true)
  | [], a => by simp
  | y :: r, a => by
    rw [List.foldl_cons]
    have : pt1 t l (a, true) y = (a ++ [y], true) := by simp [pt1]
    rw [this, putTo_after t l r]; simp
theorem putTo_from (t : Int) (l : List Int) : ∀ (M a : PL), (∀ p ∈ M, p.1 ≠ t) → M.foldl (pt1 t l) (a, false) = if M.any (fun y => decide (t < y.1)) then (a ++ mput t l M, true) else (a ++ M, false)
  | [], a, _ => by simp
  | y :: r, a, hn => by
    rw [List.foldl_cons]
    have hy := hn y List.mem_cons_self
    by_cases h : t < y.1
    · have : pt1 t l (a, false) y = (a ++ [(t, l), y], true) := by simp [pt1, h]
      rw [this, putTo_after]
      simp [h, mput]
    · have : pt1 t l (a, false) y = (a ++ [y], false) := by simp [pt1, h]
      rw [this, putTo_from t l r _ (fun p hp => hn p (List.mem_cons_of_mem _ hp))]
      simp only [List.any_cons, h, decide_false, Bool.false_or]
      split <;> simp [mput, h, hy]
theorem mput_last (t : Int) (l : List Int) : ∀ {M : PL}, (∀ p ∈ M, p.1 ≠ t) → M.any (fun y => decide (t < y.1)) = false → mput t l M = M ++ [(t, l)]
  | [], _, _ => rfl
  | y :: r, hn, h => by
    simp only [List.any_cons, Bool.or_eq_false_iff, decide_eq_false_iff_not] at h
    unfold mput
    rw [if_neg h.1, if_neg (hn y List.mem_cons_self), mput_last t l (fun p hp => hn p (List.mem_cons_of_mem _ hp)) h.2]; rfl
theorem putTo_put (t : Int) (l : List Int) {M : PL} (hn : ∀ p ∈ M, p.1 ≠ t) : (if (putTo t l M).2 then (putTo t l M).1 else (putTo t l M).1 ++ [(t, l)]) = mput t l M := by
  unfold putTo
  rw [putTo_from t l M [] hn]
  cases h : M.any (fun y => decide (t < y.1)) with
  | true => simp
  | false => simp [mput_last t l hn h]
theorem mput_mdel {α : Type} (t : Int) (v : α) {m : List (Int × α)} (hs : KS m) : mput t v (mdel t m) = mput t v m :=
  KS.ext hs.mdel.mput hs.mput fun k => by
    rw [mget_mput, mget_mput, mget_mdel]
    by_cases e : k = t <;> simp [e]
end Go.Sp
