/- What the reference's small words of layers 5 and 9 say. Conditions: a part names nobody. -/
import Derived.Test.YtcdjeblcmgghhaaMsg5
namespace Go.Proofs.Ytcdjeblcmgghhaa.Msg
open Go.RowKit Go.Sp

theorem in82_any (w : World) (n lo hi : Int) : Calls Try.prog 82 #[.int .i64 n, .int .i64 lo, .int .i64 hi] w fun e w' => e = .returned (.bool (wi n lo hi)) ∧ w = w' := by
  go_enter Try.func82, Try.ntmps82
  by_cases h : lo ≤ n
  · have h1 : decide (lo ≤ n) = true := decide_eq_true h
    go_wp2
    go_ret
    exact ⟨by simp [wi, h], by first | rfl | trivial⟩
  · have h1 : decide (lo ≤ n) = false := decide_eq_false h
    go_wp2
    go_ret
    exact ⟨by simp only [wi, h1, Bool.false_and]; rfl, by first | rfl | trivial⟩

set_option maxRecDepth 100000 in
set_option maxHeartbeats 1000000 in
theorem right05_any (w : World) (x : Spn) : Calls Try.prog 27 #[.agg #[.int .i64 x.1, .int .i64 x.2.1, .string x.2.2]] w fun e w' => e = .returned (.bool (rightSp x)) ∧ Below w.heap.size w w' := by
  obtain ⟨t, q, s⟩ := x
  unfold rightSp
  go_enter Try.func27, Try.ntmps27
  have hb : Below w.heap.size w (w.alloc (.cells #[.int .i64 t, .int .i64 q, .string s] 63)) := (Below.refl _ w).alloc (Nat.le_refl _) _
  by_cases h1 : 1 ≤ t
  · have b1 : decide (1 ≤ t) = true := decide_eq_true h1
    by_cases h2 : t ≤ 65535
    · have b2 : decide (t ≤ 65535) = true := decide_eq_true h2
      by_cases h3 : 1 ≤ q
      · have b3 : decide (1 ≤ q) = true := decide_eq_true h3
        by_cases h4 : q ≤ 2147483648
        · have b4 : decide (q ≤ 2147483648) = true := decide_eq_true h4
          go_wp2
          go_ret
          exact ⟨by simp [h1, h2, h3, h4], hb⟩
        · have b4 : decide (q ≤ 2147483648) = false := decide_eq_false h4
          go_wp2
          go_ret
          exact ⟨by simp [h4], hb⟩
      · have b3 : decide (1 ≤ q) = false := decide_eq_false h3
        go_wp2
        go_ret
        exact ⟨by simp [h3], hb⟩
    · have b2 : decide (t ≤ 65535) = false := decide_eq_false h2
      go_wp2
      go_ret
      exact ⟨by simp [h2], hb⟩
  · have b1 : decide (1 ≤ t) = false := decide_eq_false h1
    go_wp2
    go_ret
    exact ⟨by simp [h1], hb⟩

set_option maxRecDepth 100000 in
set_option maxHeartbeats 2000000 in
theorem part81_any (w : World) (a t j n : Int) (l : Bool) : Calls Try.prog 81 #[.agg #[.int .i64 a, .int .i64 t, .int .i64 j, .int .i64 n, .slice none 0 0, .bool l]] w fun e w' => e = .returned (.bool (rightP ⟨a, t, j, n, .slice none 0 0, [], l⟩)) ∧ Below w.heap.size w w' := by
  have hA := below_alloc (Below.refl w.heap.size w) (.cells #[.int .i64 a, .int .i64 t, .int .i64 j, .int .i64 n, .slice none 0 0, .bool l] 30)
  go_enter Try.func81, Try.ntmps81
  cases h0 : wi a 0 3 with
  | false =>
    go_wp2_with (go_at_call 82; refine (in82_any _ _ _ _).mono ?_; rintro e w' ⟨rfl, rfl⟩)
    go_ret
    exact ⟨by simp [rightP, h0], hA⟩
  | true =>
    cases h1 : wi t 1 65535 with
    | false =>
      go_wp2_with (go_at_call 82; refine (in82_any _ _ _ _).mono ?_; rintro e w' ⟨rfl, rfl⟩)
      go_ret
      exact ⟨by simp [rightP, h0, h1], hA⟩
    | true =>
      cases h2 : wi j 1 1073741824 with
      | false =>
        go_wp2_with (go_at_call 82; refine (in82_any _ _ _ _).mono ?_; rintro e w' ⟨rfl, rfl⟩)
        go_ret
        exact ⟨by simp [rightP, h0, h1, h2], hA⟩
      | true =>
        cases h3 : wi n 0 1000 with
        | false =>
          go_wp2_with (go_at_call 82; refine (in82_any _ _ _ _).mono ?_; rintro e w' ⟨rfl, rfl⟩)
          go_ret
          exact ⟨by simp [rightP, h0, h1, h2, h3], hA⟩
        | true =>
          go_wp2_with (go_at_call 82; refine (in82_any _ _ _ _).mono ?_; rintro e w' ⟨rfl, rfl⟩)
          go_loopw [3] (fun i wr => i = .int .i64 0 ∧ wr = w.alloc (.cells #[.int .i64 a, .int .i64 t, .int .i64 j, .int .i64 n, .slice none 0 0, .bool l] 30)) (fun i _ => (intOf i).toNat)
          case atStart => exact ⟨rfl, rfl⟩
          case round =>
            obtain ⟨rfl, rfl⟩ := hrel
            go_wp2
            go_ret
            exact ⟨by simp [rightP, agOk, h0, h1, h2, h3], hA⟩
end Go.Proofs.Ytcdjeblcmgghhaa.Msg
