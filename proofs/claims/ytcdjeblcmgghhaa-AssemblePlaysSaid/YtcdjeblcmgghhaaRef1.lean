/- What the reference's Right says of messages of the kinds but Chunk and Manifest. Conditions: a Pinned names nobody. -/
import Derived.Test.YtcdjeblcmgghhaaRef0
namespace Go.Sp
open Go.RowKit
/-- the document's message: fifteen cells -/
structure Ms where
  k : Int
  a : Int
  t : Int
  j : Int
  c : Int
  i : Int
  n : Int
  p : Pt
  pv : Value
  sv : Value
def zPt : Pt := ⟨0, 0, 0, 0, .slice none 0 0, [], false⟩
def eMs (m : Ms) : List Value := [.int .i64 m.k, .int .i64 m.a, .int .i64 m.t, .int .i64 m.j, .int .i64 m.c, .int .i64 m.i, .int .i64 m.n, .int .i64 m.p.a, .int .i64 m.p.t, .int .i64 m.p.j, .int .i64 m.p.n, m.p.cv, .bool m.p.l, m.pv, m.sv]
/-- a message as the document has it; a manifest's parts lie anew in pv' -/
def likeM (pv' : Value) : Mg → Ms
  | .trig a t c => ⟨1, a, t, 0, c, 0, 0, zPt, .slice none 0 0, .slice none 0 0⟩
  | .pin t j => ⟨2, 0, t, j, 0, 0, 0, zPt, .slice none 0 0, .slice none 0 0⟩
  | .pinned p => ⟨3, 0, 0, 0, 0, 0, 0, p, .slice none 0 0, .slice none 0 0⟩
  | .gone a t j => ⟨4, a, t, j, 0, 0, 0, zPt, .slice none 0 0, .slice none 0 0⟩
  | .coll t j => ⟨5, 0, t, j, 0, 0, 0, zPt, .slice none 0 0, .slice none 0 0⟩
  | .chunk a t j i n sv _ => ⟨6, a, t, j, 0, i, n, zPt, .slice none 0 0, sv⟩
  | .mani t j c _ _ => ⟨7, 0, t, j, c, 0, 0, zPt, pv', .slice none 0 0⟩
  | .stor t j => ⟨8, 0, t, j, 0, 0, 0, zPt, .slice none 0 0, .slice none 0 0⟩
  | .unp t j => ⟨9, 0, t, j, 0, 0, 0, zPt, .slice none 0 0, .slice none 0 0⟩
  | .unpd a t j => ⟨10, a, t, j, 0, 0, 0, zPt, .slice none 0 0, .slice none 0 0⟩
  | .none => ⟨0, 0, 0, 0, 0, 0, 0, zPt, .slice none 0 0, .slice none 0 0⟩
end Go.Sp
namespace Go.Proofs.Ytcdjeblcmgghhaa.Msg
open Go.RowKit Go.Sp

set_option maxRecDepth 100000 in
set_option maxHeartbeats 4000000 in
theorem r59_trig (w : World) (a t c : Int) : Calls Try.prog 59 #[.agg #[.int .i64 1, .int .i64 a, .int .i64 t, .int .i64 0, .int .i64 c, .int .i64 0, .int .i64 0, .int .i64 0, .int .i64 0, .int .i64 0, .int .i64 0, .slice none 0 0, .bool false, .slice none 0 0, .slice none 0 0]] w fun e w' => e = .returned (.bool (rightM (.trig a t c))) ∧ Below w.heap.size w w' := by
  have hA := below_alloc (Below.refl w.heap.size w) (.cells #[.int .i64 1, .int .i64 a, .int .i64 t, .int .i64 0, .int .i64 c, .int .i64 0, .int .i64 0, .int .i64 0, .int .i64 0, .int .i64 0, .int .i64 0, .slice none 0 0, .bool false, .slice none 0 0, .slice none 0 0] 34)
  go_enter Try.func59, Try.ntmps59
  cases h0 : wi t 1 65535 with
  | false =>
    go_wp2_with (go_at_call 82; refine (in82_any _ _ _ _).mono ?_; rintro e w' ⟨rfl, rfl⟩)
    go_ret
    exact ⟨by simp [rightM, h0], hA⟩
  | true =>
    cases h1 : wi a 0 3 with
    | false =>
      go_wp2_with (go_at_call 82; refine (in82_any _ _ _ _).mono ?_; rintro e w' ⟨rfl, rfl⟩)
      go_ret
      exact ⟨by simp [rightM, h0, h1], hA⟩
    | true =>
      cases h2 : wi c 0 3 with
      | false =>
        go_wp2_with (go_at_call 82; refine (in82_any _ _ _ _).mono ?_; rintro e w' ⟨rfl, rfl⟩)
        go_ret
        exact ⟨by simp [rightM, h0, h1, h2], hA⟩
      | true =>
        go_wp2_with (go_at_call 82; refine (in82_any _ _ _ _).mono ?_; rintro e w' ⟨rfl, rfl⟩)
        go_ret
        exact ⟨by simp [rightM, h0, h1, h2], hA⟩
set_option maxRecDepth 100000 in
set_option maxHeartbeats 4000000 in
theorem r59_pin (w : World) (t j : Int) : Calls Try.prog 59 #[.agg #[.int .i64 2, .int .i64 0, .int .i64 t, .int .i64 j, .int .i64 0, .int .i64 0, .int .i64 0, .int .i64 0, .int .i64 0, .int .i64 0, .int .i64 0, .slice none 0 0, .bool false, .slice none 0 0, .slice none 0 0]] w fun e w' => e = .returned (.bool (rightM (.pin t j))) ∧ Below w.heap.size w w' := by
  have hA := below_alloc (Below.refl w.heap.size w) (.cells #[.int .i64 2, .int .i64 0, .int .i64 t, .int .i64 j, .int .i64 0, .int .i64 0, .int .i64 0, .int .i64 0, .int .i64 0, .int .i64 0, .int .i64 0, .slice none 0 0, .bool false, .slice none 0 0, .slice none 0 0] 34)
  go_enter Try.func59, Try.ntmps59
  cases h0 : wi t 1 65535 with
  | false =>
    go_wp2_with (go_at_call 82; refine (in82_any _ _ _ _).mono ?_; rintro e w' ⟨rfl, rfl⟩)
    go_ret
    exact ⟨by simp [rightM, h0], hA⟩
  | true =>
    cases h1 : wi j 1 1073741824 with
    | false =>
      go_wp2_with (go_at_call 82; refine (in82_any _ _ _ _).mono ?_; rintro e w' ⟨rfl, rfl⟩)
      go_ret
      exact ⟨by simp [rightM, h0, h1], hA⟩
    | true =>
      go_wp2_with (go_at_call 82; refine (in82_any _ _ _ _).mono ?_; rintro e w' ⟨rfl, rfl⟩)
      go_ret
      exact ⟨by simp [rightM, h0, h1], hA⟩
set_option maxRecDepth 100000 in
set_option maxHeartbeats 4000000 in
theorem r59_gone (w : World) (a t j : Int) : Calls Try.prog 59 #[.agg #[.int .i64 4, .int .i64 a, .int .i64 t, .int .i64 j, .int .i64 0, .int .i64 0, .int .i64 0, .int .i64 0, .int .i64 0, .int .i64 0, .int .i64 0, .slice none 0 0, .bool false, .slice none 0 0, .slice none 0 0]] w fun e w' => e = .returned (.bool (rightM (.gone a t j))) ∧ Below w.heap.size w w' := by
  have hA := below_alloc (Below.refl w.heap.size w) (.cells #[.int .i64 4, .int .i64 a, .int .i64 t, .int .i64 j, .int .i64 0, .int .i64 0, .int .i64 0, .int .i64 0, .int .i64 0, .int .i64 0, .int .i64 0, .slice none 0 0, .bool false, .slice none 0 0, .slice none 0 0] 34)
  go_enter Try.func59, Try.ntmps59
  cases h0 : wi t 1 65535 with
  | false =>
    go_wp2_with (go_at_call 82; refine (in82_any _ _ _ _).mono ?_; rintro e w' ⟨rfl, rfl⟩)
    go_ret
    exact ⟨by simp [rightM, h0], hA⟩
  | true =>
    cases h1 : wi j 1 1073741824 with
    | false =>
      go_wp2_with (go_at_call 82; refine (in82_any _ _ _ _).mono ?_; rintro e w' ⟨rfl, rfl⟩)
      go_ret
      exact ⟨by simp [rightM, h0, h1], hA⟩
    | true =>
      cases h2 : wi a 0 3 with
      | false =>
        go_wp2_with (go_at_call 82; refine (in82_any _ _ _ _).mono ?_; rintro e w' ⟨rfl, rfl⟩)
        go_ret
        exact ⟨by simp [rightM, h0, h1, h2], hA⟩
      | true =>
        go_wp2_with (go_at_call 82; refine (in82_any _ _ _ _).mono ?_; rintro e w' ⟨rfl, rfl⟩)
        go_ret
        exact ⟨by simp [rightM, h0, h1, h2], hA⟩
set_option maxRecDepth 100000 in
set_option maxHeartbeats 4000000 in
theorem r59_coll (w : World) (t j : Int) : Calls Try.prog 59 #[.agg #[.int .i64 5, .int .i64 0, .int .i64 t, .int .i64 j, .int .i64 0, .int .i64 0, .int .i64 0, .int .i64 0, .int .i64 0, .int .i64 0, .int .i64 0, .slice none 0 0, .bool false, .slice none 0 0, .slice none 0 0]] w fun e w' => e = .returned (.bool (rightM (.coll t j))) ∧ Below w.heap.size w w' := by
  have hA := below_alloc (Below.refl w.heap.size w) (.cells #[.int .i64 5, .int .i64 0, .int .i64 t, .int .i64 j, .int .i64 0, .int .i64 0, .int .i64 0, .int .i64 0, .int .i64 0, .int .i64 0, .int .i64 0, .slice none 0 0, .bool false, .slice none 0 0, .slice none 0 0] 34)
  go_enter Try.func59, Try.ntmps59
  cases h0 : wi t 1 65535 with
  | false =>
    go_wp2_with (go_at_call 82; refine (in82_any _ _ _ _).mono ?_; rintro e w' ⟨rfl, rfl⟩)
    go_ret
    exact ⟨by simp [rightM, h0], hA⟩
  | true =>
    cases h1 : wi j 1 1073741824 with
    | false =>
      go_wp2_with (go_at_call 82; refine (in82_any _ _ _ _).mono ?_; rintro e w' ⟨rfl, rfl⟩)
      go_ret
      exact ⟨by simp [rightM, h0, h1], hA⟩
    | true =>
      go_wp2_with (go_at_call 82; refine (in82_any _ _ _ _).mono ?_; rintro e w' ⟨rfl, rfl⟩)
      go_ret
      exact ⟨by simp [rightM, h0, h1], hA⟩
set_option maxRecDepth 100000 in
set_option maxHeartbeats 4000000 in
theorem r59_stor (w : World) (t j : Int) : Calls Try.prog 59 #[.agg #[.int .i64 8, .int .i64 0, .int .i64 t, .int .i64 j, .int .i64 0, .int .i64 0, .int .i64 0, .int .i64 0, .int .i64 0, .int .i64 0, .int .i64 0, .slice none 0 0, .bool false, .slice none 0 0, .slice none 0 0]] w fun e w' => e = .returned (.bool (rightM (.stor t j))) ∧ Below w.heap.size w w' := by
  have hA := below_alloc (Below.refl w.heap.size w) (.cells #[.int .i64 8, .int .i64 0, .int .i64 t, .int .i64 j, .int .i64 0, .int .i64 0, .int .i64 0, .int .i64 0, .int .i64 0, .int .i64 0, .int .i64 0, .slice none 0 0, .bool false, .slice none 0 0, .slice none 0 0] 34)
  go_enter Try.func59, Try.ntmps59
  cases h0 : wi t 1 65535 with
  | false =>
    go_wp2_with (go_at_call 82; refine (in82_any _ _ _ _).mono ?_; rintro e w' ⟨rfl, rfl⟩)
    go_ret
    exact ⟨by simp [rightM, h0], hA⟩
  | true =>
    cases h1 : wi j 1 1073741824 with
    | false =>
      go_wp2_with (go_at_call 82; refine (in82_any _ _ _ _).mono ?_; rintro e w' ⟨rfl, rfl⟩)
      go_ret
      exact ⟨by simp [rightM, h0, h1], hA⟩
    | true =>
      go_wp2_with (go_at_call 82; refine (in82_any _ _ _ _).mono ?_; rintro e w' ⟨rfl, rfl⟩)
      go_ret
      exact ⟨by simp [rightM, h0, h1], hA⟩
set_option maxRecDepth 100000 in
set_option maxHeartbeats 4000000 in
theorem r59_unp (w : World) (t j : Int) : Calls Try.prog 59 #[.agg #[.int .i64 9, .int .i64 0, .int .i64 t, .int .i64 j, .int .i64 0, .int .i64 0, .int .i64 0, .int .i64 0, .int .i64 0, .int .i64 0, .int .i64 0, .slice none 0 0, .bool false, .slice none 0 0, .slice none 0 0]] w fun e w' => e = .returned (.bool (rightM (.unp t j))) ∧ Below w.heap.size w w' := by
  have hA := below_alloc (Below.refl w.heap.size w) (.cells #[.int .i64 9, .int .i64 0, .int .i64 t, .int .i64 j, .int .i64 0, .int .i64 0, .int .i64 0, .int .i64 0, .int .i64 0, .int .i64 0, .int .i64 0, .slice none 0 0, .bool false, .slice none 0 0, .slice none 0 0] 34)
  go_enter Try.func59, Try.ntmps59
  cases h0 : wi t 1 65535 with
  | false =>
    go_wp2_with (go_at_call 82; refine (in82_any _ _ _ _).mono ?_; rintro e w' ⟨rfl, rfl⟩)
    go_ret
    exact ⟨by simp [rightM, h0], hA⟩
  | true =>
    cases h1 : wi j 1 1073741824 with
    | false =>
      go_wp2_with (go_at_call 82; refine (in82_any _ _ _ _).mono ?_; rintro e w' ⟨rfl, rfl⟩)
      go_ret
      exact ⟨by simp [rightM, h0, h1], hA⟩
    | true =>
      go_wp2_with (go_at_call 82; refine (in82_any _ _ _ _).mono ?_; rintro e w' ⟨rfl, rfl⟩)
      go_ret
      exact ⟨by simp [rightM, h0, h1], hA⟩
set_option maxRecDepth 100000 in
set_option maxHeartbeats 4000000 in
theorem r59_unpd (w : World) (a t j : Int) : Calls Try.prog 59 #[.agg #[.int .i64 10, .int .i64 a, .int .i64 t, .int .i64 j, .int .i64 0, .int .i64 0, .int .i64 0, .int .i64 0, .int .i64 0, .int .i64 0, .int .i64 0, .slice none 0 0, .bool false, .slice none 0 0, .slice none 0 0]] w fun e w' => e = .returned (.bool (rightM (.unpd a t j))) ∧ Below w.heap.size w w' := by
  have hA := below_alloc (Below.refl w.heap.size w) (.cells #[.int .i64 10, .int .i64 a, .int .i64 t, .int .i64 j, .int .i64 0, .int .i64 0, .int .i64 0, .int .i64 0, .int .i64 0, .int .i64 0, .int .i64 0, .slice none 0 0, .bool false, .slice none 0 0, .slice none 0 0] 34)
  go_enter Try.func59, Try.ntmps59
  cases h0 : wi t 1 65535 with
  | false =>
    go_wp2_with (go_at_call 82; refine (in82_any _ _ _ _).mono ?_; rintro e w' ⟨rfl, rfl⟩)
    go_ret
    exact ⟨by simp [rightM, h0], hA⟩
  | true =>
    cases h1 : wi j 1 1073741824 with
    | false =>
      go_wp2_with (go_at_call 82; refine (in82_any _ _ _ _).mono ?_; rintro e w' ⟨rfl, rfl⟩)
      go_ret
      exact ⟨by simp [rightM, h0, h1], hA⟩
    | true =>
      cases h2 : wi a 0 3 with
      | false =>
        go_wp2_with (go_at_call 82; refine (in82_any _ _ _ _).mono ?_; rintro e w' ⟨rfl, rfl⟩)
        go_ret
        exact ⟨by simp [rightM, h0, h1, h2], hA⟩
      | true =>
        go_wp2_with (go_at_call 82; refine (in82_any _ _ _ _).mono ?_; rintro e w' ⟨rfl, rfl⟩)
        go_ret
        exact ⟨by simp [rightM, h0, h1, h2], hA⟩
set_option maxRecDepth 100000 in
set_option maxHeartbeats 4000000 in
theorem r59_pinned (w : World) (a t j n : Int) (l : Bool) : Calls Try.prog 59 #[.agg #[.int .i64 3, .int .i64 0, .int .i64 0, .int .i64 0, .int .i64 0, .int .i64 0, .int .i64 0, .int .i64 a, .int .i64 t, .int .i64 j, .int .i64 n, .slice none 0 0, .bool l, .slice none 0 0, .slice none 0 0]] w fun e w' => e = .returned (.bool (rightM (.pinned ⟨a, t, j, n, .slice none 0 0, [], l⟩))) ∧ Below w.heap.size w w' := by
  have hA := below_alloc (Below.refl w.heap.size w) (.cells #[.int .i64 3, .int .i64 0, .int .i64 0, .int .i64 0, .int .i64 0, .int .i64 0, .int .i64 0, .int .i64 a, .int .i64 t, .int .i64 j, .int .i64 n, .slice none 0 0, .bool l, .slice none 0 0, .slice none 0 0] 34)
  go_enter Try.func59, Try.ntmps59
  go_wp2_with fail
  refine (part81_any _ a t j n l).mono ?_
  rintro e w1 ⟨rfl, hb⟩
  have hb1 := below_trans' hb hA
  go_wp2
  go_ret
  exact ⟨rfl, hb1⟩
set_option maxRecDepth 100000 in
set_option maxHeartbeats 4000000 in
theorem r59_none (w : World) : Calls Try.prog 59 #[.agg #[.int .i64 0, .int .i64 0, .int .i64 0, .int .i64 0, .int .i64 0, .int .i64 0, .int .i64 0, .int .i64 0, .int .i64 0, .int .i64 0, .int .i64 0, .slice none 0 0, .bool false, .slice none 0 0, .slice none 0 0]] w fun e w' => e = .returned (.bool (rightM .none)) ∧ Below w.heap.size w w' := by
  have hA := below_alloc (Below.refl w.heap.size w) (.cells #[.int .i64 0, .int .i64 0, .int .i64 0, .int .i64 0, .int .i64 0, .int .i64 0, .int .i64 0, .int .i64 0, .int .i64 0, .int .i64 0, .int .i64 0, .slice none 0 0, .bool false, .slice none 0 0, .slice none 0 0] 34)
  have h0 : wi 0 1 65535 = false := rfl
  go_enter Try.func59, Try.ntmps59
  go_wp2_with (go_at_call 82; refine (in82_any _ _ _ _).mono ?_; rintro e w' ⟨rfl, rfl⟩)
  go_ret
  exact ⟨rfl, hA⟩
end Go.Proofs.Ytcdjeblcmgghhaa.Msg
