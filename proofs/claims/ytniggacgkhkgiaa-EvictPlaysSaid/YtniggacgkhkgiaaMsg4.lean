/- What msg.Right says of a message. Conditions: the message's slices lie in memory. -/
import Derived.Test.YtniggacgkhkgiaaMsg3
namespace Go.Sp
open Go.RowKit
def rightP (p : Pt) : Bool := wi p.t 1 65535 && (wi p.a 0 3 && (wi p.j 1 1073741824 && (wi p.n 0 1000 && agOk (-1) p.cl)))
def partsOk (t j : Int) (ps : List Pt) : Bool := (ps.all fun p => rightP p && (decide (p.t = t) && decide (p.j = j))) && (decide (0 < ps.length) && agOk (-1) (ps.map fun p => p.a))
/-- may the message be? -/
def rightM : Mg → Bool
  | .pinned p => rightP p
  | .mani t j c _ ps => wi t 1 65535 && (wi j 1 1073741824 && (wi c 0 3 && partsOk t j ps))
  | .none => false
  | .trig a t c => wi t 1 65535 && (wi a 0 3 && (wi c 0 3))
  | .pin t j => wi t 1 65535 && (wi j 1 1073741824)
  | .gone a t j => wi t 1 65535 && (wi a 0 3 && (wi j 1 1073741824))
  | .coll t j => wi t 1 65535 && (wi j 1 1073741824)
  | .chunk a t j i n _ xs => wi t 1 65535 && (wi a 0 3 && (wi j 1 1073741824 && (wi n 1 500 && (wi i 0 (n - 1) && (decide (xs.length ≤ 2) && ((xs.all fun x => rightSp x && decide (x.1 = t))))))))
  | .stor t j => wi t 1 65535 && (wi j 1 1073741824)
  | .unp t j => wi t 1 65535 && (wi j 1 1073741824)
  | .unpd a t j => wi t 1 65535 && (wi a 0 3 && (wi j 1 1073741824))
end Go.Sp
namespace Go.Proofs.Ytniggacgkhkgiaa.Msg
open Go.RowKit Go.Sp
theorem below_alloc {x y : World} (h : Below x.heap.size x y) (o : Obj) : Below x.heap.size x (y.alloc o) := h.alloc h.size o
theorem below_trans' {x y z : World} (h2 : Below y.heap.size y z) (h1 : Below x.heap.size x y) : Below x.heap.size x z := h1.trans (h2.mono h1.size)
theorem cell_new1 (w : World) (v : Value) (t : TypeId) : (w.alloc (.cells #[v] t)).cell? ⟨w.heap.size, 0, none⟩ = some v := by unfold World.cell?; rw [heap_new _ _ rfl]; rfl
theorem cell_alloc {y : World} {p : Addr} {v : Value} (h : y.cell? p = some v) (o : Obj) : (y.alloc o).cell? p = some v := by rw [World.cell?_alloc_lt _ _ _ (World.block_lt_of_cell? _ _ h)]; exact h

set_option maxRecDepth 100000 in
set_option maxHeartbeats 4000000 in
theorem right_gone (w : World) (a t j : Int) (h : InMem w (.gone a t j)) : Calls Try.prog 35 #[val (.gone a t j)] w fun e w' => e = .returned (.bool (rightM (.gone a t j))) ∧ Below w.heap.size w w' := by
  have H := of_any w _ h
  have HA := fun (w1 : World) (hb : Below w.heap.size w w1) => agent_any w1 _ (h.below hb)
  simp only [val, mT, mJ, mOk, mA, Option.getD, Option.isSome] at H HA ⊢
  go_enter Try.func35, Try.ntmps35
  go_wp2_with fail
  refine H.mono ?_
  rintro e w1 ⟨rfl, hb1⟩
  have hb2 := below_alloc hb1 (.cells #[.int .i64 t] 3)
  clear H
  cases h0 : wi t 1 65535 with
  | false =>
    go_wp2_with (go_at_call 83; refine (within_any _ _ _ _).mono ?_; rintro e w' ⟨rfl, rfl⟩)
    go_ret
    exact ⟨by simp [rightM, rightP, h0], by repeat (first | exact hb2 | apply below_alloc | apply belowN)⟩
  | true =>
    cases h1 : wi a 0 3 with
    | false =>
      go_wp2_with (go_at_call 83; refine (within_any _ _ _ _).mono ?_; rintro e w' ⟨rfl, rfl⟩)
      refine (HA _ hb2).mono ?_
      rintro e w2 ⟨rfl, hb3⟩
      have hb4 := hb2.trans (hb3.mono hb2.size)
      go_wp2_with (go_at_call 83; refine (within_any _ _ _ _).mono ?_; rintro e w' ⟨rfl, rfl⟩)
      go_ret
      exact ⟨by simp [rightM, rightP, h0, h1], by repeat (first | exact hb4 | apply below_alloc | apply belowN)⟩
    | true =>
      cases h2 : wi j 1 1073741824 with
      | false =>
        go_wp2_with (go_at_call 83; refine (within_any _ _ _ _).mono ?_; rintro e w' ⟨rfl, rfl⟩)
        refine (HA _ hb2).mono ?_
        rintro e w2 ⟨rfl, hb3⟩
        have hb4 := hb2.trans (hb3.mono hb2.size)
        go_wp2_with (go_at_call 83; refine (within_any _ _ _ _).mono ?_; rintro e w' ⟨rfl, rfl⟩)
        go_ret
        exact ⟨by simp [rightM, rightP, h0, h1, h2], by repeat (first | exact hb4 | apply below_alloc | apply belowN)⟩
      | true =>
        go_wp2_with (go_at_call 83; refine (within_any _ _ _ _).mono ?_; rintro e w' ⟨rfl, rfl⟩)
        refine (HA _ hb2).mono ?_
        rintro e w2 ⟨rfl, hb3⟩
        have hb4 := hb2.trans (hb3.mono hb2.size)
        go_wp2_with (go_at_call 83; refine (within_any _ _ _ _).mono ?_; rintro e w' ⟨rfl, rfl⟩)
        go_ret
        exact ⟨by simp [rightM, rightP, h0, h1, h2], by repeat (first | exact hb4 | apply below_alloc | apply belowN)⟩
set_option maxRecDepth 100000 in
set_option maxHeartbeats 4000000 in
theorem right_trig (w : World) (a t c : Int) (h : InMem w (.trig a t c)) : Calls Try.prog 35 #[val (.trig a t c)] w fun e w' => e = .returned (.bool (rightM (.trig a t c))) ∧ Below w.heap.size w w' := by
  have H := of_any w _ h
  have HA := fun (w1 : World) (hb : Below w.heap.size w w1) => agent_any w1 _ (h.below hb)
  simp only [val, mT, mJ, mOk, mA, Option.getD, Option.isSome] at H HA ⊢
  go_enter Try.func35, Try.ntmps35
  go_wp2_with fail
  refine H.mono ?_
  rintro e w1 ⟨rfl, hb1⟩
  have hb2 := below_alloc hb1 (.cells #[.int .i64 t] 3)
  clear H
  cases h0 : wi t 1 65535 with
  | false =>
    go_wp2_with (go_at_call 83; refine (within_any _ _ _ _).mono ?_; rintro e w' ⟨rfl, rfl⟩)
    go_ret
    exact ⟨by simp [rightM, rightP, h0], by repeat (first | exact hb2 | apply below_alloc | apply belowN)⟩
  | true =>
    cases h1 : wi a 0 3 with
    | false =>
      go_wp2_with (go_at_call 83; refine (within_any _ _ _ _).mono ?_; rintro e w' ⟨rfl, rfl⟩)
      refine (HA _ hb2).mono ?_
      rintro e w2 ⟨rfl, hb3⟩
      have hb4 := hb2.trans (hb3.mono hb2.size)
      go_wp2_with (go_at_call 83; refine (within_any _ _ _ _).mono ?_; rintro e w' ⟨rfl, rfl⟩)
      go_ret
      exact ⟨by simp [rightM, rightP, h0, h1], by repeat (first | exact hb4 | apply below_alloc | apply belowN)⟩
    | true =>
      cases h2 : wi c 0 3 with
      | false =>
        go_wp2_with (go_at_call 83; refine (within_any _ _ _ _).mono ?_; rintro e w' ⟨rfl, rfl⟩)
        refine (HA _ hb2).mono ?_
        rintro e w2 ⟨rfl, hb3⟩
        have hb4 := hb2.trans (hb3.mono hb2.size)
        go_wp2_with (go_at_call 83; refine (within_any _ _ _ _).mono ?_; rintro e w' ⟨rfl, rfl⟩)
        go_ret
        exact ⟨by simp [rightM, rightP, h0, h1, h2], by repeat (first | exact hb4 | apply below_alloc | apply belowN)⟩
      | true =>
        go_wp2_with (go_at_call 83; refine (within_any _ _ _ _).mono ?_; rintro e w' ⟨rfl, rfl⟩)
        refine (HA _ hb2).mono ?_
        rintro e w2 ⟨rfl, hb3⟩
        have hb4 := hb2.trans (hb3.mono hb2.size)
        go_wp2_with (go_at_call 83; refine (within_any _ _ _ _).mono ?_; rintro e w' ⟨rfl, rfl⟩)
        go_ret
        exact ⟨by simp [rightM, rightP, h0, h1, h2], by repeat (first | exact hb4 | apply below_alloc | apply belowN)⟩
set_option maxRecDepth 100000 in
set_option maxHeartbeats 4000000 in
theorem right_pin (w : World) (t j : Int) (h : InMem w (.pin t j)) : Calls Try.prog 35 #[val (.pin t j)] w fun e w' => e = .returned (.bool (rightM (.pin t j))) ∧ Below w.heap.size w w' := by
  have H := of_any w _ h
  have HA := fun (w1 : World) (hb : Below w.heap.size w w1) => agent_any w1 _ (h.below hb)
  simp only [val, mT, mJ, mOk, mA, Option.getD, Option.isSome] at H HA ⊢
  go_enter Try.func35, Try.ntmps35
  go_wp2_with fail
  refine H.mono ?_
  rintro e w1 ⟨rfl, hb1⟩
  have hb2 := below_alloc hb1 (.cells #[.int .i64 t] 3)
  clear H
  cases h0 : wi t 1 65535 with
  | false =>
    go_wp2_with (go_at_call 83; refine (within_any _ _ _ _).mono ?_; rintro e w' ⟨rfl, rfl⟩)
    go_ret
    exact ⟨by simp [rightM, rightP, h0], by repeat (first | exact hb2 | apply below_alloc | apply belowN)⟩
  | true =>
    cases h1 : wi j 1 1073741824 with
    | false =>
      go_wp2_with (go_at_call 83; refine (within_any _ _ _ _).mono ?_; rintro e w' ⟨rfl, rfl⟩)
      refine (HA _ hb2).mono ?_
      rintro e w2 ⟨rfl, hb3⟩
      have hb4 := hb2.trans (hb3.mono hb2.size)
      go_wp2_with (go_at_call 83; refine (within_any _ _ _ _).mono ?_; rintro e w' ⟨rfl, rfl⟩)
      go_ret
      exact ⟨by simp [rightM, rightP, h0, h1], by repeat (first | exact hb4 | apply below_alloc | apply belowN)⟩
    | true =>
      go_wp2_with (go_at_call 83; refine (within_any _ _ _ _).mono ?_; rintro e w' ⟨rfl, rfl⟩)
      refine (HA _ hb2).mono ?_
      rintro e w2 ⟨rfl, hb3⟩
      have hb4 := hb2.trans (hb3.mono hb2.size)
      go_wp2_with (go_at_call 83; refine (within_any _ _ _ _).mono ?_; rintro e w' ⟨rfl, rfl⟩)
      go_ret
      exact ⟨by simp [rightM, rightP, h0, h1], by repeat (first | exact hb4 | apply below_alloc | apply belowN)⟩
set_option maxRecDepth 100000 in
set_option maxHeartbeats 4000000 in
theorem right_coll (w : World) (t j : Int) (h : InMem w (.coll t j)) : Calls Try.prog 35 #[val (.coll t j)] w fun e w' => e = .returned (.bool (rightM (.coll t j))) ∧ Below w.heap.size w w' := by
  have H := of_any w _ h
  have HA := fun (w1 : World) (hb : Below w.heap.size w w1) => agent_any w1 _ (h.below hb)
  simp only [val, mT, mJ, mOk, mA, Option.getD, Option.isSome] at H HA ⊢
  go_enter Try.func35, Try.ntmps35
  go_wp2_with fail
  refine H.mono ?_
  rintro e w1 ⟨rfl, hb1⟩
  have hb2 := below_alloc hb1 (.cells #[.int .i64 t] 3)
  clear H
  cases h0 : wi t 1 65535 with
  | false =>
    go_wp2_with (go_at_call 83; refine (within_any _ _ _ _).mono ?_; rintro e w' ⟨rfl, rfl⟩)
    go_ret
    exact ⟨by simp [rightM, rightP, h0], by repeat (first | exact hb2 | apply below_alloc | apply belowN)⟩
  | true =>
    cases h1 : wi j 1 1073741824 with
    | false =>
      go_wp2_with (go_at_call 83; refine (within_any _ _ _ _).mono ?_; rintro e w' ⟨rfl, rfl⟩)
      refine (HA _ hb2).mono ?_
      rintro e w2 ⟨rfl, hb3⟩
      have hb4 := hb2.trans (hb3.mono hb2.size)
      go_wp2_with (go_at_call 83; refine (within_any _ _ _ _).mono ?_; rintro e w' ⟨rfl, rfl⟩)
      go_ret
      exact ⟨by simp [rightM, rightP, h0, h1], by repeat (first | exact hb4 | apply below_alloc | apply belowN)⟩
    | true =>
      go_wp2_with (go_at_call 83; refine (within_any _ _ _ _).mono ?_; rintro e w' ⟨rfl, rfl⟩)
      refine (HA _ hb2).mono ?_
      rintro e w2 ⟨rfl, hb3⟩
      have hb4 := hb2.trans (hb3.mono hb2.size)
      go_wp2_with (go_at_call 83; refine (within_any _ _ _ _).mono ?_; rintro e w' ⟨rfl, rfl⟩)
      go_ret
      exact ⟨by simp [rightM, rightP, h0, h1], by repeat (first | exact hb4 | apply below_alloc | apply belowN)⟩
set_option maxRecDepth 100000 in
set_option maxHeartbeats 4000000 in
theorem right_stor (w : World) (t j : Int) (h : InMem w (.stor t j)) : Calls Try.prog 35 #[val (.stor t j)] w fun e w' => e = .returned (.bool (rightM (.stor t j))) ∧ Below w.heap.size w w' := by
  have H := of_any w _ h
  have HA := fun (w1 : World) (hb : Below w.heap.size w w1) => agent_any w1 _ (h.below hb)
  simp only [val, mT, mJ, mOk, mA, Option.getD, Option.isSome] at H HA ⊢
  go_enter Try.func35, Try.ntmps35
  go_wp2_with fail
  refine H.mono ?_
  rintro e w1 ⟨rfl, hb1⟩
  have hb2 := below_alloc hb1 (.cells #[.int .i64 t] 3)
  clear H
  cases h0 : wi t 1 65535 with
  | false =>
    go_wp2_with (go_at_call 83; refine (within_any _ _ _ _).mono ?_; rintro e w' ⟨rfl, rfl⟩)
    go_ret
    exact ⟨by simp [rightM, rightP, h0], by repeat (first | exact hb2 | apply below_alloc | apply belowN)⟩
  | true =>
    cases h1 : wi j 1 1073741824 with
    | false =>
      go_wp2_with (go_at_call 83; refine (within_any _ _ _ _).mono ?_; rintro e w' ⟨rfl, rfl⟩)
      refine (HA _ hb2).mono ?_
      rintro e w2 ⟨rfl, hb3⟩
      have hb4 := hb2.trans (hb3.mono hb2.size)
      go_wp2_with (go_at_call 83; refine (within_any _ _ _ _).mono ?_; rintro e w' ⟨rfl, rfl⟩)
      go_ret
      exact ⟨by simp [rightM, rightP, h0, h1], by repeat (first | exact hb4 | apply below_alloc | apply belowN)⟩
    | true =>
      go_wp2_with (go_at_call 83; refine (within_any _ _ _ _).mono ?_; rintro e w' ⟨rfl, rfl⟩)
      refine (HA _ hb2).mono ?_
      rintro e w2 ⟨rfl, hb3⟩
      have hb4 := hb2.trans (hb3.mono hb2.size)
      go_wp2_with (go_at_call 83; refine (within_any _ _ _ _).mono ?_; rintro e w' ⟨rfl, rfl⟩)
      go_ret
      exact ⟨by simp [rightM, rightP, h0, h1], by repeat (first | exact hb4 | apply below_alloc | apply belowN)⟩
set_option maxRecDepth 100000 in
set_option maxHeartbeats 4000000 in
theorem right_unp (w : World) (t j : Int) (h : InMem w (.unp t j)) : Calls Try.prog 35 #[val (.unp t j)] w fun e w' => e = .returned (.bool (rightM (.unp t j))) ∧ Below w.heap.size w w' := by
  have H := of_any w _ h
  have HA := fun (w1 : World) (hb : Below w.heap.size w w1) => agent_any w1 _ (h.below hb)
  simp only [val, mT, mJ, mOk, mA, Option.getD, Option.isSome] at H HA ⊢
  go_enter Try.func35, Try.ntmps35
  go_wp2_with fail
  refine H.mono ?_
  rintro e w1 ⟨rfl, hb1⟩
  have hb2 := below_alloc hb1 (.cells #[.int .i64 t] 3)
  clear H
  cases h0 : wi t 1 65535 with
  | false =>
    go_wp2_with (go_at_call 83; refine (within_any _ _ _ _).mono ?_; rintro e w' ⟨rfl, rfl⟩)
    go_ret
    exact ⟨by simp [rightM, rightP, h0], by repeat (first | exact hb2 | apply below_alloc | apply belowN)⟩
  | true =>
    cases h1 : wi j 1 1073741824 with
    | false =>
      go_wp2_with (go_at_call 83; refine (within_any _ _ _ _).mono ?_; rintro e w' ⟨rfl, rfl⟩)
      refine (HA _ hb2).mono ?_
      rintro e w2 ⟨rfl, hb3⟩
      have hb4 := hb2.trans (hb3.mono hb2.size)
      go_wp2_with (go_at_call 83; refine (within_any _ _ _ _).mono ?_; rintro e w' ⟨rfl, rfl⟩)
      go_ret
      exact ⟨by simp [rightM, rightP, h0, h1], by repeat (first | exact hb4 | apply below_alloc | apply belowN)⟩
    | true =>
      go_wp2_with (go_at_call 83; refine (within_any _ _ _ _).mono ?_; rintro e w' ⟨rfl, rfl⟩)
      refine (HA _ hb2).mono ?_
      rintro e w2 ⟨rfl, hb3⟩
      have hb4 := hb2.trans (hb3.mono hb2.size)
      go_wp2_with (go_at_call 83; refine (within_any _ _ _ _).mono ?_; rintro e w' ⟨rfl, rfl⟩)
      go_ret
      exact ⟨by simp [rightM, rightP, h0, h1], by repeat (first | exact hb4 | apply below_alloc | apply belowN)⟩
set_option maxRecDepth 100000 in
set_option maxHeartbeats 4000000 in
theorem right_unpd (w : World) (a t j : Int) (h : InMem w (.unpd a t j)) : Calls Try.prog 35 #[val (.unpd a t j)] w fun e w' => e = .returned (.bool (rightM (.unpd a t j))) ∧ Below w.heap.size w w' := by
  have H := of_any w _ h
  have HA := fun (w1 : World) (hb : Below w.heap.size w w1) => agent_any w1 _ (h.below hb)
  simp only [val, mT, mJ, mOk, mA, Option.getD, Option.isSome] at H HA ⊢
  go_enter Try.func35, Try.ntmps35
  go_wp2_with fail
  refine H.mono ?_
  rintro e w1 ⟨rfl, hb1⟩
  have hb2 := below_alloc hb1 (.cells #[.int .i64 t] 3)
  clear H
  cases h0 : wi t 1 65535 with
  | false =>
    go_wp2_with (go_at_call 83; refine (within_any _ _ _ _).mono ?_; rintro e w' ⟨rfl, rfl⟩)
    go_ret
    exact ⟨by simp [rightM, rightP, h0], by repeat (first | exact hb2 | apply below_alloc | apply belowN)⟩
  | true =>
    cases h1 : wi a 0 3 with
    | false =>
      go_wp2_with (go_at_call 83; refine (within_any _ _ _ _).mono ?_; rintro e w' ⟨rfl, rfl⟩)
      refine (HA _ hb2).mono ?_
      rintro e w2 ⟨rfl, hb3⟩
      have hb4 := hb2.trans (hb3.mono hb2.size)
      go_wp2_with (go_at_call 83; refine (within_any _ _ _ _).mono ?_; rintro e w' ⟨rfl, rfl⟩)
      go_ret
      exact ⟨by simp [rightM, rightP, h0, h1], by repeat (first | exact hb4 | apply below_alloc | apply belowN)⟩
    | true =>
      cases h2 : wi j 1 1073741824 with
      | false =>
        go_wp2_with (go_at_call 83; refine (within_any _ _ _ _).mono ?_; rintro e w' ⟨rfl, rfl⟩)
        refine (HA _ hb2).mono ?_
        rintro e w2 ⟨rfl, hb3⟩
        have hb4 := hb2.trans (hb3.mono hb2.size)
        go_wp2_with (go_at_call 83; refine (within_any _ _ _ _).mono ?_; rintro e w' ⟨rfl, rfl⟩)
        go_ret
        exact ⟨by simp [rightM, rightP, h0, h1, h2], by repeat (first | exact hb4 | apply below_alloc | apply belowN)⟩
      | true =>
        go_wp2_with (go_at_call 83; refine (within_any _ _ _ _).mono ?_; rintro e w' ⟨rfl, rfl⟩)
        refine (HA _ hb2).mono ?_
        rintro e w2 ⟨rfl, hb3⟩
        have hb4 := hb2.trans (hb3.mono hb2.size)
        go_wp2_with (go_at_call 83; refine (within_any _ _ _ _).mono ?_; rintro e w' ⟨rfl, rfl⟩)
        go_ret
        exact ⟨by simp [rightM, rightP, h0, h1, h2], by repeat (first | exact hb4 | apply below_alloc | apply belowN)⟩
set_option maxRecDepth 100000 in
set_option maxHeartbeats 4000000 in
theorem right_pinned (w : World) (a t j n : Int) (cv : Value) (cl : List Int) (l : Bool) (h : InMem w (.pinned ⟨a, t, j, n, cv, cl, l⟩)) : Calls Try.prog 35 #[val (.pinned ⟨a, t, j, n, cv, cl, l⟩)] w fun e w' => e = .returned (.bool (rightM (.pinned ⟨a, t, j, n, cv, cl, l⟩))) ∧ Below w.heap.size w w' := by
  obtain ⟨_, a', c', hv, _⟩ := id h
  try simp only at hv
  subst hv
  have H := of_any w _ h
  have HA := fun (w1 : World) (hb : Below w.heap.size w w1) => agent_any w1 _ (h.below hb)
  simp only [val, mT, mJ, mOk, mA, Option.getD, Option.isSome] at H HA ⊢
  go_enter Try.func35, Try.ntmps35
  go_wp2_with fail
  refine H.mono ?_
  rintro e w1 ⟨rfl, hb1⟩
  have hb2 := below_alloc hb1 (.cells #[.int .i64 t] 3)
  clear H
  cases h0 : wi t 1 65535 with
  | false =>
    go_wp2_with (go_at_call 83; refine (within_any _ _ _ _).mono ?_; rintro e w' ⟨rfl, rfl⟩)
    go_ret
    exact ⟨by simp [rightM, rightP, h0], by repeat (first | exact hb2 | apply below_alloc | apply belowN)⟩
  | true =>
    cases h1 : wi a 0 3 with
    | false =>
      go_wp2_with (go_at_call 83; refine (within_any _ _ _ _).mono ?_; rintro e w' ⟨rfl, rfl⟩)
      refine (HA _ hb2).mono ?_
      rintro e w2 ⟨rfl, hb3⟩
      have hb4 := hb2.trans (hb3.mono hb2.size)
      go_wp2_with (first | (go_at_call 83; refine (within_any _ _ _ _).mono ?_; rintro e w' ⟨rfl, rfl⟩) | (go_at_call 84; refine (agents_any (RS.only (h : RS w 1 eInt _ cl) (only_of_below (by repeat (first | exact hb4 | apply below_alloc | apply belowN)) (fun _ => False)) (fun _ _ => id))).mono ?_; rintro e w' ⟨rfl, rfl⟩))
      go_ret
      exact ⟨by simp [rightM, rightP, h0, h1], by repeat (first | exact hb4 | apply below_alloc | apply belowN)⟩
    | true =>
      cases h2 : wi j 1 1073741824 with
      | false =>
        go_wp2_with (go_at_call 83; refine (within_any _ _ _ _).mono ?_; rintro e w' ⟨rfl, rfl⟩)
        refine (HA _ hb2).mono ?_
        rintro e w2 ⟨rfl, hb3⟩
        have hb4 := hb2.trans (hb3.mono hb2.size)
        go_wp2_with (first | (go_at_call 83; refine (within_any _ _ _ _).mono ?_; rintro e w' ⟨rfl, rfl⟩) | (go_at_call 84; refine (agents_any (RS.only (h : RS w 1 eInt _ cl) (only_of_below (by repeat (first | exact hb4 | apply below_alloc | apply belowN)) (fun _ => False)) (fun _ _ => id))).mono ?_; rintro e w' ⟨rfl, rfl⟩))
        go_ret
        exact ⟨by simp [rightM, rightP, h0, h1, h2], by repeat (first | exact hb4 | apply below_alloc | apply belowN)⟩
      | true =>
        cases h3 : wi n 0 1000 with
        | false =>
          go_wp2_with (go_at_call 83; refine (within_any _ _ _ _).mono ?_; rintro e w' ⟨rfl, rfl⟩)
          refine (HA _ hb2).mono ?_
          rintro e w2 ⟨rfl, hb3⟩
          have hb4 := hb2.trans (hb3.mono hb2.size)
          go_wp2_with (first | (go_at_call 83; refine (within_any _ _ _ _).mono ?_; rintro e w' ⟨rfl, rfl⟩) | (go_at_call 84; refine (agents_any (RS.only (h : RS w 1 eInt _ cl) (only_of_below (by repeat (first | exact hb4 | apply below_alloc | apply belowN)) (fun _ => False)) (fun _ _ => id))).mono ?_; rintro e w' ⟨rfl, rfl⟩))
          go_ret
          exact ⟨by simp [rightM, rightP, h0, h1, h2, h3], by repeat (first | exact hb4 | apply below_alloc | apply belowN)⟩
        | true =>
          cases h4 : agOk (-1) cl with
          | false =>
            go_wp2_with (go_at_call 83; refine (within_any _ _ _ _).mono ?_; rintro e w' ⟨rfl, rfl⟩)
            refine (HA _ hb2).mono ?_
            rintro e w2 ⟨rfl, hb3⟩
            have hb4 := hb2.trans (hb3.mono hb2.size)
            go_wp2_with (first | (go_at_call 83; refine (within_any _ _ _ _).mono ?_; rintro e w' ⟨rfl, rfl⟩) | (go_at_call 84; refine (agents_any (RS.only (h : RS w 1 eInt _ cl) (only_of_below (by repeat (first | exact hb4 | apply below_alloc | apply belowN)) (fun _ => False)) (fun _ _ => id))).mono ?_; rintro e w' ⟨rfl, rfl⟩))
            go_ret
            exact ⟨by simp [rightM, rightP, h0, h1, h2, h3, h4], by repeat (first | exact hb4 | apply below_alloc | apply belowN)⟩
          | true =>
            go_wp2_with (go_at_call 83; refine (within_any _ _ _ _).mono ?_; rintro e w' ⟨rfl, rfl⟩)
            refine (HA _ hb2).mono ?_
            rintro e w2 ⟨rfl, hb3⟩
            have hb4 := hb2.trans (hb3.mono hb2.size)
            go_wp2_with (first | (go_at_call 83; refine (within_any _ _ _ _).mono ?_; rintro e w' ⟨rfl, rfl⟩) | (go_at_call 84; refine (agents_any (RS.only (h : RS w 1 eInt _ cl) (only_of_below (by repeat (first | exact hb4 | apply below_alloc | apply belowN)) (fun _ => False)) (fun _ _ => id))).mono ?_; rintro e w' ⟨rfl, rfl⟩))
            go_ret
            exact ⟨by simp [rightM, rightP, h0, h1, h2, h3, h4], by repeat (first | exact hb4 | apply below_alloc | apply belowN)⟩
set_option maxRecDepth 100000 in
set_option maxHeartbeats 4000000 in
theorem right_chunk (w : World) (a t j i n : Int) (sv : Value) (xs : List Spn) (h : InMem w (.chunk a t j i n sv xs)) : Calls Try.prog 35 #[val (.chunk a t j i n sv xs)] w fun e w' => e = .returned (.bool (rightM (.chunk a t j i n sv xs))) ∧ Below w.heap.size w w' := by
  obtain ⟨_, a', c', hv, _⟩ := id h
  try simp only at hv
  subst hv
  have H := of_any w _ h
  have HA := fun (w1 : World) (hb : Below w.heap.size w w1) => agent_any w1 _ (h.below hb)
  simp only [val, mT, mJ, mOk, mA, Option.getD, Option.isSome] at H HA ⊢
  go_enter Try.func35, Try.ntmps35
  go_wp2_with fail
  refine H.mono ?_
  rintro e w1 ⟨rfl, hb1⟩
  have hb2 := below_alloc hb1 (.cells #[.int .i64 t] 3)
  clear H
  cases h0 : wi t 1 65535 with
  | false =>
    go_wp2_with (go_at_call 83; refine (within_any _ _ _ _).mono ?_; rintro e w' ⟨rfl, rfl⟩)
    go_ret
    exact ⟨by simp [rightM, rightP, h0], by repeat (first | exact hb2 | apply below_alloc | apply belowN)⟩
  | true =>
    cases h1 : wi a 0 3 with
    | false =>
      go_wp2_with (go_at_call 83; refine (within_any _ _ _ _).mono ?_; rintro e w' ⟨rfl, rfl⟩)
      refine (HA _ hb2).mono ?_
      rintro e w2 ⟨rfl, hb3⟩
      have hb4 := hb2.trans (hb3.mono hb2.size)
      have hct : w2.cell? ⟨w1.heap.size, 0, none⟩ = some (.int .i64 t) := by rw [hb3.cell (p := ⟨w1.heap.size, 0, none⟩) (by simp)]; exact cell_new1 _ _ _
      go_wp2_with (first | (go_at_call 83; refine (within_any _ _ _ _).mono ?_; rintro e w' ⟨rfl, rfl⟩) | (go_at_call 87; refine (contains_any (t := t) (by repeat (first | exact hct | apply cell_alloc)) (RS.only (h : RS w 3 eSpn _ xs) (only_of_below (by repeat (first | exact hb4 | apply below_alloc | apply belowN)) (fun _ => False)) (fun _ _ => id))).mono ?_; rintro e w5 ⟨rfl, hb5⟩))
      go_ret
      exact ⟨by simp [rightM, rightP, h0, h1], by repeat (first | exact hb4 | apply below_alloc | apply belowN)⟩
    | true =>
      cases h2 : wi j 1 1073741824 with
      | false =>
        go_wp2_with (go_at_call 83; refine (within_any _ _ _ _).mono ?_; rintro e w' ⟨rfl, rfl⟩)
        refine (HA _ hb2).mono ?_
        rintro e w2 ⟨rfl, hb3⟩
        have hb4 := hb2.trans (hb3.mono hb2.size)
        have hct : w2.cell? ⟨w1.heap.size, 0, none⟩ = some (.int .i64 t) := by rw [hb3.cell (p := ⟨w1.heap.size, 0, none⟩) (by simp)]; exact cell_new1 _ _ _
        go_wp2_with (first | (go_at_call 83; refine (within_any _ _ _ _).mono ?_; rintro e w' ⟨rfl, rfl⟩) | (go_at_call 87; refine (contains_any (t := t) (by repeat (first | exact hct | apply cell_alloc)) (RS.only (h : RS w 3 eSpn _ xs) (only_of_below (by repeat (first | exact hb4 | apply below_alloc | apply belowN)) (fun _ => False)) (fun _ _ => id))).mono ?_; rintro e w5 ⟨rfl, hb5⟩))
        go_ret
        exact ⟨by simp [rightM, rightP, h0, h1, h2], by repeat (first | exact hb4 | apply below_alloc | apply belowN)⟩
      | true =>
        cases h3 : wi n 1 500 with
        | false =>
          go_wp2_with (go_at_call 83; refine (within_any _ _ _ _).mono ?_; rintro e w' ⟨rfl, rfl⟩)
          refine (HA _ hb2).mono ?_
          rintro e w2 ⟨rfl, hb3⟩
          have hb4 := hb2.trans (hb3.mono hb2.size)
          have hct : w2.cell? ⟨w1.heap.size, 0, none⟩ = some (.int .i64 t) := by rw [hb3.cell (p := ⟨w1.heap.size, 0, none⟩) (by simp)]; exact cell_new1 _ _ _
          go_wp2_with (first | (go_at_call 83; refine (within_any _ _ _ _).mono ?_; rintro e w' ⟨rfl, rfl⟩) | (go_at_call 87; refine (contains_any (t := t) (by repeat (first | exact hct | apply cell_alloc)) (RS.only (h : RS w 3 eSpn _ xs) (only_of_below (by repeat (first | exact hb4 | apply below_alloc | apply belowN)) (fun _ => False)) (fun _ _ => id))).mono ?_; rintro e w5 ⟨rfl, hb5⟩))
          go_ret
          exact ⟨by simp [rightM, rightP, h0, h1, h2, h3], by repeat (first | exact hb4 | apply below_alloc | apply belowN)⟩
        | true =>
          cases h4 : wi i 0 (n - 1) with
          | false =>
            have hn1 : wrap64 (n - 1) = n - 1 := by have := (wi_true.1 h3); unfold wrap64; omega
            have HH := Lib.hid h4
            go_wp2_with (go_at_call 83; refine (within_any _ _ _ _).mono ?_; rintro e w' ⟨rfl, rfl⟩)
            refine (HA _ hb2).mono ?_
            rintro e w2 ⟨rfl, hb3⟩
            have hb4 := hb2.trans (hb3.mono hb2.size)
            have hct : w2.cell? ⟨w1.heap.size, 0, none⟩ = some (.int .i64 t) := by rw [hb3.cell (p := ⟨w1.heap.size, 0, none⟩) (by simp)]; exact cell_new1 _ _ _
            go_wp2_with (first | (go_at_call 83; refine (within_any _ _ _ _).mono ?_; rintro e w' ⟨rfl, rfl⟩) | (go_at_call 87; refine (contains_any (t := t) (by repeat (first | exact hct | apply cell_alloc)) (RS.only (h : RS w 3 eSpn _ xs) (only_of_below (by repeat (first | exact hb4 | apply below_alloc | apply belowN)) (fun _ => False)) (fun _ _ => id))).mono ?_; rintro e w5 ⟨rfl, hb5⟩))
            go_ret
            exact ⟨by simp [rightM, rightP, h0, h1, h2, h3, h4], by repeat (first | exact hb4 | apply below_alloc | apply belowN)⟩
          | true =>
            cases h5 : decide (xs.length ≤ 2) with
            | false =>
              have hn1 : wrap64 (n - 1) = n - 1 := by have := (wi_true.1 h3); unfold wrap64; omega
              have hd5 : decide ((xs.length : Int) ≤ 2) = false := by simp at h5 ⊢; omega
              have HH := Lib.hid h5
              go_wp2_with (go_at_call 83; refine (within_any _ _ _ _).mono ?_; rintro e w' ⟨rfl, rfl⟩)
              refine (HA _ hb2).mono ?_
              rintro e w2 ⟨rfl, hb3⟩
              have hb4 := hb2.trans (hb3.mono hb2.size)
              have hct : w2.cell? ⟨w1.heap.size, 0, none⟩ = some (.int .i64 t) := by rw [hb3.cell (p := ⟨w1.heap.size, 0, none⟩) (by simp)]; exact cell_new1 _ _ _
              go_wp2_with (first | (go_at_call 83; refine (within_any _ _ _ _).mono ?_; rintro e w' ⟨rfl, rfl⟩) | (go_at_call 87; refine (contains_any (t := t) (by repeat (first | exact hct | apply cell_alloc)) (RS.only (h : RS w 3 eSpn _ xs) (only_of_below (by repeat (first | exact hb4 | apply below_alloc | apply belowN)) (fun _ => False)) (fun _ _ => id))).mono ?_; rintro e w5 ⟨rfl, hb5⟩))
              go_ret
              exact ⟨by simp [rightM, rightP, h0, h1, h2, h3, h4, h5], by repeat (first | exact hb4 | apply below_alloc | apply belowN)⟩
            | true =>
              cases h6 : (xs.all fun x => rightSp x && decide (x.1 = t)) with
              | false =>
                have hn1 : wrap64 (n - 1) = n - 1 := by have := (wi_true.1 h3); unfold wrap64; omega
                have hd5 : decide ((xs.length : Int) ≤ 2) = true := by simp at h5 ⊢; omega
                have HH := Lib.hid h5
                go_wp2_with (go_at_call 83; refine (within_any _ _ _ _).mono ?_; rintro e w' ⟨rfl, rfl⟩)
                refine (HA _ hb2).mono ?_
                rintro e w2 ⟨rfl, hb3⟩
                have hb4 := hb2.trans (hb3.mono hb2.size)
                have hct : w2.cell? ⟨w1.heap.size, 0, none⟩ = some (.int .i64 t) := by rw [hb3.cell (p := ⟨w1.heap.size, 0, none⟩) (by simp)]; exact cell_new1 _ _ _
                go_wp2_with (first | (go_at_call 83; refine (within_any _ _ _ _).mono ?_; rintro e w' ⟨rfl, rfl⟩) | (go_at_call 87; refine (contains_any (t := t) (by repeat (first | exact hct | apply cell_alloc)) (RS.only (h : RS w 3 eSpn _ xs) (only_of_below (by repeat (first | exact hb4 | apply below_alloc | apply belowN)) (fun _ => False)) (fun _ _ => id))).mono ?_; rintro e w5 ⟨rfl, hb5⟩))
                go_ret
                exact ⟨by simp [rightM, rightP, h0, h1, h2, h3, h4, h5, h6], below_trans' hb5 (by repeat (first | exact hb4 | apply below_alloc | apply belowN))⟩
              | true =>
                have hn1 : wrap64 (n - 1) = n - 1 := by have := (wi_true.1 h3); unfold wrap64; omega
                have hd5 : decide ((xs.length : Int) ≤ 2) = true := by simp at h5 ⊢; omega
                have HH := Lib.hid h5
                go_wp2_with (go_at_call 83; refine (within_any _ _ _ _).mono ?_; rintro e w' ⟨rfl, rfl⟩)
                refine (HA _ hb2).mono ?_
                rintro e w2 ⟨rfl, hb3⟩
                have hb4 := hb2.trans (hb3.mono hb2.size)
                have hct : w2.cell? ⟨w1.heap.size, 0, none⟩ = some (.int .i64 t) := by rw [hb3.cell (p := ⟨w1.heap.size, 0, none⟩) (by simp)]; exact cell_new1 _ _ _
                go_wp2_with (first | (go_at_call 83; refine (within_any _ _ _ _).mono ?_; rintro e w' ⟨rfl, rfl⟩) | (go_at_call 87; refine (contains_any (t := t) (by repeat (first | exact hct | apply cell_alloc)) (RS.only (h : RS w 3 eSpn _ xs) (only_of_below (by repeat (first | exact hb4 | apply below_alloc | apply belowN)) (fun _ => False)) (fun _ _ => id))).mono ?_; rintro e w5 ⟨rfl, hb5⟩))
                go_ret
                exact ⟨by simp [rightM, rightP, h0, h1, h2, h3, h4, h5, h6], below_trans' hb5 (by repeat (first | exact hb4 | apply below_alloc | apply belowN))⟩
end Go.Proofs.Ytniggacgkhkgiaa.Msg
