/- What msg.Agent, msg.agents and span.Right say. Conditions: the message's slices lie in memory. -/
import Derived.Test.YtniggacgkhkgiaaMsg1
import Derived.Stop.Asserts
namespace Go.Proofs.Ytniggacgkhkgiaa.Msg
open Go.RowKit Go.Sp

@[go_sem] theorem as_trig (v : Value) (w : World) : (Instr.typeAssert (.iface 23 v) 42 181 true).run Try.prog w = .ok (.tuple #[.iface 23 v, .bool true]) w := run_typeAssert_hasB Try.underlying181 (by kernel_rfl) v _ w
@[go_sem] theorem as_pin (v : Value) (w : World) : (Instr.typeAssert (.iface 70 v) 42 181 true).run Try.prog w = .ok (.tuple #[.nilIface, .bool false]) w := run_typeAssert_lacksB Try.underlying181 (by kernel_rfl) (by kernel_rfl) v _ w
@[go_sem] theorem as_pinned (v : Value) (w : World) : (Instr.typeAssert (.iface 72 v) 42 181 true).run Try.prog w = .ok (.tuple #[.iface 72 v, .bool true]) w := run_typeAssert_hasB Try.underlying181 (by kernel_rfl) v _ w
@[go_sem] theorem as_gone (v : Value) (w : World) : (Instr.typeAssert (.iface 143 v) 42 181 true).run Try.prog w = .ok (.tuple #[.iface 143 v, .bool true]) w := run_typeAssert_hasB Try.underlying181 (by kernel_rfl) v _ w
@[go_sem] theorem as_coll (v : Value) (w : World) : (Instr.typeAssert (.iface 144 v) 42 181 true).run Try.prog w = .ok (.tuple #[.nilIface, .bool false]) w := run_typeAssert_lacksB Try.underlying181 (by kernel_rfl) (by kernel_rfl) v _ w
@[go_sem] theorem as_chunk (v : Value) (w : World) : (Instr.typeAssert (.iface 146 v) 42 181 true).run Try.prog w = .ok (.tuple #[.iface 146 v, .bool true]) w := run_typeAssert_hasB Try.underlying181 (by kernel_rfl) v _ w
@[go_sem] theorem as_mani (v : Value) (w : World) : (Instr.typeAssert (.iface 62 v) 42 181 true).run Try.prog w = .ok (.tuple #[.nilIface, .bool false]) w := run_typeAssert_lacksB Try.underlying181 (by kernel_rfl) (by kernel_rfl) v _ w
@[go_sem] theorem as_stor (v : Value) (w : World) : (Instr.typeAssert (.iface 78 v) 42 181 true).run Try.prog w = .ok (.tuple #[.nilIface, .bool false]) w := run_typeAssert_lacksB Try.underlying181 (by kernel_rfl) (by kernel_rfl) v _ w
@[go_sem] theorem as_unp (v : Value) (w : World) : (Instr.typeAssert (.iface 79 v) 42 181 true).run Try.prog w = .ok (.tuple #[.nilIface, .bool false]) w := run_typeAssert_lacksB Try.underlying181 (by kernel_rfl) (by kernel_rfl) v _ w
@[go_sem] theorem as_unpd (v : Value) (w : World) : (Instr.typeAssert (.iface 81 v) 42 181 true).run Try.prog w = .ok (.tuple #[.iface 81 v, .bool true]) w := run_typeAssert_hasB Try.underlying181 (by kernel_rfl) v _ w
@[go_sem] theorem as_none (w : World) : (Instr.typeAssert .nilIface 42 181 true).run Try.prog w = .ok (.tuple #[.nilIface, .bool false]) w := by kernel_rfl
@[go_sem] theorem me_trig (k : Nat) (v : Value) (w : World) : (method (k + 1) 23 v "spoor/msg.from").run Try.prog w = .ok (174, v) w := by kernel_rfl
@[go_sem] theorem me_pinned (k : Nat) (v : Value) (w : World) : (method (k + 1) 72 v "spoor/msg.from").run Try.prog w = .ok (178, v) w := by kernel_rfl
@[go_sem] theorem me_gone (k : Nat) (v : Value) (w : World) : (method (k + 1) 143 v "spoor/msg.from").run Try.prog w = .ok (184, v) w := by kernel_rfl
@[go_sem] theorem me_chunk (k : Nat) (v : Value) (w : World) : (method (k + 1) 146 v "spoor/msg.from").run Try.prog w = .ok (187, v) w := by kernel_rfl
@[go_sem] theorem me_unpd (k : Nat) (v : Value) (w : World) : (method (k + 1) 81 v "spoor/msg.from").run Try.prog w = .ok (182, v) w := by kernel_rfl

set_option maxRecDepth 100000 in
set_option maxHeartbeats 4000000 in
theorem agent_any (w : World) (m : Mg) (h : InMem w m) : Calls Try.prog 75 #[val m] w fun e w' => e = .returned (.tuple #[.int .i64 ((mA m).getD 0), .bool (mA m).isSome]) ∧ Below w.heap.size w w' := by
  cases m with
  | none =>
    have H := of_any w _ h
    clear h
    unfold val at H ⊢
    go_enter Try.func75, Try.ntmps75
    go_wp2_with fail
    refine H.mono ?_
    rintro e w1 ⟨rfl, hb⟩
    go_wp2
    go_ret2
    exact ⟨rfl, by first | exact hb | exact hb.alloc hb.size _⟩
  | trig a t c =>
    have H := of_any w _ h
    clear h
    unfold val at H ⊢
    go_enter Try.func75, Try.ntmps75
    go_wp2_with fail
    refine H.mono ?_
    rintro e w1 ⟨rfl, hb⟩
    go_wp2
    go_ret2
    exact ⟨rfl, by first | exact hb | exact hb.alloc hb.size _⟩
  | pin t j =>
    have H := of_any w _ h
    clear h
    unfold val at H ⊢
    go_enter Try.func75, Try.ntmps75
    go_wp2_with fail
    refine H.mono ?_
    rintro e w1 ⟨rfl, hb⟩
    go_wp2
    go_ret2
    exact ⟨rfl, by first | exact hb | exact hb.alloc hb.size _⟩
  | gone a t j =>
    have H := of_any w _ h
    clear h
    unfold val at H ⊢
    go_enter Try.func75, Try.ntmps75
    go_wp2_with fail
    refine H.mono ?_
    rintro e w1 ⟨rfl, hb⟩
    go_wp2
    go_ret2
    exact ⟨rfl, by first | exact hb | exact hb.alloc hb.size _⟩
  | coll t j =>
    have H := of_any w _ h
    clear h
    unfold val at H ⊢
    go_enter Try.func75, Try.ntmps75
    go_wp2_with fail
    refine H.mono ?_
    rintro e w1 ⟨rfl, hb⟩
    go_wp2
    go_ret2
    exact ⟨rfl, by first | exact hb | exact hb.alloc hb.size _⟩
  | stor t j =>
    have H := of_any w _ h
    clear h
    unfold val at H ⊢
    go_enter Try.func75, Try.ntmps75
    go_wp2_with fail
    refine H.mono ?_
    rintro e w1 ⟨rfl, hb⟩
    go_wp2
    go_ret2
    exact ⟨rfl, by first | exact hb | exact hb.alloc hb.size _⟩
  | unp t j =>
    have H := of_any w _ h
    clear h
    unfold val at H ⊢
    go_enter Try.func75, Try.ntmps75
    go_wp2_with fail
    refine H.mono ?_
    rintro e w1 ⟨rfl, hb⟩
    go_wp2
    go_ret2
    exact ⟨rfl, by first | exact hb | exact hb.alloc hb.size _⟩
  | unpd a t j =>
    have H := of_any w _ h
    clear h
    unfold val at H ⊢
    go_enter Try.func75, Try.ntmps75
    go_wp2_with fail
    refine H.mono ?_
    rintro e w1 ⟨rfl, hb⟩
    go_wp2
    go_ret2
    exact ⟨rfl, by first | exact hb | exact hb.alloc hb.size _⟩
  | pinned p =>
    obtain ⟨a, t, j, n, cv, cl, l⟩ := p
    obtain ⟨_, a', c', hv, _⟩ := id h
    simp only at hv
    subst hv
    have H := of_any w _ h
    clear h
    unfold val at H ⊢
    go_enter Try.func75, Try.ntmps75
    go_wp2_with fail
    refine H.mono ?_
    rintro e w1 ⟨rfl, hb⟩
    go_wp2
    go_ret2
    exact ⟨rfl, by first | exact hb | exact hb.alloc hb.size _⟩
  | chunk a t j i n sv xs =>
    obtain ⟨_, a', c', rfl, _⟩ := id h
    have H := of_any w _ h
    clear h
    unfold val at H ⊢
    go_enter Try.func75, Try.ntmps75
    go_wp2_with fail
    refine H.mono ?_
    rintro e w1 ⟨rfl, hb⟩
    go_wp2
    go_ret2
    exact ⟨rfl, by first | exact hb | exact hb.alloc hb.size _⟩
  | mani t j c pv ps =>
    obtain ⟨_, a', c', rfl, _⟩ := id h.1
    have H := of_any w _ h
    clear h
    unfold val at H ⊢
    go_enter Try.func75, Try.ntmps75
    go_wp2_with fail
    refine H.mono ?_
    rintro e w1 ⟨rfl, hb⟩
    go_wp2
    go_ret2
    exact ⟨rfl, by first | exact hb | exact hb.alloc hb.size _⟩
end Go.Proofs.Ytniggacgkhkgiaa.Msg
