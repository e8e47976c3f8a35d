/- What msg.Agent, msg.agents and span.Right say. Conditions: the message's slices lie in memory. -/
import Derived.Test.YtcdjeblcmgghhaaMsg1
import Derived.Stop.Asserts
namespace Go.Proofs.Ytcdjeblcmgghhaa.Msg
open Go.RowKit Go.Sp

@[go_sem] theorem as_trig (v : Value) (w : World) : (Instr.typeAssert (.iface 126 v) 41 177 true).run Try.prog w = .ok (.tuple #[.iface 126 v, .bool true]) w := run_typeAssert_hasB Try.underlying177 (by kernel_rfl) v _ w
@[go_sem] theorem as_pin (v : Value) (w : World) : (Instr.typeAssert (.iface 128 v) 41 177 true).run Try.prog w = .ok (.tuple #[.nilIface, .bool false]) w := run_typeAssert_lacksB Try.underlying177 (by kernel_rfl) (by kernel_rfl) v _ w
@[go_sem] theorem as_pinned (v : Value) (w : World) : (Instr.typeAssert (.iface 65 v) 41 177 true).run Try.prog w = .ok (.tuple #[.iface 65 v, .bool true]) w := run_typeAssert_hasB Try.underlying177 (by kernel_rfl) v _ w
@[go_sem] theorem as_gone (v : Value) (w : World) : (Instr.typeAssert (.iface 131 v) 41 177 true).run Try.prog w = .ok (.tuple #[.iface 131 v, .bool true]) w := run_typeAssert_hasB Try.underlying177 (by kernel_rfl) v _ w
@[go_sem] theorem as_coll (v : Value) (w : World) : (Instr.typeAssert (.iface 132 v) 41 177 true).run Try.prog w = .ok (.tuple #[.nilIface, .bool false]) w := run_typeAssert_lacksB Try.underlying177 (by kernel_rfl) (by kernel_rfl) v _ w
@[go_sem] theorem as_chunk (v : Value) (w : World) : (Instr.typeAssert (.iface 67 v) 41 177 true).run Try.prog w = .ok (.tuple #[.iface 67 v, .bool true]) w := run_typeAssert_hasB Try.underlying177 (by kernel_rfl) v _ w
@[go_sem] theorem as_mani (v : Value) (w : World) : (Instr.typeAssert (.iface 59 v) 41 177 true).run Try.prog w = .ok (.tuple #[.nilIface, .bool false]) w := run_typeAssert_lacksB Try.underlying177 (by kernel_rfl) (by kernel_rfl) v _ w
@[go_sem] theorem as_stor (v : Value) (w : World) : (Instr.typeAssert (.iface 133 v) 41 177 true).run Try.prog w = .ok (.tuple #[.nilIface, .bool false]) w := run_typeAssert_lacksB Try.underlying177 (by kernel_rfl) (by kernel_rfl) v _ w
@[go_sem] theorem as_unp (v : Value) (w : World) : (Instr.typeAssert (.iface 134 v) 41 177 true).run Try.prog w = .ok (.tuple #[.nilIface, .bool false]) w := run_typeAssert_lacksB Try.underlying177 (by kernel_rfl) (by kernel_rfl) v _ w
@[go_sem] theorem as_unpd (v : Value) (w : World) : (Instr.typeAssert (.iface 135 v) 41 177 true).run Try.prog w = .ok (.tuple #[.iface 135 v, .bool true]) w := run_typeAssert_hasB Try.underlying177 (by kernel_rfl) v _ w
@[go_sem] theorem as_none (w : World) : (Instr.typeAssert .nilIface 41 177 true).run Try.prog w = .ok (.tuple #[.nilIface, .bool false]) w := by kernel_rfl
@[go_sem] theorem me_trig (k : Nat) (v : Value) (w : World) : (method (k + 1) 126 v "spoor/msg.from").run Try.prog w = .ok (137, v) w := by kernel_rfl
@[go_sem] theorem me_pinned (k : Nat) (v : Value) (w : World) : (method (k + 1) 65 v "spoor/msg.from").run Try.prog w = .ok (133, v) w := by kernel_rfl
@[go_sem] theorem me_gone (k : Nat) (v : Value) (w : World) : (method (k + 1) 131 v "spoor/msg.from").run Try.prog w = .ok (140, v) w := by kernel_rfl
@[go_sem] theorem me_chunk (k : Nat) (v : Value) (w : World) : (method (k + 1) 67 v "spoor/msg.from").run Try.prog w = .ok (135, v) w := by kernel_rfl
@[go_sem] theorem me_unpd (k : Nat) (v : Value) (w : World) : (method (k + 1) 135 v "spoor/msg.from").run Try.prog w = .ok (145, v) w := by kernel_rfl

set_option maxRecDepth 100000 in
set_option maxHeartbeats 4000000 in
theorem agent_any (w : World) (m : Mg) (h : InMem w m) : Calls Try.prog 74 #[val m] w fun e w' => e = .returned (.tuple #[.int .i64 ((mA m).getD 0), .bool (mA m).isSome]) ∧ Below w.heap.size w w' := by
  cases m with
  | none =>
    have H := of_any w _ h
    clear h
    unfold val at H ⊢
    go_enter Try.func74, Try.ntmps74
    go_wp2_with fail
    refine H.mono ?_
    rintro e w1 ⟨rfl, hb⟩
    go_wp2
    go_ret2
    exact ⟨rfl, by first | exact hb | exact hb.alloc hb.size _⟩
  | trig a t c =>
    have H := of_any w _ h
    clear h
    unfold val at H ⊢
    go_enter Try.func74, Try.ntmps74
    go_wp2_with fail
    refine H.mono ?_
    rintro e w1 ⟨rfl, hb⟩
    go_wp2
    go_ret2
    exact ⟨rfl, by first | exact hb | exact hb.alloc hb.size _⟩
  | pin t j =>
    have H := of_any w _ h
    clear h
    unfold val at H ⊢
    go_enter Try.func74, Try.ntmps74
    go_wp2_with fail
    refine H.mono ?_
    rintro e w1 ⟨rfl, hb⟩
    go_wp2
    go_ret2
    exact ⟨rfl, by first | exact hb | exact hb.alloc hb.size _⟩
  | gone a t j =>
    have H := of_any w _ h
    clear h
    unfold val at H ⊢
    go_enter Try.func74, Try.ntmps74
    go_wp2_with fail
    refine H.mono ?_
    rintro e w1 ⟨rfl, hb⟩
    go_wp2
    go_ret2
    exact ⟨rfl, by first | exact hb | exact hb.alloc hb.size _⟩
  | coll t j =>
    have H := of_any w _ h
    clear h
    unfold val at H ⊢
    go_enter Try.func74, Try.ntmps74
    go_wp2_with fail
    refine H.mono ?_
    rintro e w1 ⟨rfl, hb⟩
    go_wp2
    go_ret2
    exact ⟨rfl, by first | exact hb | exact hb.alloc hb.size _⟩
  | stor t j =>
    have H := of_any w _ h
    clear h
    unfold val at H ⊢
    go_enter Try.func74, Try.ntmps74
    go_wp2_with fail
    refine H.mono ?_
    rintro e w1 ⟨rfl, hb⟩
    go_wp2
    go_ret2
    exact ⟨rfl, by first | exact hb | exact hb.alloc hb.size _⟩
  | unp t j =>
    have H := of_any w _ h
    clear h
    unfold val at H ⊢
    go_enter Try.func74, Try.ntmps74
    go_wp2_with fail
    refine H.mono ?_
    rintro e w1 ⟨rfl, hb⟩
    go_wp2
    go_ret2
    exact ⟨rfl, by first | exact hb | exact hb.alloc hb.size _⟩
  | unpd a t j =>
    have H := of_any w _ h
    clear h
    unfold val at H ⊢
    go_enter Try.func74, Try.ntmps74
    go_wp2_with fail
    refine H.mono ?_
    rintro e w1 ⟨rfl, hb⟩
    go_wp2
    go_ret2
    exact ⟨rfl, by first | exact hb | exact hb.alloc hb.size _⟩
  | pinned p =>
    obtain ⟨a, t, j, n, cv, cl, l⟩ := p
    obtain ⟨_, a', c', hv, _⟩ := id h
    simp only at hv
    subst hv
    have H := of_any w _ h
    clear h
    unfold val at H ⊢
    go_enter Try.func74, Try.ntmps74
    go_wp2_with fail
    refine H.mono ?_
    rintro e w1 ⟨rfl, hb⟩
    go_wp2
    go_ret2
    exact ⟨rfl, by first | exact hb | exact hb.alloc hb.size _⟩
  | chunk a t j i n sv xs =>
    obtain ⟨_, a', c', rfl, _⟩ := id h
    have H := of_any w _ h
    clear h
    unfold val at H ⊢
    go_enter Try.func74, Try.ntmps74
    go_wp2_with fail
    refine H.mono ?_
    rintro e w1 ⟨rfl, hb⟩
    go_wp2
    go_ret2
    exact ⟨rfl, by first | exact hb | exact hb.alloc hb.size _⟩
  | mani t j c pv ps =>
    obtain ⟨_, a', c', rfl, _⟩ := id h.1
    have H := of_any w _ h
    clear h
    unfold val at H ⊢
    go_enter Try.func74, Try.ntmps74
    go_wp2_with fail
    refine H.mono ?_
    rintro e w1 ⟨rfl, hb⟩
    go_wp2
    go_ret2
    exact ⟨rfl, by first | exact hb | exact hb.alloc hb.size _⟩
end Go.Proofs.Ytcdjeblcmgghhaa.Msg
