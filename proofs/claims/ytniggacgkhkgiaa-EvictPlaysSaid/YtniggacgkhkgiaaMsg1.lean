/- What msg.Of and msg.Agent say of a message. No condition. -/
import Derived.Test.YtniggacgkhkgiaaMsg0
import Derived.BigQuiet
import Derived.OwnWalk
namespace Go.Proofs.Ytniggacgkhkgiaa.Msg
open Go.RowKit Go.Sp

theorem within_any (w : World) (n lo hi : Int) : Calls Try.prog 83 #[.int .i64 n, .int .i64 lo, .int .i64 hi] w fun e w' => e = .returned (.bool (wi n lo hi)) ∧ w = w' := by
  go_enter Try.func83, Try.ntmps83
  by_cases h : lo ≤ n
  · have h1 : decide (lo ≤ n) = true := decide_eq_true h
    go_wp2
    go_ret
    exact ⟨by simp [wi, h], by first | rfl | trivial⟩
  · have h1 : decide (lo ≤ n) = false := decide_eq_false h
    go_wp2
    go_ret
    exact ⟨by simp only [wi, h1, Bool.false_and]; rfl, by first | rfl | trivial⟩

theorem belowN {B : Nat} {x y : World} (h : Below B x y) (q : Nat) : Below B x (y.drewN q) := ⟨h.os, h.tape, h.output, h.size, h.block⟩

set_option maxRecDepth 100000 in
set_option maxHeartbeats 4000000 in
theorem of_any (w : World) (m : Mg) (h : InMem w m) : Calls Try.prog 72 #[val m] w fun e w' => e = .returned (.tuple #[.int .i64 (mT m), .int .i64 (mJ m), .bool (mOk m)]) ∧ Below w.heap.size w w' := by
  cases m with
  | none =>
    show Calls _ _ #[Value.nilIface] _ _
    go_enter Try.func72, Try.ntmps72
    go_wp2
    go_ret3
    exact ⟨rfl, Below.refl _ _⟩
  | trig a t c =>
    unfold val
    go_enter Try.func72, Try.ntmps72
    go_wp2
    go_ret3
    exact ⟨rfl, (Below.refl _ w).alloc (Nat.le_refl _) _⟩
  | pin t j =>
    clear h
    unfold val
    go_enter Try.func72, Try.ntmps72
    go_wp2
    go_quiet (fail)
    go_wp2
    go_ret3
    exact ⟨rfl, belowN ((Below.refl _ w).alloc (Nat.le_refl _) _) _⟩
  | gone a t j =>
    clear h
    unfold val
    go_enter Try.func72, Try.ntmps72
    go_wp2
    go_quiet (fail)
    go_wp2
    go_ret3
    exact ⟨rfl, belowN ((Below.refl _ w).alloc (Nat.le_refl _) _) _⟩
  | coll t j =>
    clear h
    unfold val
    go_enter Try.func72, Try.ntmps72
    go_wp2
    go_quiet (fail)
    go_wp2
    go_ret3
    exact ⟨rfl, belowN ((Below.refl _ w).alloc (Nat.le_refl _) _) _⟩
  | stor t j =>
    clear h
    unfold val
    go_enter Try.func72, Try.ntmps72
    go_wp2
    go_quiet (fail)
    go_wp2
    go_ret3
    exact ⟨rfl, belowN ((Below.refl _ w).alloc (Nat.le_refl _) _) _⟩
  | unp t j =>
    clear h
    unfold val
    go_enter Try.func72, Try.ntmps72
    go_wp2
    go_quiet (fail)
    go_wp2
    go_ret3
    exact ⟨rfl, belowN ((Below.refl _ w).alloc (Nat.le_refl _) _) _⟩
  | unpd a t j =>
    clear h
    unfold val
    go_enter Try.func72, Try.ntmps72
    go_wp2
    go_quiet (fail)
    go_wp2
    go_ret3
    exact ⟨rfl, belowN ((Below.refl _ w).alloc (Nat.le_refl _) _) _⟩
  | pinned p =>
    obtain ⟨a, t, j, n, cv, cl, l⟩ := p
    obtain ⟨_, a', c', hv, _⟩ := id h
    simp only at hv
    subst hv
    clear h
    unfold val
    go_enter Try.func72, Try.ntmps72
    go_wp2
    go_quiet (fail)
    go_wp2
    go_ret3
    exact ⟨rfl, belowN ((Below.refl _ w).alloc (Nat.le_refl _) _) _⟩
  | chunk a t j i n sv xs =>
    obtain ⟨_, a', c', rfl, _⟩ := id h
    clear h
    unfold val
    go_enter Try.func72, Try.ntmps72
    go_wp2
    go_quiet (fail)
    go_wp2
    go_ret3
    exact ⟨rfl, belowN ((Below.refl _ w).alloc (Nat.le_refl _) _) _⟩
  | mani t j c pv ps =>
    obtain ⟨_, a', c', rfl, _⟩ := id h.1
    clear h
    unfold val
    go_enter Try.func72, Try.ntmps72
    go_wp2
    go_quiet (fail)
    go_wp2
    go_ret3
    exact ⟨rfl, belowN ((Below.refl _ w).alloc (Nat.le_refl _) _) _⟩
end Go.Proofs.Ytniggacgkhkgiaa.Msg
