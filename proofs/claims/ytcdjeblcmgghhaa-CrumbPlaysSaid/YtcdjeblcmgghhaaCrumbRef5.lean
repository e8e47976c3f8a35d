/- What the reference's Add does to its object: the refusals (the last case: under way). Conditions: the receiver lies in memory as Frep says; its lists are short. -/
import Derived.Test.YtcdjeblcmgghhaaCrumbRef4
namespace Go.Proofs.Ytcdjeblcmgghhaa.Crumb
open Go.RowKit Go.Sp

section
variable {w w' : World} {R : Nat → Prop} {rb : Nat} {n t : Int} {M : List (Int × List Int)} {tv av : Value} {us : List Value}

def RefOut (w : World) (R : Nat → Prop) (rb : Nat) (n : Int) (M M' : List (Int × List Int)) (w' : World) : Prop := ∃ R' tv' av' us', Frep w' R' rb n M' tv' av' us' ∧ (∀ b, R' b → R b ∨ w.heap.size ≤ b) ∧ Only R w w'

theorem RefOut.same (h : Frep w R rb n M tv av us) : RefOut w R rb n M M w := ⟨R, tv, av, us, h, fun b hb => .inl hb, Only.refl _ _⟩

set_option maxRecDepth 100000 in
set_option maxHeartbeats 1000000 in
theorem refAdd_no (h : Frep w R rb n M tv av us) (hok : (lget t M).length ≤ 1000) {a c : Int} (hc : addM n M t a = (c, M)) (hc0 : c ≠ 0) :
    Calls Try.prog 48 #[.pointer (some ⟨rb, 0, none⟩), .int .i64 t, .int .i64 a] w fun e w' => e = .returned (.int .i64 c) ∧ RefOut w R rb n M M w' := by
  have H := RefOut.same h
  have c0 := h.c0
  by_cases b1 : t < 1
  · rw [addM_arg (.inl b1)] at hc
    cases hc
    clear h c0 hok
    go_enter Try.func48, Try.ntmps48
    go_wp2
    go_ret
    exact ⟨rfl, H⟩
  by_cases b2 : 65535 < t
  · rw [addM_arg (.inr b2)] at hc
    cases hc
    clear h c0 hok
    go_enter Try.func48, Try.ntmps48
    go_wp2
    go_ret
    exact ⟨rfl, H⟩
  have hin : ¬ (t < 1 ∨ 65535 < t) := by omega
  by_cases b3 : a < 0
  · rw [addM_range hin (.inl b3)] at hc
    cases hc
    clear h c0 hok hin
    go_enter Try.func48, Try.ntmps48
    go_wp2
    go_ret
    exact ⟨rfl, H⟩
  by_cases b4 : n ≤ a
  · rw [addM_range hin (.inr b4)] at hc
    cases hc
    clear h hok hin
    go_enter Try.func48, Try.ntmps48
    go_wp2
    go_ret
    exact ⟨rfl, H⟩
  have hin2 : ¬ (a < 0 ∨ n ≤ a) := by omega
  cases hcn : (lget t M).contains a with
  | false =>
    rw [addM_ok hin hin2 hcn] at hc
    exact absurd (congrArg Prod.fst hc).symm hc0
  | true =>
    rw [addM_once hin hin2 hcn] at hc
    cases hc
    clear hin hin2 hc0
    go_enter Try.func48, Try.ntmps48
    go_wp2_with fail
    refine (refOf_any h t).mono ?_
    rintro e w' ⟨u, rfl, hsu, _, rfl⟩
    go_wp2_with fail
    refine (in_any (SL.ints hsu) (by omega) a).mono ?_
    rintro e w' ⟨rfl, rfl⟩
    rw [hcn]
    clear h hsu c0 hok
    go_wp2
    go_ret
    exact ⟨rfl, H⟩
end
end Go.Proofs.Ytcdjeblcmgghhaa.Crumb
