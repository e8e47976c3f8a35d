/- The law CrumbNil: where nobody is, nobody is named. Conditions: the arguments are Go's ints. -/
import Derived.Test.YtcdjeblcmgghhaaCrumbAwake
namespace Go.Proofs.Ytcdjeblcmgghhaa.Crumb
open Go.RowKit Go.Sp

set_option maxRecDepth 100000 in
set_option maxHeartbeats 1000000 in
theorem nil_any (trace agent : Int) (w : World) (_ : (Lit.int .i64 trace).wf = true) (_ : (Lit.int .i64 agent).wf = true) :
    Calls Try.prog 11 #[.int .i64 trace, .int .i64 agent] w fun e w' => e = .returned (.bool true) ∧ Below w.heap.size w w' := by
  go_enter Try.func11, Try.ntmps11
  go_wp2_with (first
    | (go_at_call 49; refine (drop_nil _ _).mono ?_; rintro e w' ⟨rfl, rfl⟩)
    | (go_at_call 43; refine (awake_any _).mono ?_; rintro e w1 ⟨rfl, hb⟩)
    | (go_at_call 47; refine (add_nil _ _ _).mono ?_; rintro e w' ⟨rfl, rfl⟩)
    | (go_at_call 51; refine (of_nil _ _).mono ?_; rintro e w' ⟨rfl, rfl⟩)
    | (go_at_call 53; refine (traces_nil _).mono ?_; rintro e w' ⟨rfl, rfl⟩)
    | (go_at_call 44; refine (reach_nil _ _).mono ?_; rintro e w' ⟨rfl, rfl⟩))
  go_ret
  exact ⟨rfl, hb⟩
end Go.Proofs.Ytcdjeblcmgghhaa.Crumb
