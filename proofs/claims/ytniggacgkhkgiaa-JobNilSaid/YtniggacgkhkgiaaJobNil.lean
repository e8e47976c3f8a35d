/- JobNil: a job that is none has nothing to say; the law answers true for every input. Conditions: the argument can be read. -/
import Derived.Test.YtniggacgkhkgiaaJobAwake
import Derived.Test.YtniggacgkhkgiaaJobMsg
import Derived.Test.YtniggacgkhkgiaaRef1
namespace Go.Proofs.Ytniggacgkhkgiaa.Job
open Go.RowKit Go.Sp Msg

theorem val_form (m : Mg) : (∃ t v, val m = .iface t v) ∨ val m = .nilIface := by
  cases m <;> first | exact .inl ⟨_, _, rfl⟩ | exact .inr rfl

set_option maxRecDepth 100000 in
set_option maxHeartbeats 4000000 in
theorem nil_any {H : Type} {enc : TypeId × Value → H} {base : Nat} {d : DataW H} {ps : List MemPlace} (v : Value) (w : World) (u : Value.okWide Try.prog w .any base 40 v)
    (kk : DataW.Trod enc Try.prog w 0 (fun _ => true) true 40 v d ps) (z : (d.weights Try.prog 40).all (· ≤ reachBytes) = true) :
    Calls Try.prog 5 #[v] w fun e w' => e = .returned (.bool true) ∧ Below w.heap.size w w' := by
  obtain ⟨o, rfl, hcs⟩ := arg_opJ u kk z
  clear u kk z
  obtain ⟨k, a, t, j, cv, cs, l⟩ := o
  simp only at hcs
  obtain ⟨_, ca, cc, rfl, _⟩ := id hcs
  show Calls _ _ #[.agg #[.int .i64 k, .int .i64 a, .int .i64 t, .int .i64 j, .slice ca cs.length cc, .bool l]] _ _
  have hA := below_alloc (Below.refl w.heap.size w) (.cells #[.int .i64 k, .int .i64 a, .int .i64 t, .int .i64 j, .slice ca cs.length cc, .bool l] 40)
  have hbx := heap_new w (.cells #[.int .i64 k, .int .i64 a, .int .i64 t, .int .i64 j, .slice ca cs.length cc, .bool l] 40) rfl
  go_enter Try.func5, Try.ntmps5
  go_wp2_with fail
  have hlt : w.heap.size < (w.alloc (.cells #[.int .i64 k, .int .i64 a, .int .i64 t, .int .i64 j, .slice ca cs.length cc, .bool l] 40)).heap.size := by simp
  have hA2' := below_alloc (Below.refl (w.alloc (.cells #[.int .i64 k, .int .i64 a, .int .i64 t, .int .i64 j, .slice ca cs.length cc, .bool l] 40)).heap.size (w.alloc (.cells #[.int .i64 k, .int .i64 a, .int .i64 t, .int .i64 j, .slice ca cs.length cc, .bool l] 40))) (.cells #[.int .i64 k, .int .i64 a, .int .i64 t, .int .i64 j, .slice ca cs.length cc, .bool l] 40)
  have hbx2 := (hA2'.block w.heap.size hlt).trans hbx
  have hA2 := below_trans' hA2' hA
  have hrs : RS ((w.alloc (.cells #[.int .i64 k, .int .i64 a, .int .i64 t, .int .i64 j, .slice ca cs.length cc, .bool l] 40)).alloc (.cells #[.int .i64 k, .int .i64 a, .int .i64 t, .int .i64 j, .slice ca cs.length cc, .bool l] 40)) 6 eOpJ (.slice (some ⟨w.heap.size + 1, 0, none⟩) 1 1) [⟨k, a, t, j, .slice ca cs.length cc, cs, l⟩] :=
    rs_lits (enc := eOpJ) (size := 6) eOpJ_len (w.alloc (.cells #[.int .i64 k, .int .i64 a, .int .i64 t, .int .i64 j, .slice ca cs.length cc, .bool l] 40)) [⟨k, a, t, j, .slice ca cs.length cc, cs, l⟩] 40 (by unfold maxLen; simp) (by simp)
  generalize ((w.alloc (.cells #[.int .i64 k, .int .i64 a, .int .i64 t, .int .i64 j, .slice ca cs.length cc, .bool l] 40)).alloc (.cells #[.int .i64 k, .int .i64 a, .int .i64 t, .int .i64 j, .slice ca cs.length cc, .bool l] 40)) = w2 at hA2 hbx2 hrs ⊢
  clear hA hbx hA2' hlt
  have hlt : w.heap.size < w2.heap.size := (Array.getElem?_eq_some_iff.1 hbx2).1
  refine (fewJ_any hrs (fun o' h => by
    rw [List.mem_singleton.1 h]
    exact hcs.only (only_of_below hA2 (fun _ => False)) (fun _ _ => id))).mono ?_
  rintro e w3 ⟨rfl, hb3⟩
  have hbx3 := (hb3.block w.heap.size hlt).trans hbx2
  have hw3 := below_trans' hb3 hA2
  clear hrs
  cases hf : fewJ [⟨k, a, t, j, .slice ca cs.length cc, cs, l⟩] with
  | false =>
    go_wp2_with fail
    refine (awake_any _).mono ?_
    rintro e w4 ⟨rfl, hb4⟩
    have hw4 := below_trans' hb4 hw3
    go_wp2
    go_ret
    exact ⟨rfl, hw4⟩
  | true =>
    have g0 := cell_blk hbx3 (j := 0) (u := .int .i64 k) rfl
    have g1 := cell_blk hbx3 (j := 1) (u := .int .i64 a) rfl
    have g2 := cell_blk hbx3 (j := 2) (u := .int .i64 t) rfl
    have g3 := cell_blk hbx3 (j := 3) (u := .int .i64 j) rfl
    have g4 := cell_blk hbx3 (j := 4) (u := .slice ca cs.length cc) rfl
    have g5 := cell_blk hbx3 (j := 5) (u := .bool l) rfl
    have HM := messageJ_any w3 (o := ⟨k, a, t, j, .slice ca cs.length cc, cs, l⟩) (hcs.only (only_of_below hw3 (fun _ => False)) (fun _ _ => id))
    clear hcs hbx3 hb3 hlt hbx2 hA2 hf
    go_wp2_with fail
    refine HM.mono ?_
    rintro e w7 ⟨m, rfl, _, hin, _, hb7⟩
    have hw7 := below_trans' hb7 hw3
    have HN := hear_nil hin
    clear HM hin hb7 g0 g1 g2 g3 g4 g5
    have hf := val_form m
    generalize val m = mv at HN hf ⊢
    rcases hf with ⟨tt, vv, rfl⟩ | rfl
    all_goals (
      go_wp2_with fail
      refine HN.mono ?_
      rintro e w8 ⟨rfl, hb8⟩
      have hw8 := below_trans' hb8 hw7
      go_wp2_with fail
      refine (mani_nil _).mono ?_
      rintro e w9 ⟨rfl, hb9⟩
      have hw9 := below_trans' hb9 hw8
      have hA9 := below_alloc hw9 (.cells #[.int .i64 0, .int .i64 0, .int .i64 0, .slice none 0 0] 62)
      go_wp2_with fail
      generalize (w9.alloc (.cells #[.int .i64 0, .int .i64 0, .int .i64 0, .slice none 0 0] 62)) = w10 at hA9 ⊢
      refine (awake_any _).mono ?_
      rintro e w11 ⟨rfl, hb11⟩
      have hw11 := below_trans' hb11 hA9
      go_wp2_with fail
      refine (outs_nil _).mono ?_
      rintro e w12 ⟨rfl, rfl⟩
      go_wp2_with fail
      refine (phase_nil _).mono ?_
      rintro e w12 ⟨rfl, rfl⟩
      go_wp2_with fail
      refine (trace_nil _).mono ?_
      rintro e w12 ⟨rfl, rfl⟩
      go_wp2_with fail
      refine (visited_nil _).mono ?_
      rintro e w12 ⟨rfl, rfl⟩
      go_wp2_with fail
      refine (stored_nil _).mono ?_
      rintro e w12 ⟨rfl, rfl⟩
      go_wp2_with fail
      refine (r59_pin _ 1 1).mono ?_
      rintro e w12 ⟨rfl, hb12⟩
      rw [show rightM (.pin 1 1) = true by kernel_rfl]
      have hw12 := below_trans' hb12 hw11
      go_wp2
      go_ret
      exact ⟨rfl, hw12⟩)
end Go.Proofs.Ytniggacgkhkgiaa.Job
