/- LeaseTime: what is granted is held for just so many ticks, and granted again from then on; the law answers true for all ints. No condition. -/
import Derived.Test.YtcdjeblcmgghhaaLease2
namespace Go.Proofs.Ytcdjeblcmgghhaa.Lease
open Go.RowKit Go.Sp

theorem u64_bd (x : Int) : 0 ≤ IntKind.u64.wrap x ∧ IntKind.u64.wrap x < 18446744073709551616 := by
  simp only [IntKind.wrap, IntKind.signed, IntKind.bits]
  simp; omega

theorem wrap_small {x : Int} (h0 : 0 ≤ x) (h1 : x ≤ 1000000000) : wrap64 x = x := by unfold wrap64; omega
theorem u64_small {x : Int} (h0 : 0 ≤ x) (h1 : x ≤ 1000000000) : IntKind.u64.wrap x = x := by
  simp only [IntKind.wrap, IntKind.signed, IntKind.bits]
  simp; omega

theorem tmod_small (x : Int) (m : Int) (hm : 0 < m) (hm2 : m ≤ 1000000) : ∃ A : Nat, wrap64 ((IntKind.u64.wrap x).tmod m) = A ∧ (A : Int) < m := by
  have h := u64_bd x
  have h1 := Int.tmod_nonneg m h.1
  have h2 := Int.tmod_lt_of_pos (IntKind.u64.wrap x) hm
  refine ⟨((IntKind.u64.wrap x).tmod m).toNat, ?_, by omega⟩
  rw [wrap_small h1 (by omega)]; omega

theorem tick_one {j l : Int} {O : List (Int × Int)} (h1 : 2 ≤ l) (h2 : l ≤ 1000) : tickAll [(1, (j, l))] O = ([(1, (j, l - 1))], O, []) := by
  have e : wrap64 (l - 1) = l - 1 := wrap_small (by omega) (by omega)
  simp only [tickAll, List.map_cons, List.map_nil, List.foldl_cons, List.foldl_nil, tick1, mget, if_pos, Option.getD_some, e]
  rw [if_pos (by omega)]; simp [mput]
theorem tick_last {j : Int} (hj : 0 ≤ j) : tickAll [(1, (j, 1))] [] = ([], [(1, j)], [1]) := by
  have e : wrap64 (1 - 1) = 0 := by decide +kernel
  simp only [tickAll, List.map_cons, List.map_nil, List.foldl_cons, List.foldl_nil, tick1, mget, if_pos, Option.getD_some, e]
  rw [if_neg (by omega)]; simp [mput, mdel]; omega

def stH (T k : Nat) : List (Int × (Int × Int)) := if k < T then [(1, (6, (T : Int) - k))] else []
def stO (T k : Nat) : List (Int × Int) := if k < T then [] else [(1, 6)]

set_option maxRecDepth 100000 in
set_option maxHeartbeats 1000000 in
theorem time_any (ticks again : Int) (w : World) (_ : (Lit.int .i64 ticks).wf = true) (_ : (Lit.int .i64 again).wf = true) :
    Calls Try.prog 7 #[.int .i64 ticks, .int .i64 again] w fun e w' => e = .returned (.bool true) ∧ Below w.heap.size w w' := by
  obtain ⟨T, eT, hT1, hT2⟩ : ∃ T : Nat, wrap64 (1 + wrap64 ((IntKind.u64.wrap ticks).tmod 50)) = T ∧ 1 ≤ T ∧ T ≤ 50 := by
    obtain ⟨A, e, hA⟩ := tmod_small ticks 50 (by omega) (by omega)
    exact ⟨1 + A, by rw [e, wrap_small (by omega) (by omega)]; omega, by omega, by omega⟩
  have eU : IntKind.u64.wrap (T : Int) = T := u64_small (by omega) (by omega)
  obtain ⟨A, eA, hA⟩ := tmod_small again T (by omega) (by omega)
  go_enter Try.func7, Try.ntmps7
  go_wp2_with fail
  rw [eT, eA]
  clear eT eU eA
  refine (new_yes (by omega) (by omega)).mono ?_
  rintro e w1 ⟨lb, hb, ob, rfl, h1, hlb, hhb, hob, hb1⟩
  go_wp2_with fail
  refine awake_true.mono ?_
  rintro e w2 ⟨rfl, hb2⟩
  have o2 : Only (fun k => k = hb ∨ k = ob) w1 w2 := only_of_below hb2 _
  have h2 := h1.only (only_of_below hb2 (fun _ => False)) id id id
  go_wp2_with fail
  refine (grant_any (by decide) h2).mono ?_
  rintro e w3 ⟨rfl, h3, o3⟩
  have o3' : Only (fun k => k = hb ∨ k = ob) w1 w3 := o2.trans (o3.mono fun _ _ h => .inl h)
  go_wp2_with fail
  go_loopw [34] (fun i wr => ∃ k : Nat, k ≤ A ∧ i = .int .i64 k ∧ Lrep wr lb hb ob T [(1, (5, (T : Int) - k))] [] ∧ Only (fun k => k = hb ∨ k = ob) w1 wr) (fun i _ => A - (intOf i).toNat)
  case atStart => exact ⟨0, by omega, rfl, by simpa [mput] using h3, o3'⟩
  case round =>
    obtain ⟨k, hk, rfl, hR, hO⟩ := hrel
    by_cases hlt : k < A
    · go_wp2_with fail
      refine (tick_is hR (by simp) (tick_one (by omega) (by omega))).mono ?_
      rintro e w4 ⟨a4, c4, rfl, h4, s4, n4, o4⟩
      go_wp2
      have e1 : ((T : Int) - ((k + 1 : Nat) : Int)) = T - k - 1 := by omega
      exact ⟨⟨k + 1, by omega, by go_num, by rw [e1]; exact h4, hO.trans o4⟩, by simp [intOf]; omega⟩
    · go_wp2_with fail
      refine (grant_any (k := 1) (j := 6) (by decide) hR).mono ?_
      rintro e w4 ⟨rfl, h4, o4⟩
      have o4' : Only (fun k => k = hb ∨ k = ob) w1 w4 := hO.trans (o4.mono fun _ _ h => .inl h)
      clear hR hO o4 h3 o3 o3' h1 h2 o2
      go_wp2_with fail
      go_loopw [7, 42] (fun _ i wr => ∃ k : Nat, k ≤ T ∧ i = .int .i64 k ∧ Lrep wr lb hb ob T (stH T k) (stO T k) ∧ Only (fun k => k = hb ∨ k = ob) w1 wr) (fun _ i _ => T - (intOf i).toNat)
      case atStart => exact ⟨0, by omega, rfl, by simpa [mput, stH, stO, show 0 < T by omega] using h4, o4'⟩
      case round =>
        obtain ⟨k, hk, rfl, hR, hO⟩ := hrel
        by_cases hlt2 : k < T
        · have eH : stH T k = [(1, (6, (T : Int) - k))] := if_pos hlt2
          have eO : stO T k = [] := if_pos hlt2
          rw [eH, eO] at hR
          clear eH eO
          go_wp2_with fail
          refine (job_is 1 hR (x := 6) rfl).mono ?_
          rintro e w' ⟨rfl, rfl⟩
          go_wp2_with fail
          refine (left_is 1 hR (x := (T : Int) - k) rfl).mono ?_
          rintro e w' ⟨rfl, rfl⟩
          go_wp2_with fail
          by_cases hl : k + 1 < T
          · refine (tick_is hR (by simp) (tick_one (by omega) (by omega))).mono ?_
            rintro e w5 ⟨a5, c5, rfl, h5, s5, n5, o5⟩
            go_wp2
            refine ⟨⟨k + 1, by omega, by go_num, ?_, hO.trans o5⟩, by simp [intOf]; omega⟩
            have e1 : ((T : Int) - ((k + 1 : Nat) : Int)) = T - k - 1 := by omega
            rw [stH, stO, if_pos hl, if_pos hl, e1]; exact h5
          · have e0 : (T : Int) - k = 1 := by omega
            rw [e0] at hR
            refine (tick_is hR (by simp) (tick_last (by omega))).mono ?_
            rintro e w5 ⟨a5, c5, rfl, h5, s5, n5, o5⟩
            clear e0
            go_wp2
            refine ⟨⟨k + 1, by omega, by go_num, ?_, hO.trans o5⟩, by simp [intOf]; omega⟩
            rw [stH, stO, if_neg hl, if_neg hl]; exact h5
        · have eH : stH T k = [] := if_neg hlt2
          have eO : stO T k = [(1, 6)] := if_neg hlt2
          rw [eH, eO] at hR
          clear eH eO
          go_wp2_with (first
            | (go_at_call 31; refine (grant_nil _ _).mono ?_; rintro e w' ⟨rfl, rfl⟩)
            | (go_at_call 33; refine (end_nil _).mono ?_; rintro e w' ⟨rfl, rfl⟩)
            | fail)
          refine (job_is 1 hR (x := 0) rfl).mono ?_
          rintro e w' ⟨rfl, rfl⟩
          go_wp2_with fail
          refine (over_is 1 hR (x := 6) rfl).mono ?_
          rintro e w' ⟨rfl, rfl⟩
          go_wp2_with (first
            | (go_at_call 38; refine (job_nil _).mono ?_; rintro e w' ⟨rfl, rfl⟩)
            | (go_at_call 39; refine (left_nil _).mono ?_; rintro e w' ⟨rfl, rfl⟩)
            | (go_at_call 35; refine tick_nil.mono ?_; rintro e w' ⟨rfl, rfl⟩)
            | (go_at_call 40; refine (over_nil _).mono ?_; rintro e w' ⟨rfl, rfl⟩)
            | (go_at_call 42; refine len_nil.mono ?_; rintro e w' ⟨rfl, rfl⟩))
          go_ret
          exact ⟨rfl, ((only_of_below hb1 (fun _ => False)).trans' hO (fun i hi e => by omega)).below (Nat.le_refl _) (fun _ _ h => h)⟩
end Go.Proofs.Ytcdjeblcmgghhaa.Lease
