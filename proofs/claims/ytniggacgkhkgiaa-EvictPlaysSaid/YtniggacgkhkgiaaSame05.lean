/- Whether two lists of spans are the same (the reference's Same), as law 07 asks it. Conditions: the slices lie in memory. -/
import Derived.Test.YtniggacgkhkgiaaEv0
import Derived.Laws.StructEq
import Derived.Deep.QuietTactic
import Derived.BigQuiet
namespace Go.Proofs.Ytniggacgkhkgiaa.Ev
open Go.RowKit Go.Sp Msg

theorem guard_spn : Program.eqGuardType Try.prog Try.prog.depth 89 = false := by kernel_rfl
set_option maxRecDepth 100000 in
theorem eq_spn (x y : Spn) (w : World) : (Op.equalIn 10000 89 (.agg #[.int .i64 x.1, .int .i64 x.2.1, .string x.2.2]) (.agg #[.int .i64 y.1, .int .i64 y.2.1, .string y.2.2])).run Try.prog w = .ok (decide (x = y)) w := by
  have u3 := Try.underlying3
  have u5 := Try.underlying9
  have a3 := Try.isAgg3
  have z3 := Try.sizeOf3
  have hS : Try.prog.underlying 89 = some (.struct (Try.prog.fieldsOf 89)) := by kernel_rfl
  have hp : Try.prog.stoodInHeld 89 = false := by kernel_rfl
  rw [show (10000 : Nat) = 9999 + 1 from rfl, run_equalIn_agg w 9999 89 _ _ hS hp]
  simp only [Program.fieldsOf, Try.underlying89]
  obtain ⟨x1, x2, x3⟩ := x
  obtain ⟨y1, y2, y3⟩ := y
  go_simp
  have hs : x3.toList = y3.toList ↔ x3 = y3 := ⟨fun h => by
    rw [ByteArray.toList_eq, ByteArray.toList_eq] at h
    exact ByteArray.ext (Array.toList_inj.1 h), fun h => by rw [h]⟩
  by_cases h1 : x1 = y1 <;> by_cases h2 : x2 = y2 <;> by_cases h3 : x3 = y3 <;> simp [h1, h2, h3, hs]
set_option maxHeartbeats 1000000 in
theorem same28_any {w : World} {u v : Value} {xs ys : List Spn} (hu : RS w 3 eSpn u xs) (hv : RS w 3 eSpn v ys) :
    Calls Try.prog 54 #[u, v] w fun e w' => e = .returned (.bool (decide (xs = ys))) ∧ ∃ n, w' = w.drewN n := by
  have h1 := hu.1
  have h2 := hv.1
  unfold maxLen at h1 h2
  have gs := guard_spn
  by_cases hne : xs.length = ys.length
  · obtain ⟨_, a1, c1, rfl, hc1⟩ := hu
    obtain ⟨_, a2, c2, rfl, hc2⟩ := hv
    generalize hN : xs.length = N at *
    generalize hM : ys.length = M at *
    obtain rfl : N = M := hne
    have hb : ((N : Int) != (N : Int)) = false := by simp
    go_enter Try.func54, Try.ntmps54
    go_wp2
    go_loopw [5] (fun i wr => ∃ k : Nat, k ≤ N ∧ i = .int .i64 k ∧ (∀ j, j < k → xs[j]? = ys[j]?) ∧ ∃ n, wr = w.drewN n) (fun i _ => N - (intOf i).toNat)
    case atStart => exact ⟨0, by omega, rfl, fun j hj => by omega, 0, rfl⟩
    case round =>
      obtain ⟨k, hk, rfl, hj, n, rfl⟩ := hrel
      by_cases hlt : k < N
      · obtain ⟨b1, o1, rfl, _, hc1⟩ := hc1 (by omega)
        obtain ⟨b2, o2, rfl, _, hc2⟩ := hc2 (by omega)
        obtain ⟨x, hx⟩ : ∃ x, xs[k]? = some x := ⟨_, List.getElem?_eq_getElem (by omega)⟩
        obtain ⟨y, hy⟩ : ∃ y, ys[k]? = some y := ⟨_, List.getElem?_eq_getElem (by omega)⟩
        have g0 := hc1 k x 0 _ hx rfl
        have g1 := hc1 k x 1 _ hx rfl
        have g2 := hc1 k x 2 _ hx rfl
        have k0 := hc2 k y 0 _ hy rfl
        have k1 := hc2 k y 1 _ hy rfl
        have k2 := hc2 k y 2 _ hy rfl
        rw [← Nat.add_assoc] at g0 g1 g2 k0 k1 k2
        rw [Nat.add_zero] at g0 k0
        have HX := Lib.hid hx
        have HY := Lib.hid hy
        have HJ := Lib.hid hj
        have HN := Lib.hid hN
        have HE := Lib.hid hM
        clear hx hy hj hc1 hc2 hN hM
        obtain ⟨x1, x2, x3⟩ := x
        obtain ⟨y1, y2, y3⟩ := y
        simp only at g0 g1 g2 k0 k1 k2
        by_cases hxy : (x1, x2, x3) = (y1, y2, y3)
        · have q := fun w' : World => eq_spn (x1, x2, x3) (x1, x2, x3) w'
          rw [decide_eq_true rfl] at q
          simp only at q
          simp only [Prod.mk.injEq] at hxy
          obtain ⟨rfl, rfl, rfl⟩ := hxy
          go_wp2
          go_quiet (fail)
          clear q
          go_wp2
          refine ⟨⟨k + 1, by omega, by go_num, fun j hj => ?_, _, rfl⟩, by simp [intOf]; omega⟩
          rcases Nat.lt_or_ge j k with h | h
          · exact HJ.out j h
          · obtain rfl : j = k := by omega
            rw [HX.out, HY.out]
        · have q := fun w' : World => eq_spn (x1, x2, x3) (y1, y2, y3) w'
          rw [show (decide ((x1, x2, x3) = (y1, y2, y3))) = false by simp [hxy]] at q
          simp only at q
          have HXY := Lib.hid hxy
          clear hxy
          go_wp2
          go_quiet (fail)
          clear q
          go_wp2
          go_ret
          refine ⟨ret_bool ?_, n + nq, by simp⟩
          symm
          rw [decide_eq_false_iff_not]
          intro e
          have := HX.out
          rw [e, HY.out] at this
          exact HXY.out (by simpa using this.symm)
      · have hke : k = N := by omega
        have HN := Lib.hid hN
        have HE := Lib.hid hM
        have HJ := Lib.hid hj
        clear hN hM hj hc1 hc2
        go_wp2
        go_ret
        refine ⟨ret_bool ?_, n, rfl⟩
        symm
        rw [decide_eq_true_iff]
        refine List.ext_getElem? fun j => ?_
        rcases Nat.lt_or_ge j k with h | h
        · exact HJ.out j h
        · have e1 := HN.out
          have e2 := HE.out
          rw [List.getElem?_eq_none (by omega), List.getElem?_eq_none (by omega)]
  · obtain ⟨_, a, c, rfl, q1⟩ := hu
    obtain ⟨_, a', c', rfl, q2⟩ := hv
    clear q1 q2
    have hb : ((xs.length : Int) != (ys.length : Int)) = true := by rw [bne_iff_ne]; omega
    go_enter Try.func54, Try.ntmps54
    go_wp2
    go_ret
    exact ⟨ret_bool (by symm; rw [decide_eq_false_iff_not]; intro e; exact hne (by rw [e])), 0, rfl⟩
end Go.Proofs.Ytniggacgkhkgiaa.Ev
