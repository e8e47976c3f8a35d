/- What law 13's few and message answer, and what a job that is none answers. Conditions: the slices lie in memory. -/
import Derived.Test.YtniggacgkhkgiaaMake
import Derived.Test.YtniggacgkhkgiaaArgs
import Derived.Deep.Cut
import Derived.Handy
namespace Go.Sp
open Go.RowKit
/-- a call's fields, and whom it names -/
structure OpJ where
  k : Int
  a : Int
  t : Int
  j : Int
  cv : Value
  cs : List Int
  l : Bool
def eOpJ (o : OpJ) : List Value := [.int .i64 o.k, .int .i64 o.a, .int .i64 o.t, .int .i64 o.j, o.cv, .bool o.l]
theorem eOpJ_len (o : OpJ) : (eOpJ o).length = 6 := rfl
def fewJO (o : OpJ) : Bool := decide (o.cs.length ≤ 20) && decide (o.a ≤ 1099511627776)
def fewJ (os : List OpJ) : Bool := (os.all fewJO) && decide (os.length ≤ 200)
/-- the message of a call -/
def MsgJ (o : OpJ) (m : Mg) : Prop := MakeIs o.k o.a o.t o.j 0 1 o.l o.cv o.cs (.slice none 0 0) [] m
end Go.Sp
namespace Go.Proofs.Ytniggacgkhkgiaa.Job
open Go.RowKit Go.Sp Msg

set_option maxRecDepth 100000 in
set_option maxHeartbeats 2000000 in
theorem fewJ_any {w : World} {v : Value} {os : List OpJ} (h : RS w 6 eOpJ v os) (ho : ∀ o ∈ os, RS w 1 eInt o.cv o.cs) : Calls Try.prog 16 #[v] w fun e w' => e = .returned (.bool (fewJ os)) ∧ Below w.heap.size w w' := by
  have hl := h.1
  unfold maxLen at hl
  obtain ⟨_, a, c, rfl, _⟩ := id h
  go_enter Try.func16, Try.ntmps16
  go_wp2
  go_loopw [7] (fun i wr => ∃ q : Nat, q ≤ os.length ∧ i = .int .i64 q ∧ Below w.heap.size w wr ∧ (os.take q).all fewJO = true) (fun i _ => os.length - (intOf i).toNat)
  case atStart => exact ⟨0, Nat.zero_le _, rfl, Below.refl _ _, rfl⟩
  case round =>
    obtain ⟨q, hq, rfl, hb, hJ⟩ := hrel
    by_cases hqN : q < os.length
    · obtain ⟨_, a', c', hv, h2⟩ := h.only (only_of_below hb (fun _ => False)) (fun _ _ => id)
      obtain ⟨b0, o0, ha, hb0, hcl⟩ := h2 (by omega)
      simp only [Value.slice.injEq] at hv
      obtain ⟨rfl, _, rfl⟩ := hv
      subst ha
      obtain ⟨x, hx⟩ : ∃ x, os[q]? = some x := ⟨_, List.getElem?_eq_getElem hqN⟩
      have hcs := ho x (List.mem_of_getElem? hx)
      have hT : (os.take (q + 1)).all fewJO = fewJO x := by rw [List.take_add_one, hx, List.all_append, hJ]; simp
      have hM : fewJO x = false → fewJ os = false := fun e => by
        unfold fewJ
        have : os.all fewJO = false := by rw [List.all_eq_false]; exact ⟨_, List.mem_of_getElem? hx, by simpa using e⟩
        rw [this]; rfl
      have g0 := hcl q x 0 _ hx rfl
      have g1 := hcl q x 1 _ hx rfl
      have g2 := hcl q x 2 _ hx rfl
      have g3 := hcl q x 3 _ hx rfl
      have g4 := hcl q x 4 _ hx rfl
      have g5 := hcl q x 5 _ hx rfl
      rw [← Nat.add_assoc] at g0 g1 g2 g3 g4 g5
      rw [Nat.add_zero] at g0
      obtain ⟨k, a, t, j, cv, cs, l⟩ := x
      simp only at hcs g0 g1 g2 g3 g4 g5
      obtain ⟨_, ca, cc, rfl, _⟩ := id hcs
      have HT := Lib.hid hT
      have HM := Lib.hid hM
      have hfe : fewJO ⟨k, a, t, j, .slice ca cs.length cc, cs, l⟩ = (decide (cs.length ≤ 20) && decide (a ≤ 1099511627776)) := rfl
      have HFE := Lib.hid hfe
      have hA := below_alloc (Below.refl wr.heap.size wr) (.cells #[.int .i64 k, .int .i64 a, .int .i64 t, .int .i64 j, .slice ca cs.length cc, .bool l] 40)
      have hb2 := below_trans' hA hb
      clear hcl hx hT hM hJ h2 hcs hfe hA
      by_cases hz : cs.length ≤ 20
      · have b1 : decide (20 < (cs.length : Int)) = false := decide_eq_false (by omega)
        by_cases hy : a ≤ 1099511627776
        · have b2 : decide (1099511627776 < a) = false := decide_eq_false (by omega)
          go_wp2
          exact ⟨⟨q + 1, by omega, by go_num, hb2, by rw [HT.out, HFE.out, decide_eq_true hz, decide_eq_true hy]; rfl⟩, by simp [intOf]; omega⟩
        · have b2 : decide (1099511627776 < a) = true := decide_eq_true (by omega)
          go_wp2
          go_ret
          exact ⟨by rw [HM.out (by rw [HFE.out, decide_eq_false (by omega : ¬ a ≤ 1099511627776)]; simp)]; rfl, hb2⟩
      · have b1 : decide (20 < (cs.length : Int)) = true := decide_eq_true (by omega)
        go_wp2
        go_ret
        exact ⟨by rw [HM.out (by rw [HFE.out, decide_eq_false (by omega : ¬ cs.length ≤ 20)]; simp)]; rfl, hb2⟩
    · have hqe : q = os.length := by omega
      subst hqe
      rw [List.take_length] at hJ
      have HJ := Lib.hid (show fewJ os = decide (os.length ≤ 200) by unfold fewJ; rw [hJ]; rfl)
      clear hJ h ho
      by_cases hz : os.length ≤ 200
      · have b1 : decide ((os.length : Int) ≤ 200) = true := decide_eq_true (by omega)
        go_wp2
        go_ret
        exact ⟨by rw [HJ.out, decide_eq_true hz]; rfl, hb⟩
      · have b1 : decide ((os.length : Int) ≤ 200) = false := decide_eq_false (by omega)
        go_wp2
        go_ret
        exact ⟨by rw [HJ.out, decide_eq_false hz]; rfl, hb⟩

set_option maxRecDepth 100000 in
set_option maxHeartbeats 2000000 in
theorem messageJ_any (w : World) {o : OpJ} (h : RS w 1 eInt o.cv o.cs) : Calls Try.prog 20 #[.agg #[.int .i64 o.k, .int .i64 o.a, .int .i64 o.t, .int .i64 o.j, o.cv, .bool o.l]] w fun e w' => ∃ m, e = .returned (val m) ∧ MsgJ o m ∧ InMem w' m ∧ Small m ∧ Below w.heap.size w w' := by
  obtain ⟨k, a, t, j, cv, cs, l⟩ := o
  simp only at h ⊢
  obtain ⟨_, ca, cc, rfl, _⟩ := id h
  have hA := below_alloc (Below.refl w.heap.size w) (.cells #[.int .i64 k, .int .i64 a, .int .i64 t, .int .i64 j, .slice ca cs.length cc, .bool l] 40)
  have HM := fun w1 (hb : Below w.heap.size w w1) => make2_any w1 (k := k) (a := a) (t := t) (j := j) (c := 0) (n := 1) l (h.only (only_of_below hb (fun _ => False)) (fun _ _ => id)) (RS.nil w1 3 eSpn)
  clear h
  go_enter Try.func20, Try.ntmps20
  go_wp2_with fail
  refine (HM _ hA).mono ?_
  rintro e w2 ⟨m, rfl, h1, h2, h3, hb2⟩
  have hb3 := below_trans' hb2 hA
  have H := Lib.hid (And.intro h1 (And.intro h2 h3))
  clear h1 h2 h3 HM
  go_wp2
  go_ret
  exact ⟨m, rfl, H.out.1, H.out.2.1, H.out.2.2, hb3⟩

set_option maxRecDepth 100000 in
theorem hear_nil {w : World} {m : Mg} (h : InMem w m) : Calls Try.prog 21 #[.pointer none, val m] w fun e w' => e = .returned (.tuple #[]) ∧ Below w.heap.size w w' := by
  have H := of_any w m h
  generalize val m = vm at H ⊢
  generalize mT m = mt at *
  generalize mJ m = mj at *
  generalize mOk m = mo at *
  clear h
  go_enter Try.func21, Try.ntmps21
  go_wp2_with fail
  refine H.mono ?_
  rintro e w1 ⟨rfl, hb1⟩
  go_wp2
  go_returns
  exact ⟨rfl, hb1⟩
set_option maxRecDepth 100000 in
theorem mani_nil (w : World) : Calls Try.prog 32 #[.pointer none] w fun e w' => e = .returned (.tuple #[.agg #[.int .i64 0, .int .i64 0, .int .i64 0, .slice none 0 0], .bool false]) ∧ Below w.heap.size w w' := by
  have hA := below_alloc (Below.refl w.heap.size w) (.cells #[.int .i64 0, .int .i64 0, .int .i64 0, .slice none 0 0] 62)
  go_enter Try.func32, Try.ntmps32
  go_wp2
  go_returns
  exact ⟨rfl, hA⟩
set_option maxRecDepth 100000 in
theorem outs_nil (w : World) : Calls Try.prog 24 #[.pointer none] w fun e w' => e = .returned (.slice none 0 0) ∧ w = w' := by
  go_enter Try.func24, Try.ntmps24
  go_wp2
  go_ret
  exact ⟨rfl, by first | rfl | trivial⟩
set_option maxRecDepth 100000 in
theorem visited_nil (w : World) : Calls Try.prog 28 #[.pointer none] w fun e w' => e = .returned (.slice none 0 0) ∧ w = w' := by
  go_enter Try.func28, Try.ntmps28
  go_wp2
  go_ret
  exact ⟨rfl, by first | rfl | trivial⟩
set_option maxRecDepth 100000 in
theorem phase_nil (w : World) : Calls Try.prog 25 #[.pointer none] w fun e w' => e = .returned (.int .i64 4) ∧ w = w' := by
  go_enter Try.func25, Try.ntmps25
  go_wp2
  go_ret
  exact ⟨rfl, by first | rfl | trivial⟩
set_option maxRecDepth 100000 in
theorem trace_nil (w : World) : Calls Try.prog 26 #[.pointer none] w fun e w' => e = .returned (.int .i64 0) ∧ w = w' := by
  go_enter Try.func26, Try.ntmps26
  go_wp2
  go_ret
  exact ⟨rfl, by first | rfl | trivial⟩
set_option maxRecDepth 100000 in
theorem stored_nil (w : World) : Calls Try.prog 30 #[.pointer none] w fun e w' => e = .returned (.bool false) ∧ w = w' := by
  go_enter Try.func30, Try.ntmps30
  go_wp2
  go_ret
  exact ⟨rfl, by first | rfl | trivial⟩

theorem rd_intsJ {w : World} {m : Nat} {ds : List Value} (h : Rd Try.prog w m 31 ds) : ∃ v xs, ds = [v] ∧ RS w 1 eInt v xs := by
  obtain ⟨v, xs, e, h1, _⟩ := rs_of_rd (size := 1) (elt := eInt) (Q := fun _ => True) h Try.underlying31 (by kernel_rfl) (by omega) (fun m ds h => by
    obtain ⟨x, e, _⟩ := rd_int h Try.underlying3
    exact ⟨x, e.symm, trivial⟩)
  exact ⟨v, xs, e, h1⟩

set_option maxRecDepth 100000 in
theorem rd_opJ {w : World} {m : Nat} {ds : List Value} (h : Rd Try.prog w m 40 ds) : ∃ o : OpJ, eOpJ o = ds ∧ RS w 1 eInt o.cv o.cs := by
  obtain ⟨hl, hf⟩ := rd_struct h Try.underlying40
  have hc : Try.prog.cellsOf 40 = 6 := by kernel_rfl
  have hi : Try.prog.cellsOf 3 = 1 := by kernel_rfl
  have hn : Try.prog.cellsOf 31 = 1 := by kernel_rfl
  have hb : Try.prog.cellsOf 4 = 1 := by kernel_rfl
  rw [hc] at hl
  match ds, hl with
  | [a, b, c, d, e, f], _ =>
    simp [hi, hn, hb] at hf
    obtain ⟨⟨m1, f1⟩, ⟨m2, f2⟩, ⟨m3, f3⟩, ⟨m4, f4⟩, ⟨m5, f5⟩, ⟨m6, f6⟩⟩ := hf
    obtain ⟨x1, e1, _⟩ := rd_int f1 Try.underlying3
    obtain ⟨x2, e2, _⟩ := rd_int f2 Try.underlying3
    obtain ⟨x3, e3, _⟩ := rd_int f3 Try.underlying3
    obtain ⟨x4, e4, _⟩ := rd_int f4 Try.underlying3
    obtain ⟨x5, cs, e5, h5⟩ := rd_intsJ f5
    obtain ⟨x6, e6⟩ := rd_bool f6 Try.underlying4
    simp at e1 e2 e3 e4 e5 e6
    subst e1 e2 e3 e4 e5 e6
    exact ⟨⟨x1, x2, x3, x4, e, cs, x6⟩, rfl, h5⟩

set_option maxRecDepth 100000 in
theorem arg_opJ {H : Type} {enc : TypeId × Value → H} {base : Nat} {d : DataW H} {ps : List MemPlace} {w : World} {v : Value} (u : Value.okWide Try.prog w .any base 40 v)
    (k : DataW.Trod enc Try.prog w 0 (fun _ => true) true 40 v d ps) (z : (d.weights Try.prog 40).all (· ≤ reachBytes) = true) : ∃ o : OpJ, v = .agg (eOpJ o).toArray ∧ RS w 1 eInt o.cv o.cs := by
  simp only [Value.okWide, Try.underlying40] at u
  obtain ⟨cs, rfl, _, _⟩ := u
  obtain ⟨fuel, hf⟩ := k
  obtain ⟨o, h1, h2⟩ := rd_opJ (rd_of_trod fuel _ _ d ps hf z)
  refine ⟨o, ?_, h2⟩
  rw [h1]; rfl
end Go.Proofs.Ytniggacgkhkgiaa.Job
