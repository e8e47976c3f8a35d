/- EvictNil: a keeper that is none keeps nothing; the law answers true for every input. Conditions: the argument can be read. -/
import Derived.Test.YtniggacgkhkgiaaEvAwake
import Derived.Test.YtniggacgkhkgiaaArgs
namespace Go.Sp
open Go.RowKit
/-- a call of law 07 -/
structure OpE where
  k : Int
  t : Int
  s : ByteArray
def eOpE (o : OpE) : List Value := [.int .i64 o.k, .int .i64 o.t, .string o.s]
theorem eOpE_len (o : OpE) : (eOpE o).length = 3 := rfl
end Go.Sp
namespace Go.Proofs.Ytniggacgkhkgiaa.Ev
open Go.RowKit Go.Sp Msg Pool Hash

set_option maxRecDepth 100000 in
theorem rd_opE {w : World} {m : Nat} {ds : List Value} (h : Rd Try.prog w m 100 ds) : ∃ o : OpE, eOpE o = ds ∧ (Lit.int .i64 o.t).wf = true ∧ o.s.size ≤ 140737488351232 := by
  obtain ⟨hl, hf⟩ := rd_struct h Try.underlying100
  have hc : Try.prog.cellsOf 100 = 3 := by kernel_rfl
  have hi : Try.prog.cellsOf 3 = 1 := by kernel_rfl
  have hs : Try.prog.cellsOf 9 = 1 := by kernel_rfl
  rw [hc] at hl
  match ds, hl with
  | [a, b, c], _ =>
    simp [hi, hs] at hf
    obtain ⟨⟨m1, f1⟩, ⟨m2, f2⟩, ⟨m3, f3⟩⟩ := hf
    obtain ⟨x1, e1, _⟩ := rd_int f1 Try.underlying3
    obtain ⟨x2, e2, hw⟩ := rd_int f2 Try.underlying3
    obtain ⟨x3, e3, hz⟩ := rd_string f3 Try.underlying9
    simp at e1 e2 e3
    subst e1 e2 e3
    exact ⟨⟨x1, x2, x3⟩, rfl, hw, hz⟩
set_option maxRecDepth 100000 in
theorem arg_opE {H : Type} {enc : TypeId × Value → H} {base : Nat} {d : DataW H} {ps : List MemPlace} {w : World} {v : Value} (u : Value.okWide Try.prog w .any base 100 v)
    (k : DataW.Trod enc Try.prog w 0 (fun _ => true) true 100 v d ps) (z : (d.weights Try.prog 100).all (· ≤ reachBytes) = true) : ∃ o : OpE, v = .agg (eOpE o).toArray ∧ (Lit.int .i64 o.t).wf = true ∧ o.s.size ≤ 140737488351232 := by
  simp only [Value.okWide, Try.underlying100] at u
  obtain ⟨cs, rfl, _, _⟩ := u
  obtain ⟨fuel, hf⟩ := k
  obtain ⟨o, h1, h2⟩ := rd_opE (rd_of_trod fuel _ _ d ps hf z)
  refine ⟨o, ?_, h2⟩
  rw [h1]; rfl

section
set_option maxRecDepth 100000 in
theorem nil_pin (w : World) (k : Int) : Calls Try.prog 40 #[.pointer none, .int .i64 k] w fun e w' => e = .returned (.tuple #[]) ∧ w = w' := by
  go_enter Try.func40, Try.ntmps40
  go_wp2
  first | go_end0 | go_returns
  exact ⟨rfl, by first | rfl | trivial⟩
set_option maxRecDepth 100000 in
theorem nil_unpin (w : World) (k : Int) : Calls Try.prog 99 #[.pointer none, .int .i64 k] w fun e w' => e = .returned (.tuple #[]) ∧ w = w' := by
  go_enter Try.func99, Try.ntmps99
  go_wp2
  first | go_end0 | go_returns
  exact ⟨rfl, by first | rfl | trivial⟩
set_option maxRecDepth 100000 in
theorem nil_forget (w : World) (k : Int) : Calls Try.prog 100 #[.pointer none, .int .i64 k] w fun e w' => e = .returned (.tuple #[]) ∧ w = w' := by
  go_enter Try.func100, Try.ntmps100
  go_wp2
  first | go_returns | go_end0
  exact ⟨rfl, by first | rfl | trivial⟩
set_option maxRecDepth 100000 in
theorem nil_pinned (w : World) (k : Int) : Calls Try.prog 52 #[.pointer none, .int .i64 k] w fun e w' => e = .returned (.bool false) ∧ w = w' := by
  go_enter Try.func52, Try.ntmps52
  go_wp2
  go_ret
  exact ⟨rfl, by first | rfl | trivial⟩
set_option maxRecDepth 100000 in
theorem nil_lost (w : World) (k : Int) : Calls Try.prog 41 #[.pointer none, .int .i64 k] w fun e w' => e = .returned (.bool false) ∧ w = w' := by
  go_enter Try.func41, Try.ntmps41
  go_wp2
  go_ret
  exact ⟨rfl, by first | rfl | trivial⟩
set_option maxRecDepth 100000 in
theorem nil_spans (w : World) (k : Int) : Calls Try.prog 55 #[.pointer none, .int .i64 k] w fun e w' => e = .returned (.slice none 0 0) ∧ w = w' := by
  go_enter Try.func55, Try.ntmps55
  go_wp2
  go_ret
  exact ⟨rfl, by first | rfl | trivial⟩
set_option maxRecDepth 100000 in
theorem nil_traces (w : World) : Calls Try.prog 44 #[.pointer none] w fun e w' => e = .returned (.slice none 0 0) ∧ w = w' := by
  go_enter Try.func44, Try.ntmps44
  go_wp2
  go_ret
  exact ⟨rfl, by first | rfl | trivial⟩
set_option maxRecDepth 100000 in
theorem nil_used (w : World) : Calls Try.prog 43 #[.pointer none] w fun e w' => e = .returned (.int .i64 0) ∧ w = w' := by
  go_enter Try.func43, Try.ntmps43
  go_wp2
  go_ret
  exact ⟨rfl, by first | rfl | trivial⟩
set_option maxRecDepth 100000 in
theorem nil_evicted (w : World) : Calls Try.prog 42 #[.pointer none] w fun e w' => e = .returned (.slice none 0 0) ∧ w = w' := by
  go_enter Try.func42, Try.ntmps42
  go_wp2
  go_ret
  exact ⟨rfl, by first | rfl | trivial⟩
set_option maxRecDepth 100000 in
theorem nil_write (w : World) (k : Int) (s : ByteArray) : Calls Try.prog 39 #[.pointer none, .int .i64 k, .string s] w fun e w' => e = .returned (.tuple #[.agg #[.int .i64 0, .int .i64 0, .string ⟨#[]⟩], .int .i64 9]) ∧ Below w.heap.size w w' := by
  have hA := below_alloc (Below.refl w.heap.size w) (.cells #[.int .i64 0, .int .i64 0, .string ⟨#[]⟩] 89)
  have hbx := heap_new w (.cells #[.int .i64 0, .int .i64 0, .string ⟨#[]⟩] 89) rfl
  have hE0 := cell_blk hbx (j := 0) (u := .int .i64 0) rfl
  have hE1 := cell_blk hbx (j := 1) (u := .int .i64 0) rfl
  have hE2 := cell_blk hbx (j := 2) (u := .string ⟨#[]⟩) rfl
  have f0 := froz_blk hbx 0
  have f1 := froz_blk hbx 1
  have f2 := froz_blk hbx 2
  clear hbx
  go_enter Try.func39, Try.ntmps39
  go_wp2
  refine bodyPost_ret (by simp [results, Try.results39, go_sem, hE0, hE1, hE2]; try rfl) rfl ?_
  exact ⟨rfl, hA⟩
end

set_option maxRecDepth 100000 in
set_option maxHeartbeats 4000000 in
/-- a call, where there is no keeper -/
theorem nil_do (w : World) (o : OpE) : Calls Try.prog 47 #[.pointer none, .agg #[.int .i64 o.k, .int .i64 o.t, .string o.s]] w fun e w' => (∃ v, e = .returned v) ∧ Below w.heap.size w w' := by
  obtain ⟨k, t, s⟩ := o
  simp only
  have hA := below_alloc (below_alloc (Below.refl w.heap.size w) (.cells #[.int .i64 k, .int .i64 t, .string s] 100)) (.cells #[.int .i64 0, .int .i64 0, .string ⟨#[]⟩] 89)
  have hby : ((w.alloc (.cells #[.int .i64 k, .int .i64 t, .string s] 100)).alloc (.cells #[.int .i64 0, .int .i64 0, .string ⟨#[]⟩] 89)).heap[w.heap.size + 1]? = some (.cells #[.int .i64 0, .int .i64 0, .string ⟨#[]⟩] 89 (0, 0)) := heap_new _ _ (by simp)
  have hE0 := cell_blk hby (j := 0) (u := .int .i64 0) rfl
  have hE1 := cell_blk hby (j := 1) (u := .int .i64 0) rfl
  have hE2 := cell_blk hby (j := 2) (u := .string ⟨#[]⟩) rfl
  have f0 := froz_blk hby 0
  have f1 := froz_blk hby 1
  have f2 := froz_blk hby 2
  have hcase : k = 1 ∨ k = 2 ∨ k = 3 ∨ k = 4 ∨ (k ≠ 1 ∧ k ≠ 2 ∧ k ≠ 3 ∧ k ≠ 4) := by omega
  rcases hcase with rfl | rfl | rfl | rfl | ⟨n1, n2, n3, n4⟩
  · clear hE0 hE1 hE2 f0 f1 f2
    go_enter Try.func47, Try.ntmps47
    go_wp2_with fail
    generalize ((w.alloc (.cells #[.int .i64 1, .int .i64 t, .string s] 100)).alloc (.cells #[.int .i64 0, .int .i64 0, .string ⟨#[]⟩] 89)) = w1 at hA hby ⊢
    refine (nil_write _ t s).mono ?_
    rintro e w2 ⟨rfl, hb2⟩
    have hby2 := (hb2.block _ (Array.getElem?_eq_some_iff.1 hby).1).trans hby
    have hB2 := below_trans' hb2 hA
    have g0 := cell_blk hby2 (j := 0) (u := .int .i64 0) rfl
    have g1 := cell_blk hby2 (j := 1) (u := .int .i64 0) rfl
    have g2 := cell_blk hby2 (j := 2) (u := .string ⟨#[]⟩) rfl
    have f0 := froz_blk hby2 0
    have f1 := froz_blk hby2 1
    have f2 := froz_blk hby2 2
    have hF := Lib.hid (((hB2.setCell (p := ⟨w.heap.size + 1, 0, none⟩) (Nat.le_succ _) (.int .i64 0)).setCell (p := ⟨w.heap.size + 1, 1, none⟩) (Nat.le_succ _) (.int .i64 0)).setCell (p := ⟨w.heap.size + 1, 2, none⟩) (Nat.le_succ _) (.string ⟨#[]⟩))
    have hr3 := Lib.hid (res3 hby2 (.int .i64 0) (.int .i64 0) (.string ⟨#[]⟩))
    clear hA hby hb2 hby2 hB2
    go_wp2
    have x0 := cell_blk hr3.out (j := 0) (u := .int .i64 0) rfl
    have x1 := cell_blk hr3.out (j := 1) (u := .int .i64 0) rfl
    have x2 := cell_blk hr3.out (j := 2) (u := .string ⟨#[]⟩) rfl
    replace hF := hF.out
    generalize (((w2.setCell ⟨w.heap.size + 1, 0, none⟩ (.int .i64 0)).setCell ⟨w.heap.size + 1, 1, none⟩ (.int .i64 0)).setCell ⟨w.heap.size + 1, 2, none⟩ (.string ⟨#[]⟩)) = w3 at hF x0 x1 x2 ⊢
    refine bodyPost_ret (by simp [results, Try.results47, go_sem, x0, x1, x2]; try rfl) rfl ?_
    exact ⟨⟨_, rfl⟩, hF⟩
  · clear hby
    go_enter Try.func47, Try.ntmps47
    go_wp2_with fail
    refine (nil_pin _ t).mono ?_
    rintro e w2 ⟨rfl, rfl⟩
    go_wp2
    refine bodyPost_ret (by simp [results, Try.results47, go_sem, hE0, hE1, hE2]; try rfl) rfl ?_
    exact ⟨⟨_, rfl⟩, hA⟩
  · clear hby
    go_enter Try.func47, Try.ntmps47
    go_wp2_with fail
    refine (nil_unpin _ t).mono ?_
    rintro e w2 ⟨rfl, rfl⟩
    go_wp2
    refine bodyPost_ret (by simp [results, Try.results47, go_sem, hE0, hE1, hE2]; try rfl) rfl ?_
    exact ⟨⟨_, rfl⟩, hA⟩
  · clear hby
    go_enter Try.func47, Try.ntmps47
    go_wp2_with fail
    refine (nil_forget _ t).mono ?_
    rintro e w2 ⟨rfl, rfl⟩
    go_wp2
    refine bodyPost_ret (by simp [results, Try.results47, go_sem, hE0, hE1, hE2]; try rfl) rfl ?_
    exact ⟨⟨_, rfl⟩, hA⟩
  · have b1 : (k == 1) = false := by simp [n1]
    have b2 : (k == 2) = false := by simp [n2]
    have b3 : (k == 3) = false := by simp [n3]
    have b4 : (k == 4) = false := by simp [n4]
    clear n1 n2 n3 n4 hby
    go_enter Try.func47, Try.ntmps47
    go_wp2
    refine bodyPost_ret (by simp [results, Try.results47, go_sem, hE0, hE1, hE2]; try rfl) rfl ?_
    exact ⟨⟨_, rfl⟩, hA⟩

set_option maxRecDepth 100000 in
set_option maxHeartbeats 4000000 in
theorem nil_any {H : Type} {enc : TypeId × Value → H} {base : Nat} {d : DataW H} {ps : List MemPlace} (v : Value) (w : World)
    (u : Value.okWide Try.prog w .any base 100 v) (k : DataW.Trod enc Try.prog w 0 (fun _ => true) true 100 v d ps) (z : (d.weights Try.prog 100).all (· ≤ reachBytes) = true) :
    Calls Try.prog 12 #[v] w fun e w' => e = .returned (.bool true) ∧ Below w.heap.size w w' := by
  obtain ⟨⟨ok, ot, os⟩, rfl, _, _⟩ := arg_opE u k z
  clear u k z
  have hA := below_alloc (Below.refl w.heap.size w) (.cells #[.int .i64 ok, .int .i64 ot, .string os] 100)
  have hbx := heap_new w (.cells #[.int .i64 ok, .int .i64 ot, .string os] 100) rfl
  show Calls _ _ #[.agg #[.int .i64 ok, .int .i64 ot, .string os]] _ _
  go_enter Try.func12, Try.ntmps12
  go_wp2_with fail
  generalize (w.alloc (.cells #[.int .i64 ok, .int .i64 ot, .string os] 100)) = w1 at hA hbx ⊢
  refine (nil_do _ ⟨ok, ot, os⟩).mono ?_
  rintro e w2 ⟨⟨v2, rfl⟩, hb2⟩
  have hbx2 := (hb2.block _ (Array.getElem?_eq_some_iff.1 hbx).1).trans hbx
  have hB2 := below_trans' hb2 hA
  have c1 := cell_blk hbx2 (j := 1) (u := .int .i64 ot) rfl
  have c2 := cell_blk hbx2 (j := 2) (u := .string os) rfl
  clear hA hbx hb2
  go_wp2_with fail
  refine (nil_write _ ot os).mono ?_
  rintro e w3 ⟨rfl, hb3⟩
  have hA4 := below_alloc (below_trans' hb3 hB2) (.cells #[.int .i64 0, .int .i64 0, .string ⟨#[]⟩] 89)
  have hb4 := below_trans' (below_alloc (Below.refl w3.heap.size w3) (.cells #[.int .i64 0, .int .i64 0, .string ⟨#[]⟩] 89)) hb3
  have hbx4 := (hb4.block _ (Array.getElem?_eq_some_iff.1 hbx2).1).trans hbx2
  clear hB2 hbx2 c1 c2 hb3 hb4
  go_wp2_with fail
  generalize (w3.alloc (.cells #[.int .i64 0, .int .i64 0, .string ⟨#[]⟩] 89)) = w4 at hA4 hbx4 ⊢
  refine (awake_any _).mono ?_
  rintro e w5 ⟨rfl, hb5⟩
  have hbx5 := (hb5.block _ (Array.getElem?_eq_some_iff.1 hbx4).1).trans hbx4
  have hB5 := below_trans' hb5 hA4
  have c1 := cell_blk hbx5 (j := 1) (u := .int .i64 ot) rfl
  clear hbx4 hb5 hA4
  go_wp2_with fail
  refine (nil_pinned _ ot).mono ?_
  rintro e w6 ⟨rfl, rfl⟩
  go_wp2_with fail
  refine (nil_lost _ ot).mono ?_
  rintro e w6 ⟨rfl, rfl⟩
  go_wp2_with fail
  refine (nil_spans _ ot).mono ?_
  rintro e w6 ⟨rfl, rfl⟩
  go_wp2_with fail
  refine (nil_traces _).mono ?_
  rintro e w6 ⟨rfl, rfl⟩
  go_wp2_with fail
  refine (nil_used _).mono ?_
  rintro e w6 ⟨rfl, rfl⟩
  go_wp2_with fail
  refine (nil_evicted _).mono ?_
  rintro e w6 ⟨rfl, rfl⟩
  go_wp2
  go_ret
  exact ⟨rfl, hB5⟩
end Go.Proofs.Ytniggacgkhkgiaa.Ev
