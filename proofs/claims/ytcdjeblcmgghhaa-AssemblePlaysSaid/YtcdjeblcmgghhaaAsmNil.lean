/- AssembleNil: of an assembler that is none nothing comes; the law answers true for every input. Conditions: the argument can be read. -/
import Derived.Test.YtcdjeblcmgghhaaAsmAwake
import Derived.Test.YtcdjeblcmgghhaaAsmMsg2
import Derived.Test.YtcdjeblcmgghhaaArgs
namespace Go.Proofs.Ytcdjeblcmgghhaa.Asm
open Go.RowKit Go.Sp Msg

set_option maxRecDepth 100000 in
theorem rd_spn {w : World} {m : Nat} {ds : List Value} (h : Rd Try.prog w m 63 ds) : ∃ x : Spn, eSpn x = ds ∧ True := by
  obtain ⟨hl, hf⟩ := rd_struct h Try.underlying63
  have hc : Try.prog.cellsOf 63 = 3 := by kernel_rfl
  have hi : Try.prog.cellsOf 3 = 1 := by kernel_rfl
  have hs : Try.prog.cellsOf 9 = 1 := by kernel_rfl
  rw [hc] at hl
  match ds, hl with
  | [a, b, c], _ =>
    simp [hi, hs] at hf
    obtain ⟨⟨m1, f1⟩, ⟨m2, f2⟩, ⟨m3, f3⟩⟩ := hf
    obtain ⟨x1, e1, _⟩ := rd_int f1 Try.underlying3
    obtain ⟨x2, e2, _⟩ := rd_int f2 Try.underlying3
    obtain ⟨x3, e3, _⟩ := rd_string f3 Try.underlying9
    simp at e1 e2 e3
    subst e1 e2 e3
    exact ⟨(x1, x2, x3), rfl, trivial⟩

theorem rd_spans {w : World} {m : Nat} {ds : List Value} (h : Rd Try.prog w m 32 ds) : ∃ v xs, ds = [v] ∧ RS w 3 eSpn v xs := by
  obtain ⟨v, xs, e, h1, _⟩ := rs_of_rd (size := 3) (elt := eSpn) (Q := fun _ => True) h Try.underlying32 (by kernel_rfl) (by omega) (fun m ds h => rd_spn h)
  exact ⟨v, xs, e, h1⟩
theorem rd_ints {w : World} {m : Nat} {ds : List Value} (h : Rd Try.prog w m 28 ds) : ∃ v xs, ds = [v] ∧ RS w 1 eInt v xs := by
  obtain ⟨v, xs, e, h1, _⟩ := rs_of_rd (size := 1) (elt := eInt) (Q := fun _ => True) h Try.underlying28 (by kernel_rfl) (by omega) (fun m ds h => by
    obtain ⟨x, e, _⟩ := rd_int h Try.underlying3
    exact ⟨x, e.symm, trivial⟩)
  exact ⟨v, xs, e, h1⟩

set_option maxRecDepth 100000 in
theorem rd_opD {w : World} {m : Nat} {ds : List Value} (h : Rd Try.prog w m 39 ds) : ∃ o : OpD, eOpD o = ds ∧ OpIn w o := by
  obtain ⟨hl, hf⟩ := rd_struct h Try.underlying39
  have hc : Try.prog.cellsOf 39 = 9 := by kernel_rfl
  have hi : Try.prog.cellsOf 3 = 1 := by kernel_rfl
  have hs : Try.prog.cellsOf 32 = 1 := by kernel_rfl
  have hn : Try.prog.cellsOf 28 = 1 := by kernel_rfl
  have hb : Try.prog.cellsOf 4 = 1 := by kernel_rfl
  rw [hc] at hl
  match ds, hl with
  | [a, b, c, d, e, f, g, k, l], _ =>
    simp [hi, hs, hn, hb] at hf
    obtain ⟨⟨m1, f1⟩, ⟨m2, f2⟩, ⟨m3, f3⟩, ⟨m4, f4⟩, ⟨m5, f5⟩, ⟨m6, f6⟩, ⟨m7, f7⟩, ⟨m8, f8⟩, ⟨m9, f9⟩⟩ := hf
    obtain ⟨x1, e1, _⟩ := rd_int f1 Try.underlying3
    obtain ⟨x2, e2, _⟩ := rd_int f2 Try.underlying3
    obtain ⟨x3, e3, _⟩ := rd_int f3 Try.underlying3
    obtain ⟨x4, e4, _⟩ := rd_int f4 Try.underlying3
    obtain ⟨x5, e5, _⟩ := rd_int f5 Try.underlying3
    obtain ⟨x6, e6, _⟩ := rd_int f6 Try.underlying3
    obtain ⟨x7, xs, e7, h7⟩ := rd_spans f7
    obtain ⟨x8, cs, e8, h8⟩ := rd_ints f8
    obtain ⟨x9, e9⟩ := rd_bool f9 Try.underlying4
    simp at e1 e2 e3 e4 e5 e6 e7 e8 e9
    subst e1 e2 e3 e4 e5 e6 e7 e8 e9
    exact ⟨⟨x1, x2, x3, x4, x5, x6, g, xs, k, cs, x9⟩, rfl, h7, h8⟩

set_option maxRecDepth 100000 in
theorem arg_opD {H : Type} {enc : TypeId × Value → H} {base : Nat} {d : DataW H} {ps : List MemPlace} {w : World} {v : Value} (u : Value.okWide Try.prog w .any base 39 v)
    (k : DataW.Trod enc Try.prog w 0 (fun _ => true) true 39 v d ps) (z : (d.weights Try.prog 39).all (· ≤ reachBytes) = true) : ∃ o : OpD, v = .agg (eOpD o).toArray ∧ OpIn w o := by
  simp only [Value.okWide, Try.underlying39] at u
  obtain ⟨cs, rfl, _, _⟩ := u
  obtain ⟨fuel, hf⟩ := k
  obtain ⟨o, h1, h2⟩ := rd_opD (rd_of_trod fuel _ _ d ps hf z)
  refine ⟨o, ?_, h2⟩
  rw [h1]; rfl

theorem record_nil (w : World) : Calls Try.prog 23 #[.pointer none] w fun e w' => e = .returned (.tuple #[.agg #[.int .i64 0, .int .i64 0, .int .i64 0, .bool false, .slice none 0 0], .bool false]) ∧ Below w.heap.size w w' := by
  have hA := below_alloc (Below.refl w.heap.size w) (.cells #[.int .i64 0, .int .i64 0, .int .i64 0, .bool false, .slice none 0 0] 50)
  go_enter Try.func23, Try.ntmps23
  go_wp2
  go_returns
  exact ⟨rfl, hA⟩
theorem missing_nil (w : World) : Calls Try.prog 21 #[.pointer none] w fun e w' => e = .returned (.slice none 0 0) ∧ w = w' := by
  go_enter Try.func21, Try.ntmps21
  go_wp2
  go_ret
  exact ⟨rfl, by first | rfl | trivial⟩
theorem hear_nil {w : World} {m : Mg} (h : InMem w m) : Calls Try.prog 17 #[.pointer none, val m] w fun e w' => e = .returned (.bool false) ∧ Below w.heap.size w w' := by
  have H := of_any w m h
  generalize val m = vm at H ⊢
  generalize mT m = mt at *
  generalize mJ m = mj at *
  generalize mOk m = mo at *
  clear h
  go_enter Try.func17, Try.ntmps17
  go_wp2_with fail
  refine H.mono ?_
  rintro e w1 ⟨rfl, hb1⟩
  go_wp2
  go_ret
  exact ⟨rfl, hb1⟩

set_option maxRecDepth 100000 in
set_option maxHeartbeats 4000000 in
theorem nil_any {H : Type} {enc : TypeId × Value → H} {base : Nat} {d : DataW H} {ps : List MemPlace} (v : Value) (w : World) (u : Value.okWide Try.prog w .any base 39 v)
    (kk : DataW.Trod enc Try.prog w 0 (fun _ => true) true 39 v d ps) (z : (d.weights Try.prog 39).all (· ≤ reachBytes) = true) :
    Calls Try.prog 5 #[v] w fun e w' => e = .returned (.bool true) ∧ Below w.heap.size w w' := by
  obtain ⟨⟨k, a, t, j, i, n, sv, xs, cv, cs, l⟩, rfl, hin⟩ := arg_opD u kk z
  clear u kk z
  obtain ⟨hxs, hcs⟩ := hin
  simp only at hxs hcs
  obtain ⟨_, xa, xc, rfl, _⟩ := id hxs
  obtain ⟨_, ca, cc, rfl, _⟩ := id hcs
  show Calls _ _ #[.agg #[.int .i64 k, .int .i64 a, .int .i64 t, .int .i64 j, .int .i64 i, .int .i64 n, .slice xa xs.length xc, .slice ca cs.length cc, .bool l]] _ _
  have hA := below_alloc (Below.refl w.heap.size w) (.cells #[.int .i64 k, .int .i64 a, .int .i64 t, .int .i64 j, .int .i64 i, .int .i64 n, .slice xa xs.length xc, .slice ca cs.length cc, .bool l] 39)
  have hbx := heap_new w (.cells #[.int .i64 k, .int .i64 a, .int .i64 t, .int .i64 j, .int .i64 i, .int .i64 n, .slice xa xs.length xc, .slice ca cs.length cc, .bool l] 39) rfl
  go_enter Try.func5, Try.ntmps5
  go_wp2_with fail
  obtain ⟨o, ho⟩ : ∃ o : OpD, o = ⟨k, a, t, j, i, n, .slice xa xs.length xc, xs, .slice ca cs.length cc, cs, l⟩ := ⟨_, rfl⟩
  have hs0 : (w.alloc (.cells #[.int .i64 k, .int .i64 a, .int .i64 t, .int .i64 j, .int .i64 i, .int .i64 n, .slice xa xs.length xc, .slice ca cs.length cc, .bool l] 39)).heap.size = w.heap.size + 1 := by simp
  have hA2 := below_alloc hA (.cells #[.int .i64 k, .int .i64 a, .int .i64 t, .int .i64 j, .int .i64 i, .int .i64 n, .slice xa xs.length xc, .slice ca cs.length cc, .bool l] 39)
  have hA2' := below_alloc (Below.refl (w.alloc (.cells #[.int .i64 k, .int .i64 a, .int .i64 t, .int .i64 j, .int .i64 i, .int .i64 n, .slice xa xs.length xc, .slice ca cs.length cc, .bool l] 39)).heap.size (w.alloc (.cells #[.int .i64 k, .int .i64 a, .int .i64 t, .int .i64 j, .int .i64 i, .int .i64 n, .slice xa xs.length xc, .slice ca cs.length cc, .bool l] 39))) (.cells #[.int .i64 k, .int .i64 a, .int .i64 t, .int .i64 j, .int .i64 i, .int .i64 n, .slice xa xs.length xc, .slice ca cs.length cc, .bool l] 39)
  have hbx2 := (hA2'.block w.heap.size (by simp)).trans hbx
  have hrs : RS ((w.alloc (.cells #[.int .i64 k, .int .i64 a, .int .i64 t, .int .i64 j, .int .i64 i, .int .i64 n, .slice xa xs.length xc, .slice ca cs.length cc, .bool l] 39)).alloc (.cells #[.int .i64 k, .int .i64 a, .int .i64 t, .int .i64 j, .int .i64 i, .int .i64 n, .slice xa xs.length xc, .slice ca cs.length cc, .bool l] 39)) 9 eOpD (.slice (some ⟨w.heap.size + 1, 0, none⟩) 1 1) [o] := by
    rw [ho]
    exact rs_lits (enc := eOpD) (size := 9) eOpD_len (w.alloc (.cells #[.int .i64 k, .int .i64 a, .int .i64 t, .int .i64 j, .int .i64 i, .int .i64 n, .slice xa xs.length xc, .slice ca cs.length cc, .bool l] 39)) [⟨k, a, t, j, i, n, .slice xa xs.length xc, xs, .slice ca cs.length cc, cs, l⟩] 39 (by unfold maxLen; simp) (by simp)
  generalize ((w.alloc (.cells #[.int .i64 k, .int .i64 a, .int .i64 t, .int .i64 j, .int .i64 i, .int .i64 n, .slice xa xs.length xc, .slice ca cs.length cc, .bool l] 39)).alloc (.cells #[.int .i64 k, .int .i64 a, .int .i64 t, .int .i64 j, .int .i64 i, .int .i64 n, .slice xa xs.length xc, .slice ca cs.length cc, .bool l] 39)) = w2 at hA2 hbx2 hrs ⊢
  clear hA hbx hA2' hs0
  have hlt : w.heap.size < w2.heap.size := (Array.getElem?_eq_some_iff.1 hbx2).1
  refine (fewL_any hrs (fun o' h => by
    rw [List.mem_singleton.1 h, ho]
    exact ⟨hxs.only (only_of_below hA2 (fun _ => False)) (fun _ _ => id), hcs.only (only_of_below hA2 (fun _ => False)) (fun _ _ => id)⟩)).mono ?_
  rintro e w3 ⟨rfl, hb3⟩
  have hbx3 := (hb3.block w.heap.size hlt).trans hbx2
  have hw3 := below_trans' hb3 hA2
  cases hf : fewL [o] with
  | false =>
    go_wp2_with fail
    refine (awake_any _).mono ?_
    rintro e w4 ⟨rfl, hb4⟩
    have hw4 := below_trans' hb4 hw3
    go_wp2
    go_ret
    exact ⟨rfl, hw4⟩
  | true =>
    have hcl : cs.length ≤ 1000 := by
      rw [ho] at hf
      simp only [fewL, fewO, List.all_cons, List.all_nil, Bool.and_true, Bool.and_eq_true, decide_eq_true_eq] at hf
      omega
    clear hrs
    go_wp2_with fail
    refine (record_nil _).mono ?_
    rintro e w4 ⟨rfl, hb4⟩
    have hw4 := below_trans' hb4 hw3
    have hlt3 := Nat.lt_of_lt_of_le hlt hb3.size
    have hA5 := below_alloc (Below.refl w4.heap.size w4) (.cells #[.int .i64 0, .int .i64 0, .int .i64 0, .bool false, .slice none 0 0] 50)
    have hbx5 := ((below_trans' hA5 hb4).block w.heap.size hlt3).trans hbx3
    have hlt5 : w.heap.size < (w4.alloc (.cells #[.int .i64 0, .int .i64 0, .int .i64 0, .bool false, .slice none 0 0] 50)).heap.size := (Array.getElem?_eq_some_iff.1 hbx5).1
    have hw5 := below_trans' hA5 hw4
    go_wp2_with fail
    generalize (w4.alloc (.cells #[.int .i64 0, .int .i64 0, .int .i64 0, .bool false, .slice none 0 0] 50)) = w5 at hA5 hbx5 hlt5 hw5 ⊢
    refine (awake_any _).mono ?_
    rintro e w6 ⟨rfl, hb6⟩
    have hbx6 := (hb6.block w.heap.size hlt5).trans hbx5
    have hw6 := below_trans' hb6 hw5
    have g0 : w6.cell? ⟨w.heap.size, 0, none⟩ = some (.int .i64 k) := by simp [World.cell?, hbx6]
    have g1 : w6.cell? ⟨w.heap.size, 1, none⟩ = some (.int .i64 a) := by simp [World.cell?, hbx6]
    have g2 : w6.cell? ⟨w.heap.size, 2, none⟩ = some (.int .i64 t) := by simp [World.cell?, hbx6]
    have g3 : w6.cell? ⟨w.heap.size, 3, none⟩ = some (.int .i64 j) := by simp [World.cell?, hbx6]
    have g4 : w6.cell? ⟨w.heap.size, 4, none⟩ = some (.int .i64 i) := by simp [World.cell?, hbx6]
    have g5 : w6.cell? ⟨w.heap.size, 5, none⟩ = some (.int .i64 n) := by simp [World.cell?, hbx6]
    have g6 : w6.cell? ⟨w.heap.size, 6, none⟩ = some (.slice xa xs.length xc) := by simp [World.cell?, hbx6]
    have g7 : w6.cell? ⟨w.heap.size, 7, none⟩ = some (.slice ca cs.length cc) := by simp [World.cell?, hbx6]
    have g8 : w6.cell? ⟨w.heap.size, 8, none⟩ = some (.bool l) := by simp [World.cell?, hbx6]
    have HM := message_any w6 (k := k) (a := a) (t := t) (j := j) (i := i) (n := n) (l := l) (hxs.only (only_of_below hw6 (fun _ => False)) (fun _ _ => id)) (hcs.only (only_of_below hw6 (fun _ => False)) (fun _ _ => id)) hcl
    clear hxs hcs hbx6 hb6 hbx5 hlt5 hw5 hA5 hlt3 hw4 hb4 hw3 hbx3 hb3 hlt hbx2 hA2 ho hf
    go_wp2_with fail
    refine HM.mono ?_
    rintro e w7 ⟨m, rfl, _, hin, _, hb7⟩
    have hw7 := below_trans' hb7 hw6
    have HN := hear_nil hin
    clear HM hin hb7 g0 g1 g2 g3 g4 g5 g6 g7 g8
    obtain ⟨mv, hmv⟩ : ∃ mv, mv = val m := ⟨_, rfl⟩
    rw [← hmv] at HN ⊢
    have hf : (∃ t v, mv = .iface t v) ∨ mv = .nilIface := by rw [hmv]; exact val_form _
    clear hmv
    rcases hf with ⟨tt, vv, rfl⟩ | rfl
    all_goals (
      go_wp2_with fail
      refine HN.mono ?_
      rintro e w8 ⟨rfl, hb8⟩
      have hw8 := below_trans' hb8 hw7
      go_wp2_with fail
      refine (missing_nil _).mono ?_
      rintro e w9 ⟨rfl, rfl⟩
      go_wp2
      go_ret
      exact ⟨rfl, hw8⟩)
end Go.Proofs.Ytcdjeblcmgghhaa.Asm
