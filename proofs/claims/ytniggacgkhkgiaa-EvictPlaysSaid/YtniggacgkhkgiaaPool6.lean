/- What the pool's Write says and does. Conditions: it lies in memory as Prep says, its buffers are linked as Pinv says. -/
import Derived.Test.YtniggacgkhkgiaaPool5
namespace Go.Sp
open Go.RowKit
/-- the span is there, not yet counted -/
def midB (b : Bf) (x : Spn) : Bf :=
  match b.n with
  | 0 => { b with a := x }
  | 1 => { b with b := x }
  | _ => { b with c := x }
theorem midB_n {b : Bf} (x : Spn) : (midB b x).n = b.n := by
  obtain ⟨a, b, c, n⟩ := b
  unfold midB
  match n with
  | 0 => rfl
  | 1 => rfl
  | n + 2 => rfl
theorem midB_cells {b : Bf} (h : b.n < 3) (x : Spn) : ∃ p ws s, eBf b = p ++ (ws ++ s) ∧ eBf (midB b x) = p ++ (eSpn x ++ s) ∧ ws.length = (eSpn x).length ∧ p.length = b.n * 3 := by
  obtain ⟨a, b, c, n⟩ := b
  simp only at h
  match n, h with
  | 0, _ => exact ⟨[], eSpn a, eSpn b ++ eSpn c ++ [.int .i64 0], rfl, rfl, rfl, rfl⟩
  | 1, _ => exact ⟨eSpn a, eSpn b, eSpn c ++ [.int .i64 1], rfl, rfl, rfl, rfl⟩
  | 2, _ => exact ⟨eSpn a ++ eSpn b, eSpn c, [.int .i64 2], rfl, rfl, rfl, rfl⟩
theorem putB_cells {b : Bf} (h : b.n < 3) (x : Spn) : ∃ p, eBf (midB b x) = p ++ ([.int .i64 b.n] ++ []) ∧ eBf (putB b x) = p ++ ([.int .i64 ((b.n : Int) + 1)] ++ []) ∧ p.length = 9 := by
  obtain ⟨a, b, c, n⟩ := b
  simp only at h
  match n, h with
  | 0, _ => exact ⟨eSpn x ++ eSpn b ++ eSpn c, rfl, rfl, rfl⟩
  | 1, _ => exact ⟨eSpn a ++ eSpn x ++ eSpn c, rfl, rfl, rfl⟩
  | 2, _ => exact ⟨eSpn a ++ eSpn b ++ eSpn x, rfl, rfl, rfl⟩
theorem res3 {w : World} {B : Nat} {a b c : Value} {t : TypeId} (h : w.heap[B]? = some (.cells #[a, b, c] t (0, 0))) (x y z : Value) : (((w.setCell ⟨B, 0, none⟩ x).setCell ⟨B, 1, none⟩ y).setCell ⟨B, 2, none⟩ z).heap[B]? = some (.cells #[x, y, z] t (0, 0)) :=
  (heap_setCell_cells ((heap_setCell_cells ((heap_setCell_cells h x).trans rfl) y).trans rfl) z).trans rfl
section
variable {N : Nat} {bf : List Bf} {fr : List Int} {ch : List (Int × List Int)}
theorem lgetA_mmap (k : Int) : lgetA k (mmap (spOf bf) ch) = spOf bf (lgetA k ch) := by
  unfold lgetA; rw [mget_mmap]; cases mget k ch <;> simp [spOf]
/-- whether a trace's last buffer has room -/
theorem Pinv.room (h : Pinv N bf fr ch) (k : Int) : ((lgetA k (mmap (spOf bf) ch)).length % 3 = 0 ∧ (mget k ch = none ∨ ∃ l' i, mget k ch = some (l' ++ [i]) ∧ (bufAt bf i).n = 3)) ∨
    ((lgetA k (mmap (spOf bf) ch)).length % 3 ≠ 0 ∧ ∃ l' i, mget k ch = some (l' ++ [i]) ∧ (bufAt bf i).n < 3) := by
  rw [lgetA_mmap]
  unfold lgetA
  cases e : mget k ch with
  | none => exact .inl ⟨by simp [spOf], .inl rfl⟩
  | some l =>
    obtain ⟨l', i, rfl, h1, h2⟩ := h.ok k l e
    have h3 := h.len h1 (i := i)
    have h4 := h.bn i
    simp only [Option.getD_some]
    rw [h3]
    by_cases hn : (bufAt bf i).n = 3
    · exact .inl ⟨by omega, .inr ⟨l', i, rfl, hn⟩⟩
    · exact .inr ⟨by omega, l', i, rfl, by omega⟩
end
end Go.Sp
namespace Go.Proofs.Ytniggacgkhkgiaa.Pool
open Go.RowKit Go.Sp Msg
section
variable {w w1 w2 : World} {R : Nat → Prop} {pb bb mb N : Nat} {fv : Value} {bf : List Bf} {fr : List Int} {m : Rows} {k : Int}
/-- the buffer that a span of a trace goes to -/
theorem last_ok (h : Prep w R pb bb mb fv bf fr m) (hI : Pinv N bf fr (mS m)) (hk16 : 1 ≤ k ∧ k ≤ 65535) (x : Spn) (hr : (lgetA k (mmap (spOf bf) (mS m))).length % 3 ≠ 0 ∨ 0 < fr.length) :
    Calls Try.prog 119 #[.pointer (some ⟨pb, 0, none⟩), .int .i64 k] w fun e w' => ∃ n b fv' R' bf' fr' m', e = .returned (.pointer (some ⟨bb, n * 10, none⟩)) ∧ Prep w' R' pb bb mb fv' bf' fr' m' ∧ bf'[n]? = some b ∧ b.n < 3 ∧
      Pinv N (bf'.set n (putB b x)) fr' (mS m') ∧ mmap (spOf (bf'.set n (putB b x))) (mS m') = mput k (lgetA k (mmap (spOf bf) (mS m)) ++ [x]) (mmap (spOf bf) (mS m)) ∧ fr'.length = (bif decide ((lgetA k (mmap (spOf bf) (mS m))).length % 3 = 0) then fr.length - 1 else fr.length) ∧ bf'.length = N ∧ (∀ b, R' b → R b ∨ w.heap.size ≤ b) ∧ Only R w w' := by
  rcases hI.room k with ⟨h3, hno⟩ | ⟨h3, l', i, e, hn⟩
  · cases fr with
    | nil =>
      rcases hr with hr | hr
      · exact absurd h3 hr
      · simp at hr
    | cons i r =>
      have hri := hI.rg i (by simp)
      have hil : i.toNat < bf.length := by rw [hI.hN]; omega
      obtain ⟨hI2, hM2⟩ := hI.take hno x
      refine (last_take h hI hk16 hno).mono ?_
      rintro e w' ⟨rfl, fv', R', m', hP, hm, hR, hO⟩
      refine ⟨i.toNat, zBf, fv', R', bf.set i.toNat zBf, r, m', rfl, hP, by rw [List.getElem?_set_self hil], by simp [zBf], ?_, ?_, by rw [decide_eq_true h3]; simp, by rw [List.length_set]; exact hI.hN, hR, hO⟩
      · rw [List.set_set, hm]; exact hI2
      · rw [List.set_set, hm]; exact hM2
  · obtain ⟨hI2, hM2⟩ := hI.more e hn x
    have hri := hI.rg i (List.mem_append_right _ (mem_chAll e (by simp)))
    have hil : i.toNat < bf.length := by rw [hI.hN]; omega
    refine (last_room h hI e hn).mono ?_
    rintro e w' ⟨rfl, hb⟩
    exact ⟨i.toNat, bufAt bf i, fv, R, bf, fr, m, rfl, h.below hb, by unfold bufAt; rw [List.getD_eq_getElem?_getD, List.getElem?_eq_getElem hil]; rfl, hn, hI2, hM2, by rw [decide_eq_false h3]; rfl, hI.hN, fun b hb => .inl hb, only_of_below hb R⟩

set_option maxRecDepth 100000 in
set_option maxHeartbeats 4000000 in
theorem write_no (h : Prep w R pb bb mb fv bf fr m) (hI : Pinv N bf fr (mS m)) {s : ByteArray} (hr : rightSp (k, ((spOf bf (lgetA k (mS m))).length : Int) + 1, s) = false) :
    Calls Try.prog 94 #[.pointer (some ⟨pb, 0, none⟩), .int .i64 k, .string s] w fun e w' => e = .returned (.tuple #[.agg #[.int .i64 0, .int .i64 0, .string ⟨#[]⟩], .int .i64 1]) ∧ Below w.heap.size w w' := by
  have h48 := hI.sp48 k
  have hA := below_alloc (Below.refl w.heap.size w) (.cells #[.int .i64 0, .int .i64 0, .string ⟨#[]⟩] 89)
  have hbx := heap_new w (.cells #[.int .i64 0, .int .i64 0, .string ⟨#[]⟩] 89) rfl
  have hP := h.below hA
  have HR := Lib.hid hr
  clear hr
  obtain ⟨S, hS⟩ : ∃ S, S = spOf bf (lgetA k (mS m)) := ⟨_, rfl⟩
  have HC := spans_any hP hI k
  rw [← hS] at HC HR h48
  clear hS h hP
  go_enter Try.func94, Try.ntmps94
  go_wp2_with fail
  generalize (w.alloc (.cells #[.int .i64 0, .int .i64 0, .string ⟨#[]⟩] 89)) = w1 at hA hbx HC ⊢
  refine HC.mono ?_
  rintro e w2 ⟨v, rfl, hs, hn, hb2⟩
  obtain ⟨va, vc, rfl⟩ := hs.form
  have hbx2 := (hb2.block _ (Array.getElem?_eq_some_iff.1 hbx).1).trans hbx
  have hA3 := below_alloc (below_trans' hb2 hA) (.cells #[.int .i64 k, .int .i64 ((S.length : Int) + 1), .string s] 89)
  have hb3 := below_alloc (Below.refl w2.heap.size w2) (.cells #[.int .i64 k, .int .i64 ((S.length : Int) + 1), .string s] 89)
  have hbx3 := (hb3.block _ (Array.getElem?_eq_some_iff.1 hbx2).1).trans hbx2
  clear HC hs hn hb2 hbx hbx2 hb3 hA
  go_wp2_with fail
  refine (spRight_any _ (k, ((S.length : Int) + 1), s)).mono ?_
  rintro e w4 ⟨rfl, hb4⟩
  rw [HR.out]
  have hbx4 := (hb4.block _ (Array.getElem?_eq_some_iff.1 hbx3).1).trans hbx3
  have hB4 := below_trans' hb4 hA3
  have f0 := froz_blk hbx4 0
  have f1 := froz_blk hbx4 1
  have f2 := froz_blk hbx4 2
  have e0 := cell_blk hbx4 (j := 0) (u := .int .i64 0) rfl
  have e1 := cell_blk hbx4 (j := 1) (u := .int .i64 0) rfl
  have e2 := cell_blk hbx4 (j := 2) (u := .string ⟨#[]⟩) rfl
  have hF := Lib.hid (((hB4.setCell (p := ⟨w.heap.size, 0, none⟩) (Nat.le_refl _) (.int .i64 0)).setCell (p := ⟨w.heap.size, 1, none⟩) (Nat.le_refl _) (.int .i64 0)).setCell (p := ⟨w.heap.size, 2, none⟩) (Nat.le_refl _) (.string ⟨#[]⟩))
  have hr3 := Lib.hid (res3 hbx4 (.int .i64 0) (.int .i64 0) (.string ⟨#[]⟩))
  clear hA3 hbx3 hb4 hbx4 hB4
  go_wp2
  have x0 := cell_blk hr3.out (j := 0) (u := .int .i64 0) rfl
  have x1 := cell_blk hr3.out (j := 1) (u := .int .i64 0) rfl
  have x2 := cell_blk hr3.out (j := 2) (u := .string ⟨#[]⟩) rfl
  replace hF := hF.out
  generalize (((w4.setCell ⟨w.heap.size, 0, none⟩ (.int .i64 0)).setCell ⟨w.heap.size, 1, none⟩ (.int .i64 0)).setCell ⟨w.heap.size, 2, none⟩ (.string ⟨#[]⟩)) = w5 at hF x0 x1 x2 ⊢
  refine bodyPost_ret (by simp [results, Try.results94, go_sem, x0, x1, x2]; try rfl) rfl ?_
  exact ⟨rfl, hF⟩

set_option maxRecDepth 100000 in
set_option maxHeartbeats 4000000 in
theorem write_full (h : Prep w R pb bb mb fv bf [] m) (hI : Pinv N bf [] (mS m)) {s : ByteArray} (hr : rightSp (k, ((spOf bf (lgetA k (mS m))).length : Int) + 1, s) = true) (h3 : (lgetA k (mmap (spOf bf) (mS m))).length % 3 = 0) :
    Calls Try.prog 94 #[.pointer (some ⟨pb, 0, none⟩), .int .i64 k, .string s] w fun e w' => e = .returned (.tuple #[.agg #[.int .i64 0, .int .i64 0, .string ⟨#[]⟩], .int .i64 6]) ∧ Below w.heap.size w w' := by
  have h48 := hI.sp48 k
  have hA := below_alloc (Below.refl w.heap.size w) (.cells #[.int .i64 0, .int .i64 0, .string ⟨#[]⟩] 89)
  have hbx := heap_new w (.cells #[.int .i64 0, .int .i64 0, .string ⟨#[]⟩] 89) rfl
  have hP := h.below hA
  have HR := Lib.hid hr
  have hno : mget k (mS m) = none ∨ ∃ l' i, mget k (mS m) = some (l' ++ [i]) ∧ (bufAt bf i).n = 3 := by
    rcases hI.room k with ⟨_, hno⟩ | ⟨h3', _⟩
    · exact hno
    · exact absurd h3 h3'
  clear hr h3
  obtain ⟨S, hS⟩ : ∃ S, S = spOf bf (lgetA k (mS m)) := ⟨_, rfl⟩
  have HC := spans_any hP hI k
  rw [← hS] at HC HR h48
  clear hS h
  go_enter Try.func94, Try.ntmps94
  go_wp2_with fail
  generalize (w.alloc (.cells #[.int .i64 0, .int .i64 0, .string ⟨#[]⟩] 89)) = w1 at hA hbx hP HC ⊢
  refine HC.mono ?_
  rintro e w2 ⟨v, rfl, hs, hn, hb2⟩
  obtain ⟨va, vc, rfl⟩ := hs.form
  have hbx2 := (hb2.block _ (Array.getElem?_eq_some_iff.1 hbx).1).trans hbx
  have hA3 := below_alloc (below_trans' hb2 hA) (.cells #[.int .i64 k, .int .i64 ((S.length : Int) + 1), .string s] 89)
  have hb3 := below_alloc (Below.refl w2.heap.size w2) (.cells #[.int .i64 k, .int .i64 ((S.length : Int) + 1), .string s] 89)
  have hbx3 := (hb3.block _ (Array.getElem?_eq_some_iff.1 hbx2).1).trans hbx2
  have hP3 := (hP.below hb2).below hb3
  clear HC hs hn hb2 hbx hbx2 hb3 hA hP
  go_wp2_with fail
  refine (spRight_any _ (k, ((S.length : Int) + 1), s)).mono ?_
  rintro e w4 ⟨rfl, hb4⟩
  rw [HR.out]
  have hP4 := hP3.below hb4
  have hbx4 := (hb4.block _ (Array.getElem?_eq_some_iff.1 hbx3).1).trans hbx3
  have hB4 := below_trans' hb4 hA3
  clear hA3 hbx3 hb4 hP3
  go_wp2_with fail
  refine (last_none hP4 hI hno).mono ?_
  rintro e w5 ⟨rfl, hb5⟩
  have hbx5 := (hb5.block _ (Array.getElem?_eq_some_iff.1 hbx4).1).trans hbx4
  have hB5 := below_trans' hb5 hB4
  have f0 := froz_blk hbx5 0
  have f1 := froz_blk hbx5 1
  have f2 := froz_blk hbx5 2
  have e0 := cell_blk hbx5 (j := 0) (u := .int .i64 0) rfl
  have e1 := cell_blk hbx5 (j := 1) (u := .int .i64 0) rfl
  have e2 := cell_blk hbx5 (j := 2) (u := .string ⟨#[]⟩) rfl
  have hF := Lib.hid (((hB5.setCell (p := ⟨w.heap.size, 0, none⟩) (Nat.le_refl _) (.int .i64 0)).setCell (p := ⟨w.heap.size, 1, none⟩) (Nat.le_refl _) (.int .i64 0)).setCell (p := ⟨w.heap.size, 2, none⟩) (Nat.le_refl _) (.string ⟨#[]⟩))
  have hr3 := Lib.hid (res3 hbx5 (.int .i64 0) (.int .i64 0) (.string ⟨#[]⟩))
  clear hbx4 hb5 hbx5 hB4 hB5 hP4
  go_wp2
  have x0 := cell_blk hr3.out (j := 0) (u := .int .i64 0) rfl
  have x1 := cell_blk hr3.out (j := 1) (u := .int .i64 0) rfl
  have x2 := cell_blk hr3.out (j := 2) (u := .string ⟨#[]⟩) rfl
  replace hF := hF.out
  generalize (((w5.setCell ⟨w.heap.size, 0, none⟩ (.int .i64 0)).setCell ⟨w.heap.size, 1, none⟩ (.int .i64 0)).setCell ⟨w.heap.size, 2, none⟩ (.string ⟨#[]⟩)) = w6 at hF x0 x1 x2 ⊢
  refine bodyPost_ret (by simp [results, Try.results94, go_sem, x0, x1, x2]; try rfl) rfl ?_
  exact ⟨rfl, hF⟩

set_option maxRecDepth 100000 in
set_option maxHeartbeats 4000000 in
theorem write_ok (h : Prep w R pb bb mb fv bf fr m) (hI : Pinv N bf fr (mS m)) {s : ByteArray} (hr : rightSp (k, ((spOf bf (lgetA k (mS m))).length : Int) + 1, s) = true) (hroom : (lgetA k (mmap (spOf bf) (mS m))).length % 3 ≠ 0 ∨ 0 < fr.length) :
    Calls Try.prog 94 #[.pointer (some ⟨pb, 0, none⟩), .int .i64 k, .string s] w fun e w' => e = .returned (.tuple #[.agg #[.int .i64 k, .int .i64 (((spOf bf (lgetA k (mS m))).length : Int) + 1), .string s], .int .i64 0]) ∧ ∃ fv' R' bf' fr' m', Prep w' R' pb bb mb fv' bf' fr' m' ∧ Pinv N bf' fr' (mS m') ∧
      mmap (spOf bf') (mS m') = mput k (lgetA k (mmap (spOf bf) (mS m)) ++ [(k, ((spOf bf (lgetA k (mS m))).length : Int) + 1, s)]) (mmap (spOf bf) (mS m)) ∧ fr'.length = (bif decide ((lgetA k (mmap (spOf bf) (mS m))).length % 3 = 0) then fr.length - 1 else fr.length) ∧ (∀ b, R' b → R b ∨ w.heap.size ≤ b) ∧ Only R w w' := by
  have h48 := hI.sp48 k
  have hA := below_alloc (Below.refl w.heap.size w) (.cells #[.int .i64 0, .int .i64 0, .string ⟨#[]⟩] 89)
  have hbx := heap_new w (.cells #[.int .i64 0, .int .i64 0, .string ⟨#[]⟩] 89) rfl
  have hP := h.below hA
  have HR := Lib.hid hr
  have hk16 : 1 ≤ k ∧ k ≤ 65535 := by
    unfold rightSp at hr
    simp only [Bool.and_eq_true, decide_eq_true_eq] at hr
    exact ⟨hr.1, hr.2.1⟩
  clear hr
  obtain ⟨S, hS⟩ : ∃ S, S = spOf bf (lgetA k (mS m)) := ⟨_, rfl⟩
  have HC := spans_any hP hI k
  rw [← hS] at HC HR h48 ⊢
  have HL := fun (w' : World) (hP' : Prep w' R pb bb mb fv bf fr m) => last_ok hP' hI hk16 (k, (S.length : Int) + 1, s) hroom
  obtain ⟨D, hD⟩ : ∃ D, D = mput k (lgetA k (mmap (spOf bf) (mS m)) ++ [(k, (S.length : Int) + 1, s)]) (mmap (spOf bf) (mS m)) := ⟨_, rfl⟩
  obtain ⟨F, hF⟩ : ∃ F, F = (bif decide ((lgetA k (mmap (spOf bf) (mS m))).length % 3 = 0) then fr.length - 1 else fr.length) := ⟨_, rfl⟩
  simp only [← hD, ← hF] at HL ⊢
  have hRlt := h.rlt
  clear hS h hD hF hroom
  go_enter Try.func94, Try.ntmps94
  go_wp2_with fail
  generalize (w.alloc (.cells #[.int .i64 0, .int .i64 0, .string ⟨#[]⟩] 89)) = w1 at hA hbx hP HC ⊢
  refine HC.mono ?_
  rintro e w2 ⟨v, rfl, hs, hn, hb2⟩
  obtain ⟨va, vc, rfl⟩ := hs.form
  have hbx2 := (hb2.block _ (Array.getElem?_eq_some_iff.1 hbx).1).trans hbx
  have hA3 := below_alloc (below_trans' hb2 hA) (.cells #[.int .i64 k, .int .i64 ((S.length : Int) + 1), .string s] 89)
  have hb3 := below_alloc (Below.refl w2.heap.size w2) (.cells #[.int .i64 k, .int .i64 ((S.length : Int) + 1), .string s] 89)
  have hbx3 := (hb3.block _ (Array.getElem?_eq_some_iff.1 hbx2).1).trans hbx2
  have hby3 := heap_new w2 (.cells #[.int .i64 k, .int .i64 ((S.length : Int) + 1), .string s] 89) rfl
  have hP3 := (hP.below hb2).below hb3
  have hz2 := (below_trans' hb2 hA).size
  clear HC hs hn hb2 hbx hbx2 hb3 hA hP
  go_wp2_with fail
  refine (spRight_any _ (k, ((S.length : Int) + 1), s)).mono ?_
  rintro e w4 ⟨rfl, hb4⟩
  rw [HR.out]
  have hP4 := hP3.below hb4
  have hbx4 := (hb4.block _ (Array.getElem?_eq_some_iff.1 hbx3).1).trans hbx3
  have hby4 := (hb4.block _ (Array.getElem?_eq_some_iff.1 hby3).1).trans hby3
  have hB4 := below_trans' hb4 hA3
  generalize w2.heap.size = xb at hby4 hz2 ⊢
  clear hA3 hbx3 hby3 hb4 hP3
  go_wp2_with fail
  refine (HL _ hP4).mono ?_
  rintro e w5 ⟨n, b, fv', R', bf', fr', m', rfl, hP5, hbn, hn3, hI5, hM5, hF5, hN5, hR5, hO5⟩
  have hR5' : ∀ b, R' b → R b ∨ w.heap.size ≤ b := fun b hb => (hR5 b hb).imp id (fun e => Nat.le_trans hB4.size e)
  have hO5' : Only R w w5 := (only_of_below hB4 R).trans hO5
  have hbx5 := hO5.heap hbx4 (fun e => by have := hRlt _ e; omega)
  have hby5 := hO5.heap hby4 (fun e => by have := hRlt _ e; omega)
  have hzx : ¬ R' w.heap.size := fun e => by
    rcases hR5 _ e with h | h
    · have := hRlt _ h; omega
    · have := (Array.getElem?_eq_some_iff.1 hbx4).1; omega
  have hzy : ¬ R' xb := fun e => by
    rcases hR5 _ e with h | h
    · have := hRlt _ h; omega
    · have := (Array.getElem?_eq_some_iff.1 hby4).1; omega
  clear HL hP4 hbx4 hby4 hB4 hR5 hO5
  have g9 : w5.cell? ⟨bb, n * 10 + 9, none⟩ = some (.int .i64 (b.n : Int)) := hP5.buf hbn rfl
  have y0 := cell_blk hby5 (j := 0) (u := .int .i64 k) rfl
  have y1 := cell_blk hby5 (j := 1) (u := .int .i64 ((S.length : Int) + 1)) rfl
  have y2 := cell_blk hby5 (j := 2) (u := .string s) rfl
  have HP5 := Lib.hid (And.intro hP5 (And.intro hbn (And.intro hI5 (And.intro hM5 (And.intro hF5 (And.intro hR5' (And.intro hO5' (And.intro hbx5 (And.intro hby5 (And.intro hzx hzy))))))))))
  clear hP5 hbn hI5 hM5 hF5 hR5' hO5' hbx5 hby5 hzx hzy
  have hth : w5.drew.there bb (n * 10 + b.n * 3) 3 := fun j hj => by
    have hnl : n < bf'.length := (List.getElem?_eq_some_iff.1 HP5.out.2.1).1
    have := HP5.out.1.there hnl (b.n * 3 + j) (by omega)
    rw [← Nat.add_assoc] at this
    exact this
  have hn0 : (b.n : Int) < 3 := by omega
  go_upto_region 9 with (fail)
  have HTH := Lib.hid hth
  clear hth
  go_still_tail 9, (by kernel_rfl)
  change wpList _ _ _ _ _ w5.drew
  refine wpList_store_mid rfl 89 _ _ rfl bb (n * 10 + b.n * 3) #[.int .i64 k, .int .i64 ((S.length : Int) + 1), .string s] (by simp only [go_sem]; simp) (by simp only [go_sem]; simp) HTH.out (by kernel_rfl) (by simp [Value.oneCell']) ?_
  obtain ⟨hP5, hbn, hI5, hM5, hF5, hR5', hO5', hbx5, hby5, hzx, hzy⟩ := HP5.out
  obtain ⟨p, ws, s', q1, q2, q3, q4⟩ := midB_cells hn3 (k, (S.length : Int) + 1, s)
  obtain ⟨hP6, hO6⟩ := (hP5.heap (w' := w5.drew) rfl).setBuf hbn (y' := midB b (k, (S.length : Int) + 1, s)) q1 q2 q3
  rw [q4] at hP6 hO6
  change wpList _ _ _ _ _ (w5.drew.setCells bb (n * 10 + b.n * 3) (eSpn (k, (S.length : Int) + 1, s)))
  generalize w5.drew.setCells bb (n * 10 + b.n * 3) (eSpn (k, (S.length : Int) + 1, s)) = w6 at hP6 hO6 ⊢
  have hO6' := hO5'.drew.trans' hO6 (fun i hi e => by
    rcases hR5' i e with h | h
    · exact h
    · omega)
  have hbx6 := hO6.heap (show w5.drew.heap[w.heap.size]? = _ from hbx5) hzx
  have hby6 := hO6.heap (show w5.drew.heap[xb]? = _ from hby5) hzy
  have hnl : n < bf'.length := (List.getElem?_eq_some_iff.1 hbn).1
  have hbn6 : (bf'.set n (midB b (k, (S.length : Int) + 1, s)))[n]? = some (midB b (k, (S.length : Int) + 1, s)) := List.getElem?_set_self hnl
  have e9 : w6.cell? ⟨bb, n * 10 + 9, none⟩ = some (.int .i64 (b.n : Int)) := hP6.buf hbn6 (by rw [← midB_n (b := b) (k, (S.length : Int) + 1, s)]; rfl)
  have f9 : w6.frozen? ⟨bb, n * 10 + 9, none⟩ = false := hP6.bfs.free _
  obtain ⟨p9, r1, r2, r3⟩ := putB_cells hn3 (k, (S.length : Int) + 1, s)
  obtain ⟨hP7, hO7⟩ := hP6.setBuf hbn6 (y' := putB b (k, (S.length : Int) + 1, s)) r1 r2 rfl
  rw [r3, List.set_set] at hP7
  rw [r3] at hO7
  have hO7' := hO6'.trans' hO7 (fun i hi e => by
    rcases hR5' i e with h | h
    · exact h
    · omega)
  have hbx7 := hO7.heap hbx6 hzx
  have hby7 := hO7.heap hby6 hzy
  have HP7 := Lib.hid (And.intro hP7 (And.intro hO7' (And.intro hbx7 hby7)))
  clear hP5 hbn hP6 hO6 hO6' hbx6 hby6 hbn6 r1 r2 r3 hP7 hO7 hO7' hbx7 hby7 hO5' hbx5 hby5 q1 q2 q3 q4 HTH g9 y0 y1 y2 hnl HP5
  go_upto_region 11 with (fail)
  obtain ⟨hP7, hO7, hbx7, hby7⟩ := HP7.out
  change Code.wp _ _ _ _ (w6.setCells bb (n * 10 + 9) [.int .i64 ((b.n : Int) + 1)])
  generalize w6.setCells bb (n * 10 + 9) [.int .i64 ((b.n : Int) + 1)] = w7 at hP7 hO7 hbx7 hby7 ⊢
  have y0 := cell_blk hby7 (j := 0) (u := .int .i64 k) rfl
  have y1 := cell_blk hby7 (j := 1) (u := .int .i64 ((S.length : Int) + 1)) rfl
  have y2 := cell_blk hby7 (j := 2) (u := .string s) rfl
  have f0 := froz_blk hbx7 0
  have f1 := froz_blk hbx7 1
  have f2 := froz_blk hbx7 2
  have e0 := cell_blk hbx7 (j := 0) (u := .int .i64 0) rfl
  have e1 := cell_blk hbx7 (j := 1) (u := .int .i64 0) rfl
  have e2 := cell_blk hbx7 (j := 2) (u := .string ⟨#[]⟩) rfl
  have hOx : Only (· = w.heap.size) w7 (((w7.setCell ⟨w.heap.size, 0, none⟩ (.int .i64 k)).setCell ⟨w.heap.size, 1, none⟩ (.int .i64 ((S.length : Int) + 1))).setCell ⟨w.heap.size, 2, none⟩ (.string s)) :=
    (((Only.refl (· = w.heap.size) w7).setCell (p := ⟨w.heap.size, 0, none⟩) (fun _ => rfl) _).setCell (p := ⟨w.heap.size, 1, none⟩) (fun _ => rfl) _).setCell (p := ⟨w.heap.size, 2, none⟩) (fun _ => rfl) _
  have hP8 := hP7.only hOx (fun b hb e => hzx (by rw [← e]; exact hb))
  have hO8 := hO7.trans' hOx (fun i hi e => by omega)
  have hr3 := res3 hbx7 (.int .i64 k) (.int .i64 ((S.length : Int) + 1)) (.string s)
  have H8 := Lib.hid (And.intro hP8 (And.intro hO8 hr3))
  clear hP7 hO7 hbx7 hby7 hOx hP8 hO8 hr3 e9 f9 HP7
  go_wp2
  obtain ⟨hP8, hO8, hr3⟩ := H8.out
  have x0 := cell_blk hr3 (j := 0) (u := .int .i64 k) rfl
  have x1 := cell_blk hr3 (j := 1) (u := .int .i64 ((S.length : Int) + 1)) rfl
  have x2 := cell_blk hr3 (j := 2) (u := .string s) rfl
  generalize (((w7.setCell ⟨w.heap.size, 0, none⟩ (.int .i64 k)).setCell ⟨w.heap.size, 1, none⟩ (.int .i64 ((S.length : Int) + 1))).setCell ⟨w.heap.size, 2, none⟩ (.string s)) = w8 at hP8 hO8 x0 x1 x2 ⊢
  refine bodyPost_ret (by simp [results, Try.results94, go_sem, x0, x1, x2]; try rfl) rfl ?_
  exact ⟨rfl, _, _, _, _, _, hP8, hI5, hM5, hF5, hR5', hO8⟩
end
end Go.Proofs.Ytniggacgkhkgiaa.Pool
