/- What the reference's Hear says of a Chunk that is for it. Conditions: it lies in memory as Wr says; the chunk's spans were there before it. PRINTED BY wip/gen_asr2.py. -/
import Derived.Test.YtcdjeblcmgghhaaAsr2
namespace Go.Sp
open Go.RowKit
theorem refuse_yes {C : List Chk} {c d : Chk} {q : Nat} (hd : C[q]? = some d) (h1 : d.a = c.a) (h2 : d.n ≠ c.n ∨ d.i = c.i) : refuse C c = true := by
  unfold refuse
  rw [List.any_eq_true]
  exact ⟨d, List.mem_of_getElem? hd, by rcases h2 with h2 | h2 <;> simp [h1, h2]⟩
theorem refuse_none {C : List Chk} {c : Chk} (h : ∀ d ∈ C, ¬ (d.a = c.a ∧ (d.n ≠ c.n ∨ d.i = c.i))) : refuse C c = false := by
  unfold refuse
  rw [List.any_eq_false]
  intro d hd e
  refine h d hd ?_
  simpa using e
end Go.Sp
namespace Go.Proofs.Ytcdjeblcmgghhaa.Asm
open Go.RowKit Go.Sp Msg Go.Sort

theorem app_chunk {w0 w w5 : World} {Rw : Nat → Prop} {wb : Nat} {t j : Int} {man : Option (Int × List Pt)} {C : List Chk} {M : Ms} {cv : Value} {Cs : List (Chk × Value)} (h : Wr w0 w Rw wb t j man C M cv Cs) {o : Obj}
    (ho : Only (fun k => cv.ownBlock = some k) (w.alloc o).drew w5) : w5.heap[wb]? = some (.cells (eAsr t j M man.isSome cv) 37 (0, 0)) ∧ w5.frozen? ⟨wb, 18, none⟩ = false ∧ w5.cell? ⟨wb, 18, none⟩ = some cv ∧ Only (fun k => cv.ownBlock = some k) w w5 := by
  have ha : Only (fun k => cv.ownBlock = some k) w w5 := (((Only.refl _ w).alloc o).drew).trans ho
  have hb := ha.heap h.blk (fun e => sl_not h.blk h.sl (by decide) e)
  exact ⟨hb, froz_blk hb 18, cell_blk hb rfl, ha⟩
theorem put_chunk {w0 w w5 : World} {Rw : Nat → Prop} {wb : Nat} {t j a i n : Int} {man : Option (Int × List Pt)} {C : List Chk} {M : Ms} {cv sv : Value} {Cs : List (Chk × Value)} {xs : List Spn} {b5 off5 cap5 : Nat}
    (h : Wr w0 w Rw wb t j man C M cv Cs) (hb : w5.heap[wb]? = some (.cells (eAsr t j M man.isSome cv) 37 (0, 0))) (ha : Only (fun k => cv.ownBlock = some k) w w5)
    (hs : SL w5.heap 34 15 (.slice (some ⟨b5, off5, none⟩) (Cs.length + 1) cap5) (Cs.length + 1) (Cs.flatMap (eCk t j) ++ eCk t j (⟨a, i, n, xs⟩, sv))) (hv : cv.ownBlock = some b5 ∨ b5 = w.heap.size + 1)
    (hd : RS w0 3 eSpn sv xs) (hr : refuse C ⟨a, i, n, xs⟩ = false) (hrg : 0 ≤ i ∧ i < n ∧ n ≤ 500 ∧ xs.length ≤ 2) :
    ∃ Rw' cv' Cs', Wr w0 (w5.setCell ⟨wb, 18, none⟩ (.slice (some ⟨b5, off5, none⟩) (Cs.length + 1) cap5)) Rw' wb t j man (keepC C ⟨a, i, n, xs⟩) M cv' Cs' ∧ (∀ b, Rw' b → Rw b ∨ w.heap.size ≤ b) ∧ Only Rw w (w5.setCell ⟨wb, 18, none⟩ (.slice (some ⟨b5, off5, none⟩) (Cs.length + 1) cap5)) := by
  have hO : Only (· = wb) w5 (w5.setCell ⟨wb, 18, none⟩ (.slice (some ⟨b5, off5, none⟩) (Cs.length + 1) cap5)) := (Only.refl (· = wb) w5).setCell (p := ⟨wb, 18, none⟩) (fun _ => rfl) _
  have hb9 := (heap_setCell_cells (o := 18) hb (.slice (some ⟨b5, off5, none⟩) (Cs.length + 1) cap5)).trans (show _ = some (.cells (eAsr t j M man.isSome (.slice (some ⟨b5, off5, none⟩) (Cs.length + 1) cap5)) 37 (0, 0)) from rfl)
  have hne : b5 ≠ wb := fun e => sl_not hb hs (by decide) (by rw [e]; rfl)
  have hs9 := hs.only hO (fun g hg e => by simp [Value.ownBlock] at hg; omega)
  have hb5 := hs9.lt b5 rfl
  have hsz : w.heap.size ≤ (w5.setCell ⟨wb, 18, none⟩ (.slice (some ⟨b5, off5, none⟩) (Cs.length + 1) cap5)).heap.size := Nat.le_trans ha.size hO.size
  have hall : Only Rw w (w5.setCell ⟨wb, 18, none⟩ (.slice (some ⟨b5, off5, none⟩) (Cs.length + 1) cap5)) := (ha.mono fun b _ e => h.rc b e).trans (hO.mono fun b _ e => by rw [e]; exact h.rb)
  have hRb : Rw b5 ∨ w.heap.size ≤ b5 := by
    rcases hv with e | e
    · exact .inl (h.rc _ e)
    · exact .inr (by omega)
  refine ⟨fun b => Rw b ∨ b = b5, _, Cs ++ [(⟨a, i, n, xs⟩, sv)], ⟨hb9, ?_, by rw [keepC_false hr, List.map_append, h.fs]; rfl, fun x hx => ?_, fun x hx => ?_, .inl h.rb, fun g hg => by simp [Value.ownBlock] at hg; exact .inr hg.symm, fun b hb => ?_, h.uq.keep hrg, ?_⟩, fun b hb => ?_, hall⟩
  · rw [List.length_append, List.flatMap_append]
    simpa using hs9
  · rcases List.mem_append.1 hx with hx | hx
    · exact h.dat x hx
    · rw [List.mem_singleton.1 hx]; exact hd
  · obtain ⟨h1, h2, h3, h4, h5⟩ := h.mn x hx
    refine ⟨h1, (h2.only ha (fun g hg e => ?_)).only hO (fun g hg e => sl_not h.blk h2 (by decide) (by rw [hg, e])), h3, h4, fun g hg => .inl (h5 g hg)⟩
    rcases h.sl.2 with ⟨hc, _⟩ | ⟨b', off, cap, cur, hc, _, _, hb', _⟩
    · rw [hc] at e; simp [Value.ownBlock] at e
    · rw [hc] at e
      simp [Value.ownBlock] at e
      subst e
      exact sl_not hb' h2 (by decide) hg
  · have h0 := h.bel.size
    rcases hb with hb | hb
    · have := h.lt b hb; omega
    · subst hb
      rcases hRb with e | e
      · have := h.lt b e; omega
      · omega
  · exact h.bel.trans (hall.below h.bel.size (fun i hi e => by have := (h.lt i e).1; omega))
  · rcases hb with hb | hb
    · exact .inl hb
    · rw [hb]; exact hRb

set_option maxRecDepth 100000 in
set_option maxHeartbeats 4000000 in
theorem wHear_chunk {w0 w : World} {Rw : Nat → Prop} {wb : Nat} {t j a i n : Int} {man : Option (Int × List Pt)} {C : List Chk} {M : Ms} {cv : Value} {Cs : List (Chk × Value)} {sa : Option Addr} {sc : Nat} {xs : List Spn}
    (h : Wr w0 w Rw wb t j man C M cv Cs) (hd : RS w0 3 eSpn (.slice sa xs.length sc) xs) (hok : rightM (.chunk a t j i n (.slice sa xs.length sc) xs) = true) (hCl : C.length ≤ 1000) :
    Calls Try.prog 18 #[.pointer (some ⟨wb, 0, none⟩), .agg #[.int .i64 6, .int .i64 a, .int .i64 t, .int .i64 j, .int .i64 0, .int .i64 i, .int .i64 n, .int .i64 0, .int .i64 0, .int .i64 0, .int .i64 0, .slice none 0 0, .bool false, .slice none 0 0, .slice sa xs.length sc]] w fun e w' => e = .returned (.bool (!refuse C ⟨a, i, n, xs⟩)) ∧ ∃ Rw' cv' Cs', Wr w0 w' Rw' wb t j man (keepC C ⟨a, i, n, xs⟩) M cv' Cs' ∧ (∀ b, Rw' b → Rw b ∨ w.heap.size ≤ b) ∧ Only Rw w w' := by
  obtain ⟨io, zo, hio, hzo, ho1, ho2, ho3⟩ := info_at (P := Try.prog) (e := 34) (f := (15, 168, 15)) (by kernel_rfl)
  have hrg : 0 ≤ i ∧ i < n ∧ n ≤ 500 ∧ xs.length ≤ 2 := by
    simp only [rightM, Bool.and_eq_true, wi_true, decide_eq_true_eq] at hok
    omega
  have hCs : Cs.length ≤ 1000 := by have := congrArg List.length h.fs; simp at this; omega
  have hxl := hd.1
  unfold maxLen at hxl
  have hl := hd.only (only_of_below h.bel (fun _ => False)) (fun _ _ => id)
  have hwl := h.wlt
  have k0 := h.cell (q := 0) (u := .int .i64 t) rfl
  have k1 := h.cell (q := 1) (u := .int .i64 j) rfl
  have hA := below_alloc (Below.refl w.heap.size w) (.cells #[.int .i64 6, .int .i64 a, .int .i64 t, .int .i64 j, .int .i64 0, .int .i64 i, .int .i64 n, .int .i64 0, .int .i64 0, .int .i64 0, .int .i64 0, .slice none 0 0, .bool false, .slice none 0 0, .slice sa xs.length sc] 34)
  have hbx := heap_new w (.cells #[.int .i64 6, .int .i64 a, .int .i64 t, .int .i64 j, .int .i64 0, .int .i64 i, .int .i64 n, .int .i64 0, .int .i64 0, .int .i64 0, .int .i64 0, .slice none 0 0, .bool false, .slice none 0 0, .slice sa xs.length sc] 34) rfl
  go_enter Try.func18, Try.ntmps18
  go_upto_region 1 with (fail)
  generalize (w.alloc (.cells #[.int .i64 6, .int .i64 a, .int .i64 t, .int .i64 j, .int .i64 0, .int .i64 i, .int .i64 n, .int .i64 0, .int .i64 0, .int .i64 0, .int .i64 0, .slice none 0 0, .bool false, .slice none 0 0, .slice sa xs.length sc] 34)) = W1 at hA hbx ⊢
  have f0 : W1.cell? ⟨wb, 0, none⟩ = some (.int .i64 t) := by rw [hA.cell (p := ⟨wb, 0, none⟩) hwl]; exact k0
  have f1 : W1.cell? ⟨wb, 1, none⟩ = some (.int .i64 j) := by rw [hA.cell (p := ⟨wb, 1, none⟩) hwl]; exact k1
  have K0 := fun d os => cell_regrown f0 d os
  have K1 := fun d os => cell_regrown f1 d os
  have c0 := fun d os => cell_regrown (cell_blk hbx (j := 0) (u := .int .i64 6) rfl) d os
  have c1 := fun d os => cell_regrown (cell_blk hbx (j := 1) (u := .int .i64 a) rfl) d os
  have c2 := fun d os => cell_regrown (cell_blk hbx (j := 2) (u := .int .i64 t) rfl) d os
  have c3 := fun d os => cell_regrown (cell_blk hbx (j := 3) (u := .int .i64 j) rfl) d os
  have c4 := fun d os => cell_regrown (cell_blk hbx (j := 4) (u := .int .i64 0) rfl) d os
  have c5 := fun d os => cell_regrown (cell_blk hbx (j := 5) (u := .int .i64 i) rfl) d os
  have c6 := fun d os => cell_regrown (cell_blk hbx (j := 6) (u := .int .i64 n) rfl) d os
  have c7 := fun d os => cell_regrown (cell_blk hbx (j := 7) (u := .int .i64 0) rfl) d os
  have c8 := fun d os => cell_regrown (cell_blk hbx (j := 8) (u := .int .i64 0) rfl) d os
  have c9 := fun d os => cell_regrown (cell_blk hbx (j := 9) (u := .int .i64 0) rfl) d os
  have c10 := fun d os => cell_regrown (cell_blk hbx (j := 10) (u := .int .i64 0) rfl) d os
  have c11 := fun d os => cell_regrown (cell_blk hbx (j := 11) (u := .slice none 0 0) rfl) d os
  have c12 := fun d os => cell_regrown (cell_blk hbx (j := 12) (u := .bool false) rfl) d os
  have c13 := fun d os => cell_regrown (cell_blk hbx (j := 13) (u := .slice none 0 0) rfl) d os
  have c14 := fun d os => cell_regrown (cell_blk hbx (j := 14) (u := .slice sa xs.length sc) rfl) d os
  have HA := Lib.hid (And.intro hA hbx)

  have HR := fun d os => r59_any (m := .chunk a t j i n (.slice sa xs.length sc) xs) (pv' := .slice none 0 0) (show LikeIn (grow (redrawn W1 d) os) (.slice none 0 0) (.chunk a t j i n (.slice sa xs.length sc) xs) from hl.only (only_of_below (below_trans' (below_regrown W1 d os) hA) (fun _ => False)) (fun _ _ => id))
  rw [hok] at HR
  have cQ := fun d os => Calls.regrown_of (HR d os)
  have b6 : ((6 : Int) != 6) = false := by decide
  have bt : (t != t) = false := by simp
  have bj : (j != j) = false := by simp
  clear hA hbx f0 f1 k0 k1 HR
  refine wp_region_quiet_below (by kernel_rfl) (by kernel_rfl) ?_
  repeat (first | go_big_quiet_step (exact cQ _ _) | quiet_step (exact cQ _ _))
  refine wpQuiet_nil ?_
  intro w2 hw2
  obtain ⟨p2, rfl⟩ := hw2
  have hbr := below_regrown W1 p2.d p2.os
  generalize grow (redrawn W1 p2.d) p2.os = w2 at hbr ⊢
  clear K0 K1 c0 c1 c2 c3 c4 c5 c6 c7 c8 c9 c10 c11 c12 c13 c14 cQ
  obtain ⟨hA, hbx⟩ := HA.out
  have hA2 := below_trans' hbr hA
  have hbx2 := (hbr.block _ (Array.getElem?_eq_some_iff.1 hbx).1).trans hbx
  have h2 := h.below hA2
  clear hbr hA hbx HA
  clear b6 bt bj hok hl
  have hbl : w.heap.size < w2.heap.size := (Array.getElem?_eq_some_iff.1 hbx2).1
  have e0 : w2.cell? ⟨w.heap.size, 0, none⟩ = some (.int .i64 6) := cell_blk hbx2 rfl
  obtain ⟨ca, cc, rfl⟩ := h2.sl.form
  go_wp2
  clear e0
  go_loopw [5] (fun v wr => ∃ q : Nat, q ≤ Cs.length ∧ v = .int .i64 q ∧ Below w2.heap.size w2 wr ∧ ∀ d ∈ C.take q, ¬ (d.a = a ∧ (d.n ≠ n ∨ d.i = i))) (fun v _ => Cs.length - (intOf v).toNat)
  case atStart => exact ⟨0, Nat.zero_le _, rfl, Below.refl _ _, by simp⟩
  case round =>
    obtain ⟨q, hq, rfl, hb, hJ⟩ := hrel
    have hr := h2.below hb
    have hbxr := (hb.block _ hbl).trans hbx2
    have hAr := below_trans' hb hA2
    have HB9 := Lib.hid hb
    have e18 := hr.cell (q := 18) (u := .slice ca Cs.length cc) rfl
    clear hb
    by_cases hqN : q < Cs.length
    · obtain ⟨cb, co, cap, hv, _⟩ := hr.sl.form' (by omega)
      simp only [Value.slice.injEq] at hv
      obtain ⟨rfl, _, rfl⟩ := hv
      obtain ⟨⟨d, dv⟩, hx⟩ : ∃ x, Cs[q]? = some x := ⟨_, List.getElem?_eq_getElem hqN⟩
      have hdC : C[q]? = some d := by rw [← h.fs, List.getElem?_map, hx]; rfl
      have g1 := hr.sl.elem (eCk_len t j) hx (j := 1) (u := .int .i64 d.a) rfl
      have g5 := hr.sl.elem (eCk_len t j) hx (j := 5) (u := .int .i64 d.i) rfl
      have g6 := hr.sl.elem (eCk_len t j) hx (j := 6) (u := .int .i64 d.n) rfl
      rw [← Nat.add_assoc] at g1 g5 g6
      have x1 : wr.cell? ⟨w.heap.size, 1, none⟩ = some (.int .i64 a) := cell_blk hbxr rfl
      have x5 : wr.cell? ⟨w.heap.size, 5, none⟩ = some (.int .i64 i) := cell_blk hbxr rfl
      have x6 : wr.cell? ⟨w.heap.size, 6, none⟩ = some (.int .i64 n) := cell_blk hbxr rfl
      have HRY := Lib.hid (fun (h1 : d.a = a) (h2 : d.n ≠ n ∨ d.i = i) => refuse_yes (c := ⟨a, i, n, xs⟩) hdC h1 h2)
      have HNX := Lib.hid (fun (hn : ¬ (d.a = a ∧ (d.n ≠ n ∨ d.i = i))) => (show ∀ d ∈ C.take (q + 1), ¬ (d.a = a ∧ (d.n ≠ n ∨ d.i = i)) from fun d' hd' => by
        rw [List.take_add_one, hdC] at hd'
        rcases List.mem_append.1 hd' with hd' | hd'
        · exact hJ d' hd'
        · simp at hd'; subst hd'; exact hn))
      have HC := Lib.hid (And.intro hr hAr)
      clear hr hAr hbxr hJ hx hdC
      by_cases ha : d.a = a
      · have ba : (d.a == a) = true := by simp [ha]
        by_cases hn : d.n = n
        · have bn : (d.n != n) = false := by simp [hn]
          by_cases hi : d.i = i
          · have bi : (d.i == i) = true := by simp [hi]
            have HE := Lib.hid (HRY.out ha (.inr hi))
            clear ha hn hi
            go_upto_region 12 with (fail)
            go_quiet (fail)
            obtain ⟨hr, hAr⟩ := HC.out
            have hb9 := belowN (Below.refl wr.heap.size wr) nq
            have hr9 := hr.below hb9
            have hA9 := below_trans' hb9 hAr
            generalize wr.drewN nq = w9 at hr9 hA9 ⊢
            clear e18 g1 g5 g6 x1 x5 x6 hb9 hr hAr
            go_wp2
            go_ret
            exact ⟨by rw [HE.out]; rfl, Rw, _, Cs, by rw [keepC_true HE.out]; exact hr9, fun b hb => .inl hb, only_of_below hA9 _⟩
          · have bi : (d.i == i) = false := by simp [hi]
            have HE := Lib.hid (HNX.out (fun e => by rcases e.2 with e | e; exact e hn; exact hi e))
            clear ha hn hi
            go_upto_region 12 with (fail)
            go_quiet (fail)
            obtain ⟨hr, hAr⟩ := HC.out
            have hb9 : Below w2.heap.size w2 (wr.drewN nq) := belowN HB9.out nq
            generalize wr.drewN nq = w9 at hb9 ⊢
            clear e18 g1 g5 g6 x1 x5 x6 hr hAr
            go_wp2
            exact ⟨⟨q + 1, by omega, by go_num, hb9, HE.out⟩, by simp [intOf]; omega⟩
        · have bn : (d.n != n) = true := by simp [hn]
          have HE := Lib.hid (HRY.out ha (.inl hn))
          clear ha hn
          go_upto_region 12 with (fail)
          go_quiet (fail)
          obtain ⟨hr, hAr⟩ := HC.out
          have hb9 := belowN (Below.refl wr.heap.size wr) nq
          have hr9 := hr.below hb9
          have hA9 := below_trans' hb9 hAr
          generalize wr.drewN nq = w9 at hr9 hA9 ⊢
          clear e18 g1 g5 g6 x1 x5 x6 hb9 hr hAr
          go_wp2
          go_ret
          exact ⟨by rw [HE.out]; rfl, Rw, _, Cs, by rw [keepC_true HE.out]; exact hr9, fun b hb => .inl hb, only_of_below hA9 _⟩
      · have ba : (d.a == a) = false := by simp [ha]
        have HE := Lib.hid (HNX.out (fun e => ha e.1))
        clear ha
        go_upto_region 12 with (fail)
        go_quiet (fail)
        obtain ⟨hr, hAr⟩ := HC.out
        have hb9 : Below w2.heap.size w2 (wr.drewN nq) := belowN HB9.out nq
        generalize wr.drewN nq = w9 at hb9 ⊢
        clear e18 g1 g5 g6 x1 x5 x6 hr hAr
        go_wp2
        exact ⟨⟨q + 1, by omega, by go_num, hb9, HE.out⟩, by simp [intOf]; omega⟩
    · have hqe : q = Cs.length := by omega
      subst hqe
      have hCl' : Cs.length = C.length := by have := congrArg List.length h.fs; simpa using this
      rw [hCl', List.take_length] at hJ
      have hrf := refuse_none (C := C) (c := ⟨a, i, n, xs⟩) hJ
      have HRF := Lib.hid hrf
      have HC := Lib.hid (And.intro hr hAr)
      have x0 : wr.cell? ⟨w.heap.size, 0, none⟩ = some (.int .i64 6) := cell_blk hbxr rfl
      have x1 : wr.cell? ⟨w.heap.size, 1, none⟩ = some (.int .i64 a) := cell_blk hbxr rfl
      have x2 : wr.cell? ⟨w.heap.size, 2, none⟩ = some (.int .i64 t) := cell_blk hbxr rfl
      have x3 : wr.cell? ⟨w.heap.size, 3, none⟩ = some (.int .i64 j) := cell_blk hbxr rfl
      have x4 : wr.cell? ⟨w.heap.size, 4, none⟩ = some (.int .i64 0) := cell_blk hbxr rfl
      have x5 : wr.cell? ⟨w.heap.size, 5, none⟩ = some (.int .i64 i) := cell_blk hbxr rfl
      have x6 : wr.cell? ⟨w.heap.size, 6, none⟩ = some (.int .i64 n) := cell_blk hbxr rfl
      have x7 : wr.cell? ⟨w.heap.size, 7, none⟩ = some (.int .i64 0) := cell_blk hbxr rfl
      have x8 : wr.cell? ⟨w.heap.size, 8, none⟩ = some (.int .i64 0) := cell_blk hbxr rfl
      have x9 : wr.cell? ⟨w.heap.size, 9, none⟩ = some (.int .i64 0) := cell_blk hbxr rfl
      have x10 : wr.cell? ⟨w.heap.size, 10, none⟩ = some (.int .i64 0) := cell_blk hbxr rfl
      have x11 : wr.cell? ⟨w.heap.size, 11, none⟩ = some (.slice none 0 0) := cell_blk hbxr rfl
      have x12 : wr.cell? ⟨w.heap.size, 12, none⟩ = some (.bool false) := cell_blk hbxr rfl
      have x13 : wr.cell? ⟨w.heap.size, 13, none⟩ = some (.slice none 0 0) := cell_blk hbxr rfl
      have x14 : wr.cell? ⟨w.heap.size, 14, none⟩ = some (.slice sa xs.length sc) := cell_blk hbxr rfl
      have hsl := hr.sl
      have hwr := hr.wlt
      have hBr : w.heap.size < wr.heap.size := World.block_lt_of_cell? _ _ x0
      have hfz := froz_blk hr.blk 18
      clear hJ hrf hCl' hbxr hbx2 h2 hr hAr h hA2
      go_wp2
      go_region_law
        ((refine step_appd (v := .slice ca Cs.length cc) rfl _ _ _ rfl Try.underlying35 hio hzo ho1 ho2 ho3 rfl ((hsl.alloc _).drew) (by omega) (m := 1) (news := eCk t j (⟨a, i, n, xs⟩, .slice sa xs.length sc)) rfl rfl (cells_new _ _ _ (by simp)) (by simp [Value.oneCell', eCk, eMs, zPt]) (by unfold maxLen; omega) (by omega) (by simp; rfl) ?_; intro b5 off5 cap5 w5 hs5 ho5 hv5; obtain ⟨k1, k2, k3, k4⟩ := app_chunk HC.out.1 ho5; clear ho5))
      all_goals
        have hfin := put_chunk HC.out.1 k1 k4 hs5 hv5 hd HRF.out hrg
        generalize w5.setCell ⟨wb, 18, none⟩ (.slice (some ⟨b5, off5, none⟩) (Cs.length + 1) cap5) = W5 at hfin ⊢
        obtain ⟨Rw', cv', Cs', f1, f2, f3⟩ := hfin
        clear k1 k2 k3 k4 hs5 hv5
        go_wp2
        go_ret
        exact ⟨by rw [HRF.out]; rfl, Rw', cv', Cs', f1, fun b hb => (f2 b hb).imp id (fun e => Nat.le_trans HC.out.2.size e), (only_of_below HC.out.2 Rw).trans f3⟩
end Go.Proofs.Ytcdjeblcmgghhaa.Asm
