/- What spoorlaw09.Like says of a Manifest. Conditions: the message's slices lie in memory. PRINTED BY wip/gen_ref7.py. -/
import Derived.Test.YtcdjeblcmgghhaaRef6
import Derived.Laws.Tables
namespace Go.Proofs.Ytcdjeblcmgghhaa.Msg
open Go.RowKit Go.Sp Go.Sort


theorem only_setRow (w : World) (g : Nat) (cs : Array Value) : Only (· = g) w (w.setRow g cs) := ⟨rfl, rfl, rfl, by rw [setRow_size]; exact Nat.le_refl _, fun b _ hn => setRow_other w g b cs hn⟩

set_option maxRecDepth 100000 in
set_option maxHeartbeats 4000000 in
theorem like_mani {w : World} {t j c : Int} {pa : Option Addr} {pc : Nat} {ps : List Pt} (h : Pts w (.slice pa ps.length pc) ps) (hps : ps.length ≤ 1000000) :
    Calls Try.prog 19 #[.iface 59 (.agg #[.int .i64 t, .int .i64 j, .int .i64 c, .slice pa ps.length pc])] w fun e w' => ∃ pv', e = .returned (.agg #[.int .i64 7, .int .i64 0, .int .i64 t, .int .i64 j, .int .i64 c, .int .i64 0, .int .i64 0, .int .i64 0, .int .i64 0, .int .i64 0, .int .i64 0, .slice none 0 0, .bool false, pv', .slice none 0 0]) ∧ SL w'.heap 30 6 pv' ps.length (ps.flatMap ePt) ∧ (∀ g, pv'.ownBlock = some g → w.heap.size ≤ g) ∧ Below w.heap.size w w' := by
  obtain ⟨io, zo, hio, hzo, ho1, ho2, ho3⟩ := info_at (P := Try.prog) (e := 30) (f := (6, 64, 6)) (by kernel_rfl)
  have hl := h.1.1
  unfold maxLen at hl
  have hA := below_alloc (below_alloc (below_alloc (Below.refl w.heap.size w) (.cells #[.int .i64 0, .int .i64 0, .int .i64 0, .int .i64 0, .int .i64 0, .int .i64 0, .int .i64 0, .int .i64 0, .int .i64 0, .int .i64 0, .int .i64 0, .slice none 0 0, .bool false, .slice none 0 0, .slice none 0 0] 34)) (.cells #[.int .i64 t, .int .i64 j, .int .i64 c, .slice pa ps.length pc] 59)) (.cells #[] 30)
  have hb0 : (((w.alloc (.cells #[.int .i64 0, .int .i64 0, .int .i64 0, .int .i64 0, .int .i64 0, .int .i64 0, .int .i64 0, .int .i64 0, .int .i64 0, .int .i64 0, .int .i64 0, .slice none 0 0, .bool false, .slice none 0 0, .slice none 0 0] 34)).alloc (.cells #[.int .i64 t, .int .i64 j, .int .i64 c, .slice pa ps.length pc] 59)).alloc (.cells #[] 30)).heap[w.heap.size]? = some (.cells #[.int .i64 0, .int .i64 0, .int .i64 0, .int .i64 0, .int .i64 0, .int .i64 0, .int .i64 0, .int .i64 0, .int .i64 0, .int .i64 0, .int .i64 0, .slice none 0 0, .bool false, .slice none 0 0, .slice none 0 0] 34 (0, 0)) := ((below_alloc (below_alloc (Below.refl (w.alloc (.cells #[.int .i64 0, .int .i64 0, .int .i64 0, .int .i64 0, .int .i64 0, .int .i64 0, .int .i64 0, .int .i64 0, .int .i64 0, .int .i64 0, .int .i64 0, .slice none 0 0, .bool false, .slice none 0 0, .slice none 0 0] 34)).heap.size _) _) _).block _ (by simp)).trans (heap_new w _ rfl)
  have hb1 : (((w.alloc (.cells #[.int .i64 0, .int .i64 0, .int .i64 0, .int .i64 0, .int .i64 0, .int .i64 0, .int .i64 0, .int .i64 0, .int .i64 0, .int .i64 0, .int .i64 0, .slice none 0 0, .bool false, .slice none 0 0, .slice none 0 0] 34)).alloc (.cells #[.int .i64 t, .int .i64 j, .int .i64 c, .slice pa ps.length pc] 59)).alloc (.cells #[] 30)).heap[w.heap.size + 1]? = some (.cells #[.int .i64 t, .int .i64 j, .int .i64 c, .slice pa ps.length pc] 59 (0, 0)) := ((below_alloc (Below.refl ((w.alloc (.cells #[.int .i64 0, .int .i64 0, .int .i64 0, .int .i64 0, .int .i64 0, .int .i64 0, .int .i64 0, .int .i64 0, .int .i64 0, .int .i64 0, .int .i64 0, .slice none 0 0, .bool false, .slice none 0 0, .slice none 0 0] 34)).alloc (.cells #[.int .i64 t, .int .i64 j, .int .i64 c, .slice pa ps.length pc] 59)).heap.size _) _).block _ (by simp)).trans (heap_new _ _ (by simp))
  have hs0 : SL (((w.alloc (.cells #[.int .i64 0, .int .i64 0, .int .i64 0, .int .i64 0, .int .i64 0, .int .i64 0, .int .i64 0, .int .i64 0, .int .i64 0, .int .i64 0, .int .i64 0, .slice none 0 0, .bool false, .slice none 0 0, .slice none 0 0] 34)).alloc (.cells #[.int .i64 t, .int .i64 j, .int .i64 c, .slice pa ps.length pc] 59)).alloc (.cells #[] 30)).heap 30 6 (.slice (some ⟨w.heap.size + 2, 0, none⟩) 0 0) 0 ((ps.take 0).flatMap ePt) := ⟨rfl, .inr ⟨_, 0, 0, _, rfl, Nat.le_refl _, by simp [maxLen], heap_new _ _ (by simp), by simp, fun j u hu => by simp at hu⟩⟩
  have hsz : (((w.alloc (.cells #[.int .i64 0, .int .i64 0, .int .i64 0, .int .i64 0, .int .i64 0, .int .i64 0, .int .i64 0, .int .i64 0, .int .i64 0, .int .i64 0, .int .i64 0, .slice none 0 0, .bool false, .slice none 0 0, .slice none 0 0] 34)).alloc (.cells #[.int .i64 t, .int .i64 j, .int .i64 c, .slice pa ps.length pc] 59)).alloc (.cells #[] 30)).heap.size = w.heap.size + 3 := by simp
  go_enter Try.func19, Try.ntmps19
  go_wp2
  generalize (((w.alloc (.cells #[.int .i64 0, .int .i64 0, .int .i64 0, .int .i64 0, .int .i64 0, .int .i64 0, .int .i64 0, .int .i64 0, .int .i64 0, .int .i64 0, .int .i64 0, .slice none 0 0, .bool false, .slice none 0 0, .slice none 0 0] 34)).alloc (.cells #[.int .i64 t, .int .i64 j, .int .i64 c, .slice pa ps.length pc] 59)).alloc (.cells #[] 30)) = w0 at hA hb0 hb1 hs0 hsz ⊢
  go_loopw [10, 82] (fun v i wr => ∃ q : Nat, q ≤ ps.length ∧ i = .int .i64 q ∧ SL wr.heap 30 6 v q ((ps.take q).flatMap ePt) ∧ (∀ g, v.ownBlock = some g → w.heap.size + 2 ≤ g) ∧ Below (w.heap.size + 2) w0 wr) (fun _ i _ => ps.length - (intOf i).toNat)
  case atStart => exact ⟨0, Nat.zero_le _, rfl, hs0, fun g hg => by simp [Value.ownBlock] at hg; omega, Below.refl _ w0⟩
  case round =>
    obtain ⟨q, hq, rfl, hs, hn, hb⟩ := hrel
    clear hs0
    by_cases hqN : q < ps.length
    · have hbw : Below w.heap.size w wr := hA.trans (hb.mono (by omega))
      have hP := h.only (only_of_below hbw (fun _ => False)) (fun _ _ => id) (fun _ _ _ _ => id)
      obtain ⟨b0, o0, c0', hv, hbl0, hcl⟩ := pts_cells hP.1 (by omega)
      simp only [Value.slice.injEq] at hv
      obtain ⟨rfl, _, rfl⟩ := hv
      obtain ⟨p, hp⟩ : ∃ p, ps[q]? = some p := ⟨_, List.getElem?_eq_getElem hqN⟩
      obtain ⟨g0, g1, g2, g3, g4, g5⟩ := hcl q p hp
      have hcv := hP.2 p (List.mem_of_getElem? hp)
      have HT := Lib.hid (show (ps.take (q + 1)).flatMap ePt = (ps.take q).flatMap ePt ++ ePt p by rw [List.take_add_one, hp, List.flatMap_append]; simp)
      have hePt : ePt p = [.int .i64 p.a, .int .i64 p.t, .int .i64 p.j, .int .i64 p.n, p.cv, .bool p.l] := rfl
      rw [hePt] at HT
      obtain ⟨xa, xt, xj, xn, xcv, xcl, xl⟩ := p
      obtain ⟨_, ca, cc, hv, _⟩ := id hcv
      simp only at hv
      subst hv
      simp only at g0 g1 g2 g3 g4 g5 HT
      have hA1 := below_alloc (Below.refl wr.heap.size wr) (.cells #[.int .i64 xa, .int .i64 xt, .int .i64 xj, .int .i64 xn, .slice ca xcl.length cc, .bool xl] 65)
      clear hP hcl hp hcv hePt
      go_wp2_with fail
      refine (likeP_any _ xa xt xj xn ca xcl.length cc xl).mono ?_
      rintro e w3 ⟨rfl, hw3⟩
      have hb3 : Below (wr.alloc (.cells #[.int .i64 xa, .int .i64 xt, .int .i64 xj, .int .i64 xn, .slice ca xcl.length cc, .bool xl] 65)).heap.size (wr.alloc (.cells #[.int .i64 xa, .int .i64 xt, .int .i64 xj, .int .i64 xn, .slice ca xcl.length cc, .bool xl] 65)) w3 := by rw [hw3]; exact below_alloc (below_alloc (Below.refl _ _) _) _
      clear hw3
      have hA3 := below_trans' hb3 hA1
      have hs3 := hs.only (only_of_below hA3 (fun _ => False)) (fun _ _ => id)
      have hBB : Below (w.heap.size + 2) w0 w3 := hb.trans (hA3.mono (by have := hb.size; omega))
      obtain ⟨va, vc, rfl⟩ := hs3.form
      clear hs hb hb3 hA1 g0 g1 g2 g3 g4 g5 hA3
      go_wp2_with (at_builtin; refine halt ?_)
      refine Halt.go ?_
      refine wpList_appd (v := .slice va q vc) rfl _ _ _ rfl Try.underlying31 hio hzo ho1 ho2 ho3 rfl (hs3.alloc _) (m := 1) (news := [.int .i64 xa, .int .i64 xt, .int .i64 xj, .int .i64 xn, .slice ca xcl.length cc, .bool xl]) rfl rfl (cells_new _ _ _ rfl) (by simp [Value.oneCell']) (by unfold maxLen; omega) (by omega) ?_
      rintro v7 w7 hs7 ho7 hv7
      have hB8 : Below (w.heap.size + 2) w0 (w3.alloc (.cells #[.int .i64 xa, .int .i64 xt, .int .i64 xj, .int .i64 xn, .slice ca xcl.length cc, .bool xl] 30)) := hBB.alloc (by have := hBB.size; omega) _
      have hB7 : Below (w.heap.size + 2) w0 w7 := hB8.trans (ho7.below (by have := hB8.size; omega) (fun i hi e => by have := hn i e; omega))
      have hn7 : ∀ g', v7.ownBlock = some g' → w.heap.size + 2 ≤ g' := fun g' hg' => by
        rcases hv7 with e | e
        · exact hn g' (by rw [← e]; exact hg')
        · rw [e] at hg'; cases hg'; have := hB8.size; have := hBB.size; simp at *; omega
      clear ho7 hv7 hs3 hBB hB8
      go_wp2
      exact ⟨⟨q + 1, by omega, by go_num, by rw [HT.out]; exact hs7, hn7, hB7⟩, by simp [intOf]; omega⟩
    · have hqe : q = ps.length := by omega
      subst hqe
      rw [List.take_length] at hs
      have hq1 := (hb.block _ (show w.heap.size + 1 < w.heap.size + 2 by omega)).trans hb1
      have hq0 := (hb.block _ (show w.heap.size < w.heap.size + 2 by omega)).trans hb0
      have m0 := cell_blk (w := wr) hq1 (j := 0) (u := .int .i64 t) rfl
      have m1 := cell_blk (w := wr) hq1 (j := 1) (u := .int .i64 j) rfl
      have m2 := cell_blk (w := wr) hq1 (j := 2) (u := .int .i64 c) rfl
      obtain ⟨la, lc, rfl⟩ := hs.form
      have hbx := setRow_heap wr w.heap.size _ #[.int .i64 7, .int .i64 0, .int .i64 t, .int .i64 j, .int .i64 c, .int .i64 0, .int .i64 0, .int .i64 0, .int .i64 0, .int .i64 0, .int .i64 0, .slice none 0 0, .bool false, .slice la ps.length lc, .slice none 0 0] _ _ hq0
      have hO : Only (· = w.heap.size) wr (wr.setRow w.heap.size #[.int .i64 7, .int .i64 0, .int .i64 t, .int .i64 j, .int .i64 c, .int .i64 0, .int .i64 0, .int .i64 0, .int .i64 0, .int .i64 0, .int .i64 0, .slice none 0 0, .bool false, .slice la ps.length lc, .slice none 0 0]) := only_setRow wr _ _
      have hbw : Below w.heap.size w wr := hA.trans (hb.mono (by omega))
      have hB := hbw.trans (hO.below hbw.size (fun i hi e => by omega))
      have hs9 := hs.only hO (fun g hg e => by have := hn g hg; omega)
      have hfr := fun j => froz_blk hq0 j
      clear hO hq1 hb1 hb0 hs hb h hA hbw hfr
      go_wp2_with (refine wpList_store_row rfl 34 _ _ rfl w.heap.size #[.int .i64 7, .int .i64 0, .int .i64 t, .int .i64 j, .int .i64 c, .int .i64 0, .int .i64 0, .int .i64 0, .int .i64 0, .int .i64 0, .int .i64 0, .slice none 0 0, .bool false, .slice la ps.length lc, .slice none 0 0] rfl rfl 34 _ hq0 (by kernel_rfl) rfl (by simp [Value.oneCell']) ?_)
      generalize wr.setRow w.heap.size #[.int .i64 7, .int .i64 0, .int .i64 t, .int .i64 j, .int .i64 c, .int .i64 0, .int .i64 0, .int .i64 0, .int .i64 0, .int .i64 0, .int .i64 0, .slice none 0 0, .bool false, .slice la ps.length lc, .slice none 0 0] = w9 at hbx hB hs9 ⊢
      have x0 : w9.cell? ⟨w.heap.size, 0, none⟩ = some (.int .i64 7) := cell_blk hbx rfl
      have x1 : w9.cell? ⟨w.heap.size, 1, none⟩ = some (.int .i64 0) := cell_blk hbx rfl
      have x2 : w9.cell? ⟨w.heap.size, 2, none⟩ = some (.int .i64 t) := cell_blk hbx rfl
      have x3 : w9.cell? ⟨w.heap.size, 3, none⟩ = some (.int .i64 j) := cell_blk hbx rfl
      have x4 : w9.cell? ⟨w.heap.size, 4, none⟩ = some (.int .i64 c) := cell_blk hbx rfl
      have x5 : w9.cell? ⟨w.heap.size, 5, none⟩ = some (.int .i64 0) := cell_blk hbx rfl
      have x6 : w9.cell? ⟨w.heap.size, 6, none⟩ = some (.int .i64 0) := cell_blk hbx rfl
      have x7 : w9.cell? ⟨w.heap.size, 7, none⟩ = some (.int .i64 0) := cell_blk hbx rfl
      have x8 : w9.cell? ⟨w.heap.size, 8, none⟩ = some (.int .i64 0) := cell_blk hbx rfl
      have x9 : w9.cell? ⟨w.heap.size, 9, none⟩ = some (.int .i64 0) := cell_blk hbx rfl
      have x10 : w9.cell? ⟨w.heap.size, 10, none⟩ = some (.int .i64 0) := cell_blk hbx rfl
      have x11 : w9.cell? ⟨w.heap.size, 11, none⟩ = some (.slice none 0 0) := cell_blk hbx rfl
      have x12 : w9.cell? ⟨w.heap.size, 12, none⟩ = some (.bool false) := cell_blk hbx rfl
      have x13 : w9.cell? ⟨w.heap.size, 13, none⟩ = some (.slice la ps.length lc) := cell_blk hbx rfl
      have x14 : w9.cell? ⟨w.heap.size, 14, none⟩ = some (.slice none 0 0) := cell_blk hbx rfl
      refine bodyPost_ret (by simp [results, Try.results19, go_sem, x0, x1, x2, x3, x4, x5, x6, x7, x8, x9, x10, x11, x12, x13, x14]; try rfl) rfl ?_
      exact ⟨_, rfl, hs9, fun g hg => by have := hn g hg; omega, hB⟩
end Go.Proofs.Ytcdjeblcmgghhaa.Msg
