/- What spoorlaw09.Like says of a Manifest. Conditions: the message's slices lie in memory. PRINTED BY wip/gen_ref7.py. -/
import Derived.Test.YtniggacgkhkgiaaPkJobPlays7
import Derived.Laws.Tables
namespace Go.Proofs.Ytniggacgkhkgiaa.Msg
open Go.RowKit Go.Sp Go.Sort


theorem only_setRow (w : World) (g : Nat) (cs : Array Value) : Only (· = g) w (w.setRow g cs) := ⟨rfl, rfl, rfl, by rw [setRow_size]; exact Nat.le_refl _, fun b _ hn => setRow_other w g b cs hn⟩

set_option maxRecDepth 100000 in
set_option maxHeartbeats 4000000 in
theorem like_mani {w : World} {t j c : Int} {pa : Option Addr} {pc : Nat} {ps : List Pt} (h : Pts w (.slice pa ps.length pc) ps) (hps : ps.length ≤ 1000000) :
    Calls Try.prog 19 #[.iface 62 (.agg #[.int .i64 t, .int .i64 j, .int .i64 c, .slice pa ps.length pc])] w fun e w' => ∃ pv', e = .returned (.agg #[.int .i64 7, .int .i64 0, .int .i64 t, .int .i64 j, .int .i64 c, .int .i64 0, .int .i64 0, .int .i64 0, .int .i64 0, .int .i64 0, .int .i64 0, .slice none 0 0, .bool false, pv', .slice none 0 0]) ∧ SL w'.heap 33 6 pv' ps.length (ps.flatMap ePt) ∧ (∀ g, pv'.ownBlock = some g → w.heap.size ≤ g) ∧ Below w.heap.size w w' := by
  obtain ⟨io, zo, hio, hzo, ho1, ho2, ho3⟩ := info_at (P := Try.prog) (e := 33) (f := (6, 64, 6)) (by kernel_rfl)
  have hl := h.1.1
  unfold maxLen at hl
  have hA := below_alloc (below_alloc (below_alloc (Below.refl w.heap.size w) (.cells #[.int .i64 0, .int .i64 0, .int .i64 0, .int .i64 0, .int .i64 0, .int .i64 0, .int .i64 0, .int .i64 0, .int .i64 0, .int .i64 0, .int .i64 0, .slice none 0 0, .bool false, .slice none 0 0, .slice none 0 0] 37)) (.cells #[.int .i64 t, .int .i64 j, .int .i64 c, .slice pa ps.length pc] 62)) (.cells #[] 33)
  have hb0 : (((w.alloc (.cells #[.int .i64 0, .int .i64 0, .int .i64 0, .int .i64 0, .int .i64 0, .int .i64 0, .int .i64 0, .int .i64 0, .int .i64 0, .int .i64 0, .int .i64 0, .slice none 0 0, .bool false, .slice none 0 0, .slice none 0 0] 37)).alloc (.cells #[.int .i64 t, .int .i64 j, .int .i64 c, .slice pa ps.length pc] 62)).alloc (.cells #[] 33)).heap[w.heap.size]? = some (.cells #[.int .i64 0, .int .i64 0, .int .i64 0, .int .i64 0, .int .i64 0, .int .i64 0, .int .i64 0, .int .i64 0, .int .i64 0, .int .i64 0, .int .i64 0, .slice none 0 0, .bool false, .slice none 0 0, .slice none 0 0] 37 (0, 0)) := ((below_alloc (below_alloc (Below.refl (w.alloc (.cells #[.int .i64 0, .int .i64 0, .int .i64 0, .int .i64 0, .int .i64 0, .int .i64 0, .int .i64 0, .int .i64 0, .int .i64 0, .int .i64 0, .int .i64 0, .slice none 0 0, .bool false, .slice none 0 0, .slice none 0 0] 37)).heap.size _) _) _).block _ (by simp)).trans (heap_new w _ rfl)
  have hb1 : (((w.alloc (.cells #[.int .i64 0, .int .i64 0, .int .i64 0, .int .i64 0, .int .i64 0, .int .i64 0, .int .i64 0, .int .i64 0, .int .i64 0, .int .i64 0, .int .i64 0, .slice none 0 0, .bool false, .slice none 0 0, .slice none 0 0] 37)).alloc (.cells #[.int .i64 t, .int .i64 j, .int .i64 c, .slice pa ps.length pc] 62)).alloc (.cells #[] 33)).heap[w.heap.size + 1]? = some (.cells #[.int .i64 t, .int .i64 j, .int .i64 c, .slice pa ps.length pc] 62 (0, 0)) := ((below_alloc (Below.refl ((w.alloc (.cells #[.int .i64 0, .int .i64 0, .int .i64 0, .int .i64 0, .int .i64 0, .int .i64 0, .int .i64 0, .int .i64 0, .int .i64 0, .int .i64 0, .int .i64 0, .slice none 0 0, .bool false, .slice none 0 0, .slice none 0 0] 37)).alloc (.cells #[.int .i64 t, .int .i64 j, .int .i64 c, .slice pa ps.length pc] 62)).heap.size _) _).block _ (by simp)).trans (heap_new _ _ (by simp))
  have hs0 : SL (((w.alloc (.cells #[.int .i64 0, .int .i64 0, .int .i64 0, .int .i64 0, .int .i64 0, .int .i64 0, .int .i64 0, .int .i64 0, .int .i64 0, .int .i64 0, .int .i64 0, .slice none 0 0, .bool false, .slice none 0 0, .slice none 0 0] 37)).alloc (.cells #[.int .i64 t, .int .i64 j, .int .i64 c, .slice pa ps.length pc] 62)).alloc (.cells #[] 33)).heap 33 6 (.slice (some ⟨w.heap.size + 2, 0, none⟩) 0 0) 0 ((ps.take 0).flatMap ePt) := ⟨rfl, .inr ⟨_, 0, 0, _, rfl, Nat.le_refl _, by simp [maxLen], heap_new _ _ (by simp), by simp, fun j u hu => by simp at hu⟩⟩
  have hsz : (((w.alloc (.cells #[.int .i64 0, .int .i64 0, .int .i64 0, .int .i64 0, .int .i64 0, .int .i64 0, .int .i64 0, .int .i64 0, .int .i64 0, .int .i64 0, .int .i64 0, .slice none 0 0, .bool false, .slice none 0 0, .slice none 0 0] 37)).alloc (.cells #[.int .i64 t, .int .i64 j, .int .i64 c, .slice pa ps.length pc] 62)).alloc (.cells #[] 33)).heap.size = w.heap.size + 3 := by simp
  go_enter Try.func19, Try.ntmps19
  go_wp2
  generalize (((w.alloc (.cells #[.int .i64 0, .int .i64 0, .int .i64 0, .int .i64 0, .int .i64 0, .int .i64 0, .int .i64 0, .int .i64 0, .int .i64 0, .int .i64 0, .int .i64 0, .slice none 0 0, .bool false, .slice none 0 0, .slice none 0 0] 37)).alloc (.cells #[.int .i64 t, .int .i64 j, .int .i64 c, .slice pa ps.length pc] 62)).alloc (.cells #[] 33)) = w0 at hA hb0 hb1 hs0 hsz ⊢
  go_loopw [10, 82] (fun v i wr => ∃ q : Nat, q ≤ ps.length ∧ i = .int .i64 q ∧ SL wr.heap 33 6 v q ((ps.take q).flatMap ePt) ∧ (∀ g, v.ownBlock = some g → w.heap.size + 2 ≤ g) ∧ Below (w.heap.size + 2) w0 wr) (fun _ i _ => ps.length - (intOf i).toNat)
  case atStart => exact ⟨0, Nat.zero_le _, rfl, hs0, fun g hg => by simp [Value.ownBlock] at hg; omega, Below.refl _ w0⟩
  case round =>
    obtain ⟨q, hq, rfl, hs, hn, hb⟩ := hrel
    clear hs0
    by_cases hqN : q < ps.length
    · have hbw : Below w.heap.size w wr := hA.trans (hb.mono (by omega))
      have hP := h.only (only_of_below hbw (fun _ => False)) (fun _ _ => id) (fun _ _ _ _ => id)
      obtain ⟨b0, o0, c0', hv, hbl0, hcl⟩ := pts_cells hP.1 (by omega)
      simp only [Value.slice.injEq] at hv
      obtain ⟨rfl, _, rfl⟩ := hv
      obtain ⟨p, hp⟩ : ∃ p, ps[q]? = some p := ⟨_, List.getElem?_eq_getElem hqN⟩
      obtain ⟨g0, g1, g2, g3, g4, g5⟩ := hcl q p hp
      have hcv := hP.2 p (List.mem_of_getElem? hp)
      have HT := Lib.hid (show (ps.take (q + 1)).flatMap ePt = (ps.take q).flatMap ePt ++ ePt p by rw [List.take_add_one, hp, List.flatMap_append]; simp)
      have hePt : ePt p = [.int .i64 p.a, .int .i64 p.t, .int .i64 p.j, .int .i64 p.n, p.cv, .bool p.l] := rfl
      rw [hePt] at HT
      obtain ⟨xa, xt, xj, xn, xcv, xcl, xl⟩ := p
      obtain ⟨_, ca, cc, hv, _⟩ := id hcv
      simp only at hv
      subst hv
      simp only at g0 g1 g2 g3 g4 g5 HT
      have hA1 := below_alloc (Below.refl wr.heap.size wr) (.cells #[.int .i64 xa, .int .i64 xt, .int .i64 xj, .int .i64 xn, .slice ca xcl.length cc, .bool xl] 72)
      clear hP hcl hp hcv hePt
      go_wp2_with fail
      refine (likeP_any _ xa xt xj xn ca xcl.length cc xl).mono ?_
      rintro e w3 ⟨rfl, hw3⟩
      have hb3 : Below (wr.alloc (.cells #[.int .i64 xa, .int .i64 xt, .int .i64 xj, .int .i64 xn, .slice ca xcl.length cc, .bool xl] 72)).heap.size (wr.alloc (.cells #[.int .i64 xa, .int .i64 xt, .int .i64 xj, .int .i64 xn, .slice ca xcl.length cc, .bool xl] 72)) w3 := by rw [hw3]; exact below_alloc (below_alloc (Below.refl _ _) _) _
      clear hw3
      have hA3 := below_trans' hb3 hA1
      have hs3 := hs.only (only_of_below hA3 (fun _ => False)) (fun _ _ => id)
      have hBB : Below (w.heap.size + 2) w0 w3 := hb.trans (hA3.mono (by have := hb.size; omega))
      obtain ⟨va, vc, rfl⟩ := hs3.form
      clear hs hb hb3 hA1 g0 g1 g2 g3 g4 g5 hA3
      go_wp2_with (at_builtin; refine halt ?_)
      refine Halt.go ?_
      refine wpList_appd (v := .slice va q vc) rfl _ _ _ rfl Try.underlying34 hio hzo ho1 ho2 ho3 rfl (hs3.alloc _) (m := 1) (news := [.int .i64 xa, .int .i64 xt, .int .i64 xj, .int .i64 xn, .slice ca xcl.length cc, .bool xl]) rfl rfl (cells_new _ _ _ rfl) (by simp [Value.oneCell']) (by unfold maxLen; omega) (by omega) ?_
      rintro v7 w7 hs7 ho7 hv7
      have hB8 : Below (w.heap.size + 2) w0 (w3.alloc (.cells #[.int .i64 xa, .int .i64 xt, .int .i64 xj, .int .i64 xn, .slice ca xcl.length cc, .bool xl] 33)) := hBB.alloc (by have := hBB.size; omega) _
      have hB7 : Below (w.heap.size + 2) w0 w7 := hB8.trans (ho7.below (by have := hB8.size; omega) (fun i hi e => by have := hn i e; omega))
      have hn7 : ∀ g', v7.ownBlock = some g' → w.heap.size + 2 ≤ g' := fun g' hg' => by
        rcases hv7 with e | e
        · exact hn g' (by rw [← e]; exact hg')
        · rw [e] at hg'; cases hg'; have := hB8.size; have := hBB.size; simp at *; omega
      clear ho7 hv7 hs3 hBB hB8
      go_wp2
      exact ⟨⟨q + 1, by omega, by go_num, by rw [HT.out]; exact hs7, hn7, hB7⟩, by simp [intOf]; omega⟩
    · have hqe : q = ps.length := by omega
      subst hqe
      rw [List.take_length] at hs
      have hq1 := (hb.block _ (show w.heap.size + 1 < w.heap.size + 2 by omega)).trans hb1
      have hq0 := (hb.block _ (show w.heap.size < w.heap.size + 2 by omega)).trans hb0
      have m0 := cell_blk (w := wr) hq1 (j := 0) (u := .int .i64 t) rfl
      have m1 := cell_blk (w := wr) hq1 (j := 1) (u := .int .i64 j) rfl
      have m2 := cell_blk (w := wr) hq1 (j := 2) (u := .int .i64 c) rfl
      obtain ⟨la, lc, rfl⟩ := hs.form
      have hbx := setRow_heap wr w.heap.size _ #[.int .i64 7, .int .i64 0, .int .i64 t, .int .i64 j, .int .i64 c, .int .i64 0, .int .i64 0, .int .i64 0, .int .i64 0, .int .i64 0, .int .i64 0, .slice none 0 0, .bool false, .slice la ps.length lc, .slice none 0 0] _ _ hq0
      have hO : Only (· = w.heap.size) wr (wr.setRow w.heap.size #[.int .i64 7, .int .i64 0, .int .i64 t, .int .i64 j, .int .i64 c, .int .i64 0, .int .i64 0, .int .i64 0, .int .i64 0, .int .i64 0, .int .i64 0, .slice none 0 0, .bool false, .slice la ps.length lc, .slice none 0 0]) := only_setRow wr _ _
      have hbw : Below w.heap.size w wr := hA.trans (hb.mono (by omega))
      have hB := hbw.trans (hO.below hbw.size (fun i hi e => by omega))
      have hs9 := hs.only hO (fun g hg e => by have := hn g hg; omega)
      have hfr := fun j => froz_blk hq0 j
      clear hO hq1 hb1 hb0 hs hb h hA hbw hfr
      go_wp2_with (refine wpList_store_row rfl 37 _ _ rfl w.heap.size #[.int .i64 7, .int .i64 0, .int .i64 t, .int .i64 j, .int .i64 c, .int .i64 0, .int .i64 0, .int .i64 0, .int .i64 0, .int .i64 0, .int .i64 0, .slice none 0 0, .bool false, .slice la ps.length lc, .slice none 0 0] rfl rfl 37 _ hq0 (by kernel_rfl) rfl (by simp [Value.oneCell']) ?_)
      generalize wr.setRow w.heap.size #[.int .i64 7, .int .i64 0, .int .i64 t, .int .i64 j, .int .i64 c, .int .i64 0, .int .i64 0, .int .i64 0, .int .i64 0, .int .i64 0, .int .i64 0, .slice none 0 0, .bool false, .slice la ps.length lc, .slice none 0 0] = w9 at hbx hB hs9 ⊢
      have x0 : w9.cell? ⟨w.heap.size, 0, none⟩ = some (.int .i64 7) := cell_blk hbx rfl
      have x1 : w9.cell? ⟨w.heap.size, 1, none⟩ = some (.int .i64 0) := cell_blk hbx rfl
      have x2 : w9.cell? ⟨w.heap.size, 2, none⟩ = some (.int .i64 t) := cell_blk hbx rfl
      have x3 : w9.cell? ⟨w.heap.size, 3, none⟩ = some (.int .i64 j) := cell_blk hbx rfl
      have x4 : w9.cell? ⟨w.heap.size, 4, none⟩ = some (.int .i64 c) := cell_blk hbx rfl
      have x5 : w9.cell? ⟨w.heap.size, 5, none⟩ = some (.int .i64 0) := cell_blk hbx rfl
      have x6 : w9.cell? ⟨w.heap.size, 6, none⟩ = some (.int .i64 0) := cell_blk hbx rfl
      have x7 : w9.cell? ⟨w.heap.size, 7, none⟩ = some (.int .i64 0) := cell_blk hbx rfl
      have x8 : w9.cell? ⟨w.heap.size, 8, none⟩ = some (.int .i64 0) := cell_blk hbx rfl
      have x9 : w9.cell? ⟨w.heap.size, 9, none⟩ = some (.int .i64 0) := cell_blk hbx rfl
      have x10 : w9.cell? ⟨w.heap.size, 10, none⟩ = some (.int .i64 0) := cell_blk hbx rfl
      have x11 : w9.cell? ⟨w.heap.size, 11, none⟩ = some (.slice none 0 0) := cell_blk hbx rfl
      have x12 : w9.cell? ⟨w.heap.size, 12, none⟩ = some (.bool false) := cell_blk hbx rfl
      have x13 : w9.cell? ⟨w.heap.size, 13, none⟩ = some (.slice la ps.length lc) := cell_blk hbx rfl
      have x14 : w9.cell? ⟨w.heap.size, 14, none⟩ = some (.slice none 0 0) := cell_blk hbx rfl
      refine bodyPost_ret (by simp [results, Try.results19, go_sem, x0, x1, x2, x3, x4, x5, x6, x7, x8, x9, x10, x11, x12, x13, x14]; try rfl) rfl ?_
      exact ⟨_, rfl, hs9, fun g hg => by have := hn g hg; omega, hB⟩
end Go.Proofs.Ytniggacgkhkgiaa.Msg
/- What spoorlaw09.Like says of any message, and the reference's Right of what it says. Conditions: the message's slices lie in memory, and are small. -/
namespace Go.Proofs.Ytniggacgkhkgiaa.Msg
open Go.RowKit Go.Sp Go.Sort

/-- a message's slices as the document's message has them -/
def LikeIn (w : World) (pv' : Value) : Mg → Prop
  | .pinned p => RS w 1 eInt p.cv p.cl
  | .chunk _ _ _ _ _ sv xs => RS w 3 eSpn sv xs
  | .mani _ _ _ _ ps => SL w.heap 33 6 pv' ps.length (ps.flatMap ePt) ∧ ∀ p ∈ ps, RS w 1 eInt p.cv p.cl
  | _ => True
theorem LikeIn.below {w w' : World} {pv' : Value} {m : Mg} (h : LikeIn w pv' m) (o : Below w.heap.size w w') : LikeIn w' pv' m := by
  cases m <;> first | trivial | exact RS.only h (only_of_below o (fun _ => False)) (fun _ _ => id) | exact ⟨h.1.only (only_of_below o (fun _ => False)) (fun _ _ => id), fun p hp => (h.2 p hp).only (only_of_below o (fun _ => False)) (fun _ _ => id)⟩

theorem like_none (w : World) : Calls Try.prog 19 #[.nilIface] w fun e w' => e = .returned (.agg (eMs (likeM (.slice none 0 0) .none)).toArray) ∧ Below w.heap.size w w' := by
  have hA := below_alloc (Below.refl w.heap.size w) (.cells #[.int .i64 0, .int .i64 0, .int .i64 0, .int .i64 0, .int .i64 0, .int .i64 0, .int .i64 0, .int .i64 0, .int .i64 0, .int .i64 0, .int .i64 0, .slice none 0 0, .bool false, .slice none 0 0, .slice none 0 0] 37)
  have hbx := heap_new w (.cells #[.int .i64 0, .int .i64 0, .int .i64 0, .int .i64 0, .int .i64 0, .int .i64 0, .int .i64 0, .int .i64 0, .int .i64 0, .int .i64 0, .int .i64 0, .slice none 0 0, .bool false, .slice none 0 0, .slice none 0 0] 37) rfl
  go_enter Try.func19, Try.ntmps19
  go_wp2
  generalize (w.alloc (.cells #[.int .i64 0, .int .i64 0, .int .i64 0, .int .i64 0, .int .i64 0, .int .i64 0, .int .i64 0, .int .i64 0, .int .i64 0, .int .i64 0, .int .i64 0, .slice none 0 0, .bool false, .slice none 0 0, .slice none 0 0] 37)) = w9 at hA hbx ⊢
  have x0 : w9.cell? ⟨w.heap.size, 0, none⟩ = some (.int .i64 0) := cell_blk hbx rfl
  have x1 : w9.cell? ⟨w.heap.size, 1, none⟩ = some (.int .i64 0) := cell_blk hbx rfl
  have x2 : w9.cell? ⟨w.heap.size, 2, none⟩ = some (.int .i64 0) := cell_blk hbx rfl
  have x3 : w9.cell? ⟨w.heap.size, 3, none⟩ = some (.int .i64 0) := cell_blk hbx rfl
  have x4 : w9.cell? ⟨w.heap.size, 4, none⟩ = some (.int .i64 0) := cell_blk hbx rfl
  have x5 : w9.cell? ⟨w.heap.size, 5, none⟩ = some (.int .i64 0) := cell_blk hbx rfl
  have x6 : w9.cell? ⟨w.heap.size, 6, none⟩ = some (.int .i64 0) := cell_blk hbx rfl
  have x7 : w9.cell? ⟨w.heap.size, 7, none⟩ = some (.int .i64 0) := cell_blk hbx rfl
  have x8 : w9.cell? ⟨w.heap.size, 8, none⟩ = some (.int .i64 0) := cell_blk hbx rfl
  have x9 : w9.cell? ⟨w.heap.size, 9, none⟩ = some (.int .i64 0) := cell_blk hbx rfl
  have x10 : w9.cell? ⟨w.heap.size, 10, none⟩ = some (.int .i64 0) := cell_blk hbx rfl
  have x11 : w9.cell? ⟨w.heap.size, 11, none⟩ = some (.slice none 0 0) := cell_blk hbx rfl
  have x12 : w9.cell? ⟨w.heap.size, 12, none⟩ = some (.bool false) := cell_blk hbx rfl
  have x13 : w9.cell? ⟨w.heap.size, 13, none⟩ = some (.slice none 0 0) := cell_blk hbx rfl
  have x14 : w9.cell? ⟨w.heap.size, 14, none⟩ = some (.slice none 0 0) := cell_blk hbx rfl
  refine bodyPost_ret (by simp [results, Try.results19, go_sem, x0, x1, x2, x3, x4, x5, x6, x7, x8, x9, x10, x11, x12, x13, x14]; try rfl) rfl ?_
  exact ⟨rfl, hA⟩

theorem like_any {w : World} {m : Mg} (h : InMem w m) (hs : Small m) : Calls Try.prog 19 #[val m] w fun e w' => ∃ pv', e = .returned (.agg (eMs (likeM pv' m)).toArray) ∧ LikeIn w' pv' m ∧ (∀ g, pv'.ownBlock = some g → w.heap.size ≤ g) ∧ Below w.heap.size w w' := by
  have nb : ∀ g, (Value.slice none 0 0).ownBlock = some g → w.heap.size ≤ g := fun g hg => by simp [Value.ownBlock] at hg
  cases m with
  | none => exact (like_none w).mono fun e w' ⟨h1, h2⟩ => ⟨.slice none 0 0, h1, trivial, nb, h2⟩
  | trig a t c => exact (like_trig w a t c).mono fun e w' ⟨h1, h2⟩ => ⟨.slice none 0 0, h1, trivial, nb, h2⟩
  | pin t j => exact (like_pin w t j).mono fun e w' ⟨h1, h2⟩ => ⟨.slice none 0 0, h1, trivial, nb, h2⟩
  | gone a t j => exact (like_gone w a t j).mono fun e w' ⟨h1, h2⟩ => ⟨.slice none 0 0, h1, trivial, nb, h2⟩
  | coll t j => exact (like_coll w t j).mono fun e w' ⟨h1, h2⟩ => ⟨.slice none 0 0, h1, trivial, nb, h2⟩
  | stor t j => exact (like_stor w t j).mono fun e w' ⟨h1, h2⟩ => ⟨.slice none 0 0, h1, trivial, nb, h2⟩
  | unp t j => exact (like_unp w t j).mono fun e w' ⟨h1, h2⟩ => ⟨.slice none 0 0, h1, trivial, nb, h2⟩
  | unpd a t j => exact (like_unpd w a t j).mono fun e w' ⟨h1, h2⟩ => ⟨.slice none 0 0, h1, trivial, nb, h2⟩
  | pinned p =>
    obtain ⟨a, t, j, n, cv, cl, l⟩ := p
    have hr : RS w 1 eInt cv cl := h
    obtain ⟨_, ca, cc, rfl, _⟩ := id hr
    exact (like_pinned w a t j n ca cl.length cc l).mono fun e w' ⟨h1, h2⟩ => ⟨.slice none 0 0, h1, hr.only (only_of_below h2 (fun _ => False)) (fun _ _ => id), nb, h2⟩
  | chunk a t j i n sv xs =>
    have hr : RS w 3 eSpn sv xs := h
    obtain ⟨_, sa, sc, rfl, _⟩ := id hr
    exact (like_chunk w a t j i n sa xs.length sc).mono fun e w' ⟨h1, h2⟩ => ⟨.slice none 0 0, h1, hr.only (only_of_below h2 (fun _ => False)) (fun _ _ => id), nb, h2⟩
  | mani t j c pv ps =>
    have hp : Pts w pv ps := h
    obtain ⟨_, pa, pc, rfl, _⟩ := id hp.1
    refine (like_mani (t := t) (j := j) (c := c) hp hs).mono ?_
    rintro e w' ⟨pv', h1, h2, h3, h4⟩
    exact ⟨pv', h1, ⟨h2, fun p q => (hp.2 p q).only (only_of_below h4 (fun _ => False)) (fun _ _ => id)⟩, h3, h4⟩

theorem r59_any {w : World} {pv' : Value} {m : Mg} (h : LikeIn w pv' m) : Calls Try.prog 36 #[.agg (eMs (likeM pv' m)).toArray] w fun e w' => e = .returned (.bool (rightM m)) ∧ Below w.heap.size w w' := by
  cases m with
  | none => exact r59_none w
  | trig a t c => exact r59_trig w a t c
  | pin t j => exact r59_pin w t j
  | gone a t j => exact r59_gone w a t j
  | coll t j => exact r59_coll w t j
  | stor t j => exact r59_stor w t j
  | unp t j => exact r59_unp w t j
  | unpd a t j => exact r59_unpd w a t j
  | pinned p =>
    obtain ⟨a, t, j, n, cv, cl, l⟩ := p
    have hr : RS w 1 eInt cv cl := h
    obtain ⟨_, ca, cc, rfl, _⟩ := id hr
    exact r59_pinC hr
  | chunk a t j i n sv xs =>
    have hr : RS w 3 eSpn sv xs := h
    obtain ⟨_, sa, sc, rfl, _⟩ := id hr
    exact r59_chunk w a t j i n hr
  | mani t j c pv ps =>
    have hp : SL w.heap 33 6 pv' ps.length (ps.flatMap ePt) ∧ ∀ p ∈ ps, RS w 1 eInt p.cv p.cl := h
    obtain ⟨pa, pc, rfl⟩ := hp.1.form
    exact r59_mani (t := t) (j := j) (c := c) ⟨SL.rs (enc := ePt) (size := 6) (fun _ => rfl) hp.1, hp.2⟩
end Go.Proofs.Ytniggacgkhkgiaa.Msg
/- The reference's job: what it has, in plain words, and in memory; whom it visited. Conditions: it lies in memory as Rj says. -/
namespace Go.Sp
open Go.RowKit
/-- the reference's job: state by agent (0 not visited, 1 asked, 2 pinned), what they told, who is free -/
structure Rs where
  id : Int
  tr : Int
  cl : Int
  ph : Int
  st : List Int
  pt : List Pt
  fr : List Bool
  full : Bool
  kept : Bool
def eRs (r : Rs) (sb pb fb : Nat) : Array Value := #[.int .i64 r.id, .int .i64 r.tr, .int .i64 r.cl, .int .i64 r.ph, .slice (some ⟨sb, 0, none⟩) r.st.length r.st.length, .slice (some ⟨pb, 0, none⟩) r.st.length r.st.length, .slice (some ⟨fb, 0, none⟩) r.st.length r.st.length, .bool r.full, .bool r.kept]
def eBl (b : Bool) : Value := .bool b
def rvis (r : Rs) (a : Int) : Bool := decide (0 ≤ a) && (decide (a < (r.st.length : Int)) && decide (0 < r.st.getD a.toNat 0))
/-- the agents it visited, of the first q -/
def visTo (st : List Int) (q : Nat) : List Int := ((List.range q).filter fun i => decide (0 < st.getD i 0)).map fun i : Nat => (i : Int)
theorem visTo_succ (st : List Int) (q : Nat) {x : Int} (hx : st[q]? = some x) : visTo st (q + 1) = visTo st q ++ bif decide (0 < x) then [(q : Int)] else [] := by
  unfold visTo
  rw [List.range_succ, List.filter_append, List.map_append]
  have e : st.getD q 0 = x := by rw [List.getD_eq_getElem?_getD, hx]; rfl
  by_cases h : 0 < x
  · rw [List.filter_cons_of_pos (by simp only [e]; simpa using h), decide_eq_true h]; simp
  · rw [List.filter_cons_of_neg (by simp only [e]; simpa using h), decide_eq_false h]; simp
theorem visTo_len (st : List Int) (q : Nat) : (visTo st q).length ≤ q := by
  unfold visTo
  rw [List.length_map]
  exact Nat.le_trans (List.length_filter_le _ _) (by simp)
end Go.Sp
namespace Go.Proofs.Ytniggacgkhkgiaa.Job
open Go.RowKit Go.Sp Msg Go.Sort

structure Rj (w : World) (rb sb pb fb : Nat) (r : Rs) : Prop where
  blk : w.heap[rb]? = some (.cells (eRs r sb pb fb) 54 (0, 0))
  st : SL w.heap 3 1 (.slice (some ⟨sb, 0, none⟩) r.st.length r.st.length) r.st.length (r.st.map fun x => .int .i64 x)
  pt : SL w.heap 33 6 (.slice (some ⟨pb, 0, none⟩) r.st.length r.st.length) r.st.length (r.pt.flatMap ePt)
  fr : SL w.heap 4 1 (.slice (some ⟨fb, 0, none⟩) r.st.length r.st.length) r.st.length (r.fr.map eBl)
  lp : r.pt.length = r.st.length
  lf : r.fr.length = r.st.length
  l4 : 1 ≤ r.st.length ∧ r.st.length ≤ 4

/-- its own blocks -/
def Rown (rb sb pb fb : Nat) (b : Nat) : Prop := b = rb ∨ b = sb ∨ b = pb ∨ b = fb
section
variable {w w1 : World} {rb sb pb fb : Nat} {r : Rs}
theorem Rj.only {F : Nat → Prop} (h : Rj w rb sb pb fb r) (o : Only F w w1) (hF : ∀ b, Rown rb sb pb fb b → ¬ F b) : Rj w1 rb sb pb fb r :=
  ⟨o.heap h.blk (hF _ (.inl rfl)), h.st.only o (fun g hg => by simp [Value.ownBlock] at hg; exact hF _ (.inr (.inl hg.symm))), h.pt.only o (fun g hg => by simp [Value.ownBlock] at hg; exact hF _ (.inr (.inr (.inl hg.symm)))),
   h.fr.only o (fun g hg => by simp [Value.ownBlock] at hg; exact hF _ (.inr (.inr (.inr hg.symm)))), h.lp, h.lf, h.l4⟩
theorem Rj.below (h : Rj w rb sb pb fb r) (o : Below w.heap.size w w1) : Rj w1 rb sb pb fb r := h.only (only_of_below o (fun _ => False)) (fun _ _ => id)
theorem Rj.cell (h : Rj w rb sb pb fb r) {q : Nat} {u : Value} (hu : (eRs r sb pb fb)[q]? = some u) : w.cell? ⟨rb, q, none⟩ = some u := cell_blk h.blk hu
theorem Rj.state (h : Rj w rb sb pb fb r) {q : Nat} {x : Int} (hx : r.st[q]? = some x) : w.cell? ⟨sb, q, none⟩ = some (.int .i64 x) := by
  have := h.st.cell (j := q) (u := .int .i64 x) (by rw [List.getElem?_map, hx]; rfl)
  simpa using this
theorem Rj.frees (h : Rj w rb sb pb fb r) {q : Nat} {x : Bool} (hx : r.fr[q]? = some x) : w.cell? ⟨fb, q, none⟩ = some (.bool x) := by
  have := h.fr.cell (j := q) (u := .bool x) (by rw [List.getElem?_map, hx]; rfl)
  simpa using this
theorem Rj.lt (h : Rj w rb sb pb fb r) : ∀ b, Rown rb sb pb fb b → b < w.heap.size := fun b hb => by
  rcases hb with rfl | rfl | rfl | rfl
  · exact (Array.getElem?_eq_some_iff.1 h.blk).1
  · exact h.st.lt _ rfl
  · exact h.pt.lt _ rfl
  · exact h.fr.lt _ rfl

set_option maxRecDepth 100000 in
set_option maxHeartbeats 2000000 in
theorem rvis_any (h : Rj w rb sb pb fb r) (a : Int) : Calls Try.prog 78 #[.pointer (some ⟨rb, 0, none⟩), .int .i64 a] w fun e w' => e = .returned (.bool (rvis r a)) ∧ w = w' := by
  have e4 := h.cell (q := 4) (u := .slice (some ⟨sb, 0, none⟩) r.st.length r.st.length) rfl
  have hl := h.l4
  go_enter Try.func78, Try.ntmps78
  by_cases h0 : 0 ≤ a
  · have b0 : decide (0 ≤ a) = true := decide_eq_true h0
    by_cases h1 : a < (r.st.length : Int)
    · have b1 : decide (a < (r.st.length : Int)) = true := decide_eq_true h1
      obtain ⟨n, rfl⟩ : ∃ n : Nat, a = n := ⟨a.toNat, by omega⟩
      obtain ⟨x, hx⟩ : ∃ x, r.st[n]? = some x := ⟨_, List.getElem?_eq_getElem (by omega)⟩
      have c := h.state hx
      have HV := Lib.hid (show rvis r n = decide (0 < x) by unfold rvis; rw [b0, b1, Int.toNat_natCast, List.getD_eq_getElem?_getD, hx]; rfl)
      have hn : n < r.st.length := by omega
      clear hx b0 h0
      generalize r.st.length = m at e4 hl b1 h1 hn ⊢
      by_cases hx0 : 0 < x
      · have bx : decide (0 < x) = true := decide_eq_true hx0
        have HX := Lib.hid bx
        go_wp2
        go_ret
        exact ⟨by rw [HV.out, HX.out]; rfl, by first | rfl | trivial⟩
      · have bx : decide (0 < x) = false := decide_eq_false hx0
        have HX := Lib.hid bx
        go_wp2
        go_ret
        exact ⟨by rw [HV.out, HX.out]; rfl, by first | rfl | trivial⟩
    · have b1 : decide (a < (r.st.length : Int)) = false := decide_eq_false h1
      have HV := Lib.hid (show rvis r a = false by unfold rvis; rw [b1]; simp)
      generalize r.st.length = m at e4 hl b1 h1 ⊢
      go_wp2
      go_ret
      exact ⟨by rw [HV.out]; rfl, by first | rfl | trivial⟩
  · have b0 : decide (0 ≤ a) = false := decide_eq_false h0
    have HV := Lib.hid (show rvis r a = false by unfold rvis; rw [b0]; simp)
    go_wp2
    go_ret
    exact ⟨by rw [HV.out]; rfl, by first | rfl | trivial⟩

set_option maxRecDepth 100000 in
set_option maxHeartbeats 2000000 in
theorem rVisited_any (h : Rj w rb sb pb fb r) : Calls Try.prog 29 #[.pointer (some ⟨rb, 0, none⟩)] w fun e w' => ∃ v, e = .returned v ∧ RS w' 1 eInt v (visTo r.st r.st.length) ∧ (∀ g, v.ownBlock = some g → w.heap.size ≤ g) ∧ Below w.heap.size w w' := by
  obtain ⟨io, zo, hio, hzo, ho1, ho2, ho3⟩ := info_at (P := Try.prog) (e := 3) (f := (1, 8, 1)) (by kernel_rfl)
  have hl := h.l4
  go_enter Try.func29, Try.ntmps29
  go_wp2
  go_loopw [3, 4] (fun v i wr => ∃ q : Nat, q ≤ r.st.length ∧ i = .int .i64 q ∧ SL wr.heap 3 1 v (visTo r.st q).length ((visTo r.st q).map fun x => .int .i64 x) ∧ (∀ g, v.ownBlock = some g → w.heap.size ≤ g) ∧ Below w.heap.size w wr) (fun _ i _ => r.st.length - (intOf i).toNat)
  case atStart => exact ⟨0, Nat.zero_le _, rfl, SL.nil _ _ _, fun g hg => by simp [Value.ownBlock] at hg, Below.refl _ _⟩
  case round =>
    obtain ⟨q, hq, rfl, hs, hn, hb⟩ := hrel
    have hr := h.below hb
    have e4 := hr.cell (q := 4) (u := .slice (some ⟨sb, 0, none⟩) r.st.length r.st.length) rfl
    by_cases hqN : q < r.st.length
    · obtain ⟨x, hx⟩ : ∃ x, r.st[q]? = some x := ⟨_, List.getElem?_eq_getElem hqN⟩
      have c := hr.state hx
      have HV := Lib.hid (visTo_succ r.st q hx)
      have hvl := visTo_len r.st q
      generalize visTo r.st q = L at hs HV hvl
      clear hx hr
      by_cases hx0 : 0 < x
      · have bx : decide (0 < x) = true := decide_eq_true hx0
        have HX := Lib.hid bx
        obtain ⟨va, vc, rfl⟩ := hs.form
        go_wp2_with (at_builtin; refine halt ?_)
        refine Halt.go ?_
        refine wpList_appd (v := .slice va L.length vc) rfl _ _ _ rfl Try.underlying31 hio hzo ho1 ho2 ho3 rfl (hs.alloc _) (m := 1) (news := [.int .i64 (q : Int)]) rfl rfl (cells_new _ _ _ rfl) (by simp [Value.oneCell']) (by unfold maxLen; omega) (by omega) ?_
        rintro v8 w8 hs8 ho8 hv8
        have hB8 : Below w.heap.size w w8 := (hb.alloc hb.size _).trans (ho8.below (by have := hb.size; simp; omega) (fun i hi e => by have := hn i e; omega))
        have hn8 : ∀ g', v8.ownBlock = some g' → w.heap.size ≤ g' := fun g' hg' => by
          rcases hv8 with e | e
          · exact hn g' (by rw [← e]; exact hg')
          · rw [e] at hg'; cases hg'; have := hb.size; simp; omega
        clear ho8 hv8 hs hb
        go_wp2
        exact ⟨⟨q + 1, by omega, by go_num, by rw [HV.out, HX.out, cond_true, List.map_append, List.length_append]; exact hs8, hn8, hB8⟩, by simp [intOf]; omega⟩
      · have bx : decide (0 < x) = false := decide_eq_false hx0
        have HX := Lib.hid bx
        go_wp2
        exact ⟨⟨q + 1, by omega, by go_num, by rw [HV.out, HX.out]; simpa using hs, hn, hb⟩, by simp [intOf]; omega⟩
    · have hqe : q = r.st.length := by omega
      rw [hqe] at hs
      have hre := SL.ints hs
      clear hs hr hqe
      go_wp2
      go_ret
      exact ⟨_, rfl, hre, hn, hb⟩
end
end Go.Proofs.Ytniggacgkhkgiaa.Job
