/- What the reference job's Manifest answers. Conditions: it lies in memory as Rj says. PRINTED BY wip/gen_rj1.py. -/
import Derived.Test.YtniggacgkhkgiaaPkJobPlays8
import Derived.Deep.RegionLaw
import Derived.BigRegion
import Derived.Laws.Tables
namespace Go.Sp
open Go.RowKit
/-- what the visited of the first q agents told -/
def visPts (r : Rs) (q : Nat) : List Pt := (List.range q).flatMap fun i => bif decide (0 < r.st.getD i 0) then [r.pt.getD i zPt] else []
theorem visPts_succ (r : Rs) (q : Nat) {x : Int} {p : Pt} (hx : r.st[q]? = some x) (hp : r.pt[q]? = some p) : visPts r (q + 1) = visPts r q ++ bif decide (0 < x) then [p] else [] := by
  unfold visPts
  rw [List.range_succ, List.flatMap_append]
  simp [List.getD_eq_getElem?_getD, hx, hp]
theorem visPts_len (r : Rs) : ∀ q, (visPts r q).length ≤ q
  | 0 => by simp [visPts]
  | q + 1 => by
    have := visPts_len r q
    unfold visPts at this ⊢
    rw [List.range_succ, List.flatMap_append, List.length_append]
    have h2 : ((List.flatMap (fun i => bif decide (0 < r.st.getD i 0) then [r.pt.getD i zPt] else []) [q]) : List Pt).length ≤ 1 := by
      rw [List.flatMap_singleton]
      cases decide (0 < r.st.getD q 0) <;> simp
    omega
end Go.Sp
namespace Go.Proofs.Ytniggacgkhkgiaa.Job
open Go.RowKit Go.Sp Msg Go.Sort

theorem only_setRow (w : World) (g : Nat) (cs : Array Value) : Only (· = g) w (w.setRow g cs) := ⟨rfl, rfl, rfl, by rw [setRow_size]; exact Nat.le_refl _, fun b _ hn => setRow_other w g b cs hn⟩
/-- the manifest, as far as it is put together -/
structure Mq (w1 w : World) (B : Nat) (r : Rs) (pv : Value) (l : List Pt) : Prop where
  blk : w.heap[B]? = some (.cells #[.int .i64 7, .int .i64 0, .int .i64 r.tr, .int .i64 r.id, .int .i64 r.cl, .int .i64 0, .int .i64 0, .int .i64 0, .int .i64 0, .int .i64 0, .int .i64 0, .slice none 0 0, .bool false, pv, .slice none 0 0] 37 (0, 0))
  sl : SL w.heap 33 6 pv l.length (l.flatMap ePt)
  pn : ∀ g, pv.ownBlock = some g → B < g
  bel : Below B w1 w
theorem Mq.app {w1 w w5 : World} {B : Nat} {r : Rs} {pv : Value} {l : List Pt} (h : Mq w1 w B r pv l) {o : Obj} (ho : Only (fun k => pv.ownBlock = some k) (w.alloc o).drew w5) :
    w5.heap[B]? = some (.cells #[.int .i64 7, .int .i64 0, .int .i64 r.tr, .int .i64 r.id, .int .i64 r.cl, .int .i64 0, .int .i64 0, .int .i64 0, .int .i64 0, .int .i64 0, .int .i64 0, .slice none 0 0, .bool false, pv, .slice none 0 0] 37 (0, 0)) ∧ w5.frozen? ⟨B, 13, none⟩ = false ∧ w5.cell? ⟨B, 13, none⟩ = some pv ∧ Only (fun k => pv.ownBlock = some k) w w5 := by
  have ha : Only (fun k => pv.ownBlock = some k) w w5 := (((Only.refl _ w).alloc o).drew).trans ho
  have hb := ha.heap h.blk (fun e => by have := h.pn _ e; omega)
  exact ⟨hb, froz_blk hb 13, cell_blk hb rfl, ha⟩
theorem Mq.put {w1 w w5 : World} {B : Nat} {r : Rs} {pv : Value} {l : List Pt} {p : Pt} {b5 off5 cap5 : Nat} (h : Mq w1 w B r pv l) (hb : w5.heap[B]? = some (.cells #[.int .i64 7, .int .i64 0, .int .i64 r.tr, .int .i64 r.id, .int .i64 r.cl, .int .i64 0, .int .i64 0, .int .i64 0, .int .i64 0, .int .i64 0, .int .i64 0, .slice none 0 0, .bool false, pv, .slice none 0 0] 37 (0, 0))) (ha : Only (fun k => pv.ownBlock = some k) w w5)
    (hs : SL w5.heap 33 6 (.slice (some ⟨b5, off5, none⟩) (l.length + 1) cap5) (l.length + 1) (l.flatMap ePt ++ ePt p)) (hv : pv.ownBlock = some b5 ∨ b5 = w.heap.size + 1) :
    Mq w1 (w5.setCell ⟨B, 13, none⟩ (.slice (some ⟨b5, off5, none⟩) (l.length + 1) cap5)) B r (.slice (some ⟨b5, off5, none⟩) (l.length + 1) cap5) (l ++ [p]) := by
  have hlt := (Array.getElem?_eq_some_iff.1 h.blk).1
  have hO : Only (· = B) w5 (w5.setCell ⟨B, 13, none⟩ (.slice (some ⟨b5, off5, none⟩) (l.length + 1) cap5)) := (Only.refl (· = B) w5).setCell (p := ⟨B, 13, none⟩) (fun _ => rfl) _
  have hpn : B < b5 := by
    rcases hv with e | e
    · exact h.pn _ e
    · omega
  refine ⟨(heap_setCell_cells (o := 13) hb _).trans rfl, ?_, fun g hg => by simp [Value.ownBlock] at hg; omega, ?_⟩
  · rw [List.length_append, List.flatMap_append]
    simpa using hs.only hO (fun g hg e => by simp [Value.ownBlock] at hg; omega)
  · have hz := h.bel.size
    exact (h.bel.trans (ha.below (by omega) (fun i hi e => by have := h.pn i e; omega))).trans (hO.below (by have := ha.size; omega) (fun i hi e => by omega))

section
variable {w : World} {rb sb pb fb : Nat} {r : Rs}
set_option maxRecDepth 100000 in
set_option maxHeartbeats 4000000 in
theorem rMani_any (h : Rj w rb sb pb fb r) (hf : ∀ p ∈ r.pt, ∃ x y z, p.cv = .slice x y z) : Calls Try.prog 33 #[.pointer (some ⟨rb, 0, none⟩)] w fun e w' => ∃ pv, e = .returned (.agg #[.int .i64 7, .int .i64 0, .int .i64 r.tr, .int .i64 r.id, .int .i64 r.cl, .int .i64 0, .int .i64 0, .int .i64 0, .int .i64 0, .int .i64 0, .int .i64 0, .slice none 0 0, .bool false, pv, .slice none 0 0]) ∧
      SL w'.heap 33 6 pv (visPts r r.st.length).length ((visPts r r.st.length).flatMap ePt) ∧ (∀ g, pv.ownBlock = some g → w.heap.size ≤ g ∧ g < w'.heap.size) ∧ Below w.heap.size w w' := by
  obtain ⟨io, zo, hio, hzo, ho1, ho2, ho3⟩ := info_at (P := Try.prog) (e := 33) (f := (6, 64, 6)) (by kernel_rfl)
  have hl4 := h.l4
  have hA := below_alloc (Below.refl w.heap.size w) (.cells #[.int .i64 0, .int .i64 0, .int .i64 0, .int .i64 0, .int .i64 0, .int .i64 0, .int .i64 0, .int .i64 0, .int .i64 0, .int .i64 0, .int .i64 0, .slice none 0 0, .bool false, .slice none 0 0, .slice none 0 0] 37)
  have hb1 := heap_new w (.cells #[.int .i64 0, .int .i64 0, .int .i64 0, .int .i64 0, .int .i64 0, .int .i64 0, .int .i64 0, .int .i64 0, .int .i64 0, .int .i64 0, .int .i64 0, .slice none 0 0, .bool false, .slice none 0 0, .slice none 0 0] 37) rfl
  have h1 := h.below hA
  have k0 := h1.cell (q := 0) (u := .int .i64 r.id) rfl
  have k1 := h1.cell (q := 1) (u := .int .i64 r.tr) rfl
  have k2 := h1.cell (q := 2) (u := .int .i64 r.cl) rfl
  have hwl := h1.lt _ (.inl rfl)
  go_enter Try.func33, Try.ntmps33
  go_upto_region 1 with (fail)
  generalize (w.alloc (.cells #[.int .i64 0, .int .i64 0, .int .i64 0, .int .i64 0, .int .i64 0, .int .i64 0, .int .i64 0, .int .i64 0, .int .i64 0, .int .i64 0, .int .i64 0, .slice none 0 0, .bool false, .slice none 0 0, .slice none 0 0] 37)) = w1 at hA hb1 h1 k0 k1 k2 hwl ⊢
  have HP := Lib.hid (And.intro h1 (And.intro hA hb1))
  clear h1 hA hb1 h
  go_region
  obtain ⟨h1, hA, hb1⟩ := HP.out
  have hA3 : Below w1.heap.size w1 ((w1.alloc (.cells #[.int .i64 7, .int .i64 0, .int .i64 r.tr, .int .i64 r.id, .int .i64 r.cl, .int .i64 0, .int .i64 0, .int .i64 0, .int .i64 0, .int .i64 0, .int .i64 0, .slice none 0 0, .bool false, .slice none 0 0, .slice none 0 0] 37)).drew) := (below_alloc (Below.refl w1.heap.size w1) _).drew
  have hb4 : ((w1.alloc (.cells #[.int .i64 7, .int .i64 0, .int .i64 r.tr, .int .i64 r.id, .int .i64 r.cl, .int .i64 0, .int .i64 0, .int .i64 0, .int .i64 0, .int .i64 0, .int .i64 0, .slice none 0 0, .bool false, .slice none 0 0, .slice none 0 0] 37)).drew).heap[w1.heap.size]? = some (.cells #[.int .i64 7, .int .i64 0, .int .i64 r.tr, .int .i64 r.id, .int .i64 r.cl, .int .i64 0, .int .i64 0, .int .i64 0, .int .i64 0, .int .i64 0, .int .i64 0, .slice none 0 0, .bool false, .slice none 0 0, .slice none 0 0] 37 (0, 0)) := heap_new w1 (.cells #[.int .i64 7, .int .i64 0, .int .i64 r.tr, .int .i64 r.id, .int .i64 r.cl, .int .i64 0, .int .i64 0, .int .i64 0, .int .i64 0, .int .i64 0, .int .i64 0, .slice none 0 0, .bool false, .slice none 0 0, .slice none 0 0] 37) rfl
  generalize (w1.alloc (.cells #[.int .i64 7, .int .i64 0, .int .i64 r.tr, .int .i64 r.id, .int .i64 r.cl, .int .i64 0, .int .i64 0, .int .i64 0, .int .i64 0, .int .i64 0, .int .i64 0, .slice none 0 0, .bool false, .slice none 0 0, .slice none 0 0] 37)).drew = w3 at hA3 hb4 ⊢
  clear HP k0 k1 k2
  obtain ⟨B, hB⟩ : ∃ b, b = w1.heap.size := ⟨_, rfl⟩
  rw [← hB] at hb4 hA3 hwl ⊢
  have hBlt : w.heap.size < B := by rw [hB]; exact (Array.getElem?_eq_some_iff.1 hb1).1
  have HB := Lib.hid hB
  clear hB
  go_wp2
  go_loopw [4] (fun v wr => ∃ (q : Nat) (pv : Value), q ≤ r.st.length ∧ v = .int .i64 q ∧ Mq w1 wr B r pv (visPts r q)) (fun v _ => r.st.length - (intOf v).toNat)
  case atStart => exact ⟨0, _, Nat.zero_le _, rfl, hb4, SL.nil _ _ _, fun g hg => by simp [Value.ownBlock] at hg, hA3⟩
  case round =>
    clear hb4 hA3
    obtain ⟨q, pv, hq, rfl, hM⟩ := hrel
    have hbw : Below w1.heap.size w1 wr := hM.bel.mono (by have := HB.out; omega)
    have hr := h1.below hbw
    have e4 := hr.cell (q := 4) (u := .slice (some ⟨sb, 0, none⟩) r.st.length r.st.length) rfl
    have e5 := hr.cell (q := 5) (u := .slice (some ⟨pb, 0, none⟩) r.st.length r.st.length) rfl
    by_cases hqN : q < r.st.length
    · obtain ⟨x, hx⟩ : ∃ x, r.st[q]? = some x := ⟨_, List.getElem?_eq_getElem hqN⟩
      obtain ⟨p, hp⟩ : ∃ p, r.pt[q]? = some p := ⟨_, List.getElem?_eq_getElem (by rw [h1.lp]; exact hqN)⟩
      have c := hr.state hx
      have HV := Lib.hid (visPts_succ r q hx hp)
      have hvl := visPts_len r q
      generalize visPts r q = L at hM HV hvl
      by_cases hx0 : 0 < x
      · have bx : decide (0 < x) = true := decide_eq_true hx0
        have HX := Lib.hid bx
        have g0 := hr.pt.elem (enc := ePt) (fun _ => rfl) hp (j := 0) (u := .int .i64 p.a) rfl
        have g1 := hr.pt.elem (enc := ePt) (fun _ => rfl) hp (j := 1) (u := .int .i64 p.t) rfl
        have g2 := hr.pt.elem (enc := ePt) (fun _ => rfl) hp (j := 2) (u := .int .i64 p.j) rfl
        have g3 := hr.pt.elem (enc := ePt) (fun _ => rfl) hp (j := 3) (u := .int .i64 p.n) rfl
        have g4 := hr.pt.elem (enc := ePt) (fun _ => rfl) hp (j := 4) (u := p.cv) rfl
        have g5 := hr.pt.elem (enc := ePt) (fun _ => rfl) hp (j := 5) (u := .bool p.l) rfl
        rw [Nat.zero_add] at g0 g1 g2 g3 g4 g5
        rw [Nat.add_zero] at g0
        obtain ⟨y1, y2, y3, hcv⟩ := hf p (List.mem_of_getElem? hp)
        obtain ⟨xa, xt, xj, xn, xcv, xcl, xl⟩ := p
        simp only at hcv g0 g1 g2 g3 g4 g5
        subst hcv
        have e13 : wr.cell? ⟨B, 13, none⟩ = some pv := cell_blk hM.blk rfl
        have fz := froz_blk hM.blk 13
        have hBr := World.block_lt_of_cell? _ _ e13
        have hrr := World.block_lt_of_cell? _ _ e5
        have hpr := World.block_lt_of_cell? _ _ g0
        obtain ⟨va, vc, rfl⟩ := hM.sl.form
        have hsl := hM.sl
        have HM := Lib.hid hM
        clear hx hp hr hM hbw hx0
        go_upto_region 6 with (fail)
        go_region_law
          ((refine step_appd (v := .slice va L.length vc) rfl _ _ _ rfl Try.underlying34 hio hzo ho1 ho2 ho3 rfl ((hsl.alloc _).drew) (by omega) (m := 1) (news := ePt ⟨xa, xt, xj, xn, .slice y1 y2 y3, xcl, xl⟩) rfl rfl (cells_new _ _ _ (by simp)) (by simp [Value.oneCell', ePt]) (by unfold maxLen; omega) (by omega) (by simp; rfl) ?_; intro b5 off5 cap5 w5 hs5 ho5 hv5; obtain ⟨k1, k2, k3, k4⟩ := HM.out.app ho5; clear ho5))
        all_goals
          have hfin := HM.out.put k1 k4 hs5 hv5
          generalize w5.setCell ⟨B, 13, none⟩ (.slice (some ⟨b5, off5, none⟩) (L.length + 1) cap5) = W5 at hfin ⊢
          clear k1 k2 k3 k4 hs5 hv5 g0 g1 g2 g3 g4 g5 e13 fz e4 e5 c
          go_wp2
          exact ⟨⟨q + 1, _, by omega, by go_num, by rw [HV.out, HX.out]; exact hfin⟩, by simp [intOf]; omega⟩
      · have bx : decide (0 < x) = false := decide_eq_false hx0
        have HX := Lib.hid bx
        clear hx hp hr hbw
        go_wp2
        exact ⟨⟨q + 1, pv, by omega, by go_num, by rw [HV.out, HX.out]; simpa using hM⟩, by simp [intOf]; omega⟩
    · have hqe : q = r.st.length := by omega
      rw [hqe] at hM
      obtain ⟨L, hL⟩ : ∃ L, L = visPts r r.st.length := ⟨_, rfl⟩
      rw [← hL] at hM
      have HL := Lib.hid hL
      clear hL
      have hb0 := (hbw.block _ (Array.getElem?_eq_some_iff.1 hb1).1).trans hb1
      have c0 : wr.cell? ⟨B, 0, none⟩ = some (.int .i64 7) := cell_blk hM.blk rfl
      have c1 : wr.cell? ⟨B, 1, none⟩ = some (.int .i64 0) := cell_blk hM.blk rfl
      have c2 : wr.cell? ⟨B, 2, none⟩ = some (.int .i64 r.tr) := cell_blk hM.blk rfl
      have c3 : wr.cell? ⟨B, 3, none⟩ = some (.int .i64 r.id) := cell_blk hM.blk rfl
      have c4 : wr.cell? ⟨B, 4, none⟩ = some (.int .i64 r.cl) := cell_blk hM.blk rfl
      have c5 : wr.cell? ⟨B, 5, none⟩ = some (.int .i64 0) := cell_blk hM.blk rfl
      have c6 : wr.cell? ⟨B, 6, none⟩ = some (.int .i64 0) := cell_blk hM.blk rfl
      have c7 : wr.cell? ⟨B, 7, none⟩ = some (.int .i64 0) := cell_blk hM.blk rfl
      have c8 : wr.cell? ⟨B, 8, none⟩ = some (.int .i64 0) := cell_blk hM.blk rfl
      have c9 : wr.cell? ⟨B, 9, none⟩ = some (.int .i64 0) := cell_blk hM.blk rfl
      have c10 : wr.cell? ⟨B, 10, none⟩ = some (.int .i64 0) := cell_blk hM.blk rfl
      have c11 : wr.cell? ⟨B, 11, none⟩ = some (.slice none 0 0) := cell_blk hM.blk rfl
      have c12 : wr.cell? ⟨B, 12, none⟩ = some (.bool false) := cell_blk hM.blk rfl
      have c13 : wr.cell? ⟨B, 13, none⟩ = some (pv) := cell_blk hM.blk rfl
      have c14 : wr.cell? ⟨B, 14, none⟩ = some (.slice none 0 0) := cell_blk hM.blk rfl
      obtain ⟨va, vc, hpve⟩ := hM.sl.form
      subst hpve
      have hO : Only (· = w.heap.size) wr (wr.setRow w.heap.size #[.int .i64 7, .int .i64 0, .int .i64 r.tr, .int .i64 r.id, .int .i64 r.cl, .int .i64 0, .int .i64 0, .int .i64 0, .int .i64 0, .int .i64 0, .int .i64 0, .slice none 0 0, .bool false, .slice va L.length vc, .slice none 0 0]) := only_setRow wr _ _
      have hb9 := setRow_heap wr w.heap.size _ #[.int .i64 7, .int .i64 0, .int .i64 r.tr, .int .i64 r.id, .int .i64 r.cl, .int .i64 0, .int .i64 0, .int .i64 0, .int .i64 0, .int .i64 0, .int .i64 0, .slice none 0 0, .bool false, .slice va L.length vc, .slice none 0 0] _ _ hb0
      have hAr := below_trans' hbw hA
      have hBB := hAr.trans (hO.below hAr.size (fun i hi e => by omega))
      have hs9 := hM.sl.only hO (fun g hg e => by have := hM.pn g hg; omega)
      have HF := Lib.hid (And.intro hb9 (And.intro hBB (And.intro hs9 hM.pn)))
      clear hO hb9 hBB hs9 hM hAr hr hbw hqe
      go_wp2_with (refine wpList_store_row rfl 37 _ _ rfl w.heap.size #[.int .i64 7, .int .i64 0, .int .i64 r.tr, .int .i64 r.id, .int .i64 r.cl, .int .i64 0, .int .i64 0, .int .i64 0, .int .i64 0, .int .i64 0, .int .i64 0, .slice none 0 0, .bool false, .slice va L.length vc, .slice none 0 0] rfl rfl 37 _ hb0 (by kernel_rfl) rfl (by simp [Value.oneCell']) ?_)
      obtain ⟨hb9, hBB, hs9, hpn⟩ := HF.out
      clear HF
      generalize wr.setRow w.heap.size #[.int .i64 7, .int .i64 0, .int .i64 r.tr, .int .i64 r.id, .int .i64 r.cl, .int .i64 0, .int .i64 0, .int .i64 0, .int .i64 0, .int .i64 0, .int .i64 0, .slice none 0 0, .bool false, .slice va L.length vc, .slice none 0 0] = w9 at hb9 hBB hs9 ⊢
      have x0 : w9.cell? ⟨w.heap.size, 0, none⟩ = some (.int .i64 7) := cell_blk hb9 rfl
      have x1 : w9.cell? ⟨w.heap.size, 1, none⟩ = some (.int .i64 0) := cell_blk hb9 rfl
      have x2 : w9.cell? ⟨w.heap.size, 2, none⟩ = some (.int .i64 r.tr) := cell_blk hb9 rfl
      have x3 : w9.cell? ⟨w.heap.size, 3, none⟩ = some (.int .i64 r.id) := cell_blk hb9 rfl
      have x4 : w9.cell? ⟨w.heap.size, 4, none⟩ = some (.int .i64 r.cl) := cell_blk hb9 rfl
      have x5 : w9.cell? ⟨w.heap.size, 5, none⟩ = some (.int .i64 0) := cell_blk hb9 rfl
      have x6 : w9.cell? ⟨w.heap.size, 6, none⟩ = some (.int .i64 0) := cell_blk hb9 rfl
      have x7 : w9.cell? ⟨w.heap.size, 7, none⟩ = some (.int .i64 0) := cell_blk hb9 rfl
      have x8 : w9.cell? ⟨w.heap.size, 8, none⟩ = some (.int .i64 0) := cell_blk hb9 rfl
      have x9 : w9.cell? ⟨w.heap.size, 9, none⟩ = some (.int .i64 0) := cell_blk hb9 rfl
      have x10 : w9.cell? ⟨w.heap.size, 10, none⟩ = some (.int .i64 0) := cell_blk hb9 rfl
      have x11 : w9.cell? ⟨w.heap.size, 11, none⟩ = some (.slice none 0 0) := cell_blk hb9 rfl
      have x12 : w9.cell? ⟨w.heap.size, 12, none⟩ = some (.bool false) := cell_blk hb9 rfl
      have x13 : w9.cell? ⟨w.heap.size, 13, none⟩ = some (.slice va L.length vc) := cell_blk hb9 rfl
      have x14 : w9.cell? ⟨w.heap.size, 14, none⟩ = some (.slice none 0 0) := cell_blk hb9 rfl
      refine bodyPost_ret (by simp [results, Try.results33, go_sem, x0, x1, x2, x3, x4, x5, x6, x7, x8, x9, x10, x11, x12, x13, x14]; try rfl) rfl ?_
      rw [← HL.out]
      exact ⟨_, rfl, hs9, fun g hg => ⟨by have := hpn g hg; omega, hs9.lt g hg⟩, hBB⟩
end
end Go.Proofs.Ytniggacgkhkgiaa.Job
/- What the reference job's Outs answers. Conditions: it lies in memory as Rj says. PRINTED BY wip/gen_rj2.py. -/
namespace Go.Sp
open Go.RowKit
/-- a message to an agent -/
def outMs (r : Rs) (k : Int) : Ms := ⟨k, 0, r.tr, r.id, 0, 0, 0, zPt, .slice none 0 0, .slice none 0 0⟩
def kindR (r : Rs) (x : Int) (f : Bool) : Int := bif decide (x = 0) then 0 else bif decide (r.ph = 1) && decide (x = 1) then 2 else bif decide (r.ph = 2) then 5 else bif decide (r.ph = 3) && !f then 9 else 0
/-- what is said to the first q agents -/
def outR (r : Rs) (q : Nat) : List (Int × Ms) := (List.range q).flatMap fun i => bif decide (0 < kindR r (r.st.getD i 0) (r.fr.getD i false)) then [((i : Int), outMs r (kindR r (r.st.getD i 0) (r.fr.getD i false)))] else []
theorem outR_succ (r : Rs) (q : Nat) {x : Int} {f : Bool} (hx : r.st[q]? = some x) (hf : r.fr[q]? = some f) : outR r (q + 1) = outR r q ++ bif decide (0 < kindR r x f) then [((q : Int), outMs r (kindR r x f))] else [] := by
  unfold outR
  rw [List.range_succ, List.flatMap_append]
  simp [List.getD_eq_getElem?_getD, hx, hf]
theorem outR_len (r : Rs) : ∀ q, (outR r q).length ≤ q
  | 0 => by simp [outR]
  | q + 1 => by
    have := outR_len r q
    unfold outR at this ⊢
    rw [List.range_succ, List.flatMap_append, List.length_append]
    have h2 : ((List.flatMap (fun i : Nat => bif decide (0 < kindR r (r.st.getD i 0) (r.fr.getD i false)) then [((i : Int), outMs r (kindR r (r.st.getD i 0) (r.fr.getD i false)))] else []) [q]) : List (Int × Ms)).length ≤ 1 := by
      rw [List.flatMap_singleton]
      cases decide (0 < kindR r (r.st.getD q 0) (r.fr.getD q false)) <;> simp
    omega
end Go.Sp
namespace Go.Proofs.Ytniggacgkhkgiaa.Job
open Go.RowKit Go.Sp Msg Go.Sort

/-- to whom, and what, made since w -/
structure Oq (w wr : World) (v u : Value) (L : List (Int × Ms)) (pv : Value) (lp : List Pt) : Prop where
  to : SL wr.heap 3 1 v L.length ((L.map Prod.fst).map fun x => .int .i64 x)
  ms : SL wr.heap 37 15 u L.length (L.flatMap fun x => eMs x.2)
  vn : ∀ g, v.ownBlock = some g → w.heap.size ≤ g
  un : ∀ g, u.ownBlock = some g → w.heap.size ≤ g
  bel : Below w.heap.size w wr
  pp : SL wr.heap 33 6 pv lp.length (lp.flatMap ePt)
theorem sl_ne2 {h : Array Obj} {e1 e2 : TypeId} {s1 s2 n m : Nat} {v u : Value} {cs ds : List Value} (a : SL h e1 s1 v n cs) (b : SL h e2 s2 u m ds) (hne : e2 ≠ e1) : ∀ g, v.ownBlock = some g → u.ownBlock ≠ some g := fun g hg e => by
  rcases b.2 with ⟨rfl, _⟩ | ⟨b', off, cap, cur, rfl, _, _, hb', _⟩
  · simp [Value.ownBlock] at e
  · simp [Value.ownBlock] at e
    subst e
    exact sl_not hb' a hne hg
theorem sl_ne {h : Array Obj} {v u : Value} {n m : Nat} {cs ds : List Value} (a : SL h 3 1 v n cs) (b : SL h 37 15 u m ds) : ∀ g, v.ownBlock = some g → u.ownBlock ≠ some g := fun g hg e => by
  rcases b.2 with ⟨rfl, _⟩ | ⟨b', off, cap, cur, rfl, _, _, hb', _⟩
  · simp [Value.ownBlock] at e
  · simp [Value.ownBlock] at e
    subst e
    exact sl_not hb' a (by decide) hg
section
variable {w wr w8 : World} {v u v8 pv : Value} {L : List (Int × Ms)} {lp : List Pt}
/-- a number more -/
theorem Oq.int (h : Oq w wr v u L pv lp) {o : Obj} {x : Int} (ho : Only (fun k => v.ownBlock = some k) (wr.alloc o) w8) (hs : SL w8.heap 3 1 v8 (L.length + 1) (((L.map Prod.fst).map fun x => .int .i64 x) ++ [.int .i64 x])) (hv : v8.ownBlock = v.ownBlock ∨ v8.ownBlock = some (wr.alloc o).heap.size) :
    SL w8.heap 3 1 v8 (L.length + 1) (((L.map Prod.fst) ++ [x]).map fun x => .int .i64 x) ∧ SL w8.heap 37 15 u L.length (L.flatMap fun x => eMs x.2) ∧ (∀ g, v8.ownBlock = some g → w.heap.size ≤ g) ∧ (∀ g, u.ownBlock = some g → w.heap.size ≤ g) ∧ Below w.heap.size w w8 ∧ SL w8.heap 33 6 pv lp.length (lp.flatMap ePt) := by
  have hz := h.bel.size
  refine ⟨by rw [List.map_append]; exact hs, (h.ms.alloc _).only ho (fun g hg e => sl_ne h.to h.ms g e hg), fun g hg => ?_, h.un, (h.bel.alloc hz _).trans (ho.below (by simp; omega) (fun i hi e => by have := h.vn i e; omega)), (h.pp.alloc _).only ho (fun g hg e => sl_ne2 h.pp h.to (by decide) g hg e)⟩
  rcases hv with e | e
  · exact h.vn g (by rw [← e]; exact hg)
  · rw [e] at hg; cases hg; simp; omega
/-- and its message -/
theorem Oq.msg {w5 : World} {x : Int} {m : Ms} {o : Obj} {b5 off5 cap5 : Nat} (h : SL w8.heap 3 1 v8 (L.length + 1) (((L.map Prod.fst) ++ [x]).map fun x => .int .i64 x) ∧ SL w8.heap 37 15 u L.length (L.flatMap fun x => eMs x.2) ∧ (∀ g, v8.ownBlock = some g → w.heap.size ≤ g) ∧ (∀ g, u.ownBlock = some g → w.heap.size ≤ g) ∧ Below w.heap.size w w8 ∧ SL w8.heap 33 6 pv lp.length (lp.flatMap ePt))
    (ho : Only (fun k => u.ownBlock = some k) (w8.alloc o).drew w5) (hs : SL w5.heap 37 15 (.slice (some ⟨b5, off5, none⟩) (L.length + 1) cap5) (L.length + 1) ((L.flatMap fun x => eMs x.2) ++ eMs m)) (hv : u.ownBlock = some b5 ∨ b5 = w8.heap.size + 1) :
    Oq w w5 v8 (.slice (some ⟨b5, off5, none⟩) (L.length + 1) cap5) (L ++ [(x, m)]) pv lp := by
  obtain ⟨h1, h2, h3, h4, h5, h6⟩ := h
  have ha : Only (fun k => u.ownBlock = some k) w8 w5 := (((Only.refl _ w8).alloc o).drew).trans ho
  have hz := h5.size
  refine ⟨?_, ?_, h3, fun g hg => ?_, h5.trans (ha.below hz (fun i hi e => by have := h4 i e; omega)), h6.only ha (fun g hg e => sl_ne2 h6 h2 (by decide) g hg e)⟩
  · rw [List.length_append, List.map_append]
    exact h1.only ha (fun g hg e => sl_ne h1 h2 g hg e)
  · rw [List.length_append, List.flatMap_append]
    simpa using hs
  · simp [Value.ownBlock] at hg
    subst hg
    rcases hv with e | e
    · exact h4 _ e
    · omega
end
section
variable {w : World} {rb sb pb fb : Nat} {r : Rs}
set_option maxRecDepth 100000 in
set_option maxHeartbeats 4000000 in
/-- the loop over the agents -/
theorem rOuts_any (h0 : Rj w rb sb pb fb r) (hcf : ∀ p ∈ r.pt, ∃ x y z, p.cv = .slice x y z) : Calls Try.prog 23 #[.pointer (some ⟨rb, 0, none⟩)] w fun e w' => ∃ v u hd pv lp, e = .returned (.tuple #[v, u]) ∧ Oq w w' v u (hd ++ outR r r.st.length) pv lp ∧
      ((r.ph ≠ 2 ∧ hd = []) ∨ (r.ph = 2 ∧ hd = [(-1, ⟨7, 0, r.tr, r.id, r.cl, 0, 0, zPt, pv, .slice none 0 0⟩)] ∧ lp = visPts r r.st.length)) := by
  obtain ⟨io, zo, hio, hzo, ho1, ho2, ho3⟩ := info_at (P := Try.prog) (e := 3) (f := (1, 8, 1)) (by kernel_rfl)
  obtain ⟨jo, yo, hjo, hyo, jo1, jo2, jo3⟩ := info_at (P := Try.prog) (e := 37) (f := (15, 168, 15)) (by kernel_rfl)
  have hl4 := h0.l4
  have e3 := h0.cell (q := 3) (u := .int .i64 r.ph) rfl
  go_enter Try.func23, Try.ntmps23
  by_cases hp2 : r.ph = 2
  case' neg =>
    have b2 : (r.ph == 2) = false := by simp [hp2]
    obtain ⟨hd, hhd⟩ : ∃ hd : List (Int × Ms), hd = [] := ⟨_, rfl⟩
    obtain ⟨pv, hpv⟩ : ∃ pv : Value, pv = .slice none 0 0 := ⟨_, rfl⟩
    obtain ⟨lp, hlp⟩ : ∃ lp : List Pt, lp = [] := ⟨_, rfl⟩
    have hQ : Oq w w (.slice none 0 0) (.slice none 0 0) (hd ++ outR r 0) pv lp := by
      rw [hhd, hpv, hlp]
      exact ⟨SL.nil _ _ _, SL.nil _ _ _, fun g hg => by simp [Value.ownBlock] at hg, fun g hg => by simp [Value.ownBlock] at hg, Below.refl _ _, SL.nil _ _ _⟩
    have HF := Lib.hid (show (r.ph ≠ 2 ∧ hd = []) ∨ (r.ph = 2 ∧ hd = [(-1, ⟨7, 0, r.tr, r.id, r.cl, 0, 0, zPt, pv, .slice none 0 0⟩)] ∧ lp = visPts r r.st.length) from .inl ⟨hp2, hhd⟩)
    have hhl : hd.length ≤ 1 := by rw [hhd]; simp
    clear hhd hpv hlp hp2
    go_wp2
    clear b2 e3
  case' pos =>
    have b2 : (r.ph == 2) = true := by simp [hp2]
    have hN : SL w.heap 3 1 (.slice none 0 0) 0 [] := SL.nil _ _ _
    go_wp2_with (at_builtin; refine halt ?_)
    refine Halt.go ?_
    refine wpList_appd (v := .slice none 0 0) rfl _ _ _ rfl Try.underlying31 hio hzo ho1 ho2 ho3 rfl (hN.alloc _) (m := 1) (news := [.int .i64 (-1)]) rfl rfl (cells_new _ _ _ rfl) (by simp [Value.oneCell']) (by unfold maxLen; omega) (by omega) ?_
    rintro v8 w8 hs8 ho8 hv8
    have hQ0 : Oq w w (.slice none 0 0) (.slice none 0 0) [] (.slice none 0 0) [] := ⟨SL.nil _ _ _, SL.nil _ _ _, fun g hg => by simp [Value.ownBlock] at hg, fun g hg => by simp [Value.ownBlock] at hg, Below.refl _ _, SL.nil _ _ _⟩
    have hQ8 := hQ0.int (x := -1) ho8 hs8 hv8
    obtain ⟨va8, vc8, rfl⟩ := hs8.form
    have h8 := h0.below hQ8.2.2.2.2.1
    clear hs8 ho8 hv8 hQ0 hN
    go_wp2_with fail
    refine (rMani_any h8 hcf).mono ?_
    rintro e w9 ⟨pv, rfl, hs9, hn9, hb9⟩
    obtain ⟨pa, pc, rfl⟩ := hs9.form
    have hM : SL w9.heap 37 15 (.slice none 0 0) 0 [] := SL.nil _ _ _
    have hto := hQ8.1.only (only_of_below hb9 (fun _ => False)) (fun _ _ => id)
    have hB9 : Below w.heap.size w w9 := below_trans' hb9 hQ8.2.2.2.2.1
    have hv9 := hQ8.2.2.1
    clear hQ8 h8 hb9
    go_wp2_with (at_builtin; refine halt ?_)
    refine Halt.go ?_
    refine wpList_appd (v := .slice none 0 0) rfl _ _ _ rfl Try.underlying46 hjo hyo jo1 jo2 jo3 rfl (hM.alloc _) (m := 1) (news := eMs ⟨7, 0, r.tr, r.id, r.cl, 0, 0, zPt, .slice pa (visPts r r.st.length).length pc, .slice none 0 0⟩) rfl rfl (cells_new _ _ _ rfl) (by simp [Value.oneCell', eMs, zPt]) (by unfold maxLen; omega) (by omega) ?_
    rintro u9 w10 hs10 ho10 hu10
    obtain ⟨hd, hhd⟩ : ∃ hd : List (Int × Ms), hd = [(-1, ⟨7, 0, r.tr, r.id, r.cl, 0, 0, zPt, .slice pa (visPts r r.st.length).length pc, .slice none 0 0⟩)] := ⟨_, rfl⟩
    obtain ⟨lp, hlp⟩ : ∃ lp : List Pt, lp = visPts r r.st.length := ⟨_, rfl⟩
    obtain ⟨pv, hpv⟩ : ∃ pv : Value, pv = .slice pa (visPts r r.st.length).length pc := ⟨_, rfl⟩
    have ho10' : Only (fun _ => False) (w9.alloc (.cells (eMs ⟨7, 0, r.tr, r.id, r.cl, 0, 0, zPt, .slice pa (visPts r r.st.length).length pc, .slice none 0 0⟩).toArray 37)) w10 := ho10.mono fun b _ e => by simp [Value.ownBlock] at e
    have hB10 : Below w.heap.size w w10 := (hB9.alloc hB9.size _).trans (ho10'.below (by have := hB9.size; simp; omega) (fun i hi e => e.elim))
    have hQ : Oq w w10 (.slice va8 (0 + 1) vc8) u9 (hd ++ outR r 0) pv lp := by
      rw [hhd, hpv, hlp]
      refine ⟨?_, ?_, hv9, fun g hg => ?_, hB10, (hs9.alloc _).only ho10' (fun _ _ => id)⟩
      · exact (hto.alloc _).only ho10' (fun _ _ => id)
      · simpa [outR] using hs10
      · rcases hu10 with e | e
        · rw [e] at hg; simp [Value.ownBlock] at hg
        · rw [e] at hg; cases hg; have := hB9.size; simp; omega
    have HF := Lib.hid (show (r.ph ≠ 2 ∧ hd = []) ∨ (r.ph = 2 ∧ hd = [(-1, ⟨7, 0, r.tr, r.id, r.cl, 0, 0, zPt, pv, .slice none 0 0⟩)] ∧ lp = visPts r r.st.length) from .inr ⟨hp2, by rw [hhd, hpv], hlp⟩)
    have hhl : hd.length ≤ 1 := by rw [hhd]; simp
    obtain ⟨ua, uc, hue⟩ := hs10.form
    subst hue
    clear hhd hpv hlp hp2 hs10 ho10 hu10 ho10' hto hs9 hn9 hB10 hB9 hM hv9
    go_wp2
    clear b2 e3
  all_goals
    go_loopw [4, 5, 6] (fun v u iv wr => ∃ q : Nat, q ≤ r.st.length ∧ iv = .int .i64 q ∧ Oq w wr v u (hd ++ outR r q) pv lp) (fun _ _ iv _ => r.st.length - (intOf iv).toNat)
    case atStart => exact ⟨0, Nat.zero_le _, rfl, hQ⟩
    case round =>
      clear hQ
      obtain ⟨q, hq, rfl, hQ⟩ := hrel
      have hr := h0.below hQ.bel
      have e3 := hr.cell (q := 3) (u := .int .i64 r.ph) rfl
      have e4 := hr.cell (q := 4) (u := .slice (some ⟨sb, 0, none⟩) r.st.length r.st.length) rfl
      have e6 := hr.cell (q := 6) (u := .slice (some ⟨fb, 0, none⟩) r.st.length r.st.length) rfl
      by_cases hqN : q < r.st.length
      · obtain ⟨x, hx⟩ : ∃ x, r.st[q]? = some x := ⟨_, List.getElem?_eq_getElem hqN⟩
        obtain ⟨f, hf⟩ : ∃ f, r.fr[q]? = some f := ⟨_, List.getElem?_eq_getElem (by rw [h0.lf]; exact hqN)⟩
        have cx := hr.state hx
        have cf := hr.frees hf
        have hV := outR_succ r q hx hf
        have hvl := outR_len r q
        have hLl : (hd ++ outR r q).length ≤ 5 := by rw [List.length_append]; omega
        have hV : hd ++ outR r (q + 1) = (hd ++ outR r q) ++ bif decide (0 < kindR r x f) then [((q : Int), outMs r (kindR r x f))] else [] := by rw [hV, List.append_assoc]
        generalize hd ++ outR r q = L at hQ hV hLl
        have HQ := Lib.hid hQ
        have hs := hQ.to
        have hm := hQ.ms
        clear hQ hvl
        by_cases hx0 : x = 0
        · have b0 : (x == 0) = true := by simp [hx0]
          have HV := Lib.hid (show hd ++ outR r (q + 1) = L ++ [] by rw [hV]; simp [kindR, hx0])
          clear hx0
          clear hx hf hr hV hs hm
          go_wp2
          exact ⟨⟨q + 1, by omega, by go_num, by rw [HV.out, List.append_nil]; exact HQ.out⟩, by simp [intOf]; omega⟩
        · have b0 : (x == 0) = false := by simp [hx0]
          by_cases h1 : r.ph = 1
          · have b1 : (r.ph == 1) = true := by simp [h1]
            by_cases hx1 : x = 1
            · have bx : (x == 1) = true := by simp [hx1]
              have HV := Lib.hid (show hd ++ outR r (q + 1) = L ++ [((q : Int), outMs r 2)] by rw [hV]; simp [kindR, h1, hx1])
              clear hx0 h1 hx1
              clear hx hf hr hV
              obtain ⟨va, vc, rfl⟩ := hs.form
              obtain ⟨ua, uc, rfl⟩ := hm.form
              go_wp2_with (at_builtin; refine halt ?_)
              refine Halt.go ?_
              refine wpList_appd (v := .slice va L.length vc) rfl _ _ _ rfl Try.underlying31 hio hzo ho1 ho2 ho3 rfl (hs.alloc _) (m := 1) (news := [.int .i64 (q : Int)]) rfl rfl (cells_new _ _ _ rfl) (by simp [Value.oneCell']) (by unfold maxLen; omega) (by omega) ?_
              rintro v8 w8 hs8 ho8 hv8
              have hQ8 := HQ.out.int ho8 hs8 hv8
              obtain ⟨va8, vc8, rfl⟩ := hs8.form
              have hm8 := hQ8.2.1
              have h8 := h0.below hQ8.2.2.2.2.1
              have c0 := h8.cell (q := 0) (u := .int .i64 r.id) rfl
              have c1 := h8.cell (q := 1) (u := .int .i64 r.tr) rfl
              have hwl := h8.lt _ (.inl rfl)
              have HQ8 := Lib.hid hQ8
              clear hQ8 hs8 ho8 hv8 hs hm h8 cx e3 e4 e6 cf
              go_upto_region 19 with (fail)
              go_region_law
                ((refine step_appd (v := .slice ua L.length uc) rfl _ _ _ rfl Try.underlying46 hjo hyo jo1 jo2 jo3 rfl ((hm8.alloc _).drew) (by omega) (m := 1) (news := eMs (outMs r 2)) rfl rfl (cells_new _ _ _ (by simp)) (by simp [Value.oneCell', eMs, outMs, zPt]) (by unfold maxLen; omega) (by omega) (by simp; rfl) ?_; intro b5 off5 cap5 w5 hs5 ho5 hv5; have hQ9 := Oq.msg HQ8.out ho5 hs5 hv5; clear hs5 ho5 hv5))
              all_goals
                clear c0 c1 hm8
                go_wp2
                exact ⟨⟨q + 1, by omega, by go_num, by rw [HV.out]; exact hQ9⟩, by simp [intOf]; omega⟩
            · have bx : (x == 1) = false := by simp [hx1]
              have b2 : (r.ph == 2) = false := by simp [h1]
              have b3 : (r.ph == 3) = false := by simp [h1]
              have HV := Lib.hid (show hd ++ outR r (q + 1) = L ++ [] by rw [hV]; simp [kindR, hx0, h1, hx1])
              clear hx0 h1 hx1
              clear hx hf hr hV hs hm
              go_wp2
              exact ⟨⟨q + 1, by omega, by go_num, by rw [HV.out, List.append_nil]; exact HQ.out⟩, by simp [intOf]; omega⟩
          · have b1 : (r.ph == 1) = false := by simp [h1]
            by_cases h2 : r.ph = 2
            · have b2 : (r.ph == 2) = true := by simp [h2]
              have HV := Lib.hid (show hd ++ outR r (q + 1) = L ++ [((q : Int), outMs r 5)] by rw [hV]; simp [kindR, hx0, h2])
              clear hx0 h1 h2
              clear hx hf hr hV
              obtain ⟨va, vc, rfl⟩ := hs.form
              obtain ⟨ua, uc, rfl⟩ := hm.form
              go_wp2_with (at_builtin; refine halt ?_)
              refine Halt.go ?_
              refine wpList_appd (v := .slice va L.length vc) rfl _ _ _ rfl Try.underlying31 hio hzo ho1 ho2 ho3 rfl (hs.alloc _) (m := 1) (news := [.int .i64 (q : Int)]) rfl rfl (cells_new _ _ _ rfl) (by simp [Value.oneCell']) (by unfold maxLen; omega) (by omega) ?_
              rintro v8 w8 hs8 ho8 hv8
              have hQ8 := HQ.out.int ho8 hs8 hv8
              obtain ⟨va8, vc8, rfl⟩ := hs8.form
              have hm8 := hQ8.2.1
              have h8 := h0.below hQ8.2.2.2.2.1
              have c0 := h8.cell (q := 0) (u := .int .i64 r.id) rfl
              have c1 := h8.cell (q := 1) (u := .int .i64 r.tr) rfl
              have hwl := h8.lt _ (.inl rfl)
              have HQ8 := Lib.hid hQ8
              clear hQ8 hs8 ho8 hv8 hs hm h8 cx e3 e4 e6 cf
              go_upto_region 19 with (fail)
              go_region_law
                ((refine step_appd (v := .slice ua L.length uc) rfl _ _ _ rfl Try.underlying46 hjo hyo jo1 jo2 jo3 rfl ((hm8.alloc _).drew) (by omega) (m := 1) (news := eMs (outMs r 5)) rfl rfl (cells_new _ _ _ (by simp)) (by simp [Value.oneCell', eMs, outMs, zPt]) (by unfold maxLen; omega) (by omega) (by simp; rfl) ?_; intro b5 off5 cap5 w5 hs5 ho5 hv5; have hQ9 := Oq.msg HQ8.out ho5 hs5 hv5; clear hs5 ho5 hv5))
              all_goals
                clear c0 c1 hm8
                go_wp2
                exact ⟨⟨q + 1, by omega, by go_num, by rw [HV.out]; exact hQ9⟩, by simp [intOf]; omega⟩
            · have b2 : (r.ph == 2) = false := by simp [h2]
              by_cases h3 : r.ph = 3
              · have b3 : (r.ph == 3) = true := by simp [h3]
                cases f with
                | true =>
                  have HV := Lib.hid (show hd ++ outR r (q + 1) = L ++ [] by rw [hV]; simp [kindR, hx0, h3])
                  clear hx0 h1 h2 h3
                  clear hx hf hr hV hs hm
                  go_wp2
                  exact ⟨⟨q + 1, by omega, by go_num, by rw [HV.out, List.append_nil]; exact HQ.out⟩, by simp [intOf]; omega⟩
                | false =>
                  have HV := Lib.hid (show hd ++ outR r (q + 1) = L ++ [((q : Int), outMs r 9)] by rw [hV]; simp [kindR, hx0, h3])
                  clear hx0 h1 h2 h3
                  clear hx hf hr hV
                  obtain ⟨va, vc, rfl⟩ := hs.form
                  obtain ⟨ua, uc, rfl⟩ := hm.form
                  go_wp2_with (at_builtin; refine halt ?_)
                  refine Halt.go ?_
                  refine wpList_appd (v := .slice va L.length vc) rfl _ _ _ rfl Try.underlying31 hio hzo ho1 ho2 ho3 rfl (hs.alloc _) (m := 1) (news := [.int .i64 (q : Int)]) rfl rfl (cells_new _ _ _ rfl) (by simp [Value.oneCell']) (by unfold maxLen; omega) (by omega) ?_
                  rintro v8 w8 hs8 ho8 hv8
                  have hQ8 := HQ.out.int ho8 hs8 hv8
                  obtain ⟨va8, vc8, rfl⟩ := hs8.form
                  have hm8 := hQ8.2.1
                  have h8 := h0.below hQ8.2.2.2.2.1
                  have c0 := h8.cell (q := 0) (u := .int .i64 r.id) rfl
                  have c1 := h8.cell (q := 1) (u := .int .i64 r.tr) rfl
                  have hwl := h8.lt _ (.inl rfl)
                  have HQ8 := Lib.hid hQ8
                  clear hQ8 hs8 ho8 hv8 hs hm h8 cx e3 e4 e6 cf
                  go_upto_region 19 with (fail)
                  go_region_law
                    ((refine step_appd (v := .slice ua L.length uc) rfl _ _ _ rfl Try.underlying46 hjo hyo jo1 jo2 jo3 rfl ((hm8.alloc _).drew) (by omega) (m := 1) (news := eMs (outMs r 9)) rfl rfl (cells_new _ _ _ (by simp)) (by simp [Value.oneCell', eMs, outMs, zPt]) (by unfold maxLen; omega) (by omega) (by simp; rfl) ?_; intro b5 off5 cap5 w5 hs5 ho5 hv5; have hQ9 := Oq.msg HQ8.out ho5 hs5 hv5; clear hs5 ho5 hv5))
                  all_goals
                    clear c0 c1 hm8
                    go_wp2
                    exact ⟨⟨q + 1, by omega, by go_num, by rw [HV.out]; exact hQ9⟩, by simp [intOf]; omega⟩
              · have b3 : (r.ph == 3) = false := by simp [h3]
                have HV := Lib.hid (show hd ++ outR r (q + 1) = L ++ [] by rw [hV]; simp [kindR, hx0, h1, h2, h3])
                clear hx0 h1 h2 h3
                clear hx hf hr hV hs hm
                go_wp2
                exact ⟨⟨q + 1, by omega, by go_num, by rw [HV.out, List.append_nil]; exact HQ.out⟩, by simp [intOf]; omega⟩
      · have hqe : q = r.st.length := by omega
        rw [hqe] at hQ
        clear hr hqe
        go_wp2
        go_ret2
        exact ⟨_, _, hd, pv, lp, rfl, hQ, HF.out⟩
end
end Go.Proofs.Ytniggacgkhkgiaa.Job
