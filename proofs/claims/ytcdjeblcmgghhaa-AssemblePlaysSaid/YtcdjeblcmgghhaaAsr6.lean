/- What the reference's Record answers. Conditions: it lies in memory as Wr says; few chunks are kept. -/
import Derived.Test.YtcdjeblcmgghhaaAsr5
import Derived.Test.YtcdjeblcmgghhaaAsm7
import Derived.StillTailTactics
import Derived.Laws.Tables
namespace Go.Sp
open Go.RowKit
theorem wholeL_snoc (l : List Pt) (p : Pt) : wholeL (l ++ [p]) = (wholeL l && !p.l) := by unfold wholeL; rw [List.all_append]; simp
theorem missL_none {t : Int} {C : List Chk} {ps : List Pt} (h : ¬ 0 < (missL t C ps).length) : ∀ p ∈ ps, (partR t C p.a p.n).2 = true := fun p hp => by
  unfold missL at h
  rw [List.length_map] at h
  have h0 : ps.filter (fun p => !(partR t C p.a p.n).2) = [] := List.eq_nil_of_length_eq_zero (by omega)
  rw [List.filter_eq_nil_iff] at h0
  simpa using h0 p hp
end Go.Sp
namespace Go.Proofs.Ytcdjeblcmgghhaa.Asm
open Go.RowKit Go.Sp Msg Go.Sort

theorem only_setRow (w : World) (g : Nat) (cs : Array Value) : Only (· = g) w (w.setRow g cs) := ⟨rfl, rfl, rfl, by rw [setRow_size]; exact Nat.le_refl _, fun b _ hn => setRow_other w g b cs hn⟩

/-- a record's parts, as far as they are put together -/
structure Rq (w2 w : World) (B4 : Nat) (t j c : Int) (b : Bool) (pv : Value) (qs : List Pd) : Prop where
  blk : w.heap[B4]? = some (.cells #[.int .i64 t, .int .i64 j, .int .i64 c, .bool b, pv] 50 (0, 0))
  sl : SL w.heap 69 4 pv qs.length (qs.flatMap ePd)
  el : ∀ x ∈ qs, SL w.heap 63 3 x.sv x.sl.length (x.sl.flatMap eSpn) ∧ x.cv = .slice none 0 0 ∧ x.cl = [] ∧ ∀ g, x.sv.ownBlock = some g → B4 < g
  pn : ∀ g, pv.ownBlock = some g → B4 < g
  bel : Below B4 w2 w
theorem Rq.put {w2 wr w7 w8 : World} {B4 : Nat} {t j c xa : Int} {b b' xl : Bool} {pv v8 sv : Value} {qs : List Pd} {L : List Spn} {o : Obj} (h : Rq w2 wr B4 t j c b pv qs) (h7 : Below wr.heap.size wr w7) (hlt : B4 < wr.heap.size) (h2 : B4 ≤ w2.heap.size)
    (hs7 : SL w7.heap 63 3 sv L.length (L.flatMap eSpn)) (hn7 : ∀ g, sv.ownBlock = some g → wr.heap.size ≤ g)
    (hs8 : SL w8.heap 69 4 v8 (qs.length + 1) (qs.flatMap ePd ++ ePd ⟨xa, sv, L, .slice none 0 0, [], xl⟩)) (ho8 : Only (fun k => pv.ownBlock = some k) (w7.alloc o) w8) (hv8 : v8.ownBlock = pv.ownBlock ∨ v8.ownBlock = some (w7.alloc o).heap.size) :
    Rq w2 ((w8.setCell ⟨B4, 4, none⟩ v8).setCell ⟨B4, 3, none⟩ (.bool b')) B4 t j c b' v8 (qs ++ [⟨xa, sv, L, .slice none 0 0, [], xl⟩]) := by
  have hz7 := h7.size
  have hall : Only (fun k => pv.ownBlock = some k) w7 w8 := (only_of_below (below_alloc (Below.refl w7.heap.size w7) o) _).trans ho8
  have hb7 := (h7.block _ hlt).trans h.blk
  have hb8 := hall.heap hb7 (fun e => by have := h.pn _ e; omega)
  have hO : Only (· = B4) w8 ((w8.setCell ⟨B4, 4, none⟩ v8).setCell ⟨B4, 3, none⟩ (.bool b')) := ((Only.refl (· = B4) w8).setCell (p := ⟨B4, 4, none⟩) (fun _ => rfl) _).setCell (p := ⟨B4, 3, none⟩) (fun _ => rfl) _
  have hb9 : ((w8.setCell ⟨B4, 4, none⟩ v8).setCell ⟨B4, 3, none⟩ (.bool b')).heap[B4]? = some (.cells #[.int .i64 t, .int .i64 j, .int .i64 c, .bool b', v8] 50 (0, 0)) :=
    (heap_setCell_cells (o := 3) (heap_setCell_cells (o := 4) hb8 v8) (.bool b')).trans rfl
  have hs7' := h.sl.only (only_of_below h7 (fun _ => False)) (fun _ _ => id)
  have hpo : ∀ {v : Value} {n : Nat} {cs : List Value}, SL w7.heap 63 3 v n cs → ∀ g, v.ownBlock = some g → ¬ (pv.ownBlock = some g) := fun hv g hg e => by
    rcases hs7'.2 with ⟨rfl, _⟩ | ⟨b', off, cap, cur, rfl, _, _, hb', _⟩
    · simp [Value.ownBlock] at e
    · simp [Value.ownBlock] at e
      subst e
      exact sl_not hb' hv (by decide) hg
  have hn8 : ∀ g, v8.ownBlock = some g → B4 < g := fun g hg => by
    rcases hv8 with e | e
    · exact h.pn g (by rw [← e]; exact hg)
    · rw [e] at hg; cases hg; simp; omega
  refine ⟨hb9, ?_, fun x hx => ?_, hn8, ?_⟩
  · rw [List.length_append, List.flatMap_append]
    simpa using hs8.only hO (fun g hg e => by have := hn8 g hg; omega)
  · rcases List.mem_append.1 hx with hx | hx
    · obtain ⟨f1, f2, f3, f4⟩ := h.el x hx
      have f7 := f1.only (only_of_below h7 (fun _ => False)) (fun _ _ => id)
      exact ⟨(f7.only hall (hpo f7)).only hO (fun g hg e => by have := f4 g hg; omega), f2, f3, f4⟩
    · rw [List.mem_singleton.1 hx]
      exact ⟨(hs7.only hall (hpo hs7)).only hO (fun g hg e => by have := hn7 g hg; omega), rfl, rfl, fun g hg => by have := hn7 g hg; omega⟩
  · have h1 : Below B4 w2 w7 := h.bel.trans (h7.mono (by omega))
    have hz1 := h1.size
    exact (h1.trans (hall.below (by omega) (fun i hi e => by have := h.pn i e; omega))).trans (hO.below (by have := hall.size; omega) (fun i hi e => by omega))

section
variable {w0 w : World} {Rw : Nat → Prop} {wb : Nat} {t j : Int} {man : Option (Int × List Pt)} {C : List Chk} {M : Ms} {cv : Value} {Cs : List (Chk × Value)}

set_option maxRecDepth 100000 in
set_option maxHeartbeats 4000000 in
theorem wRecord_none (h : Wr w0 w Rw wb t j none C M cv Cs) :
    Calls Try.prog 24 #[.pointer (some ⟨wb, 0, none⟩)] w fun e w' => RecIs w' (0, 0, 0, false, [], false) e ∧ Below w.heap.size w w' := by
  have hA := below_alloc (Below.refl w.heap.size w) (.cells #[.int .i64 0, .int .i64 0, .int .i64 0, .bool false, .slice none 0 0] 50)
  have hbx := heap_new w (.cells #[.int .i64 0, .int .i64 0, .int .i64 0, .bool false, .slice none 0 0] 50) rfl
  have e17 := (h.below hA).cell (q := 17) (u := .bool false) rfl
  go_enter Try.func24, Try.ntmps24
  go_wp2
  generalize (w.alloc (.cells #[.int .i64 0, .int .i64 0, .int .i64 0, .bool false, .slice none 0 0] 50)) = w9 at hA hbx e17 ⊢
  have x0 : w9.cell? ⟨w.heap.size, 0, none⟩ = some (.int .i64 0) := cell_blk hbx rfl
  have x1 : w9.cell? ⟨w.heap.size, 1, none⟩ = some (.int .i64 0) := cell_blk hbx rfl
  have x2 : w9.cell? ⟨w.heap.size, 2, none⟩ = some (.int .i64 0) := cell_blk hbx rfl
  have x3 : w9.cell? ⟨w.heap.size, 3, none⟩ = some (.bool false) := cell_blk hbx rfl
  have x4 : w9.cell? ⟨w.heap.size, 4, none⟩ = some (.slice none 0 0) := cell_blk hbx rfl
  refine bodyPost_ret (by simp [results, Try.results24, go_sem, x0, x1, x2, x3, x4]; try rfl) rfl ?_
  exact ⟨⟨_, [], rfl, ⟨SL.nil _ _ _, by simp⟩, rfl⟩, hA⟩

set_option maxRecDepth 100000 in
set_option maxHeartbeats 4000000 in
theorem wRecord_some {c : Int} {ps : List Pt} (h : Wr w0 w Rw wb t j (some (c, ps)) C M cv Cs) (hCl : C.length ≤ 1000) :
    Calls Try.prog 24 #[.pointer (some ⟨wb, 0, none⟩)] w fun e w' => RecIs w' (recM t j C (some (c, ps))) e ∧ Below w.heap.size w w' := by
  obtain ⟨io, zo, hio, hzo, ho1, ho2, ho3⟩ := info_at (P := Try.prog) (e := 69) (f := (4, 64, 4)) (by kernel_rfl)
  have hA := below_alloc (Below.refl w.heap.size w) (.cells #[.int .i64 0, .int .i64 0, .int .i64 0, .bool false, .slice none 0 0] 50)
  have hbx := heap_new w (.cells #[.int .i64 0, .int .i64 0, .int .i64 0, .bool false, .slice none 0 0] 50) rfl
  have e17 := (h.below hA).cell (q := 17) (u := .bool true) rfl
  go_enter Try.func24, Try.ntmps24
  go_wp2_with fail
  refine (wMissing_any (h.below hA) hCl).mono ?_
  rintro e w2 ⟨v2, rfl, hr2, hn2, hb2⟩
  have hA2 := below_trans' hb2 hA
  have hbx2 := (hb2.block _ (Array.getElem?_eq_some_iff.1 hbx).1).trans hbx
  have h2 := h.below hA2
  obtain ⟨hl2, va, vc, rfl, _⟩ := id hr2
  unfold maxLen at hl2
  clear hA hbx e17 hb2 hr2
  have hRM : recM t j C (some (c, ps)) = bif decide (0 < (missL t C ps).length) then (0, 0, 0, false, [], false) else (t, j, c, wholeL ps, conL t C ps, true) := rfl
  have hMM : missM t C (some (c, ps)) = missL t C ps := rfl
  rw [hMM] at hl2 ⊢
  obtain ⟨nl, hnl⟩ : ∃ n, n = (missL t C ps).length := ⟨_, rfl⟩
  rw [← hnl] at hl2 hRM ⊢
  have HRM := Lib.hid hRM
  have HNL := Lib.hid hnl
  clear hRM hMM hnl
  by_cases hm : 0 < nl
  · have bm : decide (0 < (nl : Int)) = true := decide_eq_true (by omega)
    have bm' : decide (0 < nl) = true := decide_eq_true hm
    have HRM := Lib.hid (HRM.out.trans (by rw [decide_eq_true hm, cond_true]))
    have hO : Only (· = w.heap.size) w2 (w2.setRow w.heap.size #[.int .i64 0, .int .i64 0, .int .i64 0, .bool false, .slice none 0 0]) := only_setRow w2 _ _
    have hb9 := setRow_heap w2 w.heap.size _ #[.int .i64 0, .int .i64 0, .int .i64 0, .bool false, .slice none 0 0] _ _ hbx2
    have hB := hA2.trans (hO.below hA2.size (fun i hi e => by omega))
    clear hm hO
    go_wp2_with (refine wpList_store_row rfl 50 _ _ rfl w.heap.size #[.int .i64 0, .int .i64 0, .int .i64 0, .bool false, .slice none 0 0] rfl rfl 50 _ hbx2 (by kernel_rfl) rfl (by simp [Value.oneCell']) ?_)
    generalize w2.setRow w.heap.size #[.int .i64 0, .int .i64 0, .int .i64 0, .bool false, .slice none 0 0] = w9 at hb9 hB ⊢
    have x0 : w9.cell? ⟨w.heap.size, 0, none⟩ = some (.int .i64 0) := cell_blk hb9 rfl
    have x1 : w9.cell? ⟨w.heap.size, 1, none⟩ = some (.int .i64 0) := cell_blk hb9 rfl
    have x2 : w9.cell? ⟨w.heap.size, 2, none⟩ = some (.int .i64 0) := cell_blk hb9 rfl
    have x3 : w9.cell? ⟨w.heap.size, 3, none⟩ = some (.bool false) := cell_blk hb9 rfl
    have x4 : w9.cell? ⟨w.heap.size, 4, none⟩ = some (.slice none 0 0) := cell_blk hb9 rfl
    refine bodyPost_ret (by simp [results, Try.results24, go_sem, x0, x1, x2, x3, x4]; try rfl) rfl ?_
    refine ⟨?_, hB⟩
    rw [HRM.out]
    exact ⟨_, [], rfl, ⟨SL.nil _ _ _, by simp⟩, rfl⟩
  · have bm : decide (0 < (nl : Int)) = false := decide_eq_false (by omega)
    have bm' : decide (0 < nl) = false := decide_eq_false hm
    have HRM := Lib.hid (HRM.out.trans (by rw [decide_eq_false hm, cond_false]))
    have hall := missL_none (t := t) (C := C) (ps := ps) (by rw [← HNL.out]; exact hm)
    have k0 := h2.cell (q := 0) (u := .int .i64 t) rfl
    have k1 := h2.cell (q := 1) (u := .int .i64 j) rfl
    obtain ⟨_, _, _, _, _, k6, _, _⟩ := h2.parts
    simp only at k6
    have hwl := h2.wlt
    have CTX := Lib.hid (And.intro h2 (And.intro hA2 (And.intro hbx2 hall)))
    clear hm h2 hA2 hbx2 hall hn2 hl2 h
    go_upto_region 3 with (fail)
    go_region
    obtain ⟨h2, hA2, hbx2, hall⟩ := CTX.out
    have hA3 : Below w2.heap.size w2 ((w2.alloc (.cells #[.int .i64 t, .int .i64 j, .int .i64 c, .bool true, .slice none 0 0] 50)).drew) := (below_alloc (Below.refl w2.heap.size w2) _).drew
    have hb4 : ((w2.alloc (.cells #[.int .i64 t, .int .i64 j, .int .i64 c, .bool true, .slice none 0 0] 50)).drew).heap[w2.heap.size]? = some (.cells #[.int .i64 t, .int .i64 j, .int .i64 c, .bool true, .slice none 0 0] 50 (0, 0)) := heap_new w2 (.cells #[.int .i64 t, .int .i64 j, .int .i64 c, .bool true, .slice none 0 0] 50) rfl
    generalize (w2.alloc (.cells #[.int .i64 t, .int .i64 j, .int .i64 c, .bool true, .slice none 0 0] 50)).drew = w3 at hA3 hb4 ⊢
    obtain ⟨pa, pc, _, _, _, _, hp4, hnil⟩ := h2.parts
    simp only at hp4 hnil
    clear CTX k0 k1 k6 bm bm' HNL
    obtain ⟨B4, hB4⟩ : ∃ b, b = w2.heap.size := ⟨_, rfl⟩
    rw [← hB4] at hb4 hA3 hwl ⊢
    have hBlt : w.heap.size < B4 := by rw [hB4]; exact (Array.getElem?_eq_some_iff.1 hbx2).1
    have HB4 := Lib.hid hB4
    clear hB4
    go_wp2
    go_loopw [5] (fun v wr => ∃ (q : Nat) (pv : Value) (qs : List Pd), q ≤ ps.length ∧ v = .int .i64 q ∧ Rq w2 wr B4 t j c (wholeL (ps.take q)) pv qs ∧ qs.length = q ∧ qs.map con = conL t C (ps.take q)) (fun v _ => ps.length - (intOf v).toNat)
    case atStart => exact ⟨0, _, [], Nat.zero_le _, rfl, ⟨hb4, SL.nil _ _ _, by simp, fun g hg => by simp [Value.ownBlock] at hg, hA3⟩, rfl, rfl⟩
    case round =>
      clear hb4 hA3
      obtain ⟨q, pv, qs, hq, rfl, hR, hql, hcon⟩ := hrel
      have hbw : Below w2.heap.size w2 wr := hR.bel.mono (by have := HB4.out; omega)
      have hr := h2.below hbw
      obtain ⟨pa', pc', _, hps, e15, _, _, _⟩ := hr.parts
      simp only at hps e15
      have hlr := (Array.getElem?_eq_some_iff.1 hR.blk).1
      by_cases hqN : q < ps.length
      · obtain ⟨pb, po, pcap, hv, _⟩ := hps.form' (by omega)
        simp only [Value.slice.injEq] at hv
        obtain ⟨rfl, _, rfl⟩ := hv
        obtain ⟨p, hp⟩ : ∃ p, ps[q]? = some p := ⟨_, List.getElem?_eq_getElem hqN⟩
        obtain ⟨hpn, hpl⟩ := hnil p (List.mem_of_getElem? hp)
        have hpr := hall p (List.mem_of_getElem? hp)
        have htk : ps.take (q + 1) = ps.take q ++ [p] := by rw [List.take_add_one, hp]; rfl
        have HW := Lib.hid (show wholeL (ps.take (q + 1)) = (wholeL (ps.take q) && !p.l) by rw [htk, wholeL_snoc])
        have HCO := Lib.hid (show conL t C (ps.take (q + 1)) = conL t C (ps.take q) ++ [(p.a, (partR t C p.a p.n).1, [], p.l)] by rw [htk]; unfold conL; rw [List.map_append]; rfl)
        obtain ⟨xa, xt, xj, xn, xcv, xcl, xl⟩ := p
        simp only at hpn hpl hpr HW HCO
        subst hpn
        subst hpl
        have g0 := hps.elem ePt_len hp (j := 0) (u := .int .i64 xa) rfl
        have g1 := hps.elem ePt_len hp (j := 1) (u := .int .i64 xt) rfl
        have g2 := hps.elem ePt_len hp (j := 2) (u := .int .i64 xj) rfl
        have g3 := hps.elem ePt_len hp (j := 3) (u := .int .i64 xn) rfl
        have g4 := hps.elem ePt_len hp (j := 4) (u := .slice none 0 0) rfl
        have g5 := hps.elem ePt_len hp (j := 5) (u := .bool xl) rfl
        rw [← Nat.add_assoc] at g0 g1 g2 g3 g4 g5
        rw [Nat.add_zero] at g0
        have hA5 := below_alloc (Below.refl wr.heap.size wr) (.cells #[.int .i64 xa, .int .i64 xt, .int .i64 xj, .int .i64 xn, .slice none 0 0, .bool xl] 30)
        have hbp := heap_new wr (.cells #[.int .i64 xa, .int .i64 xt, .int .i64 xj, .int .i64 xn, .slice none 0 0, .bool xl] 30) rfl
        obtain ⟨bw, hbw2⟩ : ∃ b, b = wholeL (ps.take q) := ⟨_, rfl⟩
        rw [← hbw2] at hR HW
        have hr5 := hr.below hA5
        have HQL := Lib.hid (And.intro hql hcon)
        have hq4 : qs.length ≤ 4 := by omega
        clear hps hp htk hbw2 hr hql hcon
        go_wp2_with fail
        generalize (wr.alloc (.cells #[.int .i64 xa, .int .i64 xt, .int .i64 xj, .int .i64 xn, .slice none 0 0, .bool xl] 30)) = W5 at hA5 hbp hr5 ⊢
        refine (wPart_any hr5 hCl).mono ?_
        rintro e w7 ⟨v7, rfl, ⟨x7, y7, z7, rfl⟩, hs7, hn7, hb7⟩
        replace hs7 := hs7 hpr
        have hA7 := below_trans' hb7 hA5
        have hn7' : ∀ g, (Value.slice x7 y7 z7).ownBlock = some g → wr.heap.size ≤ g := fun g hg => Nat.le_trans hA5.size (hn7 g hg).1
        have hbp7 := (hb7.block _ (Array.getElem?_eq_some_iff.1 hbp).1).trans hbp
        have hb47 := (hA7.block _ hlr).trans hR.blk
        have hpv7 := hR.sl.only (only_of_below hA7 (fun _ => False)) (fun _ _ => id)
        have hlt := hR.sl.lt
        have hpn4 := hR.pn
        have HR := Lib.hid hR
        have f4 : w7.cell? ⟨B4, 4, none⟩ = some pv := cell_blk hb47 rfl
        have p0 : w7.cell? ⟨wr.heap.size, 0, none⟩ = some (.int .i64 xa) := cell_blk hbp7 rfl
        have p4 : w7.cell? ⟨wr.heap.size, 4, none⟩ = some (.slice none 0 0) := cell_blk hbp7 rfl
        have p5 : w7.cell? ⟨wr.heap.size, 5, none⟩ = some (.bool xl) := cell_blk hbp7 rfl
        obtain ⟨va, vc, rfl⟩ := hpv7.form
        clear hb7 hA5 hbp hr5 hR g0 g1 g2 g3 g4 g5 e15 hbw
        go_wp2_with (at_builtin; refine halt ?_)
        refine Halt.go ?_
        refine wpList_appd (v := .slice va qs.length vc) rfl _ _ _ rfl Try.underlying48 hio hzo ho1 ho2 ho3 rfl (hpv7.alloc _) (m := 1) (news := [.int .i64 xa, .slice x7 y7 z7, .slice none 0 0, .bool xl]) rfl rfl (cells_new _ _ _ rfl) (by simp [Value.oneCell']) (by unfold maxLen; omega) (by omega) ?_
        rintro v8 w8 hs8 ho8 hv8
        have hall8 : Only (fun k => (Value.slice va qs.length vc).ownBlock = some k) w7 w8 := (only_of_below (below_alloc (Below.refl w7.heap.size w7) _) _).trans ho8
        have hb48 := hall8.heap hb47 (fun e => by have := hpn4 _ e; omega)
        have hbp8 := hall8.heap hbp7 (fun e => by have := hlt _ e; omega)
        have HPUT := Lib.hid (fun b' => HR.out.put (b' := b') (xa := xa) (xl := xl) hA7 hlr (by have := HB4.out; omega) hs7 hn7' hs8 ho8 hv8)
        have f84 := cell_blk hb48 (j := 4) (u := .slice va qs.length vc) rfl
        have fz4 := froz_blk hb48 4
        obtain ⟨ya, yc, rfl⟩ := hs8.form
        have hb49 := (heap_setCell_cells (o := 4) hb48 (.slice ya (qs.length + 1) yc)).trans (show _ = some (.cells #[.int .i64 t, .int .i64 j, .int .i64 c, .bool bw, .slice ya (qs.length + 1) yc] 50 (0, 0)) from rfl)
        have hbp9 := ((Only.refl (· = B4) w8).setCell (p := ⟨B4, 4, none⟩) (fun _ => rfl) (.slice ya (qs.length + 1) yc)).heap hbp8 (by omega)
        have HB9 := Lib.hid (And.intro hb49 hbp9)
        clear hs8 ho8 hv8 hall8 hb48 hbp8 hbp7 hb47 hpv7 f4 p0 p4 p5 hb49 hbp9 hs7 hn7 hn7' hA7
        go_upto_region 10 with (fail)
        obtain ⟨hb49, hbp9⟩ := HB9.out
        clear HB9 f84 fz4
        generalize hw9 : w8.setCell ⟨B4, 4, none⟩ (.slice ya (qs.length + 1) yc) = w9 at hb49 hbp9 ⊢
        have HW9 := Lib.hid hw9
        clear hw9
        have c3 : w9.cell? ⟨B4, 3, none⟩ = some (.bool bw) := cell_blk hb49 rfl
        have c5 : w9.cell? ⟨wr.heap.size, 5, none⟩ = some (.bool xl) := cell_blk hbp9 rfl
        have fz3 := froz_blk hb49 3
        clear hb49 hbp9
        cases bw with
        | true =>
          go_wp2
          refine ⟨⟨q + 1, .slice ya (qs.length + 1) yc, qs ++ [⟨xa, .slice x7 y7 z7, (partR t C xa xn).1, .slice none 0 0, [], xl⟩], by omega, by go_num, ?_, ?_, ?_⟩, by simp [intOf]; omega⟩
          · rw [← HW9.out, HW.out]; exact HPUT.out _
          · rw [List.length_append, HQL.out.1]; rfl
          · rw [List.map_append, HQL.out.2, HCO.out]; rfl
        | false =>
          go_wp2
          refine ⟨⟨q + 1, .slice ya (qs.length + 1) yc, qs ++ [⟨xa, .slice x7 y7 z7, (partR t C xa xn).1, .slice none 0 0, [], xl⟩], by omega, by go_num, ?_, ?_, ?_⟩, by simp [intOf]; omega⟩
          · rw [← HW9.out, HW.out]; exact HPUT.out _
          · rw [List.length_append, HQL.out.1]; rfl
          · rw [List.map_append, HQL.out.2, HCO.out]; rfl
      · have hqe : q = ps.length := by omega
        rw [hqe, List.take_length] at hR hcon
        have hb0 := (hbw.block _ (Array.getElem?_eq_some_iff.1 hbx2).1).trans hbx2
        have c0 := cell_blk hR.blk (j := 0) (u := .int .i64 t) rfl
        have c1 := cell_blk hR.blk (j := 1) (u := .int .i64 j) rfl
        have c2 := cell_blk hR.blk (j := 2) (u := .int .i64 c) rfl
        have c3 := cell_blk hR.blk (j := 3) (u := .bool (wholeL ps)) rfl
        have c4 := cell_blk hR.blk (j := 4) (u := pv) rfl
        obtain ⟨va, vc, hpve⟩ := hR.sl.form
        subst hpve
        have hO : Only (· = w.heap.size) wr (wr.setRow w.heap.size #[.int .i64 t, .int .i64 j, .int .i64 c, .bool (wholeL ps), .slice va qs.length vc]) := only_setRow wr _ _
        have hb9 := setRow_heap wr w.heap.size _ #[.int .i64 t, .int .i64 j, .int .i64 c, .bool (wholeL ps), .slice va qs.length vc] _ _ hb0
        have hAr := below_trans' hbw hA2
        have hB := hAr.trans (hO.below hAr.size (fun i hi e => by omega))
        have hP9 : Pds (wr.setRow w.heap.size #[.int .i64 t, .int .i64 j, .int .i64 c, .bool (wholeL ps), .slice va qs.length vc]) (.slice va qs.length vc) qs := ⟨hR.sl.only hO (fun g hg e => by have := hR.pn g hg; omega), fun x hx => by
          obtain ⟨f1, f2, f3, f4⟩ := hR.el x hx
          exact ⟨f1.only hO (fun g hg e => by have := f4 g hg; omega), f2, f3⟩⟩
        have HF := Lib.hid (And.intro hb9 (And.intro hB (And.intro hP9 hcon)))
        clear hO hb9 hB hP9 hcon hR hAr hr hbw hps hql hqe
        go_wp2_with (refine wpList_store_row rfl 50 _ _ rfl w.heap.size #[.int .i64 t, .int .i64 j, .int .i64 c, .bool (wholeL ps), .slice va qs.length vc] rfl rfl 50 _ hb0 (by kernel_rfl) rfl (by simp [Value.oneCell']) ?_)
        obtain ⟨hb9, hB, hP9, hcon⟩ := HF.out
        clear HF
        generalize wr.setRow w.heap.size #[.int .i64 t, .int .i64 j, .int .i64 c, .bool (wholeL ps), .slice va qs.length vc] = w9 at hb9 hB hP9 ⊢
        have x0 : w9.cell? ⟨w.heap.size, 0, none⟩ = some (.int .i64 t) := cell_blk hb9 rfl
        have x1 : w9.cell? ⟨w.heap.size, 1, none⟩ = some (.int .i64 j) := cell_blk hb9 rfl
        have x2 : w9.cell? ⟨w.heap.size, 2, none⟩ = some (.int .i64 c) := cell_blk hb9 rfl
        have x3 : w9.cell? ⟨w.heap.size, 3, none⟩ = some (.bool (wholeL ps)) := cell_blk hb9 rfl
        have x4 : w9.cell? ⟨w.heap.size, 4, none⟩ = some (.slice va qs.length vc) := cell_blk hb9 rfl
        refine bodyPost_ret (by simp [results, Try.results24, go_sem, x0, x1, x2, x3, x4]; try rfl) rfl ?_
        refine ⟨?_, hB⟩
        rw [HRM.out]
        exact ⟨_, qs, rfl, hP9, hcon⟩
end
end Go.Proofs.Ytcdjeblcmgghhaa.Asm
