/- What job's Manifest says. Conditions: the job lies in memory as JbR says. -/
import Derived.Test.YtniggacgkhkgiaaPkJobPlays14
import Derived.Outline
import Derived.Deep.RegionLaw
import Derived.BigRegion
namespace Go.Sp
open Go.RowKit
abbrev Tld := Int × Int × Int × Int × List Int × Bool
def strip (p : Pt) : Tld := (p.a, p.t, p.j, p.n, p.cl, p.l)
def tld (v : Vis) : Tld := (v.a, v.t, v.j, v.n, v.cl, v.l)
/-- what the manifest's parts say -/
def partsJ (J : Jb) : List Tld := J.vs.map fun p => tld p.2
theorem ePt_len' (p : Pt) : (ePt p).length = 6 := rfl
end Go.Sp
namespace Go.Proofs.Ytniggacgkhkgiaa.Job
open Go.RowKit Go.Sp Msg

/-- parts in memory, all of it new since w0 -/
structure PtsNew (w0 w : World) (v : Value) (ps : List Pt) (l : List Tld) : Prop where
  sl : SL w.heap 72 6 v ps.length (ps.flatMap ePt)
  cr : ∀ p ∈ ps, RS w 1 eInt p.cv p.cl
  vn : ∀ g, v.ownBlock = some g → w0.heap.size ≤ g
  cn : ∀ p ∈ ps, ∀ g, p.cv.ownBlock = some g → w0.heap.size ≤ g ∧ g < w.heap.size
  ne : ∀ p ∈ ps, ∀ g, p.cv.ownBlock = some g → v.ownBlock ≠ some g
  st : ps.map strip = l
theorem PtsNew.below {w0 w w1 : World} {v : Value} {ps : List Pt} {l : List Tld} (h : PtsNew w0 w v ps l) (hb : Below w.heap.size w w1) : PtsNew w0 w1 v ps l :=
  ⟨h.sl.only (only_of_below hb (fun _ => False)) (fun _ _ => id), fun p hp => (h.cr p hp).only (only_of_below hb (fun _ => False)) (fun _ _ => id), h.vn, fun p hp g hg => ⟨(h.cn p hp g hg).1, Nat.lt_of_lt_of_le (h.cn p hp g hg).2 hb.size⟩, h.ne, h.st⟩
theorem PtsNew.only {F : Nat → Prop} {w0 w w1 : World} {v : Value} {ps : List Pt} {l : List Tld} (h : PtsNew w0 w v ps l) (o : Only F w w1) (hF : ∀ b, w0.heap.size ≤ b → b < w.heap.size → ¬ F b) : PtsNew w0 w1 v ps l :=
  ⟨h.sl.only o (fun g hg => hF g (h.vn g hg) (h.sl.lt g hg)), fun p hp => (h.cr p hp).only o (fun g hg => hF g (h.cn p hp g hg).1 (h.cn p hp g hg).2), h.vn, fun p hp g hg => ⟨(h.cn p hp g hg).1, Nat.lt_of_lt_of_le (h.cn p hp g hg).2 o.size⟩, h.ne, h.st⟩
theorem PtsNew.since {w0 w0' w : World} {v : Value} {ps : List Pt} {l : List Tld} (h : PtsNew w0 w v ps l) (hs : w0'.heap.size ≤ w0.heap.size) : PtsNew w0' w v ps l :=
  ⟨h.sl, h.cr, fun g hg => Nat.le_trans hs (h.vn g hg), fun p hp g hg => ⟨Nat.le_trans hs (h.cn p hp g hg).1, (h.cn p hp g hg).2⟩, h.ne, h.st⟩
theorem PtsNew.nil (w0 w : World) : PtsNew w0 w (.slice none 0 0) [] [] :=
  ⟨SL.nil _ _ _, by simp, fun g hg => by simp [Value.ownBlock] at hg, by simp, by simp, rfl⟩
/-- a part more -/
theorem PtsNew.put {w0 w w1 w2 : World} {v v' : Value} {ps : List Pt} {l : List Tld} {p : Pt} (h : PtsNew w0 w v ps l) (hb : Below w.heap.size w w1) (hsz : w0.heap.size ≤ w.heap.size)
    (hc : RS w1 1 eInt p.cv p.cl) (hcn : ∀ g, p.cv.ownBlock = some g → w.heap.size ≤ g ∧ g < w1.heap.size)
    (hs : SL w2.heap 72 6 v' (ps.length + 1) (ps.flatMap ePt ++ ePt p)) (ho : Only (fun k => v.ownBlock = some k) w1 w2) (hv : v'.ownBlock = v.ownBlock ∨ v'.ownBlock = some w1.heap.size) : PtsNew w0 w2 v' (ps ++ [p]) (l ++ [strip p]) := by
  have h1 := h.below hb
  have hvl : ∀ g, v.ownBlock = some g → g < w.heap.size := h.sl.lt
  refine ⟨by simpa using hs, fun q hq => ?_, fun g hg => ?_, fun q hq g hg => ?_, fun q hq g hg => ?_, by simp [h.st]⟩
  · rcases List.mem_append.1 hq with hq | hq
    · exact (h1.cr q hq).only ho (fun g hg => h.ne q hq g hg)
    · rw [List.mem_singleton.1 hq]
      exact hc.only ho (fun g hg e => by have := hvl g e; have := (hcn g hg).1; omega)
  · rcases hv with e | e
    · exact h.vn g (by rw [← e]; exact hg)
    · rw [e] at hg; cases hg; have := hb.size; omega
  · have := ho.size
    rcases List.mem_append.1 hq with hq | hq
    · have := h1.cn q hq g hg; omega
    · rw [List.mem_singleton.1 hq] at hg
      have := hcn g hg; omega
  · rcases List.mem_append.1 hq with hq | hq
    · rcases hv with e | e
      · rw [e]; exact h.ne q hq g hg
      · rw [e]; intro e2; cases e2; have := (h1.cn q hq _ hg).2; omega
    · rw [List.mem_singleton.1 hq] at hg
      have h2 := hcn g hg
      rcases hv with e | e
      · rw [e]; intro e2; have := hvl g e2; omega
      · rw [e]; intro e2; cases e2; omega
theorem PtsNew.pts {w0 w : World} {v : Value} {ps : List Pt} {l : List Tld} (h : PtsNew w0 w v ps l) : Pts w v ps := ⟨SL.rs ePt_len' h.sl, h.cr⟩
def ManIs (w0 w : World) (J : Jb) (e : Ending) : Prop := ∃ pv ps, e = .returned (.tuple #[.agg #[.int .i64 J.tr, .int .i64 J.id, .int .i64 J.cl, pv], .bool true]) ∧ PtsNew w0 w pv ps (partsJ J)

section
variable {w : World} {R : Nat → Prop} {jb : Nat} {J : Jb}
set_option maxRecDepth 100000 in
set_option maxHeartbeats 2000000 in
theorem mani_no (h : JbR w R jb J) (hf : J.full = false) : Calls Try.prog 32 #[.pointer (some ⟨jb, 0, none⟩)] w fun e w' => e = .returned (.tuple #[.agg #[.int .i64 0, .int .i64 0, .int .i64 0, .slice none 0 0], .bool false]) ∧ Below w.heap.size w w' := by
  have hA := below_alloc (Below.refl w.heap.size w) (.cells #[.int .i64 0, .int .i64 0, .int .i64 0, .slice none 0 0] 62)
  obtain ⟨D, mb, rows, h0⟩ := h.below hA
  have c6 := h0.cell (j := 6) (u := .bool J.full) rfl
  rw [hf] at c6
  clear h h0
  go_enter Try.func32, Try.ntmps32
  go_wp2
  go_returns
  exact ⟨rfl, hA⟩

set_option maxRecDepth 100000 in
set_option maxHeartbeats 4000000 in
theorem mani_yes (h : JbR w R jb J) (hf : J.full = true) : Calls Try.prog 32 #[.pointer (some ⟨jb, 0, none⟩)] w fun e w' => ManIs w w' J e ∧ Below w.heap.size w w' := by
  have hA := below_alloc (Below.refl w.heap.size w) (.cells #[.int .i64 0, .int .i64 0, .int .i64 0, .slice none 0 0] 62)
  have hbx := heap_new w (.cells #[.int .i64 0, .int .i64 0, .int .i64 0, .slice none 0 0] 62) rfl
  have hlt : w.heap.size < (w.alloc (.cells #[.int .i64 0, .int .i64 0, .int .i64 0, .slice none 0 0] 62)).heap.size := by simp
  obtain ⟨D, mb, rows, h0⟩ := h.below hA
  have c6 := h0.cell (j := 6) (u := .bool J.full) rfl
  rw [hf] at c6
  have c0 := h0.cell (j := 0) (u := .int .i64 J.id) rfl
  have c2 := h0.cell (j := 2) (u := .int .i64 J.tr) rfl
  have c3 := h0.cell (j := 3) (u := .int .i64 J.cl) rfl
  go_enter Try.func32, Try.ntmps32
  go_upto_region 3 with fail
  generalize (w.alloc (.cells #[.int .i64 0, .int .i64 0, .int .i64 0, .slice none 0 0] 62)) = w1 at *
  have z := froz_blk hbx
  have z0 := z 0
  have z1 := z 1
  have z2 := z 2
  have z3 := z 3
  have x0 := cell_blk hbx (j := 0) (u := .int .i64 0) rfl
  have x1 := cell_blk hbx (j := 1) (u := .int .i64 0) rfl
  have x2 := cell_blk hbx (j := 2) (u := .int .i64 0) rfl
  have x3 := cell_blk hbx (j := 3) (u := .slice none 0 0) rfl
  go_cut [] (fun wx => wx.heap[w.heap.size]? = some (.cells #[.int .i64 J.tr, .int .i64 J.id, .int .i64 J.cl, .slice none 0 0] 62 (0, 0)) ∧ Only (· = w.heap.size) w1 wx)
  case first =>
    clear h h0 hA
    go_region
    go_wp2_with fail
    go_meet
    have hdr : ∀ x : World, x.drew.heap = x.heap := fun _ => rfl
    have e0 : (w1.setCell ⟨w.heap.size, 0, none⟩ (.int .i64 J.tr)).heap[w.heap.size]? = some (.cells #[.int .i64 J.tr, .int .i64 0, .int .i64 0, .slice none 0 0] 62 (0, 0)) := (heap_setCell_cells (o := 0) hbx _).trans rfl
    have e1 : ((w1.setCell ⟨w.heap.size, 0, none⟩ (.int .i64 J.tr)).setCell ⟨w.heap.size, 1, none⟩ (.int .i64 J.id)).heap[w.heap.size]? = some (.cells #[.int .i64 J.tr, .int .i64 J.id, .int .i64 0, .slice none 0 0] 62 (0, 0)) := (heap_setCell_cells (o := 1) e0 _).trans rfl
    have e2 : (((w1.setCell ⟨w.heap.size, 0, none⟩ (.int .i64 J.tr)).setCell ⟨w.heap.size, 1, none⟩ (.int .i64 J.id)).setCell ⟨w.heap.size, 2, none⟩ (.int .i64 J.cl)).heap[w.heap.size]? = some (.cells #[.int .i64 J.tr, .int .i64 J.id, .int .i64 J.cl, .slice none 0 0] 62 (0, 0)) := (heap_setCell_cells (o := 2) e1 _).trans rfl
    have e3 : ((((w1.setCell ⟨w.heap.size, 0, none⟩ (.int .i64 J.tr)).setCell ⟨w.heap.size, 1, none⟩ (.int .i64 J.id)).setCell ⟨w.heap.size, 2, none⟩ (.int .i64 J.cl)).setCell ⟨w.heap.size, 3, none⟩ (.slice none 0 0)).heap[w.heap.size]? = some (.cells #[.int .i64 J.tr, .int .i64 J.id, .int .i64 J.cl, .slice none 0 0] 62 (0, 0)) := (heap_setCell_cells (o := 3) e2 _).trans rfl
    refine ⟨?_, (((((Only.refl (· = w.heap.size) w1).setCell (p := ⟨w.heap.size, 0, none⟩) (fun _ => rfl) _).setCell (p := ⟨w.heap.size, 1, none⟩) (fun _ => rfl) _).setCell (p := ⟨w.heap.size, 2, none⟩) (fun _ => rfl) _).setCell (p := ⟨w.heap.size, 3, none⟩) (fun _ => rfl) _).drew⟩
    rw [hdr]
    exact e3
  case rest =>
    obtain ⟨hb2, hO2⟩ := hcut
    have hRlt : ∀ b, R b → b < w.heap.size := h.lt
    have h2 := h0.only hO2 (fun b hb e => by have := hRlt b hb; omega)
    have hw2 : Below w.heap.size w wc := hA.trans (hO2.below hA.size (fun i hi e => by omega))
    have hsz2 := hO2.size
    clear z z0 z1 z2 z3 x0 x1 x2 x3 c0 c2 c3 c6 h0 hbx hA
    go_wp2_with fail
    refine (visited_any ⟨D, mb, rows, h2⟩).mono ?_
    rintro e w3 ⟨v3, rfl, hr3, hn3, hb3⟩
    have h3 := h2.below hb3
    have hw3 := below_trans' hb3 hw2
    have hbx3 := (hb3.block _ (by omega)).trans hb2
    have hsz3 := hb3.size
    obtain ⟨hl3, a3, c3, rfl, _⟩ := id hr3
    have hvl := h3.vlen
    rw [List.length_map] at hr3 hn3 ⊢
    obtain ⟨ip, zp, hip, hzp, hp1, hp2, hp3⟩ := info_at (P := Try.prog) (e := 72) (f := (6, 64, 6)) (by kernel_rfl)
    clear h2 hb2 hO2 hw2 hb3 hl3
    go_wp2
    go_loopw [33] (fun i wr => ∃ (q : Nat) (pv : Value) (ps : List Pt), q ≤ J.vs.length ∧ i = .int .i64 q ∧ ps.length = q ∧ wr.heap[w.heap.size]? = some (.cells #[.int .i64 J.tr, .int .i64 J.id, .int .i64 J.cl, pv] 62 (0, 0)) ∧ PtsNew w3 wr pv ps ((partsJ J).take q) ∧ Only (· = w.heap.size) w3 wr) (fun i _ => J.vs.length - (intOf i).toNat)
    case atStart => exact ⟨0, _, [], Nat.zero_le _, rfl, rfl, hbx3, PtsNew.nil _ _, Only.refl _ _⟩
    case round =>
      obtain ⟨q, pv, ps, hq, rfl, hpl, hbm, hP, hO⟩ := hrel
      clear hbx3
      have hsw := hO.size
      have hbw : Below w.heap.size w wr := hw3.trans (hO.below hw3.size (fun i hi e => by omega))
      obtain ⟨pa, pc, rfl⟩ := hP.sl.form
      have hpl4 : ps.length ≤ 4 := by omega
      have HPL := Lib.hid hpl
      clear hpl
      by_cases hqN : q < J.vs.length
      · have hJ := h3.only hO (fun b hb e => by have := hRlt b hb; omega)
        have hrk := hr3.only hO (fun g hg e => by have := hn3 g hg; omega)
        obtain ⟨⟨k, v⟩, hx⟩ : ∃ x, J.vs[q]? = some x := ⟨_, List.getElem?_eq_getElem hqN⟩
        have hxk : (J.vs.map Prod.fst)[q]? = some k := by rw [List.getElem?_map, hx]; rfl
        obtain ⟨_, a', c', hv', h2'⟩ := hrk
        obtain ⟨b3, o3, ha3, hb3l, hc3⟩ := h2' (by rw [List.length_map]; omega)
        simp only [Value.slice.injEq] at hv'
        obtain ⟨rfl, hbad, rfl⟩ := hv'
        clear hbad
        subst ha3
        have gk : wr.cell? ⟨b3, o3 + q, none⟩ = some (.int .i64 k) := by have := hc3 q k 0 _ hxk rfl; simpa using this
        have hvk := mget_of_mem hJ.ks (List.mem_of_getElem? hx)
        obtain ⟨b, hkb⟩ := hJ.has' hvk
        obtain ⟨cv, hbv, hrc, hDc⟩ := hJ.vis k b v hkb hvk
        have hcl4 := hJ.cls _ (List.mem_of_getElem? hx)
        simp only at hcl4
        obtain ⟨_, ca, cc, rfl, _⟩ := id hrc
        have lk := hJ.look k
        rw [hkb] at lk
        replace lk : (Instr.lookup 139 (.map (some mb)) (.int .i64 k) false).run Try.prog wr = .ok (.pointer (some ⟨b, 0, none⟩)) wr := lk
        have c5 := hJ.cell (j := 5) (u := .map (some mb)) rfl
        have q2 := cell_blk hbv (j := 2) (u := .int .i64 v.a) rfl
        have q3 := cell_blk hbv (j := 3) (u := .int .i64 v.t) rfl
        have q4 := cell_blk hbv (j := 4) (u := .int .i64 v.j) rfl
        have q5 := cell_blk hbv (j := 5) (u := .int .i64 v.n) rfl
        have q6 := cell_blk hbv (j := 6) (u := .slice ca v.cl.length cc) rfl
        have q7 := cell_blk hbv (j := 7) (u := .bool v.l) rfl
        have HT := Lib.hid (show (partsJ J).take (q + 1) = (partsJ J).take q ++ [tld v] by
          rw [List.take_add_one]
          simp [partsJ, hx])
        have hA4 := below_alloc (Below.refl wr.heap.size wr) (.cells #[.int .i64 v.a, .int .i64 v.t, .int .i64 v.j, .int .i64 v.n, .slice ca v.cl.length cc, .bool v.l] 72)
        have hbx4 := heap_new wr (.cells #[.int .i64 v.a, .int .i64 v.t, .int .i64 v.j, .int .i64 v.n, .slice ca v.cl.length cc, .bool v.l] 72) rfl
        have HC := cloneR_any (hrc.only (only_of_below hA4 (fun _ => False)) (fun _ _ => id)) (by omega)
        clear hx hxk hc3 h2' hvk hkb hbv hrc hDc hJ
        go_wp2_with fail
        have hlt4 : wr.heap.size < (wr.alloc (.cells #[.int .i64 v.a, .int .i64 v.t, .int .i64 v.j, .int .i64 v.n, .slice ca v.cl.length cc, .bool v.l] 72)).heap.size := by simp
        generalize (wr.alloc (.cells #[.int .i64 v.a, .int .i64 v.t, .int .i64 v.j, .int .i64 v.n, .slice ca v.cl.length cc, .bool v.l] 72)) = w4 at hA4 hbx4 HC hlt4 ⊢
        refine HC.mono ?_
        rintro e w5 ⟨v5, rfl, hr5, hn5, hb5⟩
        obtain ⟨_, a5, c5', rfl, _⟩ := id hr5
        have hbx5 := (hb5.block _ hlt4).trans hbx4
        have hm5 := ((below_trans' hb5 hA4).block _ (Nat.lt_of_lt_of_le (by omega : w.heap.size < w3.heap.size) hsw)).trans hbm
        have f5 := froz_blk hbx5 4
        have k5 := cell_blk hbx5 (j := 4) (u := .slice ca v.cl.length cc) rfl
        have hset5 : Only (· = wr.heap.size) w5 (w5.setCell ⟨wr.heap.size, 4, none⟩ (.slice a5 v.cl.length c5')) := (Only.refl (· = wr.heap.size) w5).setCell (p := ⟨wr.heap.size, 4, none⟩) (fun _ => rfl) _
        have hbx6 : (w5.setCell ⟨wr.heap.size, 4, none⟩ (.slice a5 v.cl.length c5')).heap[wr.heap.size]? = some (.cells #[.int .i64 v.a, .int .i64 v.t, .int .i64 v.j, .int .i64 v.n, .slice a5 v.cl.length c5', .bool v.l] 72 (0, 0)) := (heap_setCell_cells (o := 4) hbx5 _).trans rfl
        have hm6 := hset5.heap hm5 (fun e => by omega)
        have hb6 : Below wr.heap.size wr (w5.setCell ⟨wr.heap.size, 4, none⟩ (.slice a5 v.cl.length c5')) := (below_trans' hb5 hA4).trans (hset5.below (below_trans' hb5 hA4).size (fun i hi e => by omega))
        have hr6 := hr5.only hset5 (fun g hg e => by have := (hn5 g hg).1; omega)
        have hs6 := hset5.size
        clear HC hr5 hbx5 hm5 hset5 lk c5 q2 q3 q4 q5 q6 q7 gk
        go_upto_region 9 with fail
        generalize (w5.setCell ⟨wr.heap.size, 4, none⟩ (.slice a5 v.cl.length c5')) = w6 at hbx6 hm6 hb6 hr6 hs6 ⊢
        have y0 := cell_blk hbx6 (j := 0) (u := .int .i64 v.a) rfl
        have y1 := cell_blk hbx6 (j := 1) (u := .int .i64 v.t) rfl
        have y2 := cell_blk hbx6 (j := 2) (u := .int .i64 v.j) rfl
        have y3 := cell_blk hbx6 (j := 3) (u := .int .i64 v.n) rfl
        have y4 := cell_blk hbx6 (j := 4) (u := .slice a5 v.cl.length c5') rfl
        have y5 := cell_blk hbx6 (j := 5) (u := .bool v.l) rfl
        have m3 := cell_blk hm6 (j := 3) (u := .slice pa ps.length pc) rfl
        clear k5 f5 hbx4
        go_wp2_with (at_builtin; refine halt ?_)
        refine Halt.go ?_
        have hA7 := below_alloc hb6 (.cells (ePt ⟨v.a, v.t, v.j, v.n, .slice a5 v.cl.length c5', v.cl, v.l⟩).toArray 72)
        refine wpList_appd (v := .slice pa ps.length pc) rfl _ _ _ rfl Try.underlying60 hip hzp hp1 hp2 hp3 rfl ((hP.below hA7).sl) (m := 1) (news := ePt ⟨v.a, v.t, v.j, v.n, .slice a5 v.cl.length c5', v.cl, v.l⟩) rfl rfl (cells_new _ _ _ rfl) (by simp [ePt, Value.oneCell']) (by unfold maxLen; omega) (by omega) ?_
        rintro v7 w7 hs7 ho7 hv7
        have hP7 := hP.put (p := ⟨v.a, v.t, v.j, v.n, .slice a5 v.cl.length c5', v.cl, v.l⟩) hA7 hsw (hr6.only (only_of_below (below_alloc (Below.refl w6.heap.size w6) _) (fun _ => False)) (fun _ _ => id)) (fun g hg => ⟨by have := (hn5 g hg).1; have := hA4.size; omega, by have := (hn5 g hg).2; simp; omega⟩) hs7 ho7 hv7
        have hmp : ∀ g, (Value.slice pa ps.length pc).ownBlock = some g → g ≠ w.heap.size := fun g hg e => by have := hP.vn g hg; omega
        have hm7 := ho7.heap (below_alloc (Below.refl w6.heap.size w6) (.cells (ePt ⟨v.a, v.t, v.j, v.n, .slice a5 v.cl.length c5', v.cl, v.l⟩).toArray 72) |>.block _ (Array.getElem?_eq_some_iff.1 hm6).1 |>.trans hm6) (fun e => hmp _ e rfl)
        obtain ⟨a7, c7, rfl⟩ := hs7.form
        have f7 := froz_blk hm7 3
        have k7 := cell_blk hm7 (j := 3) (u := .slice pa ps.length pc) rfl
        have hset : Only (· = w.heap.size) w7 (w7.setCell ⟨w.heap.size, 3, none⟩ (.slice a7 (ps.length + 1) c7)) := (Only.refl (· = w.heap.size) w7).setCell (p := ⟨w.heap.size, 3, none⟩) (fun _ => rfl) _
        have hm8 : (w7.setCell ⟨w.heap.size, 3, none⟩ (.slice a7 (ps.length + 1) c7)).heap[w.heap.size]? = some (.cells #[.int .i64 J.tr, .int .i64 J.id, .int .i64 J.cl, .slice a7 (ps.length + 1) c7] 62 (0, 0)) := (heap_setCell_cells (o := 3) hm7 _).trans rfl
        have hP8 := hP7.only hset (fun b hb1 hb2 e => by omega)
        have hO8 : Only (· = w.heap.size) w3 (w7.setCell ⟨w.heap.size, 3, none⟩ (.slice a7 (ps.length + 1) c7)) := ((hO.trans (only_of_below hA7 _)).trans' ho7 (fun i hi e => by have := hP.vn i e; omega)).trans hset
        clear hs7 ho7 hv7 hP7 hm7 hset hA7 y0 y1 y2 y3 y4 y5 m3 hm6 hbx6 hr6 hb6 hb5 hn5 hP hbm hA4 hmp
        go_wp2
        exact ⟨⟨q + 1, _, ps ++ [⟨v.a, v.t, v.j, v.n, .slice a5 v.cl.length c5', v.cl, v.l⟩], by omega, by go_num, by rw [List.length_append, HPL.out]; rfl, hm8, by rw [HT.out]; exact hP8, hO8⟩, by simp [intOf]; omega⟩
      · have hqe : q = J.vs.length := by omega
        have HE := Lib.hid (show (partsJ J).take q = partsJ J by rw [List.take_of_length_le]; simp [partsJ]; omega)
        have m0 := cell_blk hbm (j := 0) (u := .int .i64 J.tr) rfl
        have m1 := cell_blk hbm (j := 1) (u := .int .i64 J.id) rfl
        have m2 := cell_blk hbm (j := 2) (u := .int .i64 J.cl) rfl
        have m3 := cell_blk hbm (j := 3) (u := .slice pa ps.length pc) rfl
        have z := froz_blk hbm
        have z0 := z 0
        have z1 := z 1
        have z2 := z 2
        have z3 := z 3
        have e0 : (wr.setCell ⟨w.heap.size, 0, none⟩ (.int .i64 J.tr)).heap[w.heap.size]? = some (.cells #[.int .i64 J.tr, .int .i64 J.id, .int .i64 J.cl, .slice pa ps.length pc] 62 (0, 0)) := (heap_setCell_cells (o := 0) hbm _).trans rfl
        have e1 : ((wr.setCell ⟨w.heap.size, 0, none⟩ (.int .i64 J.tr)).setCell ⟨w.heap.size, 1, none⟩ (.int .i64 J.id)).heap[w.heap.size]? = some (.cells #[.int .i64 J.tr, .int .i64 J.id, .int .i64 J.cl, .slice pa ps.length pc] 62 (0, 0)) := (heap_setCell_cells (o := 1) e0 _).trans rfl
        have e2 : (((wr.setCell ⟨w.heap.size, 0, none⟩ (.int .i64 J.tr)).setCell ⟨w.heap.size, 1, none⟩ (.int .i64 J.id)).setCell ⟨w.heap.size, 2, none⟩ (.int .i64 J.cl)).heap[w.heap.size]? = some (.cells #[.int .i64 J.tr, .int .i64 J.id, .int .i64 J.cl, .slice pa ps.length pc] 62 (0, 0)) := (heap_setCell_cells (o := 2) e1 _).trans rfl
        have e3 : ((((wr.setCell ⟨w.heap.size, 0, none⟩ (.int .i64 J.tr)).setCell ⟨w.heap.size, 1, none⟩ (.int .i64 J.id)).setCell ⟨w.heap.size, 2, none⟩ (.int .i64 J.cl)).setCell ⟨w.heap.size, 3, none⟩ (.slice pa ps.length pc)).heap[w.heap.size]? = some (.cells #[.int .i64 J.tr, .int .i64 J.id, .int .i64 J.cl, .slice pa ps.length pc] 62 (0, 0)) := (heap_setCell_cells (o := 3) e2 _).trans rfl
        have hset : Only (· = w.heap.size) wr ((((wr.setCell ⟨w.heap.size, 0, none⟩ (.int .i64 J.tr)).setCell ⟨w.heap.size, 1, none⟩ (.int .i64 J.id)).setCell ⟨w.heap.size, 2, none⟩ (.int .i64 J.cl)).setCell ⟨w.heap.size, 3, none⟩ (.slice pa ps.length pc)) := (((((Only.refl (· = w.heap.size) wr).setCell (p := ⟨w.heap.size, 0, none⟩) (fun _ => rfl) _).setCell (p := ⟨w.heap.size, 1, none⟩) (fun _ => rfl) _).setCell (p := ⟨w.heap.size, 2, none⟩) (fun _ => rfl) _).setCell (p := ⟨w.heap.size, 3, none⟩) (fun _ => rfl) _)
        have hP9 := (hP.only hset (fun b hb1 hb2 e => by omega)).since (w0' := w) (by omega)
        rw [HE.out] at hP9
        have hb9 := hbw.trans (hset.below hbw.size (fun i hi e => by omega))
        clear hset hP hbm z e0 e1 e2 hO h3 hr3
        subst hqe
        go_wp2
        generalize ((((wr.setCell ⟨w.heap.size, 0, none⟩ (.int .i64 J.tr)).setCell ⟨w.heap.size, 1, none⟩ (.int .i64 J.id)).setCell ⟨w.heap.size, 2, none⟩ (.int .i64 J.cl)).setCell ⟨w.heap.size, 3, none⟩ (.slice pa ps.length pc)) = w9 at e3 hP9 hb9 ⊢
        have x0 := cell_blk e3 (j := 0) (u := .int .i64 J.tr) rfl
        have x1 := cell_blk e3 (j := 1) (u := .int .i64 J.id) rfl
        have x2 := cell_blk e3 (j := 2) (u := .int .i64 J.cl) rfl
        have x3 := cell_blk e3 (j := 3) (u := .slice pa ps.length pc) rfl
        refine bodyPost_ret (by simp [results, Try.results32, go_sem, x0, x1, x2, x3]; try rfl) rfl ?_
        exact ⟨⟨_, ps, rfl, hP9⟩, hb9⟩
end
end Go.Proofs.Ytniggacgkhkgiaa.Job
/- What job's Outs says. Conditions: the job lies in memory as JbR says. -/
namespace Go.Sp
open Go.RowKit
/-- what is still to be said to an agent -/
def outV (J : Jb) (x : Int × Vis) : List (Int × Mg) :=
  bif decide (J.ph = 1) && !x.2.pin then [(x.1, .pin J.tr J.id)] else bif decide (J.ph = 2) then [(x.1, .coll J.tr J.id)] else bif decide (J.ph = 3) && !x.2.free then [(x.1, .unp J.tr J.id)] else []
def outsT (J : Jb) : List (Int × Mg) := J.vs.flatMap (outV J)
def manOut (J : Jb) : Bool := J.full && decide (J.ph = 2)
end Go.Sp
namespace Go.Proofs.Ytniggacgkhkgiaa.Job
open Go.RowKit Go.Sp Msg
def eOut (x : Int × Mg) : List Value := [.int .i64 x.1, val x.2]
theorem eOut_len (x : Int × Mg) : (eOut x).length = 2 := rfl
/-- the manifest, if it is to be said -/
def HeadIs (w0 w : World) (J : Jb) (hd : List (Int × Mg)) : Prop := (manOut J = false ∧ hd = []) ∨ (manOut J = true ∧ ∃ pv ps, hd = [(-1, .mani J.tr J.id J.cl pv ps)] ∧ PtsNew w0 w pv ps (partsJ J))
theorem HeadIs.below {w0 w w1 : World} {J : Jb} {hd : List (Int × Mg)} (h : HeadIs w0 w J hd) (hb : Below w.heap.size w w1) : HeadIs w0 w1 J hd := by
  rcases h with h | ⟨h1, pv, ps, h2, h3⟩
  · exact .inl h
  · exact .inr ⟨h1, pv, ps, h2, h3.below hb⟩
theorem HeadIs.len {w0 w : World} {J : Jb} {hd : List (Int × Mg)} (h : HeadIs w0 w J hd) : hd.length ≤ 1 := by
  rcases h with ⟨_, rfl⟩ | ⟨_, _, _, rfl, _⟩ <;> simp
structure OutsNew (w0 w : World) (J : Jb) (v : Value) (outs : List (Int × Mg)) : Prop where
  sl : SL w.heap 58 2 v outs.length (outs.flatMap eOut)
  vn : ∀ g, v.ownBlock = some g → w0.heap.size ≤ g
  ex : ∃ hd, outs = hd ++ outsT J ∧ HeadIs w0 w J hd
theorem outV_len (J : Jb) (x : Int × Vis) : (outV J x).length ≤ 1 := by
  unfold outV
  cases decide (J.ph = 1) && !x.2.pin <;> cases decide (J.ph = 2) <;> cases decide (J.ph = 3) && !x.2.free <;> simp
theorem outTo_len (J : Jb) : ∀ l : List (Int × Vis), (l.flatMap (outV J)).length ≤ l.length
  | [] => by simp
  | x :: r => by
    rw [List.flatMap_cons, List.length_append, List.length_cons]
    have := outV_len J x
    have := outTo_len J r
    omega

section
variable {w : World} {R : Nat → Prop} {jb : Nat} {J : Jb}
/-- Manifest, either way -/
theorem mani_any (h : JbR w R jb J) : Calls Try.prog 32 #[.pointer (some ⟨jb, 0, none⟩)] w fun e w' => (∃ t i c a n cap, e = .returned (.tuple #[.agg #[.int .i64 t, .int .i64 i, .int .i64 c, .slice a n cap], .bool J.full]) ∧ (J.full = true → t = J.tr ∧ i = J.id ∧ c = J.cl ∧ ∃ ps, PtsNew w w' (.slice a n cap) ps (partsJ J))) ∧ Below w.heap.size w w' := by
  cases hf : J.full with
  | false =>
    refine (mani_no h hf).mono ?_
    rintro e w' ⟨rfl, hb⟩
    exact ⟨⟨0, 0, 0, none, 0, 0, rfl, fun e => by cases e⟩, hb⟩
  | true =>
    refine (mani_yes h hf).mono ?_
    rintro e w' ⟨⟨pv, ps, rfl, hP⟩, hb⟩
    obtain ⟨a, c, rfl⟩ := hP.sl.form
    exact ⟨⟨_, _, _, a, _, c, rfl, fun _ => ⟨rfl, rfl, rfl, ps, hP⟩⟩, hb⟩

set_option maxRecDepth 100000 in
set_option maxHeartbeats 4000000 in
theorem outs_any (h : JbR w R jb J) : Calls Try.prog 24 #[.pointer (some ⟨jb, 0, none⟩)] w fun e w' => ∃ v outs, e = .returned v ∧ OutsNew w w' J v outs ∧ Below w.heap.size w w' := by
  obtain ⟨io, zo, hio, hzo, ho1, ho2, ho3⟩ := info_at (P := Try.prog) (e := 58) (f := (2, 24, 2)) (by kernel_rfl)
  have hRlt := h.lt
  go_enter Try.func24, Try.ntmps24
  go_wp2_with fail
  refine (mani_any h).mono ?_
  rintro e w1 ⟨⟨mt, mi, mc, ma, mn, mcap, rfl, hman⟩, hb1⟩
  have hA := below_alloc hb1 (.cells #[.int .i64 mt, .int .i64 mi, .int .i64 mc, .slice ma mn mcap] 62)
  have hbx := heap_new w1 (.cells #[.int .i64 mt, .int .i64 mi, .int .i64 mc, .slice ma mn mcap] 62) rfl
  have hA1 := below_alloc (Below.refl w1.heap.size w1) (.cells #[.int .i64 mt, .int .i64 mi, .int .i64 mc, .slice ma mn mcap] 62)
  go_upto_region 4 with fail
  generalize (w1.alloc (.cells #[.int .i64 mt, .int .i64 mi, .int .i64 mc, .slice ma mn mcap] 62)) = w2 at hA hbx hA1 ⊢
  have hman2 : J.full = true → mt = J.tr ∧ mi = J.id ∧ mc = J.cl ∧ ∃ ps, PtsNew w w2 (.slice ma mn mcap) ps (partsJ J) := fun e => by
    obtain ⟨e1, e2, e3, ps, hP⟩ := hman e
    exact ⟨e1, e2, e3, ps, hP.below hA1⟩
  have HMAN := Lib.hid hman2
  clear hman hman2 hA1
  have hlt1 : w1.heap.size < w2.heap.size := (Array.getElem?_eq_some_iff.1 hbx).1
  have hsw1 := hb1.size
  generalize w1.heap.size = x1 at hbx hlt1 hsw1 ⊢
  clear hb1
  have h2 := h.below hA
  have c4 := jcell h (j := 4) (u := .int .i64 J.ph) (fun _ => rfl) w2 hA
  go_cut [4, 22] (fun _ s wx => s = .bool (manOut J) ∧ wx = w2)
  case first =>
    clear h h2 hbx
    cases hf : J.full with
    | false =>
      have HE := Lib.hid (show manOut J = false by simp [manOut, hf])
      clear hf
      go_wp2_with fail
      go_meet
      exact ⟨by rw [HE.out], rfl⟩
    | true =>
      by_cases h2 : J.ph = 2
      · have b1 : (J.ph == 2) = true := by simp [h2]
        have HE := Lib.hid (show manOut J = true by simp [manOut, hf, h2])
        clear hf h2
        go_wp2_with fail
        go_meet
        exact ⟨by rw [HE.out], rfl⟩
      · have b1 : (J.ph == 2) = false := by simp [h2]
        have HE := Lib.hid (show manOut J = false by simp [manOut, hf, h2])
        clear hf h2
        go_wp2_with fail
        go_meet
        exact ⟨by rw [HE.out], rfl⟩
  case rest =>
    obtain ⟨rfl, rfl⟩ := hcut
    clear c4
    obtain ⟨xc, hxc⟩ : ∃ xc, xc = wc.heap.size := ⟨_, rfl⟩
    have hwx : w.heap.size ≤ xc := by rw [hxc]; exact hA.size
    have HXC := Lib.hid hxc
    clear hxc
    go_upto_if 22 with fail
    go_cut [2] (fun v w3 => ∃ hd, SL w3.heap 58 2 v hd.length (hd.flatMap eOut) ∧ (∃ wm : World, wm.heap.size = xc ∧ HeadIs w wm J hd ∧ Below wm.heap.size wm w3) ∧ Below w.heap.size w w3 ∧ xc ≤ w3.heap.size ∧ ∀ g, v.ownBlock = some g → xc ≤ g)
    case first =>
      cases hm : manOut J with
      | false =>
        have HI : HeadIs w wc J [] := .inl ⟨hm, rfl⟩
        clear hm h h2
        go_wp2_with fail
        go_meet
        exact ⟨[], SL.nil _ _ _, ⟨wc, HXC.out.symm, HI, Below.refl _ _⟩, hA, by rw [HXC.out]; exact Nat.le_refl _, fun g hg => by simp [Value.ownBlock] at hg⟩
      | true =>
        obtain ⟨rfl, rfl, rfl, ps, hP⟩ := HMAN.out (by simp [manOut] at hm; exact hm.1)
        have m0 := cell_blk hbx (j := 0) (u := .int .i64 J.tr) rfl
        have m1 := cell_blk hbx (j := 1) (u := .int .i64 J.id) rfl
        have m2 := cell_blk hbx (j := 2) (u := .int .i64 J.cl) rfl
        have m3 := cell_blk hbx (j := 3) (u := .slice ma mn mcap) rfl
        have HM := Lib.hid hm
        clear hm h h2 hbx
        go_wp2_with (at_builtin; refine halt ?_)
        refine Halt.go ?_
        refine wpList_appd (v := .slice none 0 0) rfl _ _ _ rfl Try.underlying49 hio hzo ho1 ho2 ho3 rfl (SL.nil _ _ _) (m := 1) (news := eOut (-1, .mani J.tr J.id J.cl (.slice ma mn mcap) ps)) rfl rfl (cells_new _ _ _ rfl) (by simp [eOut, val, Value.oneCell']) (by unfold maxLen; omega) (by omega) ?_
        rintro v7 w7 hs7 ho7 hv7
        have hb7 : Below wc.heap.size wc w7 := (below_alloc (Below.refl _ _) _).trans (ho7.below (by simp) fun i hi e => by simp [Value.ownBlock] at e)
        have hn7 : ∀ g, v7.ownBlock = some g → wc.heap.size ≤ g := fun g hg => by
          rcases hv7 with e | e
          · rw [e] at hg; simp [Value.ownBlock] at hg
          · rw [e] at hg; simp at hg; omega
        have HS7 := Lib.hid hs7
        clear hs7 ho7 hv7
        go_wp2_with fail
        go_meet
        exact ⟨[(-1, .mani J.tr J.id J.cl (.slice ma mn mcap) ps)], by simpa using HS7.out, ⟨wc, HXC.out.symm, .inr ⟨HM.out, _, ps, rfl, hP⟩, hb7⟩, below_trans' hb7 hA, by rw [HXC.out]; exact hb7.size, fun g hg => by rw [HXC.out]; exact hn7 g hg⟩
    case rest =>
      obtain ⟨hd, hsd, ⟨wm, hxm, hHI, hbm⟩, hb3, hxw, hn3⟩ := hcut
      have HXM := Lib.hid hxm
      clear hxm
      have hhl := hHI.len
      clear HMAN hbx hA h2 hlt1
      obtain ⟨w3, hw3⟩ : ∃ w3 : World, w3 = wc := ⟨_, rfl⟩
      subst hw3
      have h3 := h.below hb3
      have hsw3 := hb3.size
      go_wp2_with fail
      refine (visited_any h3).mono ?_
      rintro e w5 ⟨v5, rfl, hr5, hn5, hb5⟩
      have hw5 := below_trans' hb5 hb3
      have hsz5 := hb5.size
      have hs0 := hsd.only (only_of_below hb5 (fun _ => False)) (fun _ _ => id)
      have hbm5 := hbm.trans (hb5.mono hbm.size)
      have hn0 := hsd.lt
      obtain ⟨hl5, a5, c5, rfl, _⟩ := id hr5
      rw [List.length_map] at hr5 hn5 ⊢
      go_wp2
      go_loopw [32, 2] (fun i v wr => ∃ q : Nat, q ≤ J.vs.length ∧ i = .int .i64 q ∧ SL wr.heap 58 2 v (hd ++ (J.vs.take q).flatMap (outV J)).length ((hd ++ (J.vs.take q).flatMap (outV J)).flatMap eOut) ∧ (∀ g, v.ownBlock = some g → (xc ≤ g ∧ g < w3.heap.size) ∨ w5.heap.size ≤ g) ∧ Only (fun b => xc ≤ b ∧ b < w3.heap.size) w5 wr) (fun i _ _ => J.vs.length - (intOf i).toNat)
      case atStart => exact ⟨0, Nat.zero_le _, rfl, by simpa using hs0, fun g hg => .inl ⟨hn3 g hg, hn0 g hg⟩, Only.refl _ _⟩
      case round =>
        obtain ⟨q, hq, rfl, hsl, hvn, hO⟩ := hrel
        clear hs0 hn3 hn0 hsd
        have hol : (hd ++ (J.vs.take q).flatMap (outV J)).length ≤ 1 + q := by
          have := outTo_len J (J.vs.take q)
          rw [List.length_append]
          rw [List.length_take] at this
          omega
        by_cases hqN : q < J.vs.length
        · have hJ0 := (h3.below hb5).only hO (fun b hb e => by have := hRlt b hb; omega)
          obtain ⟨D, mb, rows, hJ⟩ := hJ0
          have hvl := hJ.vlen
          have hrk := hr5.only hO (fun g hg e => by have := hn5 g hg; omega)
          obtain ⟨⟨k, v⟩, hx⟩ : ∃ x, J.vs[q]? = some x := ⟨_, List.getElem?_eq_getElem hqN⟩
          have hxk : (J.vs.map Prod.fst)[q]? = some k := by rw [List.getElem?_map, hx]; rfl
          obtain ⟨_, a', c', hv', h2'⟩ := hrk
          obtain ⟨b3, o3, ha3, hb3l, hc3⟩ := h2' (by rw [List.length_map]; omega)
          simp only [Value.slice.injEq] at hv'
          obtain ⟨rfl, hbad, rfl⟩ := hv'
          clear hbad
          subst ha3
          have gk : wr.cell? ⟨b3, o3 + q, none⟩ = some (.int .i64 k) := by have := hc3 q k 0 _ hxk rfl; simpa using this
          have hvk := mget_of_mem hJ.ks (List.mem_of_getElem? hx)
          obtain ⟨b, hkb⟩ := hJ.has' hvk
          obtain ⟨cv, hbv, _⟩ := hJ.vis k b v hkb hvk
          have lk := hJ.look k
          rw [hkb] at lk
          replace lk : (Instr.lookup 139 (.map (some mb)) (.int .i64 k) false).run Try.prog wr = .ok (.pointer (some ⟨b, 0, none⟩)) wr := lk
          have c5 := hJ.cell (j := 5) (u := .map (some mb)) rfl
          have c4 := hJ.cell (j := 4) (u := .int .i64 J.ph) rfl
          have c2 := hJ.cell (j := 2) (u := .int .i64 J.tr) rfl
          have c0 := hJ.cell (j := 0) (u := .int .i64 J.id) rfl
          have q0 := cell_blk hbv (j := 0) (u := .bool v.pin) rfl
          have q1 := cell_blk hbv (j := 1) (u := .bool v.free) rfl
          have HT := Lib.hid (show hd ++ (J.vs.take (q + 1)).flatMap (outV J) = (hd ++ (J.vs.take q).flatMap (outV J)) ++ outV J (k, v) by
            rw [List.take_add_one]
            simp [hx])
          clear hx hxk hc3 h2' hvk hkb hbv hJ
          by_cases p1 : J.ph = 1
          · have b1 : (J.ph == 1) = true := by simp [p1]
            have b2 : (J.ph == 2) = false := by simp [p1]
            have b3 : (J.ph == 3) = false := by simp [p1]
            cases hp : v.pin with
            | true =>
              rw [hp] at q0
              have HE := Lib.hid (show outV J (k, v) = [] by unfold outV; simp [p1, hp])
              have HT2 := Lib.hid (show hd ++ (J.vs.take (q + 1)).flatMap (outV J) = hd ++ (J.vs.take q).flatMap (outV J) by rw [HT.out, HE.out, List.append_nil])
              clear p1 hp
              go_wp2
              exact ⟨⟨q + 1, by omega, by go_num, by rw [HT2.out]; exact hsl, hvn, hO⟩, by simp [intOf]; omega⟩
            | false =>
              rw [hp] at q0
              have HE := Lib.hid (show outV J (k, v) = [(k, .pin J.tr J.id)] by unfold outV; simp [p1, hp])
              have HT2 := Lib.hid (show hd ++ (J.vs.take (q + 1)).flatMap (outV J) = (hd ++ (J.vs.take q).flatMap (outV J)) ++ [(k, .pin J.tr J.id)] by rw [HT.out, HE.out])
              clear p1 hp
              generalize hd ++ (J.vs.take q).flatMap (outV J) = OL at *
              go_wp2
              go_region_law
                ((refine step_appd (v := u2) rfl _ _ _ rfl Try.underlying49 hio hzo ho1 ho2 ho3 rfl ((hsl.alloc _).drew) (by omega) (m := 1) (news := eOut (k, .pin J.tr J.id)) rfl rfl (cells_new _ _ _ (by simp)) (by simp [eOut, val, Value.oneCell']) (by unfold maxLen; omega) (by omega) (by simp; rfl) ?_; intro b8 o8 c8 w8 hs8 ho8 hv8))
              all_goals (
                have hO8 := ((hO.alloc _).drew).trans' ho8 (fun i hi e => by
                  rcases hvn i e with h | h
                  · exact h
                  · omega)
                have hsz := hO.size
                have hn8 : ∀ g, (Value.slice (some ⟨b8, o8, none⟩) (OL.length + 1) c8).ownBlock = some g → (xc ≤ g ∧ g < w3.heap.size) ∨ w5.heap.size ≤ g := fun g hg => by
                  simp [Value.ownBlock] at hg
                  subst hg
                  rcases hv8 with e | e
                  · exact hvn _ e
                  · exact .inr (by omega)
                clear ho8 hv8 hsl hvn hO lk c5 c4 c2 c0 q0 q1 gk
                go_wp2
                exact ⟨⟨q + 1, by omega, by go_num, by rw [HT2.out, List.length_append, List.flatMap_append]; simpa using hs8, hn8, hO8⟩, by simp [intOf]; omega⟩)
          by_cases p2 : J.ph = 2
          · have b1 : (J.ph == 1) = false := by simp [p2]
            have b2 : (J.ph == 2) = true := by simp [p2]
            have b3 : (J.ph == 3) = false := by simp [p2]
            have HE := Lib.hid (show outV J (k, v) = [(k, .coll J.tr J.id)] by unfold outV; simp [p2])
            have HT2 := Lib.hid (show hd ++ (J.vs.take (q + 1)).flatMap (outV J) = (hd ++ (J.vs.take q).flatMap (outV J)) ++ [(k, .coll J.tr J.id)] by rw [HT.out, HE.out])
            clear p1 p2
            generalize hd ++ (J.vs.take q).flatMap (outV J) = OL at *
            go_wp2
            go_region_law
              ((refine step_appd (v := u2) rfl _ _ _ rfl Try.underlying49 hio hzo ho1 ho2 ho3 rfl ((hsl.alloc _).drew) (by omega) (m := 1) (news := eOut (k, .coll J.tr J.id)) rfl rfl (cells_new _ _ _ (by simp)) (by simp [eOut, val, Value.oneCell']) (by unfold maxLen; omega) (by omega) (by simp; rfl) ?_; intro b8 o8 c8 w8 hs8 ho8 hv8))
            all_goals (
              have hO8 := ((hO.alloc _).drew).trans' ho8 (fun i hi e => by
                rcases hvn i e with h | h
                · exact h
                · omega)
              have hsz := hO.size
              have hn8 : ∀ g, (Value.slice (some ⟨b8, o8, none⟩) (OL.length + 1) c8).ownBlock = some g → (xc ≤ g ∧ g < w3.heap.size) ∨ w5.heap.size ≤ g := fun g hg => by
                simp [Value.ownBlock] at hg
                subst hg
                rcases hv8 with e | e
                · exact hvn _ e
                · exact .inr (by omega)
              clear ho8 hv8 hsl hvn hO lk c5 c4 c2 c0 q0 q1 gk
              go_wp2
              exact ⟨⟨q + 1, by omega, by go_num, by rw [HT2.out, List.length_append, List.flatMap_append]; simpa using hs8, hn8, hO8⟩, by simp [intOf]; omega⟩)
          by_cases p3 : J.ph = 3
          · have b1 : (J.ph == 1) = false := by simp [p3]
            have b2 : (J.ph == 2) = false := by simp [p3]
            have b3 : (J.ph == 3) = true := by simp [p3]
            cases hp : v.free with
            | true =>
              rw [hp] at q1
              have HE := Lib.hid (show outV J (k, v) = [] by unfold outV; simp [p3, hp])
              have HT2 := Lib.hid (show hd ++ (J.vs.take (q + 1)).flatMap (outV J) = hd ++ (J.vs.take q).flatMap (outV J) by rw [HT.out, HE.out, List.append_nil])
              clear p1 p2 p3 hp
              go_wp2
              exact ⟨⟨q + 1, by omega, by go_num, by rw [HT2.out]; exact hsl, hvn, hO⟩, by simp [intOf]; omega⟩
            | false =>
              rw [hp] at q1
              have HE := Lib.hid (show outV J (k, v) = [(k, .unp J.tr J.id)] by unfold outV; simp [p3, hp])
              have HT2 := Lib.hid (show hd ++ (J.vs.take (q + 1)).flatMap (outV J) = (hd ++ (J.vs.take q).flatMap (outV J)) ++ [(k, .unp J.tr J.id)] by rw [HT.out, HE.out])
              clear p1 p2 p3 hp
              generalize hd ++ (J.vs.take q).flatMap (outV J) = OL at *
              go_wp2
              go_region_law
                ((refine step_appd (v := u2) rfl _ _ _ rfl Try.underlying49 hio hzo ho1 ho2 ho3 rfl ((hsl.alloc _).drew) (by omega) (m := 1) (news := eOut (k, .unp J.tr J.id)) rfl rfl (cells_new _ _ _ (by simp)) (by simp [eOut, val, Value.oneCell']) (by unfold maxLen; omega) (by omega) (by simp; rfl) ?_; intro b8 o8 c8 w8 hs8 ho8 hv8))
              all_goals (
                have hO8 := ((hO.alloc _).drew).trans' ho8 (fun i hi e => by
                  rcases hvn i e with h | h
                  · exact h
                  · omega)
                have hsz := hO.size
                have hn8 : ∀ g, (Value.slice (some ⟨b8, o8, none⟩) (OL.length + 1) c8).ownBlock = some g → (xc ≤ g ∧ g < w3.heap.size) ∨ w5.heap.size ≤ g := fun g hg => by
                  simp [Value.ownBlock] at hg
                  subst hg
                  rcases hv8 with e | e
                  · exact hvn _ e
                  · exact .inr (by omega)
                clear ho8 hv8 hsl hvn hO lk c5 c4 c2 c0 q0 q1 gk
                go_wp2
                exact ⟨⟨q + 1, by omega, by go_num, by rw [HT2.out, List.length_append, List.flatMap_append]; simpa using hs8, hn8, hO8⟩, by simp [intOf]; omega⟩)
          have b1 : (J.ph == 1) = false := by simp [p1]
          have b2 : (J.ph == 2) = false := by simp [p2]
          have b3 : (J.ph == 3) = false := by simp [p3]
          have HE := Lib.hid (show outV J (k, v) = [] by unfold outV; simp [p1, p2, p3])
          have HT2 := Lib.hid (show hd ++ (J.vs.take (q + 1)).flatMap (outV J) = hd ++ (J.vs.take q).flatMap (outV J) by rw [HT.out, HE.out, List.append_nil])
          clear p1 p2 p3
          go_wp2
          exact ⟨⟨q + 1, by omega, by go_num, by rw [HT2.out]; exact hsl, hvn, hO⟩, by simp [intOf]; omega⟩
        · have hqe : q = J.vs.length := by omega
          subst hqe
          have hw9 := hw5.trans (hO.below hw5.size (fun i hi e => by omega))
          have hH9 : HeadIs w wr J hd := hHI.below (hbm5.trans (hO.below hbm5.size (fun i hi e => by have := HXM.out; omega)))
          have hout : hd ++ (J.vs.take J.vs.length).flatMap (outV J) = hd ++ outsT J := by rw [List.take_length]; rfl
          rw [hout] at hsl
          clear hout
          go_wp2
          go_ret
          exact ⟨_, _, rfl, ⟨hsl, fun g hg => by rcases hvn g hg with h | h <;> omega, hd, rfl, hH9⟩, hw9⟩
end
end Go.Proofs.Ytniggacgkhkgiaa.Job
