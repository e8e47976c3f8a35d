/- What job's Manifest says. Conditions: the job lies in memory as JbR says. -/
import Derived.Test.YtniggacgkhkgiaaJob3
namespace Go.Sp
open Go.RowKit
abbrev Tld := Int × Int × Int × Int × List Int × Bool
def strip (p : Pt) : Tld := (p.a, p.t, p.j, p.n, p.cl, p.l)
def tld (v : Vis) : Tld := (v.a, v.t, v.j, v.n, v.cl, v.l)
/-- what the manifest's parts say -/
def partsJ (J : Jb) : List Tld := J.vs.map fun p => tld p.2
theorem ePt_len' (p : Pt) : (ePt p).length = 6 := rfl
end Go.Sp
namespace Go.Proofs.Ytniggacgkhkgiaa.Job
open Go.RowKit Go.Sp Msg

/-- parts in memory, all of it new since w0 -/
structure PtsNew (w0 w : World) (v : Value) (ps : List Pt) (l : List Tld) : Prop where
  sl : SL w.heap 72 6 v ps.length (ps.flatMap ePt)
  cr : ∀ p ∈ ps, RS w 1 eInt p.cv p.cl
  vn : ∀ g, v.ownBlock = some g → w0.heap.size ≤ g
  cn : ∀ p ∈ ps, ∀ g, p.cv.ownBlock = some g → w0.heap.size ≤ g ∧ g < w.heap.size
  ne : ∀ p ∈ ps, ∀ g, p.cv.ownBlock = some g → v.ownBlock ≠ some g
  st : ps.map strip = l
theorem PtsNew.below {w0 w w1 : World} {v : Value} {ps : List Pt} {l : List Tld} (h : PtsNew w0 w v ps l) (hb : Below w.heap.size w w1) : PtsNew w0 w1 v ps l :=
  ⟨h.sl.only (only_of_below hb (fun _ => False)) (fun _ _ => id), fun p hp => (h.cr p hp).only (only_of_below hb (fun _ => False)) (fun _ _ => id), h.vn, fun p hp g hg => ⟨(h.cn p hp g hg).1, Nat.lt_of_lt_of_le (h.cn p hp g hg).2 hb.size⟩, h.ne, h.st⟩
theorem PtsNew.only {F : Nat → Prop} {w0 w w1 : World} {v : Value} {ps : List Pt} {l : List Tld} (h : PtsNew w0 w v ps l) (o : Only F w w1) (hF : ∀ b, w0.heap.size ≤ b → b < w.heap.size → ¬ F b) : PtsNew w0 w1 v ps l :=
  ⟨h.sl.only o (fun g hg => hF g (h.vn g hg) (h.sl.lt g hg)), fun p hp => (h.cr p hp).only o (fun g hg => hF g (h.cn p hp g hg).1 (h.cn p hp g hg).2), h.vn, fun p hp g hg => ⟨(h.cn p hp g hg).1, Nat.lt_of_lt_of_le (h.cn p hp g hg).2 o.size⟩, h.ne, h.st⟩
theorem PtsNew.since {w0 w0' w : World} {v : Value} {ps : List Pt} {l : List Tld} (h : PtsNew w0 w v ps l) (hs : w0'.heap.size ≤ w0.heap.size) : PtsNew w0' w v ps l :=
  ⟨h.sl, h.cr, fun g hg => Nat.le_trans hs (h.vn g hg), fun p hp g hg => ⟨Nat.le_trans hs (h.cn p hp g hg).1, (h.cn p hp g hg).2⟩, h.ne, h.st⟩
theorem PtsNew.nil (w0 w : World) : PtsNew w0 w (.slice none 0 0) [] [] :=
  ⟨SL.nil _ _ _, by simp, fun g hg => by simp [Value.ownBlock] at hg, by simp, by simp, rfl⟩
/-- a part more -/
theorem PtsNew.put {w0 w w1 w2 : World} {v v' : Value} {ps : List Pt} {l : List Tld} {p : Pt} (h : PtsNew w0 w v ps l) (hb : Below w.heap.size w w1) (hsz : w0.heap.size ≤ w.heap.size)
    (hc : RS w1 1 eInt p.cv p.cl) (hcn : ∀ g, p.cv.ownBlock = some g → w.heap.size ≤ g ∧ g < w1.heap.size)
    (hs : SL w2.heap 72 6 v' (ps.length + 1) (ps.flatMap ePt ++ ePt p)) (ho : Only (fun k => v.ownBlock = some k) w1 w2) (hv : v'.ownBlock = v.ownBlock ∨ v'.ownBlock = some w1.heap.size) : PtsNew w0 w2 v' (ps ++ [p]) (l ++ [strip p]) := by
  have h1 := h.below hb
  have hvl : ∀ g, v.ownBlock = some g → g < w.heap.size := h.sl.lt
  refine ⟨by simpa using hs, fun q hq => ?_, fun g hg => ?_, fun q hq g hg => ?_, fun q hq g hg => ?_, by simp [h.st]⟩
  · rcases List.mem_append.1 hq with hq | hq
    · exact (h1.cr q hq).only ho (fun g hg => h.ne q hq g hg)
    · rw [List.mem_singleton.1 hq]
      exact hc.only ho (fun g hg e => by have := hvl g e; have := (hcn g hg).1; omega)
  · rcases hv with e | e
    · exact h.vn g (by rw [← e]; exact hg)
    · rw [e] at hg; cases hg; have := hb.size; omega
  · have := ho.size
    rcases List.mem_append.1 hq with hq | hq
    · have := h1.cn q hq g hg; omega
    · rw [List.mem_singleton.1 hq] at hg
      have := hcn g hg; omega
  · rcases List.mem_append.1 hq with hq | hq
    · rcases hv with e | e
      · rw [e]; exact h.ne q hq g hg
      · rw [e]; intro e2; cases e2; have := (h1.cn q hq _ hg).2; omega
    · rw [List.mem_singleton.1 hq] at hg
      have h2 := hcn g hg
      rcases hv with e | e
      · rw [e]; intro e2; have := hvl g e2; omega
      · rw [e]; intro e2; cases e2; omega
theorem PtsNew.pts {w0 w : World} {v : Value} {ps : List Pt} {l : List Tld} (h : PtsNew w0 w v ps l) : Pts w v ps := ⟨SL.rs ePt_len' h.sl, h.cr⟩
def ManIs (w0 w : World) (J : Jb) (e : Ending) : Prop := ∃ pv ps, e = .returned (.tuple #[.agg #[.int .i64 J.tr, .int .i64 J.id, .int .i64 J.cl, pv], .bool true]) ∧ PtsNew w0 w pv ps (partsJ J)

section
variable {w : World} {R : Nat → Prop} {jb : Nat} {J : Jb}
set_option maxRecDepth 100000 in
set_option maxHeartbeats 2000000 in
theorem mani_no (h : JbR w R jb J) (hf : J.full = false) : Calls Try.prog 32 #[.pointer (some ⟨jb, 0, none⟩)] w fun e w' => e = .returned (.tuple #[.agg #[.int .i64 0, .int .i64 0, .int .i64 0, .slice none 0 0], .bool false]) ∧ Below w.heap.size w w' := by
  have hA := below_alloc (Below.refl w.heap.size w) (.cells #[.int .i64 0, .int .i64 0, .int .i64 0, .slice none 0 0] 62)
  obtain ⟨D, mb, rows, h0⟩ := h.below hA
  have c6 := h0.cell (j := 6) (u := .bool J.full) rfl
  rw [hf] at c6
  clear h h0
  go_enter Try.func32, Try.ntmps32
  go_wp2
  go_returns
  exact ⟨rfl, hA⟩

set_option maxRecDepth 100000 in
set_option maxHeartbeats 4000000 in
theorem mani_yes (h : JbR w R jb J) (hf : J.full = true) : Calls Try.prog 32 #[.pointer (some ⟨jb, 0, none⟩)] w fun e w' => ManIs w w' J e ∧ Below w.heap.size w w' := by
  have hA := below_alloc (Below.refl w.heap.size w) (.cells #[.int .i64 0, .int .i64 0, .int .i64 0, .slice none 0 0] 62)
  have hbx := heap_new w (.cells #[.int .i64 0, .int .i64 0, .int .i64 0, .slice none 0 0] 62) rfl
  have hlt : w.heap.size < (w.alloc (.cells #[.int .i64 0, .int .i64 0, .int .i64 0, .slice none 0 0] 62)).heap.size := by simp
  obtain ⟨D, mb, rows, h0⟩ := h.below hA
  have c6 := h0.cell (j := 6) (u := .bool J.full) rfl
  rw [hf] at c6
  have c0 := h0.cell (j := 0) (u := .int .i64 J.id) rfl
  have c2 := h0.cell (j := 2) (u := .int .i64 J.tr) rfl
  have c3 := h0.cell (j := 3) (u := .int .i64 J.cl) rfl
  go_enter Try.func32, Try.ntmps32
  go_upto_region 3 with fail
  generalize (w.alloc (.cells #[.int .i64 0, .int .i64 0, .int .i64 0, .slice none 0 0] 62)) = w1 at *
  have z := froz_blk hbx
  have z0 := z 0
  have z1 := z 1
  have z2 := z 2
  have z3 := z 3
  have x0 := cell_blk hbx (j := 0) (u := .int .i64 0) rfl
  have x1 := cell_blk hbx (j := 1) (u := .int .i64 0) rfl
  have x2 := cell_blk hbx (j := 2) (u := .int .i64 0) rfl
  have x3 := cell_blk hbx (j := 3) (u := .slice none 0 0) rfl
  go_cut [] (fun wx => wx.heap[w.heap.size]? = some (.cells #[.int .i64 J.tr, .int .i64 J.id, .int .i64 J.cl, .slice none 0 0] 62 (0, 0)) ∧ Only (· = w.heap.size) w1 wx)
  case first =>
    clear h h0 hA
    go_region
    go_wp2_with fail
    go_meet
    have hdr : ∀ x : World, x.drew.heap = x.heap := fun _ => rfl
    have e0 : (w1.setCell ⟨w.heap.size, 0, none⟩ (.int .i64 J.tr)).heap[w.heap.size]? = some (.cells #[.int .i64 J.tr, .int .i64 0, .int .i64 0, .slice none 0 0] 62 (0, 0)) := (heap_setCell_cells (o := 0) hbx _).trans rfl
    have e1 : ((w1.setCell ⟨w.heap.size, 0, none⟩ (.int .i64 J.tr)).setCell ⟨w.heap.size, 1, none⟩ (.int .i64 J.id)).heap[w.heap.size]? = some (.cells #[.int .i64 J.tr, .int .i64 J.id, .int .i64 0, .slice none 0 0] 62 (0, 0)) := (heap_setCell_cells (o := 1) e0 _).trans rfl
    have e2 : (((w1.setCell ⟨w.heap.size, 0, none⟩ (.int .i64 J.tr)).setCell ⟨w.heap.size, 1, none⟩ (.int .i64 J.id)).setCell ⟨w.heap.size, 2, none⟩ (.int .i64 J.cl)).heap[w.heap.size]? = some (.cells #[.int .i64 J.tr, .int .i64 J.id, .int .i64 J.cl, .slice none 0 0] 62 (0, 0)) := (heap_setCell_cells (o := 2) e1 _).trans rfl
    have e3 : ((((w1.setCell ⟨w.heap.size, 0, none⟩ (.int .i64 J.tr)).setCell ⟨w.heap.size, 1, none⟩ (.int .i64 J.id)).setCell ⟨w.heap.size, 2, none⟩ (.int .i64 J.cl)).setCell ⟨w.heap.size, 3, none⟩ (.slice none 0 0)).heap[w.heap.size]? = some (.cells #[.int .i64 J.tr, .int .i64 J.id, .int .i64 J.cl, .slice none 0 0] 62 (0, 0)) := (heap_setCell_cells (o := 3) e2 _).trans rfl
    refine ⟨?_, (((((Only.refl (· = w.heap.size) w1).setCell (p := ⟨w.heap.size, 0, none⟩) (fun _ => rfl) _).setCell (p := ⟨w.heap.size, 1, none⟩) (fun _ => rfl) _).setCell (p := ⟨w.heap.size, 2, none⟩) (fun _ => rfl) _).setCell (p := ⟨w.heap.size, 3, none⟩) (fun _ => rfl) _).drew⟩
    rw [hdr]
    exact e3
  case rest =>
    obtain ⟨hb2, hO2⟩ := hcut
    have hRlt : ∀ b, R b → b < w.heap.size := h.lt
    have h2 := h0.only hO2 (fun b hb e => by have := hRlt b hb; omega)
    have hw2 : Below w.heap.size w wc := hA.trans (hO2.below hA.size (fun i hi e => by omega))
    have hsz2 := hO2.size
    clear z z0 z1 z2 z3 x0 x1 x2 x3 c0 c2 c3 c6 h0 hbx hA
    go_wp2_with fail
    refine (visited_any ⟨D, mb, rows, h2⟩).mono ?_
    rintro e w3 ⟨v3, rfl, hr3, hn3, hb3⟩
    have h3 := h2.below hb3
    have hw3 := below_trans' hb3 hw2
    have hbx3 := (hb3.block _ (by omega)).trans hb2
    have hsz3 := hb3.size
    obtain ⟨hl3, a3, c3, rfl, _⟩ := id hr3
    have hvl := h3.vlen
    rw [List.length_map] at hr3 hn3 ⊢
    obtain ⟨ip, zp, hip, hzp, hp1, hp2, hp3⟩ := info_at (P := Try.prog) (e := 72) (f := (6, 64, 6)) (by kernel_rfl)
    clear h2 hb2 hO2 hw2 hb3 hl3
    go_wp2
    go_loopw [33] (fun i wr => ∃ (q : Nat) (pv : Value) (ps : List Pt), q ≤ J.vs.length ∧ i = .int .i64 q ∧ ps.length = q ∧ wr.heap[w.heap.size]? = some (.cells #[.int .i64 J.tr, .int .i64 J.id, .int .i64 J.cl, pv] 62 (0, 0)) ∧ PtsNew w3 wr pv ps ((partsJ J).take q) ∧ Only (· = w.heap.size) w3 wr) (fun i _ => J.vs.length - (intOf i).toNat)
    case atStart => exact ⟨0, _, [], Nat.zero_le _, rfl, rfl, hbx3, PtsNew.nil _ _, Only.refl _ _⟩
    case round =>
      obtain ⟨q, pv, ps, hq, rfl, hpl, hbm, hP, hO⟩ := hrel
      clear hbx3
      have hsw := hO.size
      have hbw : Below w.heap.size w wr := hw3.trans (hO.below hw3.size (fun i hi e => by omega))
      obtain ⟨pa, pc, rfl⟩ := hP.sl.form
      have hpl4 : ps.length ≤ 4 := by omega
      have HPL := Lib.hid hpl
      clear hpl
      by_cases hqN : q < J.vs.length
      · have hJ := h3.only hO (fun b hb e => by have := hRlt b hb; omega)
        have hrk := hr3.only hO (fun g hg e => by have := hn3 g hg; omega)
        obtain ⟨⟨k, v⟩, hx⟩ : ∃ x, J.vs[q]? = some x := ⟨_, List.getElem?_eq_getElem hqN⟩
        have hxk : (J.vs.map Prod.fst)[q]? = some k := by rw [List.getElem?_map, hx]; rfl
        obtain ⟨_, a', c', hv', h2'⟩ := hrk
        obtain ⟨b3, o3, ha3, hb3l, hc3⟩ := h2' (by rw [List.length_map]; omega)
        simp only [Value.slice.injEq] at hv'
        obtain ⟨rfl, hbad, rfl⟩ := hv'
        clear hbad
        subst ha3
        have gk : wr.cell? ⟨b3, o3 + q, none⟩ = some (.int .i64 k) := by have := hc3 q k 0 _ hxk rfl; simpa using this
        have hvk := mget_of_mem hJ.ks (List.mem_of_getElem? hx)
        obtain ⟨b, hkb⟩ := hJ.has' hvk
        obtain ⟨cv, hbv, hrc, hDc⟩ := hJ.vis k b v hkb hvk
        have hcl4 := hJ.cls _ (List.mem_of_getElem? hx)
        simp only at hcl4
        obtain ⟨_, ca, cc, rfl, _⟩ := id hrc
        have lk := hJ.look k
        rw [hkb] at lk
        replace lk : (Instr.lookup 139 (.map (some mb)) (.int .i64 k) false).run Try.prog wr = .ok (.pointer (some ⟨b, 0, none⟩)) wr := lk
        have c5 := hJ.cell (j := 5) (u := .map (some mb)) rfl
        have q2 := cell_blk hbv (j := 2) (u := .int .i64 v.a) rfl
        have q3 := cell_blk hbv (j := 3) (u := .int .i64 v.t) rfl
        have q4 := cell_blk hbv (j := 4) (u := .int .i64 v.j) rfl
        have q5 := cell_blk hbv (j := 5) (u := .int .i64 v.n) rfl
        have q6 := cell_blk hbv (j := 6) (u := .slice ca v.cl.length cc) rfl
        have q7 := cell_blk hbv (j := 7) (u := .bool v.l) rfl
        have HT := Lib.hid (show (partsJ J).take (q + 1) = (partsJ J).take q ++ [tld v] by
          rw [List.take_add_one]
          simp [partsJ, hx])
        have hA4 := below_alloc (Below.refl wr.heap.size wr) (.cells #[.int .i64 v.a, .int .i64 v.t, .int .i64 v.j, .int .i64 v.n, .slice ca v.cl.length cc, .bool v.l] 72)
        have hbx4 := heap_new wr (.cells #[.int .i64 v.a, .int .i64 v.t, .int .i64 v.j, .int .i64 v.n, .slice ca v.cl.length cc, .bool v.l] 72) rfl
        have HC := cloneR_any (hrc.only (only_of_below hA4 (fun _ => False)) (fun _ _ => id)) (by omega)
        clear hx hxk hc3 h2' hvk hkb hbv hrc hDc hJ
        go_wp2_with fail
        have hlt4 : wr.heap.size < (wr.alloc (.cells #[.int .i64 v.a, .int .i64 v.t, .int .i64 v.j, .int .i64 v.n, .slice ca v.cl.length cc, .bool v.l] 72)).heap.size := by simp
        generalize (wr.alloc (.cells #[.int .i64 v.a, .int .i64 v.t, .int .i64 v.j, .int .i64 v.n, .slice ca v.cl.length cc, .bool v.l] 72)) = w4 at hA4 hbx4 HC hlt4 ⊢
        refine HC.mono ?_
        rintro e w5 ⟨v5, rfl, hr5, hn5, hb5⟩
        obtain ⟨_, a5, c5', rfl, _⟩ := id hr5
        have hbx5 := (hb5.block _ hlt4).trans hbx4
        have hm5 := ((below_trans' hb5 hA4).block _ (Nat.lt_of_lt_of_le (by omega : w.heap.size < w3.heap.size) hsw)).trans hbm
        have f5 := froz_blk hbx5 4
        have k5 := cell_blk hbx5 (j := 4) (u := .slice ca v.cl.length cc) rfl
        have hset5 : Only (· = wr.heap.size) w5 (w5.setCell ⟨wr.heap.size, 4, none⟩ (.slice a5 v.cl.length c5')) := (Only.refl (· = wr.heap.size) w5).setCell (p := ⟨wr.heap.size, 4, none⟩) (fun _ => rfl) _
        have hbx6 : (w5.setCell ⟨wr.heap.size, 4, none⟩ (.slice a5 v.cl.length c5')).heap[wr.heap.size]? = some (.cells #[.int .i64 v.a, .int .i64 v.t, .int .i64 v.j, .int .i64 v.n, .slice a5 v.cl.length c5', .bool v.l] 72 (0, 0)) := (heap_setCell_cells (o := 4) hbx5 _).trans rfl
        have hm6 := hset5.heap hm5 (fun e => by omega)
        have hb6 : Below wr.heap.size wr (w5.setCell ⟨wr.heap.size, 4, none⟩ (.slice a5 v.cl.length c5')) := (below_trans' hb5 hA4).trans (hset5.below (below_trans' hb5 hA4).size (fun i hi e => by omega))
        have hr6 := hr5.only hset5 (fun g hg e => by have := (hn5 g hg).1; omega)
        have hs6 := hset5.size
        clear HC hr5 hbx5 hm5 hset5 lk c5 q2 q3 q4 q5 q6 q7 gk
        go_upto_region 9 with fail
        generalize (w5.setCell ⟨wr.heap.size, 4, none⟩ (.slice a5 v.cl.length c5')) = w6 at hbx6 hm6 hb6 hr6 hs6 ⊢
        have y0 := cell_blk hbx6 (j := 0) (u := .int .i64 v.a) rfl
        have y1 := cell_blk hbx6 (j := 1) (u := .int .i64 v.t) rfl
        have y2 := cell_blk hbx6 (j := 2) (u := .int .i64 v.j) rfl
        have y3 := cell_blk hbx6 (j := 3) (u := .int .i64 v.n) rfl
        have y4 := cell_blk hbx6 (j := 4) (u := .slice a5 v.cl.length c5') rfl
        have y5 := cell_blk hbx6 (j := 5) (u := .bool v.l) rfl
        have m3 := cell_blk hm6 (j := 3) (u := .slice pa ps.length pc) rfl
        clear k5 f5 hbx4
        go_wp2_with (at_builtin; refine halt ?_)
        refine Halt.go ?_
        have hA7 := below_alloc hb6 (.cells (ePt ⟨v.a, v.t, v.j, v.n, .slice a5 v.cl.length c5', v.cl, v.l⟩).toArray 72)
        refine wpList_appd (v := .slice pa ps.length pc) rfl _ _ _ rfl Try.underlying60 hip hzp hp1 hp2 hp3 rfl ((hP.below hA7).sl) (m := 1) (news := ePt ⟨v.a, v.t, v.j, v.n, .slice a5 v.cl.length c5', v.cl, v.l⟩) rfl rfl (cells_new _ _ _ rfl) (by simp [ePt, Value.oneCell']) (by unfold maxLen; omega) (by omega) ?_
        rintro v7 w7 hs7 ho7 hv7
        have hP7 := hP.put (p := ⟨v.a, v.t, v.j, v.n, .slice a5 v.cl.length c5', v.cl, v.l⟩) hA7 hsw (hr6.only (only_of_below (below_alloc (Below.refl w6.heap.size w6) _) (fun _ => False)) (fun _ _ => id)) (fun g hg => ⟨by have := (hn5 g hg).1; have := hA4.size; omega, by have := (hn5 g hg).2; simp; omega⟩) hs7 ho7 hv7
        have hmp : ∀ g, (Value.slice pa ps.length pc).ownBlock = some g → g ≠ w.heap.size := fun g hg e => by have := hP.vn g hg; omega
        have hm7 := ho7.heap (below_alloc (Below.refl w6.heap.size w6) (.cells (ePt ⟨v.a, v.t, v.j, v.n, .slice a5 v.cl.length c5', v.cl, v.l⟩).toArray 72) |>.block _ (Array.getElem?_eq_some_iff.1 hm6).1 |>.trans hm6) (fun e => hmp _ e rfl)
        obtain ⟨a7, c7, rfl⟩ := hs7.form
        have f7 := froz_blk hm7 3
        have k7 := cell_blk hm7 (j := 3) (u := .slice pa ps.length pc) rfl
        have hset : Only (· = w.heap.size) w7 (w7.setCell ⟨w.heap.size, 3, none⟩ (.slice a7 (ps.length + 1) c7)) := (Only.refl (· = w.heap.size) w7).setCell (p := ⟨w.heap.size, 3, none⟩) (fun _ => rfl) _
        have hm8 : (w7.setCell ⟨w.heap.size, 3, none⟩ (.slice a7 (ps.length + 1) c7)).heap[w.heap.size]? = some (.cells #[.int .i64 J.tr, .int .i64 J.id, .int .i64 J.cl, .slice a7 (ps.length + 1) c7] 62 (0, 0)) := (heap_setCell_cells (o := 3) hm7 _).trans rfl
        have hP8 := hP7.only hset (fun b hb1 hb2 e => by omega)
        have hO8 : Only (· = w.heap.size) w3 (w7.setCell ⟨w.heap.size, 3, none⟩ (.slice a7 (ps.length + 1) c7)) := ((hO.trans (only_of_below hA7 _)).trans' ho7 (fun i hi e => by have := hP.vn i e; omega)).trans hset
        clear hs7 ho7 hv7 hP7 hm7 hset hA7 y0 y1 y2 y3 y4 y5 m3 hm6 hbx6 hr6 hb6 hb5 hn5 hP hbm hA4 hmp
        go_wp2
        exact ⟨⟨q + 1, _, ps ++ [⟨v.a, v.t, v.j, v.n, .slice a5 v.cl.length c5', v.cl, v.l⟩], by omega, by go_num, by rw [List.length_append, HPL.out]; rfl, hm8, by rw [HT.out]; exact hP8, hO8⟩, by simp [intOf]; omega⟩
      · have hqe : q = J.vs.length := by omega
        have HE := Lib.hid (show (partsJ J).take q = partsJ J by rw [List.take_of_length_le]; simp [partsJ]; omega)
        have m0 := cell_blk hbm (j := 0) (u := .int .i64 J.tr) rfl
        have m1 := cell_blk hbm (j := 1) (u := .int .i64 J.id) rfl
        have m2 := cell_blk hbm (j := 2) (u := .int .i64 J.cl) rfl
        have m3 := cell_blk hbm (j := 3) (u := .slice pa ps.length pc) rfl
        have z := froz_blk hbm
        have z0 := z 0
        have z1 := z 1
        have z2 := z 2
        have z3 := z 3
        have e0 : (wr.setCell ⟨w.heap.size, 0, none⟩ (.int .i64 J.tr)).heap[w.heap.size]? = some (.cells #[.int .i64 J.tr, .int .i64 J.id, .int .i64 J.cl, .slice pa ps.length pc] 62 (0, 0)) := (heap_setCell_cells (o := 0) hbm _).trans rfl
        have e1 : ((wr.setCell ⟨w.heap.size, 0, none⟩ (.int .i64 J.tr)).setCell ⟨w.heap.size, 1, none⟩ (.int .i64 J.id)).heap[w.heap.size]? = some (.cells #[.int .i64 J.tr, .int .i64 J.id, .int .i64 J.cl, .slice pa ps.length pc] 62 (0, 0)) := (heap_setCell_cells (o := 1) e0 _).trans rfl
        have e2 : (((wr.setCell ⟨w.heap.size, 0, none⟩ (.int .i64 J.tr)).setCell ⟨w.heap.size, 1, none⟩ (.int .i64 J.id)).setCell ⟨w.heap.size, 2, none⟩ (.int .i64 J.cl)).heap[w.heap.size]? = some (.cells #[.int .i64 J.tr, .int .i64 J.id, .int .i64 J.cl, .slice pa ps.length pc] 62 (0, 0)) := (heap_setCell_cells (o := 2) e1 _).trans rfl
        have e3 : ((((wr.setCell ⟨w.heap.size, 0, none⟩ (.int .i64 J.tr)).setCell ⟨w.heap.size, 1, none⟩ (.int .i64 J.id)).setCell ⟨w.heap.size, 2, none⟩ (.int .i64 J.cl)).setCell ⟨w.heap.size, 3, none⟩ (.slice pa ps.length pc)).heap[w.heap.size]? = some (.cells #[.int .i64 J.tr, .int .i64 J.id, .int .i64 J.cl, .slice pa ps.length pc] 62 (0, 0)) := (heap_setCell_cells (o := 3) e2 _).trans rfl
        have hset : Only (· = w.heap.size) wr ((((wr.setCell ⟨w.heap.size, 0, none⟩ (.int .i64 J.tr)).setCell ⟨w.heap.size, 1, none⟩ (.int .i64 J.id)).setCell ⟨w.heap.size, 2, none⟩ (.int .i64 J.cl)).setCell ⟨w.heap.size, 3, none⟩ (.slice pa ps.length pc)) := (((((Only.refl (· = w.heap.size) wr).setCell (p := ⟨w.heap.size, 0, none⟩) (fun _ => rfl) _).setCell (p := ⟨w.heap.size, 1, none⟩) (fun _ => rfl) _).setCell (p := ⟨w.heap.size, 2, none⟩) (fun _ => rfl) _).setCell (p := ⟨w.heap.size, 3, none⟩) (fun _ => rfl) _)
        have hP9 := (hP.only hset (fun b hb1 hb2 e => by omega)).since (w0' := w) (by omega)
        rw [HE.out] at hP9
        have hb9 := hbw.trans (hset.below hbw.size (fun i hi e => by omega))
        clear hset hP hbm z e0 e1 e2 hO h3 hr3
        subst hqe
        go_wp2
        generalize ((((wr.setCell ⟨w.heap.size, 0, none⟩ (.int .i64 J.tr)).setCell ⟨w.heap.size, 1, none⟩ (.int .i64 J.id)).setCell ⟨w.heap.size, 2, none⟩ (.int .i64 J.cl)).setCell ⟨w.heap.size, 3, none⟩ (.slice pa ps.length pc)) = w9 at e3 hP9 hb9 ⊢
        have x0 := cell_blk e3 (j := 0) (u := .int .i64 J.tr) rfl
        have x1 := cell_blk e3 (j := 1) (u := .int .i64 J.id) rfl
        have x2 := cell_blk e3 (j := 2) (u := .int .i64 J.cl) rfl
        have x3 := cell_blk e3 (j := 3) (u := .slice pa ps.length pc) rfl
        refine bodyPost_ret (by simp [results, Try.results32, go_sem, x0, x1, x2, x3]; try rfl) rfl ?_
        exact ⟨⟨_, ps, rfl, hP9⟩, hb9⟩
end
end Go.Proofs.Ytniggacgkhkgiaa.Job
