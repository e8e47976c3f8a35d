/- What job's unpinned and pinned do. Conditions: the job lies in memory as Jrep says; the message may be. -/
import Derived.Test.YtniggacgkhkgiaaPkJobPlays11
import Derived.RegionTactic
import Derived.BigRegion
import Derived.Outline
import Derived.Deep.DeepCutAuto
namespace Go.Proofs.Ytniggacgkhkgiaa.Job
open Go.RowKit Go.Sp Msg

/-- a job's turn, told by JOut, out of a Jrep's one -/
theorem JOut.of {w w' : World} {R R' D' : Nat → Prop} {jb mb : Nat} {J' : Jb} {rows' : List (Int × Nat)} (h : Jrep w' R' D' jb mb J' rows') (hR : ∀ b, R' b → R b ∨ w.heap.size ≤ b) (hO : Only R w w') : JOut w R jb J' w' := ⟨R', ⟨D', mb, rows', h⟩, hR, hO⟩

set_option maxRecDepth 100000 in
set_option maxHeartbeats 2000000 in
theorem unpinned_any {w : World} {R D : Nat → Prop} {jb mb : Nat} {J : Jb} {rows : List (Int × Nat)} (h : Jrep w R D jb mb J rows) {k : Int} {b : Nat} {v : Vis} (hk : mget k rows = some b) (hv : mget k J.vs = some v) :
    Calls Try.prog 77 #[.pointer (some ⟨jb, 0, none⟩), .pointer (some ⟨b, 0, none⟩)] w fun e w' => e = .returned (.tuple #[]) ∧ JOut w R jb (freeJ J k v) w' := by
  have c4 := h.cell (j := 4) (u := .int .i64 J.ph) rfl
  by_cases h3 : J.ph = 3
  · have b1 : (J.ph != 3) = false := by simp [h3]
    obtain ⟨cv, hbv, hr, hD⟩ := h.vis k b v hk hv
    have fz := froz_blk hbv 1
    have g1 := cell_blk hbv (j := 1) (u := .bool v.free) rfl
    have hset : Only (· = b) w (w.setCell ⟨b, 1, none⟩ (.bool true)) := (Only.refl (· = b) w).setCell (p := ⟨b, 1, none⟩) (fun _ => rfl) _
    have hb2 : (w.setCell ⟨b, 1, none⟩ (.bool true)).heap[b]? = some (.cells (eVis { v with free := true } cv) 138 (0, 0)) := by rw [heap_setCell_cells (o := 1) hbv]; rfl
    obtain ⟨h2, hO2⟩ := h.turnV (v' := { v with free := true }) hk hset hb2 (hr.only hset (fun g hg e => (h.rown k b hk).2 (by rw [← e]; exact hD g hg))) (h.cls _ (mget_mem hv)) (fun g hg => .inl (hD g hg))
    have hR2 : ∀ x, (R x ∨ cv.ownBlock = some x) → R x ∨ w.heap.size ≤ x := fun x hx => by
      rcases hx with hx | hx
      · exact .inl hx
      · exact .inl (h.dr _ (hD x hx))
    have c4' := h2.cell (j := 4) (u := .int .i64 J.ph) rfl
    have f4' := h2.froz 4
    have HA := all_free h2
    have HV : freeVs J k v = mput k { v with free := true } J.vs := rfl
    have hF : freeJ J k v = bif allV (fun v => v.free) (freeVs J k v) then { J with vs := freeVs J k v, ph := 4 } else { J with vs := freeVs J k v } := by simp [freeJ, h3]
    rw [← HV] at HA h2
    rw [hF]
    have HJ4 := fun w2 (hb : Below _ _ w2) => (h2.below hb)
    clear h3 hF h hbv hset hb2 hv hk HV
    generalize freeVs J k v = vs' at *
    simp only at HA
    generalize allV (fun v => v.free) vs' = ok at *
    go_enter Try.func77, Try.ntmps77
    go_wp2_with fail
    generalize w.setCell ⟨b, 1, none⟩ (.bool true) = w1 at *
    refine HA.mono ?_
    rintro e w2 ⟨rfl, hb2⟩
    have h3 := h2.below hb2
    have hO3 := hO2.trans (only_of_below hb2 R)
    clear HA HJ4 h2 hb2 c4' f4' hO2
    cases ok with
    | false =>
      go_wp2
      go_end0
      exact ⟨rfl, JOut.of h3 hR2 hO3⟩
    | true =>
      have f4 := h3.froz 4
      have c4 := h3.cell (j := 4) (u := .int .i64 J.ph) rfl
      have hset : Only (· = jb) w2 (w2.setCell ⟨jb, 4, none⟩ (.int .i64 4)) := (Only.refl (· = jb) w2).setCell (p := ⟨jb, 4, none⟩) (fun _ => rfl) _
      obtain ⟨h4, hO4⟩ := h3.turnJ (J' := { J with vs := vs', ph := 4 }) hset (by rw [heap_setCell_cells (o := 4) h3.blk]; rfl) rfl
      have hO5 := hO3.trans' hO4 (fun i hi e => by
        rcases hR2 i e with e | e
        · exact e
        · omega)
      clear h3 hO3 hO4 hset
      go_wp2
      go_end0
      exact ⟨rfl, JOut.of h4 hR2 hO5⟩
  · have b1 : (J.ph != 3) = true := by simp [h3]
    have hF : freeJ J k v = J := by simp [freeJ, h3]
    rw [hF]
    have HS := JOut.same ⟨D, mb, rows, h⟩ (Below.refl w.heap.size w)
    clear h3 hF h
    go_enter Try.func77, Try.ntmps77
    go_wp2
    go_returns
    exact ⟨rfl, HS⟩

theorem agOk_in : ∀ {l : List Int} {x : Int}, agOk x l = true → ∀ c ∈ l, x < c ∧ c < 4
  | [], _, _, c, hc => by simp at hc
  | y :: r, x, h, c, hc => by
    unfold agOk at h
    simp only [Bool.and_eq_true, decide_eq_true_eq] at h
    rcases List.mem_cons.1 hc with rfl | hc
    · omega
    · have := agOk_in (l := r) (x := y) (by first | exact h.2 | exact h.2.2) c hc
      omega
theorem addC_keys {ag c : Int} {vs : List (Int × Vis)} (hs : KS vs) (hk : ∀ p ∈ vs, 0 ≤ p.1 ∧ p.1 < 4) (hc : 0 ≤ c ∧ c < 4) : KS (addC ag vs c) ∧ ∀ p ∈ addC ag vs c, 0 ≤ p.1 ∧ p.1 < 4 := by
  unfold addC
  cases decide (c < ag) && (mget c vs).isNone with
  | false => exact ⟨hs, hk⟩
  | true =>
    refine ⟨hs.mput, fun p hp => ?_⟩
    rcases mem_mput hp with rfl | hp
    · exact hc
    · exact hk p hp

set_option maxRecDepth 100000 in
set_option maxHeartbeats 4000000 in
theorem pinned_any {w : World} {R D : Nat → Prop} {jb mb : Nat} {J : Jb} {rows : List (Int × Nat)} (h : Jrep w R D jb mb J rows) {k : Int} {b : Nat} {v : Vis} (hk : mget k rows = some b) (hv : mget k J.vs = some v)
    {p : Pt} (hp : RS w 1 eInt p.cv p.cl) (hag : agOk (-1) p.cl = true) (hcl : p.cl.length ≤ 4) :
    Calls Try.prog 76 #[.pointer (some ⟨jb, 0, none⟩), .pointer (some ⟨b, 0, none⟩), .agg #[.int .i64 p.a, .int .i64 p.t, .int .i64 p.j, .int .i64 p.n, p.cv, .bool p.l]] w fun e w' => e = .returned (.tuple #[]) ∧ JOut w R jb (pinJ J k v p) w' := by
  obtain ⟨pa, pt, pj, pn, pcv, pcl, pl⟩ := p
  simp only at hp hag hcl ⊢
  obtain ⟨_, ca, cc, rfl, _⟩ := id hp
  have hA := below_alloc (Below.refl w.heap.size w) (.cells #[.int .i64 pa, .int .i64 pt, .int .i64 pj, .int .i64 pn, .slice ca pcl.length cc, .bool pl] 72)
  have hbx := heap_new w (.cells #[.int .i64 pa, .int .i64 pt, .int .i64 pj, .int .i64 pn, .slice ca pcl.length cc, .bool pl] 72) rfl
  have h0 := h.below hA
  have hp0 := hp.only (only_of_below hA (fun _ => False)) (fun _ _ => id)
  have c4 := h0.cell (j := 4) (u := .int .i64 J.ph) rfl
  obtain ⟨cv, hbv, hr, hD⟩ := h0.vis k b v hk hv
  have g0 := cell_blk hbv (j := 0) (u := .bool v.pin) rfl
  have HS := JOut.same ⟨D, mb, rows, h⟩ hA
  by_cases h1 : J.ph = 1
  · have b1 : (J.ph != 1) = false := by simp [h1]
    cases hpin : v.pin with
    | true =>
      rw [hpin] at g0
      have hF : pinJ J k v ⟨pa, pt, pj, pn, .slice ca pcl.length cc, pcl, pl⟩ = J := by simp [pinJ, h1, hpin]
      rw [hF]
      clear hF hpin h1 h0 hbv
      go_enter Try.func76, Try.ntmps76
      go_wp2
      go_returns
      exact ⟨rfl, HS⟩
    | false =>
      rw [hpin] at g0
      obtain ⟨vs', hvs'⟩ : ∃ vs', vs' = pinVs J k v ⟨pa, pt, pj, pn, .slice ca pcl.length cc, pcl, pl⟩ := ⟨_, rfl⟩
      obtain ⟨JN, hJN⟩ : ∃ JN, JN = pinJ J k v ⟨pa, pt, pj, pn, .slice ca pcl.length cc, pcl, pl⟩ := ⟨_, rfl⟩
      have HT := Lib.hid (show allV (fun v => v.pin) vs' = true → JN = { J with vs := vs', ph := 2, full := true } from fun e => by rw [hJN, hvs'] at *; simp [pinJ, h1, hpin, e])
      have HFl := Lib.hid (show allV (fun v => v.pin) vs' = false → JN = { J with vs := vs' } from fun e => by rw [hJN, hvs'] at *; simp [pinJ, h1, hpin, e])
      have HPV0 := Lib.hid hvs'
      rw [← hJN]
      have hlt : w.heap.size < (w.alloc (.cells #[.int .i64 pa, .int .i64 pt, .int .i64 pj, .int .i64 pn, .slice ca pcl.length cc, .bool pl] 72)).heap.size := by simp
      clear hJN hvs' hpin h1 HS
      have HC := cloneR_any hp0 (by omega)
      go_enter Try.func76, Try.ntmps76
      go_wp2_with fail
      generalize (w.alloc (.cells #[.int .i64 pa, .int .i64 pt, .int .i64 pj, .int .i64 pn, .slice ca pcl.length cc, .bool pl] 72)) = w1 at *
      refine HC.mono ?_
      rintro e w2 ⟨v2, rfl, hr2, hn2, hb2⟩
      obtain ⟨_, a2, c2, rfl, _⟩ := id hr2
      have h2 := h0.below hb2
      have hbx2 := (hb2.block _ hlt).trans hbx
      have f2 := froz_blk hbx2 4
      have k2 := cell_blk hbx2 (j := 4) (u := .slice ca pcl.length cc) rfl
      have hxb : ¬ R w.heap.size := fun e => by have := h.rlt _ e; omega
      have hset : Only (· = w.heap.size) w2 (w2.setCell ⟨w.heap.size, 4, none⟩ (.slice a2 pcl.length c2)) := (Only.refl (· = w.heap.size) w2).setCell (p := ⟨w.heap.size, 4, none⟩) (fun _ => rfl) _
      have h3 := h2.only hset (fun x hx e => hxb (by rw [← e]; exact hx))
      have hbx3 : (w2.setCell ⟨w.heap.size, 4, none⟩ (.slice a2 pcl.length c2)).heap[w.heap.size]? = some (.cells #[.int .i64 pa, .int .i64 pt, .int .i64 pj, .int .i64 pn, .slice a2 pcl.length c2, .bool pl] 72 (0, 0)) := by rw [heap_setCell_cells (o := 4) hbx2]; rfl
      have hr3 := hr2.only hset (fun g hg e => by have := (hn2 g hg).1; omega)
      have hO3 : Only R w (w2.setCell ⟨w.heap.size, 4, none⟩ (.slice a2 pcl.length c2)) := (only_of_below (below_trans' hb2 hA) R).trans' hset (fun i hi e => by omega)
      have hsz3 := hset.size
      clear HC h0 hbx hbv hr hD c4 g0 hb2 hbx2 hset h2
      go_upto_region 3 with fail
      generalize (w2.setCell ⟨w.heap.size, 4, none⟩ (.slice a2 pcl.length c2)) = w3 at h3 hbx3 hr3 hO3 hsz3 ⊢
      obtain ⟨cv, hbv, hr, hD⟩ := h3.vis k b v hk hv
      have q0 := cell_blk hbv (j := 0) (u := .bool v.pin) rfl
      have q2 := cell_blk hbv (j := 2) (u := .int .i64 v.a) rfl
      have q3 := cell_blk hbv (j := 3) (u := .int .i64 v.t) rfl
      have q4 := cell_blk hbv (j := 4) (u := .int .i64 v.j) rfl
      have q5 := cell_blk hbv (j := 5) (u := .int .i64 v.n) rfl
      have q6 := cell_blk hbv (j := 6) (u := cv) rfl
      have q7 := cell_blk hbv (j := 7) (u := .bool v.l) rfl
      have z := froz_blk hbv
      have x0 := cell_blk hbx3 (j := 0) (u := .int .i64 pa) rfl
      have x1 := cell_blk hbx3 (j := 1) (u := .int .i64 pt) rfl
      have x2 := cell_blk hbx3 (j := 2) (u := .int .i64 pj) rfl
      have x3 := cell_blk hbx3 (j := 3) (u := .int .i64 pn) rfl
      have x4 := cell_blk hbx3 (j := 4) (u := .slice a2 pcl.length c2) rfl
      have x5 := cell_blk hbx3 (j := 5) (u := .bool pl) rfl
      have hne : w.heap.size ≠ b := cells_ne hbx3 hbv (by decide)
      go_cut [] (fun wx => wx.heap[b]? = some (.cells (eVis ⟨true, v.free, pa, pt, pj, pn, pcl, pl⟩ (.slice a2 pcl.length c2)) 138 (0, 0)) ∧ Only (· = b) w3 wx)
      case first =>
        clear h hk hv h3 hr3 hO3 hr hD
        go_region
        go_wp2_with fail
        go_meet
        have hdr : ∀ x : World, x.drew.heap = x.heap := fun _ => rfl
        have e0 : (w3.setCell ⟨b, 0, none⟩ (.bool true)).heap[b]? = some (.cells #[.bool true, .bool v.free, .int .i64 v.a, .int .i64 v.t, .int .i64 v.j, .int .i64 v.n, cv, .bool v.l] 138 (0, 0)) := (heap_setCell_cells (o := 0) hbv (.bool true)).trans rfl
        have e2 : ((w3.setCell ⟨b, 0, none⟩ (.bool true)).setCell ⟨b, 2, none⟩ (.int .i64 pa)).heap[b]? = some (.cells #[.bool true, .bool v.free, .int .i64 pa, .int .i64 v.t, .int .i64 v.j, .int .i64 v.n, cv, .bool v.l] 138 (0, 0)) := (heap_setCell_cells (o := 2) e0 (.int .i64 pa)).trans rfl
        have e3 : (((w3.setCell ⟨b, 0, none⟩ (.bool true)).setCell ⟨b, 2, none⟩ (.int .i64 pa)).setCell ⟨b, 3, none⟩ (.int .i64 pt)).heap[b]? = some (.cells #[.bool true, .bool v.free, .int .i64 pa, .int .i64 pt, .int .i64 v.j, .int .i64 v.n, cv, .bool v.l] 138 (0, 0)) := (heap_setCell_cells (o := 3) e2 (.int .i64 pt)).trans rfl
        have e4 : ((((w3.setCell ⟨b, 0, none⟩ (.bool true)).setCell ⟨b, 2, none⟩ (.int .i64 pa)).setCell ⟨b, 3, none⟩ (.int .i64 pt)).setCell ⟨b, 4, none⟩ (.int .i64 pj)).heap[b]? = some (.cells #[.bool true, .bool v.free, .int .i64 pa, .int .i64 pt, .int .i64 pj, .int .i64 v.n, cv, .bool v.l] 138 (0, 0)) := (heap_setCell_cells (o := 4) e3 (.int .i64 pj)).trans rfl
        have e5 : (((((w3.setCell ⟨b, 0, none⟩ (.bool true)).setCell ⟨b, 2, none⟩ (.int .i64 pa)).setCell ⟨b, 3, none⟩ (.int .i64 pt)).setCell ⟨b, 4, none⟩ (.int .i64 pj)).setCell ⟨b, 5, none⟩ (.int .i64 pn)).heap[b]? = some (.cells #[.bool true, .bool v.free, .int .i64 pa, .int .i64 pt, .int .i64 pj, .int .i64 pn, cv, .bool v.l] 138 (0, 0)) := (heap_setCell_cells (o := 5) e4 (.int .i64 pn)).trans rfl
        have e6 : ((((((w3.setCell ⟨b, 0, none⟩ (.bool true)).setCell ⟨b, 2, none⟩ (.int .i64 pa)).setCell ⟨b, 3, none⟩ (.int .i64 pt)).setCell ⟨b, 4, none⟩ (.int .i64 pj)).setCell ⟨b, 5, none⟩ (.int .i64 pn)).setCell ⟨b, 6, none⟩ (.slice a2 pcl.length c2)).heap[b]? = some (.cells #[.bool true, .bool v.free, .int .i64 pa, .int .i64 pt, .int .i64 pj, .int .i64 pn, (.slice a2 pcl.length c2), .bool v.l] 138 (0, 0)) := (heap_setCell_cells (o := 6) e5 (.slice a2 pcl.length c2)).trans rfl
        have e7 : (((((((w3.setCell ⟨b, 0, none⟩ (.bool true)).setCell ⟨b, 2, none⟩ (.int .i64 pa)).setCell ⟨b, 3, none⟩ (.int .i64 pt)).setCell ⟨b, 4, none⟩ (.int .i64 pj)).setCell ⟨b, 5, none⟩ (.int .i64 pn)).setCell ⟨b, 6, none⟩ (.slice a2 pcl.length c2)).setCell ⟨b, 7, none⟩ (.bool pl)).heap[b]? = some (.cells #[.bool true, .bool v.free, .int .i64 pa, .int .i64 pt, .int .i64 pj, .int .i64 pn, (.slice a2 pcl.length c2), .bool pl] 138 (0, 0)) := (heap_setCell_cells (o := 7) e6 (.bool pl)).trans rfl
        refine ⟨?_, (((((((((Only.refl (· = b) w3).setCell (p := ⟨b, 0, none⟩) (fun _ => rfl) _).setCell (p := ⟨b, 2, none⟩) (fun _ => rfl) _).setCell (p := ⟨b, 3, none⟩) (fun _ => rfl) _).setCell (p := ⟨b, 4, none⟩) (fun _ => rfl) _).setCell (p := ⟨b, 5, none⟩) (fun _ => rfl) _).setCell (p := ⟨b, 6, none⟩) (fun _ => rfl) _).setCell (p := ⟨b, 7, none⟩) (fun _ => rfl) _).drew)⟩
        rw [hdr]
        exact e7
      case rest =>
        obtain ⟨hb4, hO4⟩ := hcut
        have hnb : ∀ g, (Value.slice a2 pcl.length c2).ownBlock = some g → g ≠ b := fun g hg e => by
          have := (hn2 g hg).1
          have := h.rlt _ (h.rown k b hk).1
          omega
        obtain ⟨h4, hO4'⟩ := h3.turnV (v' := ⟨true, v.free, pa, pt, pj, pn, pcl, pl⟩) (cv := .slice a2 pcl.length c2) hk hO4 hb4 (hr3.only hO4 hnb) hcl (fun g hg => .inr ⟨fun e => by have := (hn2 g hg).1; have := h.rlt _ e; omega, by have := (hn2 g hg).2; have := hO4.size; omega⟩)
        have hr4 := hr3.only hO4 hnb
        have hbx4 := hO4.heap hbx3 hne
        have hO5 := hO3.trans hO4'
        have hR4 : ∀ x, (R x ∨ (Value.slice a2 pcl.length c2).ownBlock = some x) → R x ∨ w.heap.size ≤ x := fun x hx => by
          rcases hx with hx | hx
          · exact .inl hx
          · have := (hn2 x hx).1; exact .inr (by omega)
        have hxb4 : ¬ (R w.heap.size ∨ (Value.slice a2 pcl.length c2).ownBlock = some w.heap.size) := fun e => by
          rcases e with e | e
          · exact hxb e
          · have := (hn2 _ e).1; omega
        have hmb : ∀ g, (Value.slice a2 pcl.length c2).ownBlock = some g → g ≠ mb := fun g hg e => by
          have := (hn2 g hg).1
          have := h.rlt _ h.rm
          omega
        have hJ : ({ J with vs := mput k ⟨true, v.free, pa, pt, pj, pn, pcl, pl⟩ J.vs } : Jb) = { J with vs := addCs J.ag (mput k (toldV v ⟨pa, pt, pj, pn, .slice ca pcl.length cc, pcl, pl⟩) J.vs) (pcl.take 0) } := rfl
        rw [hJ] at h4
        have HPV := Lib.hid (show vs' = addCs J.ag (mput k (toldV v ⟨pa, pt, pj, pn, .slice ca pcl.length cc, pcl, pl⟩) J.vs) (pcl.take pcl.length) by rw [HPV0.out, List.take_length]; rfl)
        generalize mput k (toldV v ⟨pa, pt, pj, pn, .slice ca pcl.length cc, pcl, pl⟩) J.vs = vs0 at h4 HPV
        obtain ⟨R4, hR4e⟩ : ∃ R4 : Nat → Prop, R4 = fun x => R x ∨ (Value.slice a2 pcl.length c2).ownBlock = some x := ⟨_, rfl⟩
        have hR4' : ∀ x, R4 x → R x ∨ w.heap.size ≤ x := fun x hx => by rw [hR4e] at hx; exact hR4 x hx
        rw [← hR4e] at h4
        have k4 := cell_blk hbx4 (j := 4) (u := .slice a2 pcl.length c2) rfl
        clear hbv q0 q2 q3 q4 q5 q6 q7 z x0 x1 x2 x3 x4 x5 hne h3 hr3 hO3 hbx3 hr hD hO4 hb4 hO4' hJ hR4 hxb4 hnb hsz3 hn2 hxb hR4e hA hlt
        go_wp2
        go_loopw [33] (fun i wr => ∃ (q : Nat) (R' D' : Nat → Prop) (rows' : List (Int × Nat)), q ≤ pcl.length ∧ i = .int .i64 q ∧ Jrep wr R' D' jb mb { J with vs := addCs J.ag vs0 (pcl.take q) } rows' ∧ (∀ x, R' x → R x ∨ w.heap.size ≤ x) ∧ Only R w wr ∧ RS wr 1 eInt (.slice a2 pcl.length c2) pcl) (fun i _ => pcl.length - (intOf i).toNat)
        case atStart => exact ⟨0, _, _, _, Nat.zero_le _, rfl, h4, hR4', hO5, hr4⟩
        case round =>
          obtain ⟨q, R', D', rows', hq, rfl, hJ, hR', hO, hrc⟩ := hrel
          clear h4 hR4' hO5 hr4 k4 hbx4
          by_cases hqN : q < pcl.length
          · obtain ⟨b2, o2, cc2, hv2, hb2l, hc2⟩ := hrc.int (by omega)
            simp only [Value.slice.injEq] at hv2
            obtain ⟨rfl, _, rfl⟩ := hv2
            obtain ⟨c, hc⟩ : ∃ c, pcl[q]? = some c := ⟨_, List.getElem?_eq_getElem hqN⟩
            have gc := hc2 q c hc
            have hc03 : 0 ≤ c ∧ c < 4 := by have := agOk_in hag c (List.mem_of_getElem? hc); omega
            have c1 := hJ.cell (j := 1) (u := .int .i64 J.ag) rfl
            have c5 := hJ.cell (j := 5) (u := .map (some mb)) rfl
            have hAdd : addCs J.ag vs0 (pcl.take (q + 1)) = addC J.ag (addCs J.ag vs0 (pcl.take q)) c := by
              rw [List.take_add_one, hc]
              simp [addCs, List.foldl_append]
            have HAdd := Lib.hid hAdd
            have hkey := hJ.key c
            simp only at hkey
            have lk := hJ.look c
            clear hc2 hc hAdd
            generalize addCs J.ag vs0 (pcl.take q) = vq at *
            by_cases hlt : c < J.ag
            · have d1 : decide (c < J.ag) = true := decide_eq_true hlt
              cases hm : mget c rows' with
              | some b5 =>
                rw [hm] at lk
                replace lk : (Instr.lookup 139 (.map (some mb)) (.int .i64 c) false).run Try.prog wr = .ok (.pointer (some ⟨b5, 0, none⟩)) wr := lk
                have hne : mget c vq ≠ none := fun e => by rw [hkey.2 e] at hm; cases hm
                have HE := Lib.hid (show addC J.ag vq c = vq by
                  unfold addC
                  cases e : mget c vq with
                  | none => exact absurd e hne
                  | some x => simp)
                clear hm hne hkey
                go_wp2
                exact ⟨⟨q + 1, R', D', rows', by omega, by go_num, by rw [HAdd.out, HE.out]; exact hJ, hR', hO, hrc⟩, by simp [intOf]; omega⟩
              | none =>
                rw [hm] at lk
                replace lk : (Instr.lookup 139 (.map (some mb)) (.int .i64 c) false).run Try.prog wr = .ok (.pointer none) wr := lk
                have HE := Lib.hid (show addC J.ag vq c = mput c zVis vq by unfold addC; rw [d1, hkey.1 hm]; rfl)
                have hA8 := below_alloc (Below.refl wr.heap.size wr) (.cells (eVis zVis (.slice none 0 0)) 138)
                have hb8 := heap_new wr (.cells (eVis zVis (.slice none 0 0)) 138) rfl
                have c5' := cell_alloc c5 (.cells (eVis zVis (.slice none 0 0)) 138)
                have NV := fun w9 hI hO => hJ.newV (w2 := w9) hm hc03 rfl hA8 hb8 hI hO
                have hI8 := hJ.mp.alloc (.cells (eVis zVis (.slice none 0 0)) 138)
                have HM := Lib.hid hm
                clear hm hkey hA8 hb8
                go_wp2_with (at_mapUpdate; refine halt ?_)
                refine Halt.go ?_
                refine wpList_upd (enc := ePtr) wr.heap.size rfl _ _ _ _ rfl Try.underlying139 Try.underlying3 rfl rfl rfl (WalkArith.wf_i64 (by omega)) (by exact hI8) ?_
                rintro w9 hI9 hO9
                obtain ⟨h9, hO10⟩ := NV w9 hI9 hO9
                have hO11 := hO.trans' hO10 (fun i hi e => by
                  rcases hR' i e with e | e
                  · exact e
                  · omega)
                have hrc9 := (hrc.only (only_of_below (below_alloc (Below.refl wr.heap.size wr) (.cells (eVis zVis (.slice none 0 0)) 138)) (fun _ => False)) (fun _ _ => id)).only hO9 hmb
                have hR9 : ∀ x, (R' x ∨ x = wr.heap.size) → R x ∨ w.heap.size ≤ x := fun x hx => by
                  rcases hx with hx | hx
                  · exact hR' x hx
                  · have := hO.size; exact .inr (by omega)
                clear NV hI8 hI9 hO9 hO10 c5 c5' c1 lk gc hJ hO hrc
                go_wp2
                exact ⟨⟨q + 1, _, D', _, by omega, by go_num, by rw [HAdd.out, HE.out]; exact h9, hR9, hO11, hrc9⟩, by simp [intOf]; omega⟩
            · have d1 : decide (c < J.ag) = false := decide_eq_false hlt
              have HE := Lib.hid (show addC J.ag vq c = vq by unfold addC; rw [d1]; rfl)
              clear lk hkey
              go_wp2
              exact ⟨⟨q + 1, R', D', rows', by omega, by go_num, by rw [HAdd.out, HE.out]; exact hJ, hR', hO, hrc⟩, by simp [intOf]; omega⟩
          · have hqe : q = pcl.length := by omega
            subst hqe
            rw [← HPV.out] at hJ
            have HA := all_pin hJ
            clear HPV hrc
            simp only at HA
            go_wp2_with fail
            refine HA.mono ?_
            rintro e w9 ⟨rfl, hb9⟩
            have hJ9 := hJ.below hb9
            have hO9 := hO.trans (only_of_below hb9 R)
            clear hJ hO hb9 HA
            cases hok : allV (fun v => v.pin) vs' with
            | false =>
              have HE := Lib.hid (HFl.out hok)
              clear hok HT HFl HPV0
              go_wp2
              go_end0
              exact ⟨rfl, by rw [HE.out]; exact JOut.of hJ9 hR' hO9⟩
            | true =>
              have HE := Lib.hid (HT.out hok)
              clear hok HT HFl HPV0
              have f4 := hJ9.froz 4
              have f6 := hJ9.froz 6
              have c4 := hJ9.cell (j := 4) (u := .int .i64 J.ph) rfl
              have c6 := hJ9.cell (j := 6) (u := .bool J.full) rfl
              have e4 := heap_setCell_cells (o := 4) hJ9.blk (.int .i64 2)
              have e6 := heap_setCell_cells (o := 6) e4 (.bool true)
              obtain ⟨h10, hO10⟩ := hJ9.turnJ (J' := { J with vs := vs', ph := 2, full := true }) (w2 := (w9.setCell ⟨jb, 4, none⟩ (.int .i64 2)).setCell ⟨jb, 6, none⟩ (.bool true)) (((Only.refl (· = jb) w9).setCell (p := ⟨jb, 4, none⟩) (fun _ => rfl) _).setCell (p := ⟨jb, 6, none⟩) (fun _ => rfl) _) (e6.trans rfl) rfl
              have hO11 := hO9.trans' hO10 (fun i hi e => by
                rcases hR' i e with e | e
                · exact e
                · omega)
              clear hJ9 hO9 hO10 e4 e6
              go_wp2
              go_end0
              exact ⟨rfl, by rw [HE.out]; exact JOut.of h10 hR' hO11⟩
  · have b1 : (J.ph != 1) = true := by simp [h1]
    have hF : pinJ J k v ⟨pa, pt, pj, pn, .slice ca pcl.length cc, pcl, pl⟩ = J := by simp [pinJ, h1]
    rw [hF]
    clear hF h1 h0 hbv
    go_enter Try.func76, Try.ntmps76
    go_wp2
    go_returns
    exact ⟨rfl, HS⟩
end Go.Proofs.Ytniggacgkhkgiaa.Job
