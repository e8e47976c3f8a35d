/- What msg.parts, and msg.Right of a manifest, say. Conditions: the manifest's slices lie in memory. -/
import Derived.Test.YtcdjeblcmgghhaaMsg4
namespace Go.Proofs.Ytcdjeblcmgghhaa.Msg
open Go.RowKit Go.Sp

theorem pts_cells {w : World} {v : Value} {ps : List Pt} (h : RS w 6 ePt v ps) (hn : 0 < ps.length) : ∃ b o c, v = .slice (some ⟨b, o, none⟩) ps.length c ∧ b < w.heap.size ∧ ∀ (j : Nat) (p : Pt), ps[j]? = some p → w.cell? ⟨b, o + j * 6, none⟩ = some (.int .i64 p.a) ∧ w.cell? ⟨b, o + j * 6 + 1, none⟩ = some (.int .i64 p.t) ∧ w.cell? ⟨b, o + j * 6 + 2, none⟩ = some (.int .i64 p.j) ∧ w.cell? ⟨b, o + j * 6 + 3, none⟩ = some (.int .i64 p.n) ∧ w.cell? ⟨b, o + j * 6 + 4, none⟩ = some p.cv ∧ w.cell? ⟨b, o + j * 6 + 5, none⟩ = some (.bool p.l) := by
  obtain ⟨_, a, c, rfl, h2⟩ := h
  obtain ⟨b, o, rfl, hb, hc⟩ := h2 hn
  exact ⟨b, o, c, rfl, hb, fun j p hp => ⟨hc j p 0 _ hp rfl, hc j p 1 _ hp rfl, hc j p 2 _ hp rfl, hc j p 3 _ hp rfl, hc j p 4 _ hp rfl, hc j p 5 _ hp rfl⟩⟩

def pOk (t j : Int) (p : Pt) : Bool := rightP p && (decide (p.t = t) && decide (p.j = j))

set_option maxRecDepth 100000 in
set_option maxHeartbeats 4000000 in
theorem parts_any {w : World} {t j c : Int} {pv : Value} {ps : List Pt} (h : Pts w pv ps) (hps : ps.length ≤ 1000000) : Calls Try.prog 79 #[.agg #[.int .i64 t, .int .i64 j, .int .i64 c, pv]] w fun e w' => e = .returned (.bool (partsOk t j ps)) ∧ Below w.heap.size w w' := by
  have hl := h.1.1
  unfold maxLen at hl
  obtain ⟨i0, z0, hi, hz, hz1, hz2, hz3⟩ := info_at (P := Try.prog) (e := 3) (f := (1, 8, 1)) (by kernel_rfl)
  obtain ⟨_, a, cp, rfl, _⟩ := id h.1
  go_enter Try.func79, Try.ntmps79
  go_wp2
  have hA := below_alloc (Below.refl w.heap.size w) (.cells #[.int .i64 t, .int .i64 j, .int .i64 c, .slice a ps.length cp] 59)
  have hbx : (w.alloc (.cells #[.int .i64 t, .int .i64 j, .int .i64 c, .slice a ps.length cp] 59)).heap[w.heap.size]? = some (.cells #[.int .i64 t, .int .i64 j, .int .i64 c, .slice a ps.length cp] 59 (0, 0)) := heap_new _ _ rfl
  have hsz : w.heap.size < (w.alloc (.cells #[.int .i64 t, .int .i64 j, .int .i64 c, .slice a ps.length cp] 59)).heap.size := by simp
  generalize (w.alloc (.cells #[.int .i64 t, .int .i64 j, .int .i64 c, .slice a ps.length cp] 59)) = w0 at hA hbx hsz ⊢
  have c0 : w0.cell? ⟨w.heap.size, 0, none⟩ = some (.int .i64 t) := by simp [World.cell?, hbx]
  have c1 : w0.cell? ⟨w.heap.size, 1, none⟩ = some (.int .i64 j) := by simp [World.cell?, hbx]
  clear hbx
  go_loopw [3, 9] (fun v i wr => ∃ q : Nat, q ≤ ps.length ∧ i = .int .i64 q ∧ SL wr.heap 3 1 v q (((ps.take q).map fun p => p.a).map fun x => .int .i64 x) ∧ (∀ g, v.ownBlock = some g → w0.heap.size ≤ g) ∧ Below w0.heap.size w0 wr ∧ (ps.take q).all (pOk t j) = true) (fun _ i _ => ps.length - (intOf i).toNat)
  case atStart => exact ⟨0, Nat.zero_le _, rfl, SL.nil _ _ _, fun g hg => by simp [Value.ownBlock] at hg, Below.refl _ _, rfl⟩
  case round =>
    obtain ⟨q, hq, rfl, hs, hn, hb, hJ⟩ := hrel
    have hbw : Below w.heap.size w wr := below_trans' hb hA
    have hP := h.only (only_of_below hbw (fun _ => False)) (fun _ _ => id) (fun _ _ _ _ => id)
    have hlt0 : w.heap.size < wr.heap.size := Nat.lt_of_lt_of_le hsz hb.size
    have c0r : wr.cell? ⟨w.heap.size, 0, none⟩ = some (.int .i64 t) := by rw [hb.cell (p := ⟨w.heap.size, 0, none⟩) hsz]; exact c0
    have c1r : wr.cell? ⟨w.heap.size, 1, none⟩ = some (.int .i64 j) := by rw [hb.cell (p := ⟨w.heap.size, 1, none⟩) hsz]; exact c1
    by_cases hql : q < ps.length
    · obtain ⟨b0, o0, c0', hv, hb0, hcl⟩ := pts_cells hP.1 (by omega)
      simp only [Value.slice.injEq] at hv
      obtain ⟨rfl, _, rfl⟩ := hv
      obtain ⟨p, hp⟩ : ∃ p, ps[q]? = some p := ⟨_, List.getElem?_eq_getElem hql⟩
      obtain ⟨g0, g1, g2, g3, g4, g5⟩ := hcl q p hp
      have hcv := hP.2 p (List.mem_of_getElem? hp)
      have hT : (ps.take (q + 1)).all (pOk t j) = pOk t j p := by
        rw [List.take_add_one, hp, List.all_append, hJ]; simp
      have hM : pOk t j p = false → partsOk t j ps = false := fun e => by
        have : (ps.all (pOk t j)) = false := by rw [List.all_eq_false]; exact ⟨p, List.mem_of_getElem? hp, by simpa using e⟩
        unfold partsOk; rw [show (ps.all fun p => rightP p && (decide (p.t = t) && decide (p.j = j))) = ps.all (pOk t j) from rfl, this]; rfl
      have hA1 : ((ps.take (q + 1)).map fun p => p.a) = ((ps.take q).map fun p => p.a) ++ [p.a] := by rw [List.take_add_one, hp]; simp
      obtain ⟨pa, pt, pj, pn, pcv, pcl, pl⟩ := p
      have HT := Lib.hid hT
      have HM := Lib.hid hM
      have HA1 := Lib.hid hA1
      obtain ⟨_, a5, c5, hv, _⟩ := id hcv
      simp only at hv
      subst hv
      clear hT hM hA1 hcl hJ hp c0 c1
      go_wp2_with fail
      have hbx1 : (wr.alloc (.cells #[.int .i64 pa, .int .i64 pt, .int .i64 pj, .int .i64 pn, .slice a5 pcl.length c5, .bool pl] 65)).heap[wr.heap.size]? = some (.cells #[.int .i64 pa, .int .i64 pt, .int .i64 pj, .int .i64 pn, .slice a5 pcl.length c5, .bool pl] 65 (0, 0)) := heap_new _ _ rfl
      have hA1 := below_alloc (Below.refl wr.heap.size wr) (.cells #[.int .i64 pa, .int .i64 pt, .int .i64 pj, .int .i64 pn, .slice a5 pcl.length c5, .bool pl] 65)
      have hsz1 : wr.heap.size < (wr.alloc (.cells #[.int .i64 pa, .int .i64 pt, .int .i64 pj, .int .i64 pn, .slice a5 pcl.length c5, .bool pl] 65)).heap.size := by simp
      generalize (wr.alloc (.cells #[.int .i64 pa, .int .i64 pt, .int .i64 pj, .int .i64 pn, .slice a5 pcl.length c5, .bool pl] 65)) = w1 at hbx1 hA1 hsz1 ⊢
      have HR := right_pinned w1 pa pt pj pn (.slice a5 pcl.length c5) pcl pl (RS.only hcv (only_of_below hA1 (fun _ => False)) (fun _ _ => id))
      simp only [val] at HR
      refine HR.mono ?_
      rintro e w2 ⟨rfl, hb2⟩
      have hb12 := below_trans' hb2 hA1
      have d0 : w2.cell? ⟨wr.heap.size, 0, none⟩ = some (.int .i64 pa) := by rw [hb2.cell (p := ⟨wr.heap.size, 0, none⟩) hsz1]; simp [World.cell?, hbx1]
      have d1 : w2.cell? ⟨wr.heap.size, 1, none⟩ = some (.int .i64 pt) := by rw [hb2.cell (p := ⟨wr.heap.size, 1, none⟩) hsz1]; simp [World.cell?, hbx1]
      have d2 : w2.cell? ⟨wr.heap.size, 2, none⟩ = some (.int .i64 pj) := by rw [hb2.cell (p := ⟨wr.heap.size, 2, none⟩) hsz1]; simp [World.cell?, hbx1]
      have c02 : w2.cell? ⟨w.heap.size, 0, none⟩ = some (.int .i64 t) := by rw [hb12.cell (p := ⟨w.heap.size, 0, none⟩) hlt0]; exact c0r
      have c12 : w2.cell? ⟨w.heap.size, 1, none⟩ = some (.int .i64 j) := by rw [hb12.cell (p := ⟨w.heap.size, 1, none⟩) hlt0]; exact c1r
      have hs2 := hs.only (only_of_below hb12 (fun _ => False)) (fun _ _ => id)
      have hb02 := below_trans' hb12 hb
      have hbw2 := below_trans' hb12 hbw
      clear HR hb2 hbx1 hb12 c0r c1r hs g0 g1 g2 g3 g4 g5 hcv hP hA1 hb hbw
      have hrM : rightM (.pinned ⟨pa, pt, pj, pn, .slice a5 pcl.length c5, pcl, pl⟩) = rightP ⟨pa, pt, pj, pn, .slice a5 pcl.length c5, pcl, pl⟩ := rfl
      rw [hrM]
      have hpk : pOk t j ⟨pa, pt, pj, pn, .slice a5 pcl.length c5, pcl, pl⟩ = (rightP ⟨pa, pt, pj, pn, .slice a5 pcl.length c5, pcl, pl⟩ && (decide (pt = t) && decide (pj = j))) := rfl
      have HK := Lib.hid hpk
      clear hpk hrM
      generalize rightP ⟨pa, pt, pj, pn, .slice a5 pcl.length c5, pcl, pl⟩ = G at HK ⊢
      cases G with
      | false =>
        go_wp2
        go_ret
        exact ⟨by rw [HM.out (by rw [HK.out]; rfl)]; rfl, hbw2⟩
      | true =>
        by_cases ht : pt = t
        · subst ht
          have e1 : (pt != pt) = false := by simp
          by_cases hj' : pj = j
          · subst hj'
            have e2 : (pj != pj) = false := by simp
            have HQ := Lib.hid (show (ps.take (q + 1)).all (pOk pt pj) = true by rw [HT.out, HK.out]; simp)
            go_wp2_with (at_builtin; refine halt ?_)
            refine Halt.go ?_
            refine wpList_appd (v := u3) rfl _ _ _ rfl Try.underlying28 hi hz hz1 hz2 hz3 rfl (hs2.alloc _) (m := 1) (news := [.int .i64 pa]) rfl rfl (cells_new _ _ _ rfl) (by simp [Value.oneCell']) (by unfold maxLen; omega) (by omega) ?_
            rintro v7 w7 hs7 ho7 hv7
            have hb7 : Below w0.heap.size w0 w7 := (below_alloc hb02 _).trans (ho7.below (by have := hb02.size; simp; omega) (fun i hi e => by have := hn i e; omega))
            have hn7 : ∀ g, v7.ownBlock = some g → w0.heap.size ≤ g := fun g hg => by
              rcases hv7 with e | e
              · exact hn g (by rw [← e]; exact hg)
              · rw [e] at hg; cases hg; have := hb02.size; simp; omega
            go_wp2
            exact ⟨⟨q + 1, by omega, by go_num, by rw [HA1.out, List.map_append]; exact hs7, hn7, hb7, HQ.out⟩, by simp [intOf]; omega⟩
          · have e2 : (pj != j) = true := by simp [hj']
            go_wp2
            go_ret
            exact ⟨by rw [HM.out (by rw [HK.out]; simp [hj'])]; rfl, hbw2⟩
        · have e1 : (pt != t) = true := by simp [ht]
          go_wp2
          go_ret
          exact ⟨by rw [HM.out (by rw [HK.out]; simp [ht])]; rfl, hbw2⟩
    · have hqe : q = ps.length := by omega
      subst hqe
      rw [List.take_length] at hJ hs
      obtain ⟨a6, c6, rfl⟩ := hs.form
      have hr6 : RS wr 1 eInt (.slice a6 ps.length c6) (ps.map fun p => p.a) := SL.ints (e := 3) (by rw [List.length_map]; exact hs)
      have hk : partsOk t j ps = (decide (0 < ps.length) && agOk (-1) (ps.map fun p => p.a)) := by
        unfold partsOk; rw [show (ps.all fun p => rightP p && (decide (p.t = t) && decide (p.j = j))) = ps.all (pOk t j) from rfl, hJ]; rfl
      have HK := Lib.hid hk
      clear hk hJ hs
      by_cases h0 : 0 < ps.length
      · have hd : decide (0 < (ps.length : Int)) = true := decide_eq_true (by omega)
        go_wp2_with fail
        refine (agents_any hr6).mono ?_
        rintro e w2 ⟨rfl, rfl⟩
        go_wp2
        go_ret
        exact ⟨by rw [HK.out]; simp [h0], hbw⟩
      · have hd : decide (0 < (ps.length : Int)) = false := decide_eq_false (by omega)
        go_wp2
        go_ret
        exact ⟨by rw [HK.out]; simp [h0], hbw⟩

set_option maxRecDepth 100000 in
set_option maxHeartbeats 4000000 in
theorem right_mani (w : World) (t j c : Int) (pv : Value) (ps : List Pt) (h : InMem w (.mani t j c pv ps)) (hps : ps.length ≤ 1000000) : Calls Try.prog 56 #[val (.mani t j c pv ps)] w fun e w' => e = .returned (.bool (rightM (.mani t j c pv ps))) ∧ Below w.heap.size w w' := by
  obtain ⟨_, a', c', hv, _⟩ := id h.1
  try simp only at hv
  subst hv
  have H := of_any w _ h
  have HA := fun (w1 : World) (hb : Below w.heap.size w w1) => agent_any w1 _ (h.below hb)
  simp only [val, mT, mJ, mOk, mA, Option.getD, Option.isSome] at H HA ⊢
  go_enter Try.func56, Try.ntmps56
  go_wp2_with fail
  refine H.mono ?_
  rintro e w1 ⟨rfl, hb1⟩
  have hb2 := below_alloc hb1 (.cells #[.int .i64 t] 3)
  clear H
  cases h0 : wi t 1 65535 with
  | false =>
    go_wp2_with (go_at_call 73; refine (within_any _ _ _ _).mono ?_; rintro e w' ⟨rfl, rfl⟩)
    go_ret
    exact ⟨by simp [rightM, h0], by repeat (first | exact hb2 | apply below_alloc | apply belowN)⟩
  | true =>
    cases h1 : wi j 1 1073741824 with
    | false =>
      go_wp2_with (go_at_call 73; refine (within_any _ _ _ _).mono ?_; rintro e w' ⟨rfl, rfl⟩)
      refine (HA _ hb2).mono ?_
      rintro e w2 ⟨rfl, hb3⟩
      have hb4 := hb2.trans (hb3.mono hb2.size)
      go_wp2_with (go_at_call 73; refine (within_any _ _ _ _).mono ?_; rintro e w' ⟨rfl, rfl⟩)
      go_ret
      exact ⟨by simp [rightM, h0, h1], by repeat (first | exact hb4 | apply below_alloc | apply belowN)⟩
    | true =>
      cases h2 : wi c 0 3 with
      | false =>
        go_wp2_with (go_at_call 73; refine (within_any _ _ _ _).mono ?_; rintro e w' ⟨rfl, rfl⟩)
        refine (HA _ hb2).mono ?_
        rintro e w2 ⟨rfl, hb3⟩
        have hb4 := hb2.trans (hb3.mono hb2.size)
        go_wp2_with (go_at_call 73; refine (within_any _ _ _ _).mono ?_; rintro e w' ⟨rfl, rfl⟩)
        go_ret
        exact ⟨by simp [rightM, h0, h1, h2], by repeat (first | exact hb4 | apply below_alloc | apply belowN)⟩
      | true =>
        go_wp2_with (go_at_call 73; refine (within_any _ _ _ _).mono ?_; rintro e w' ⟨rfl, rfl⟩)
        refine (HA _ hb2).mono ?_
        rintro e w2 ⟨rfl, hb3⟩
        have hb4 := hb2.trans (hb3.mono hb2.size)
        go_wp2_with (first | (go_at_call 73; refine (within_any _ _ _ _).mono ?_; rintro e w' ⟨rfl, rfl⟩) | (go_at_call 79; refine (parts_any (Pts.only (h : Pts w _ ps) (only_of_below (by repeat (first | exact hb4 | apply below_alloc | apply belowN)) (fun _ => False)) (fun _ _ => id) (fun _ _ _ _ => id)) hps).mono ?_; rintro e w5 ⟨rfl, hb5⟩))
        go_ret
        exact ⟨by simp [rightM, h0, h1, h2], below_trans' hb5 (by repeat (first | exact hb4 | apply below_alloc | apply belowN))⟩

theorem right_none (w : World) : Calls Try.prog 56 #[.nilIface] w fun e w' => e = .returned (.bool false) ∧ Below w.heap.size w w' := by
  have H := of_any w .none trivial
  simp only [val, mT, mJ, mOk] at H
  go_enter Try.func56, Try.ntmps56
  go_wp2_with fail
  refine H.mono ?_
  rintro e w1 ⟨rfl, hb1⟩
  go_wp2
  go_ret
  exact ⟨rfl, by repeat (first | exact hb1 | apply below_alloc | apply belowN)⟩

/-- are a manifest's parts so few? -/
def Small : Mg → Prop
  | .mani _ _ _ _ ps => ps.length ≤ 1000000
  | _ => True
theorem right_any (w : World) (m : Mg) (h : InMem w m) (hs : Small m) : Calls Try.prog 56 #[val m] w fun e w' => e = .returned (.bool (rightM m)) ∧ Below w.heap.size w w' := by
  cases m with
  | none => exact right_none w
  | trig a t c => exact right_trig w a t c h
  | pin t j => exact right_pin w t j h
  | pinned p => exact right_pinned w p.a p.t p.j p.n p.cv p.cl p.l h
  | gone a t j => exact right_gone w a t j h
  | coll t j => exact right_coll w t j h
  | chunk a t j i n sv xs => exact right_chunk w a t j i n sv xs h
  | mani t j c pv ps => exact right_mani w t j c pv ps h hs
  | stor t j => exact right_stor w t j h
  | unp t j => exact right_unp w t j h
  | unpd a t j => exact right_unpd w a t j h
end Go.Proofs.Ytcdjeblcmgghhaa.Msg
