/- What msg.parts, and msg.Right of a manifest, say. Conditions: the manifest's slices lie in memory. -/
import Derived.Test.YtniggacgkhkgiaaPkJobPlays4
import Derived.Deep.RegionHeld3
import Derived.Deep.Cut
import Derived.Lib.QuietBelow
import Derived.BigQuiet
namespace Go.Proofs.Ytniggacgkhkgiaa.Msg
open Go.RowKit Go.Sp

theorem pts_cells {w : World} {v : Value} {ps : List Pt} (h : RS w 6 ePt v ps) (hn : 0 < ps.length) : ∃ b o c, v = .slice (some ⟨b, o, none⟩) ps.length c ∧ b < w.heap.size ∧ ∀ (j : Nat) (p : Pt), ps[j]? = some p → w.cell? ⟨b, o + j * 6, none⟩ = some (.int .i64 p.a) ∧ w.cell? ⟨b, o + j * 6 + 1, none⟩ = some (.int .i64 p.t) ∧ w.cell? ⟨b, o + j * 6 + 2, none⟩ = some (.int .i64 p.j) ∧ w.cell? ⟨b, o + j * 6 + 3, none⟩ = some (.int .i64 p.n) ∧ w.cell? ⟨b, o + j * 6 + 4, none⟩ = some p.cv ∧ w.cell? ⟨b, o + j * 6 + 5, none⟩ = some (.bool p.l) := by
  obtain ⟨_, a, c, rfl, h2⟩ := h
  obtain ⟨b, o, rfl, hb, hc⟩ := h2 hn
  exact ⟨b, o, c, rfl, hb, fun j p hp => ⟨hc j p 0 _ hp rfl, hc j p 1 _ hp rfl, hc j p 2 _ hp rfl, hc j p 3 _ hp rfl, hc j p 4 _ hp rfl, hc j p 5 _ hp rfl⟩⟩

def pOk (t j : Int) (p : Pt) : Bool := rightP p && (decide (p.t = t) && decide (p.j = j))

set_option maxRecDepth 100000 in
set_option maxHeartbeats 4000000 in
theorem parts_any {w : World} {t j c : Int} {pv : Value} {ps : List Pt} (h : Pts w pv ps) (hps : ps.length ≤ 1000000) : Calls Try.prog 88 #[.agg #[.int .i64 t, .int .i64 j, .int .i64 c, pv]] w fun e w' => e = .returned (.bool (partsOk t j ps)) ∧ Below w.heap.size w w' := by
  have hl := h.1.1
  unfold maxLen at hl
  obtain ⟨i0, z0, hi, hz, hz1, hz2, hz3⟩ := info_at (P := Try.prog) (e := 3) (f := (1, 8, 1)) (by kernel_rfl)
  obtain ⟨_, a, cp, rfl, _⟩ := id h.1
  go_enter Try.func88, Try.ntmps88
  go_wp2
  have hA := below_alloc (Below.refl w.heap.size w) (.cells #[.int .i64 t, .int .i64 j, .int .i64 c, .slice a ps.length cp] 62)
  have hbx : (w.alloc (.cells #[.int .i64 t, .int .i64 j, .int .i64 c, .slice a ps.length cp] 62)).heap[w.heap.size]? = some (.cells #[.int .i64 t, .int .i64 j, .int .i64 c, .slice a ps.length cp] 62 (0, 0)) := heap_new _ _ rfl
  have hsz : w.heap.size < (w.alloc (.cells #[.int .i64 t, .int .i64 j, .int .i64 c, .slice a ps.length cp] 62)).heap.size := by simp
  generalize (w.alloc (.cells #[.int .i64 t, .int .i64 j, .int .i64 c, .slice a ps.length cp] 62)) = w0 at hA hbx hsz ⊢
  have c0 : w0.cell? ⟨w.heap.size, 0, none⟩ = some (.int .i64 t) := by simp [World.cell?, hbx]
  have c1 : w0.cell? ⟨w.heap.size, 1, none⟩ = some (.int .i64 j) := by simp [World.cell?, hbx]
  clear hbx
  go_loopw [3, 9] (fun v i wr => ∃ q : Nat, q ≤ ps.length ∧ i = .int .i64 q ∧ SL wr.heap 3 1 v q (((ps.take q).map fun p => p.a).map fun x => .int .i64 x) ∧ (∀ g, v.ownBlock = some g → w0.heap.size ≤ g) ∧ Below w0.heap.size w0 wr ∧ (ps.take q).all (pOk t j) = true) (fun _ i _ => ps.length - (intOf i).toNat)
  case atStart => exact ⟨0, Nat.zero_le _, rfl, SL.nil _ _ _, fun g hg => by simp [Value.ownBlock] at hg, Below.refl _ _, rfl⟩
  case round =>
    obtain ⟨q, hq, rfl, hs, hn, hb, hJ⟩ := hrel
    have hbw : Below w.heap.size w wr := below_trans' hb hA
    have hP := h.only (only_of_below hbw (fun _ => False)) (fun _ _ => id) (fun _ _ _ _ => id)
    have hlt0 : w.heap.size < wr.heap.size := Nat.lt_of_lt_of_le hsz hb.size
    have c0r : wr.cell? ⟨w.heap.size, 0, none⟩ = some (.int .i64 t) := by rw [hb.cell (p := ⟨w.heap.size, 0, none⟩) hsz]; exact c0
    have c1r : wr.cell? ⟨w.heap.size, 1, none⟩ = some (.int .i64 j) := by rw [hb.cell (p := ⟨w.heap.size, 1, none⟩) hsz]; exact c1
    by_cases hql : q < ps.length
    · obtain ⟨b0, o0, c0', hv, hb0, hcl⟩ := pts_cells hP.1 (by omega)
      simp only [Value.slice.injEq] at hv
      obtain ⟨rfl, _, rfl⟩ := hv
      obtain ⟨p, hp⟩ : ∃ p, ps[q]? = some p := ⟨_, List.getElem?_eq_getElem hql⟩
      obtain ⟨g0, g1, g2, g3, g4, g5⟩ := hcl q p hp
      have hcv := hP.2 p (List.mem_of_getElem? hp)
      have hT : (ps.take (q + 1)).all (pOk t j) = pOk t j p := by
        rw [List.take_add_one, hp, List.all_append, hJ]; simp
      have hM : pOk t j p = false → partsOk t j ps = false := fun e => by
        have : (ps.all (pOk t j)) = false := by rw [List.all_eq_false]; exact ⟨p, List.mem_of_getElem? hp, by simpa using e⟩
        unfold partsOk; rw [show (ps.all fun p => rightP p && (decide (p.t = t) && decide (p.j = j))) = ps.all (pOk t j) from rfl, this]; rfl
      have hA1 : ((ps.take (q + 1)).map fun p => p.a) = ((ps.take q).map fun p => p.a) ++ [p.a] := by rw [List.take_add_one, hp]; simp
      obtain ⟨pa, pt, pj, pn, pcv, pcl, pl⟩ := p
      have HT := Lib.hid hT
      have HM := Lib.hid hM
      have HA1 := Lib.hid hA1
      obtain ⟨_, a5, c5, hv, _⟩ := id hcv
      simp only at hv
      subst hv
      clear hT hM hA1 hcl hJ hp c0 c1
      go_wp2_with fail
      have hbx1 : (wr.alloc (.cells #[.int .i64 pa, .int .i64 pt, .int .i64 pj, .int .i64 pn, .slice a5 pcl.length c5, .bool pl] 72)).heap[wr.heap.size]? = some (.cells #[.int .i64 pa, .int .i64 pt, .int .i64 pj, .int .i64 pn, .slice a5 pcl.length c5, .bool pl] 72 (0, 0)) := heap_new _ _ rfl
      have hA1 := below_alloc (Below.refl wr.heap.size wr) (.cells #[.int .i64 pa, .int .i64 pt, .int .i64 pj, .int .i64 pn, .slice a5 pcl.length c5, .bool pl] 72)
      have hsz1 : wr.heap.size < (wr.alloc (.cells #[.int .i64 pa, .int .i64 pt, .int .i64 pj, .int .i64 pn, .slice a5 pcl.length c5, .bool pl] 72)).heap.size := by simp
      generalize (wr.alloc (.cells #[.int .i64 pa, .int .i64 pt, .int .i64 pj, .int .i64 pn, .slice a5 pcl.length c5, .bool pl] 72)) = w1 at hbx1 hA1 hsz1 ⊢
      have HR := right_pinned w1 pa pt pj pn (.slice a5 pcl.length c5) pcl pl (RS.only hcv (only_of_below hA1 (fun _ => False)) (fun _ _ => id))
      simp only [val] at HR
      refine HR.mono ?_
      rintro e w2 ⟨rfl, hb2⟩
      have hb12 := below_trans' hb2 hA1
      have d0 : w2.cell? ⟨wr.heap.size, 0, none⟩ = some (.int .i64 pa) := by rw [hb2.cell (p := ⟨wr.heap.size, 0, none⟩) hsz1]; simp [World.cell?, hbx1]
      have d1 : w2.cell? ⟨wr.heap.size, 1, none⟩ = some (.int .i64 pt) := by rw [hb2.cell (p := ⟨wr.heap.size, 1, none⟩) hsz1]; simp [World.cell?, hbx1]
      have d2 : w2.cell? ⟨wr.heap.size, 2, none⟩ = some (.int .i64 pj) := by rw [hb2.cell (p := ⟨wr.heap.size, 2, none⟩) hsz1]; simp [World.cell?, hbx1]
      have c02 : w2.cell? ⟨w.heap.size, 0, none⟩ = some (.int .i64 t) := by rw [hb12.cell (p := ⟨w.heap.size, 0, none⟩) hlt0]; exact c0r
      have c12 : w2.cell? ⟨w.heap.size, 1, none⟩ = some (.int .i64 j) := by rw [hb12.cell (p := ⟨w.heap.size, 1, none⟩) hlt0]; exact c1r
      have hs2 := hs.only (only_of_below hb12 (fun _ => False)) (fun _ _ => id)
      have hb02 := below_trans' hb12 hb
      have hbw2 := below_trans' hb12 hbw
      clear HR hb2 hbx1 hb12 c0r c1r hs g0 g1 g2 g3 g4 g5 hcv hP hA1 hb hbw
      have hrM : rightM (.pinned ⟨pa, pt, pj, pn, .slice a5 pcl.length c5, pcl, pl⟩) = rightP ⟨pa, pt, pj, pn, .slice a5 pcl.length c5, pcl, pl⟩ := rfl
      rw [hrM]
      have hpk : pOk t j ⟨pa, pt, pj, pn, .slice a5 pcl.length c5, pcl, pl⟩ = (rightP ⟨pa, pt, pj, pn, .slice a5 pcl.length c5, pcl, pl⟩ && (decide (pt = t) && decide (pj = j))) := rfl
      have HK := Lib.hid hpk
      clear hpk hrM
      generalize rightP ⟨pa, pt, pj, pn, .slice a5 pcl.length c5, pcl, pl⟩ = G at HK ⊢
      cases G with
      | false =>
        go_wp2
        go_ret
        exact ⟨by rw [HM.out (by rw [HK.out]; rfl)]; rfl, hbw2⟩
      | true =>
        by_cases ht : pt = t
        · subst ht
          have e1 : (pt != pt) = false := by simp
          by_cases hj' : pj = j
          · subst hj'
            have e2 : (pj != pj) = false := by simp
            have HQ := Lib.hid (show (ps.take (q + 1)).all (pOk pt pj) = true by rw [HT.out, HK.out]; simp)
            go_wp2_with (at_builtin; refine halt ?_)
            refine Halt.go ?_
            refine wpList_appd (v := u3) rfl _ _ _ rfl Try.underlying31 hi hz hz1 hz2 hz3 rfl (hs2.alloc _) (m := 1) (news := [.int .i64 pa]) rfl rfl (cells_new _ _ _ rfl) (by simp [Value.oneCell']) (by unfold maxLen; omega) (by omega) ?_
            rintro v7 w7 hs7 ho7 hv7
            have hb7 : Below w0.heap.size w0 w7 := (below_alloc hb02 _).trans (ho7.below (by have := hb02.size; simp; omega) (fun i hi e => by have := hn i e; omega))
            have hn7 : ∀ g, v7.ownBlock = some g → w0.heap.size ≤ g := fun g hg => by
              rcases hv7 with e | e
              · exact hn g (by rw [← e]; exact hg)
              · rw [e] at hg; cases hg; have := hb02.size; simp; omega
            go_wp2
            exact ⟨⟨q + 1, by omega, by go_num, by rw [HA1.out, List.map_append]; exact hs7, hn7, hb7, HQ.out⟩, by simp [intOf]; omega⟩
          · have e2 : (pj != j) = true := by simp [hj']
            go_wp2
            go_ret
            exact ⟨by rw [HM.out (by rw [HK.out]; simp [hj'])]; rfl, hbw2⟩
        · have e1 : (pt != t) = true := by simp [ht]
          go_wp2
          go_ret
          exact ⟨by rw [HM.out (by rw [HK.out]; simp [ht])]; rfl, hbw2⟩
    · have hqe : q = ps.length := by omega
      subst hqe
      rw [List.take_length] at hJ hs
      obtain ⟨a6, c6, rfl⟩ := hs.form
      have hr6 : RS wr 1 eInt (.slice a6 ps.length c6) (ps.map fun p => p.a) := SL.ints (e := 3) (by rw [List.length_map]; exact hs)
      have hk : partsOk t j ps = (decide (0 < ps.length) && agOk (-1) (ps.map fun p => p.a)) := by
        unfold partsOk; rw [show (ps.all fun p => rightP p && (decide (p.t = t) && decide (p.j = j))) = ps.all (pOk t j) from rfl, hJ]; rfl
      have HK := Lib.hid hk
      clear hk hJ hs
      by_cases h0 : 0 < ps.length
      · have hd : decide (0 < (ps.length : Int)) = true := decide_eq_true (by omega)
        go_wp2_with fail
        refine (agents_any hr6).mono ?_
        rintro e w2 ⟨rfl, rfl⟩
        go_wp2
        go_ret
        exact ⟨by rw [HK.out]; simp [h0], hbw⟩
      · have hd : decide (0 < (ps.length : Int)) = false := decide_eq_false (by omega)
        go_wp2
        go_ret
        exact ⟨by rw [HK.out]; simp [h0], hbw⟩

set_option maxRecDepth 100000 in
set_option maxHeartbeats 4000000 in
theorem right_mani (w : World) (t j c : Int) (pv : Value) (ps : List Pt) (h : InMem w (.mani t j c pv ps)) (hps : ps.length ≤ 1000000) : Calls Try.prog 35 #[val (.mani t j c pv ps)] w fun e w' => e = .returned (.bool (rightM (.mani t j c pv ps))) ∧ Below w.heap.size w w' := by
  obtain ⟨_, a', c', hv, _⟩ := id h.1
  try simp only at hv
  subst hv
  have H := of_any w _ h
  have HA := fun (w1 : World) (hb : Below w.heap.size w w1) => agent_any w1 _ (h.below hb)
  simp only [val, mT, mJ, mOk, mA, Option.getD, Option.isSome] at H HA ⊢
  go_enter Try.func35, Try.ntmps35
  go_wp2_with fail
  refine H.mono ?_
  rintro e w1 ⟨rfl, hb1⟩
  have hb2 := below_alloc hb1 (.cells #[.int .i64 t] 3)
  clear H
  cases h0 : wi t 1 65535 with
  | false =>
    go_wp2_with (go_at_call 83; refine (within_any _ _ _ _).mono ?_; rintro e w' ⟨rfl, rfl⟩)
    go_ret
    exact ⟨by simp [rightM, h0], by repeat (first | exact hb2 | apply below_alloc | apply belowN)⟩
  | true =>
    cases h1 : wi j 1 1073741824 with
    | false =>
      go_wp2_with (go_at_call 83; refine (within_any _ _ _ _).mono ?_; rintro e w' ⟨rfl, rfl⟩)
      refine (HA _ hb2).mono ?_
      rintro e w2 ⟨rfl, hb3⟩
      have hb4 := hb2.trans (hb3.mono hb2.size)
      go_wp2_with (go_at_call 83; refine (within_any _ _ _ _).mono ?_; rintro e w' ⟨rfl, rfl⟩)
      go_ret
      exact ⟨by simp [rightM, h0, h1], by repeat (first | exact hb4 | apply below_alloc | apply belowN)⟩
    | true =>
      cases h2 : wi c 0 3 with
      | false =>
        go_wp2_with (go_at_call 83; refine (within_any _ _ _ _).mono ?_; rintro e w' ⟨rfl, rfl⟩)
        refine (HA _ hb2).mono ?_
        rintro e w2 ⟨rfl, hb3⟩
        have hb4 := hb2.trans (hb3.mono hb2.size)
        go_wp2_with (go_at_call 83; refine (within_any _ _ _ _).mono ?_; rintro e w' ⟨rfl, rfl⟩)
        go_ret
        exact ⟨by simp [rightM, h0, h1, h2], by repeat (first | exact hb4 | apply below_alloc | apply belowN)⟩
      | true =>
        go_wp2_with (go_at_call 83; refine (within_any _ _ _ _).mono ?_; rintro e w' ⟨rfl, rfl⟩)
        refine (HA _ hb2).mono ?_
        rintro e w2 ⟨rfl, hb3⟩
        have hb4 := hb2.trans (hb3.mono hb2.size)
        go_wp2_with (first | (go_at_call 83; refine (within_any _ _ _ _).mono ?_; rintro e w' ⟨rfl, rfl⟩) | (go_at_call 88; refine (parts_any (Pts.only (h : Pts w _ ps) (only_of_below (by repeat (first | exact hb4 | apply below_alloc | apply belowN)) (fun _ => False)) (fun _ _ => id) (fun _ _ _ _ => id)) hps).mono ?_; rintro e w5 ⟨rfl, hb5⟩))
        go_ret
        exact ⟨by simp [rightM, h0, h1, h2], below_trans' hb5 (by repeat (first | exact hb4 | apply below_alloc | apply belowN))⟩

theorem right_none (w : World) : Calls Try.prog 35 #[.nilIface] w fun e w' => e = .returned (.bool false) ∧ Below w.heap.size w w' := by
  have H := of_any w .none trivial
  simp only [val, mT, mJ, mOk] at H
  go_enter Try.func35, Try.ntmps35
  go_wp2_with fail
  refine H.mono ?_
  rintro e w1 ⟨rfl, hb1⟩
  go_wp2
  go_ret
  exact ⟨rfl, by repeat (first | exact hb1 | apply below_alloc | apply belowN)⟩

/-- are a manifest's parts so few? -/
def Small : Mg → Prop
  | .mani _ _ _ _ ps => ps.length ≤ 1000000
  | _ => True
theorem right_any (w : World) (m : Mg) (h : InMem w m) (hs : Small m) : Calls Try.prog 35 #[val m] w fun e w' => e = .returned (.bool (rightM m)) ∧ Below w.heap.size w w' := by
  cases m with
  | none => exact right_none w
  | trig a t c => exact right_trig w a t c h
  | pin t j => exact right_pin w t j h
  | pinned p => exact right_pinned w p.a p.t p.j p.n p.cv p.cl p.l h
  | gone a t j => exact right_gone w a t j h
  | coll t j => exact right_coll w t j h
  | chunk a t j i n sv xs => exact right_chunk w a t j i n sv xs h
  | mani t j c pv ps => exact right_mani w t j c pv ps h hs
  | stor t j => exact right_stor w t j h
  | unp t j => exact right_unp w t j h
  | unpd a t j => exact right_unpd w a t j h
end Go.Proofs.Ytniggacgkhkgiaa.Msg
/- What the reference's small words of layers 5 and 9 say. Conditions: a part names nobody. -/
namespace Go.Proofs.Ytniggacgkhkgiaa.Msg
open Go.RowKit Go.Sp

theorem in82_any (w : World) (n lo hi : Int) : Calls Try.prog 90 #[.int .i64 n, .int .i64 lo, .int .i64 hi] w fun e w' => e = .returned (.bool (wi n lo hi)) ∧ w = w' := by
  go_enter Try.func90, Try.ntmps90
  by_cases h : lo ≤ n
  · have h1 : decide (lo ≤ n) = true := decide_eq_true h
    go_wp2
    go_ret
    exact ⟨by simp [wi, h], by first | rfl | trivial⟩
  · have h1 : decide (lo ≤ n) = false := decide_eq_false h
    go_wp2
    go_ret
    exact ⟨by simp only [wi, h1, Bool.false_and]; rfl, by first | rfl | trivial⟩

set_option maxRecDepth 100000 in
set_option maxHeartbeats 1000000 in
theorem right05_any (w : World) (x : Spn) : Calls Try.prog 91 #[.agg #[.int .i64 x.1, .int .i64 x.2.1, .string x.2.2]] w fun e w' => e = .returned (.bool (rightSp x)) ∧ Below w.heap.size w w' := by
  obtain ⟨t, q, s⟩ := x
  unfold rightSp
  go_enter Try.func91, Try.ntmps91
  have hb : Below w.heap.size w (w.alloc (.cells #[.int .i64 t, .int .i64 q, .string s] 89)) := (Below.refl _ w).alloc (Nat.le_refl _) _
  by_cases h1 : 1 ≤ t
  · have b1 : decide (1 ≤ t) = true := decide_eq_true h1
    by_cases h2 : t ≤ 65535
    · have b2 : decide (t ≤ 65535) = true := decide_eq_true h2
      by_cases h3 : 1 ≤ q
      · have b3 : decide (1 ≤ q) = true := decide_eq_true h3
        by_cases h4 : q ≤ 2147483648
        · have b4 : decide (q ≤ 2147483648) = true := decide_eq_true h4
          go_wp2
          go_ret
          exact ⟨by simp [h1, h2, h3, h4], hb⟩
        · have b4 : decide (q ≤ 2147483648) = false := decide_eq_false h4
          go_wp2
          go_ret
          exact ⟨by simp [h4], hb⟩
      · have b3 : decide (1 ≤ q) = false := decide_eq_false h3
        go_wp2
        go_ret
        exact ⟨by simp [h3], hb⟩
    · have b2 : decide (t ≤ 65535) = false := decide_eq_false h2
      go_wp2
      go_ret
      exact ⟨by simp [h2], hb⟩
  · have b1 : decide (1 ≤ t) = false := decide_eq_false h1
    go_wp2
    go_ret
    exact ⟨by simp [h1], hb⟩

set_option maxRecDepth 100000 in
set_option maxHeartbeats 2000000 in
theorem part81_any (w : World) (a t j n : Int) (l : Bool) : Calls Try.prog 89 #[.agg #[.int .i64 a, .int .i64 t, .int .i64 j, .int .i64 n, .slice none 0 0, .bool l]] w fun e w' => e = .returned (.bool (rightP ⟨a, t, j, n, .slice none 0 0, [], l⟩)) ∧ Below w.heap.size w w' := by
  have hA := below_alloc (Below.refl w.heap.size w) (.cells #[.int .i64 a, .int .i64 t, .int .i64 j, .int .i64 n, .slice none 0 0, .bool l] 33)
  go_enter Try.func89, Try.ntmps89
  cases h0 : wi a 0 3 with
  | false =>
    go_wp2_with (go_at_call 90; refine (in82_any _ _ _ _).mono ?_; rintro e w' ⟨rfl, rfl⟩)
    go_ret
    exact ⟨by simp [rightP, h0], hA⟩
  | true =>
    cases h1 : wi t 1 65535 with
    | false =>
      go_wp2_with (go_at_call 90; refine (in82_any _ _ _ _).mono ?_; rintro e w' ⟨rfl, rfl⟩)
      go_ret
      exact ⟨by simp [rightP, h0, h1], hA⟩
    | true =>
      cases h2 : wi j 1 1073741824 with
      | false =>
        go_wp2_with (go_at_call 90; refine (in82_any _ _ _ _).mono ?_; rintro e w' ⟨rfl, rfl⟩)
        go_ret
        exact ⟨by simp [rightP, h0, h1, h2], hA⟩
      | true =>
        cases h3 : wi n 0 1000 with
        | false =>
          go_wp2_with (go_at_call 90; refine (in82_any _ _ _ _).mono ?_; rintro e w' ⟨rfl, rfl⟩)
          go_ret
          exact ⟨by simp [rightP, h0, h1, h2, h3], hA⟩
        | true =>
          go_wp2_with (go_at_call 90; refine (in82_any _ _ _ _).mono ?_; rintro e w' ⟨rfl, rfl⟩)
          go_loopw [3] (fun i wr => i = .int .i64 0 ∧ wr = w.alloc (.cells #[.int .i64 a, .int .i64 t, .int .i64 j, .int .i64 n, .slice none 0 0, .bool l] 33)) (fun i _ => (intOf i).toNat)
          case atStart => exact ⟨rfl, rfl⟩
          case round =>
            obtain ⟨rfl, rfl⟩ := hrel
            go_wp2
            go_ret
            exact ⟨by simp [rightP, agOk, h0, h1, h2, h3], hA⟩
end Go.Proofs.Ytniggacgkhkgiaa.Msg
/- What the reference's Right says of messages of the kinds but Chunk and Manifest. Conditions: a Pinned names nobody. -/
namespace Go.Sp
open Go.RowKit
/-- the document's message: fifteen cells -/
structure Ms where
  k : Int
  a : Int
  t : Int
  j : Int
  c : Int
  i : Int
  n : Int
  p : Pt
  pv : Value
  sv : Value
def zPt : Pt := ⟨0, 0, 0, 0, .slice none 0 0, [], false⟩
def eMs (m : Ms) : List Value := [.int .i64 m.k, .int .i64 m.a, .int .i64 m.t, .int .i64 m.j, .int .i64 m.c, .int .i64 m.i, .int .i64 m.n, .int .i64 m.p.a, .int .i64 m.p.t, .int .i64 m.p.j, .int .i64 m.p.n, m.p.cv, .bool m.p.l, m.pv, m.sv]
/-- a message as the document has it; a manifest's parts lie anew in pv' -/
def likeM (pv' : Value) : Mg → Ms
  | .trig a t c => ⟨1, a, t, 0, c, 0, 0, zPt, .slice none 0 0, .slice none 0 0⟩
  | .pin t j => ⟨2, 0, t, j, 0, 0, 0, zPt, .slice none 0 0, .slice none 0 0⟩
  | .pinned p => ⟨3, 0, 0, 0, 0, 0, 0, p, .slice none 0 0, .slice none 0 0⟩
  | .gone a t j => ⟨4, a, t, j, 0, 0, 0, zPt, .slice none 0 0, .slice none 0 0⟩
  | .coll t j => ⟨5, 0, t, j, 0, 0, 0, zPt, .slice none 0 0, .slice none 0 0⟩
  | .chunk a t j i n sv _ => ⟨6, a, t, j, 0, i, n, zPt, .slice none 0 0, sv⟩
  | .mani t j c _ _ => ⟨7, 0, t, j, c, 0, 0, zPt, pv', .slice none 0 0⟩
  | .stor t j => ⟨8, 0, t, j, 0, 0, 0, zPt, .slice none 0 0, .slice none 0 0⟩
  | .unp t j => ⟨9, 0, t, j, 0, 0, 0, zPt, .slice none 0 0, .slice none 0 0⟩
  | .unpd a t j => ⟨10, a, t, j, 0, 0, 0, zPt, .slice none 0 0, .slice none 0 0⟩
  | .none => ⟨0, 0, 0, 0, 0, 0, 0, zPt, .slice none 0 0, .slice none 0 0⟩
end Go.Sp
namespace Go.Proofs.Ytniggacgkhkgiaa.Msg
open Go.RowKit Go.Sp

set_option maxRecDepth 100000 in
set_option maxHeartbeats 4000000 in
theorem r59_trig (w : World) (a t c : Int) : Calls Try.prog 36 #[.agg #[.int .i64 1, .int .i64 a, .int .i64 t, .int .i64 0, .int .i64 c, .int .i64 0, .int .i64 0, .int .i64 0, .int .i64 0, .int .i64 0, .int .i64 0, .slice none 0 0, .bool false, .slice none 0 0, .slice none 0 0]] w fun e w' => e = .returned (.bool (rightM (.trig a t c))) ∧ Below w.heap.size w w' := by
  have hA := below_alloc (Below.refl w.heap.size w) (.cells #[.int .i64 1, .int .i64 a, .int .i64 t, .int .i64 0, .int .i64 c, .int .i64 0, .int .i64 0, .int .i64 0, .int .i64 0, .int .i64 0, .int .i64 0, .slice none 0 0, .bool false, .slice none 0 0, .slice none 0 0] 37)
  go_enter Try.func36, Try.ntmps36
  cases h0 : wi t 1 65535 with
  | false =>
    go_wp2_with (go_at_call 90; refine (in82_any _ _ _ _).mono ?_; rintro e w' ⟨rfl, rfl⟩)
    go_ret
    exact ⟨by simp [rightM, h0], hA⟩
  | true =>
    cases h1 : wi a 0 3 with
    | false =>
      go_wp2_with (go_at_call 90; refine (in82_any _ _ _ _).mono ?_; rintro e w' ⟨rfl, rfl⟩)
      go_ret
      exact ⟨by simp [rightM, h0, h1], hA⟩
    | true =>
      cases h2 : wi c 0 3 with
      | false =>
        go_wp2_with (go_at_call 90; refine (in82_any _ _ _ _).mono ?_; rintro e w' ⟨rfl, rfl⟩)
        go_ret
        exact ⟨by simp [rightM, h0, h1, h2], hA⟩
      | true =>
        go_wp2_with (go_at_call 90; refine (in82_any _ _ _ _).mono ?_; rintro e w' ⟨rfl, rfl⟩)
        go_ret
        exact ⟨by simp [rightM, h0, h1, h2], hA⟩
set_option maxRecDepth 100000 in
set_option maxHeartbeats 4000000 in
theorem r59_pin (w : World) (t j : Int) : Calls Try.prog 36 #[.agg #[.int .i64 2, .int .i64 0, .int .i64 t, .int .i64 j, .int .i64 0, .int .i64 0, .int .i64 0, .int .i64 0, .int .i64 0, .int .i64 0, .int .i64 0, .slice none 0 0, .bool false, .slice none 0 0, .slice none 0 0]] w fun e w' => e = .returned (.bool (rightM (.pin t j))) ∧ Below w.heap.size w w' := by
  have hA := below_alloc (Below.refl w.heap.size w) (.cells #[.int .i64 2, .int .i64 0, .int .i64 t, .int .i64 j, .int .i64 0, .int .i64 0, .int .i64 0, .int .i64 0, .int .i64 0, .int .i64 0, .int .i64 0, .slice none 0 0, .bool false, .slice none 0 0, .slice none 0 0] 37)
  go_enter Try.func36, Try.ntmps36
  cases h0 : wi t 1 65535 with
  | false =>
    go_wp2_with (go_at_call 90; refine (in82_any _ _ _ _).mono ?_; rintro e w' ⟨rfl, rfl⟩)
    go_ret
    exact ⟨by simp [rightM, h0], hA⟩
  | true =>
    cases h1 : wi j 1 1073741824 with
    | false =>
      go_wp2_with (go_at_call 90; refine (in82_any _ _ _ _).mono ?_; rintro e w' ⟨rfl, rfl⟩)
      go_ret
      exact ⟨by simp [rightM, h0, h1], hA⟩
    | true =>
      go_wp2_with (go_at_call 90; refine (in82_any _ _ _ _).mono ?_; rintro e w' ⟨rfl, rfl⟩)
      go_ret
      exact ⟨by simp [rightM, h0, h1], hA⟩
set_option maxRecDepth 100000 in
set_option maxHeartbeats 4000000 in
theorem r59_gone (w : World) (a t j : Int) : Calls Try.prog 36 #[.agg #[.int .i64 4, .int .i64 a, .int .i64 t, .int .i64 j, .int .i64 0, .int .i64 0, .int .i64 0, .int .i64 0, .int .i64 0, .int .i64 0, .int .i64 0, .slice none 0 0, .bool false, .slice none 0 0, .slice none 0 0]] w fun e w' => e = .returned (.bool (rightM (.gone a t j))) ∧ Below w.heap.size w w' := by
  have hA := below_alloc (Below.refl w.heap.size w) (.cells #[.int .i64 4, .int .i64 a, .int .i64 t, .int .i64 j, .int .i64 0, .int .i64 0, .int .i64 0, .int .i64 0, .int .i64 0, .int .i64 0, .int .i64 0, .slice none 0 0, .bool false, .slice none 0 0, .slice none 0 0] 37)
  go_enter Try.func36, Try.ntmps36
  cases h0 : wi t 1 65535 with
  | false =>
    go_wp2_with (go_at_call 90; refine (in82_any _ _ _ _).mono ?_; rintro e w' ⟨rfl, rfl⟩)
    go_ret
    exact ⟨by simp [rightM, h0], hA⟩
  | true =>
    cases h1 : wi j 1 1073741824 with
    | false =>
      go_wp2_with (go_at_call 90; refine (in82_any _ _ _ _).mono ?_; rintro e w' ⟨rfl, rfl⟩)
      go_ret
      exact ⟨by simp [rightM, h0, h1], hA⟩
    | true =>
      cases h2 : wi a 0 3 with
      | false =>
        go_wp2_with (go_at_call 90; refine (in82_any _ _ _ _).mono ?_; rintro e w' ⟨rfl, rfl⟩)
        go_ret
        exact ⟨by simp [rightM, h0, h1, h2], hA⟩
      | true =>
        go_wp2_with (go_at_call 90; refine (in82_any _ _ _ _).mono ?_; rintro e w' ⟨rfl, rfl⟩)
        go_ret
        exact ⟨by simp [rightM, h0, h1, h2], hA⟩
set_option maxRecDepth 100000 in
set_option maxHeartbeats 4000000 in
theorem r59_coll (w : World) (t j : Int) : Calls Try.prog 36 #[.agg #[.int .i64 5, .int .i64 0, .int .i64 t, .int .i64 j, .int .i64 0, .int .i64 0, .int .i64 0, .int .i64 0, .int .i64 0, .int .i64 0, .int .i64 0, .slice none 0 0, .bool false, .slice none 0 0, .slice none 0 0]] w fun e w' => e = .returned (.bool (rightM (.coll t j))) ∧ Below w.heap.size w w' := by
  have hA := below_alloc (Below.refl w.heap.size w) (.cells #[.int .i64 5, .int .i64 0, .int .i64 t, .int .i64 j, .int .i64 0, .int .i64 0, .int .i64 0, .int .i64 0, .int .i64 0, .int .i64 0, .int .i64 0, .slice none 0 0, .bool false, .slice none 0 0, .slice none 0 0] 37)
  go_enter Try.func36, Try.ntmps36
  cases h0 : wi t 1 65535 with
  | false =>
    go_wp2_with (go_at_call 90; refine (in82_any _ _ _ _).mono ?_; rintro e w' ⟨rfl, rfl⟩)
    go_ret
    exact ⟨by simp [rightM, h0], hA⟩
  | true =>
    cases h1 : wi j 1 1073741824 with
    | false =>
      go_wp2_with (go_at_call 90; refine (in82_any _ _ _ _).mono ?_; rintro e w' ⟨rfl, rfl⟩)
      go_ret
      exact ⟨by simp [rightM, h0, h1], hA⟩
    | true =>
      go_wp2_with (go_at_call 90; refine (in82_any _ _ _ _).mono ?_; rintro e w' ⟨rfl, rfl⟩)
      go_ret
      exact ⟨by simp [rightM, h0, h1], hA⟩
set_option maxRecDepth 100000 in
set_option maxHeartbeats 4000000 in
theorem r59_stor (w : World) (t j : Int) : Calls Try.prog 36 #[.agg #[.int .i64 8, .int .i64 0, .int .i64 t, .int .i64 j, .int .i64 0, .int .i64 0, .int .i64 0, .int .i64 0, .int .i64 0, .int .i64 0, .int .i64 0, .slice none 0 0, .bool false, .slice none 0 0, .slice none 0 0]] w fun e w' => e = .returned (.bool (rightM (.stor t j))) ∧ Below w.heap.size w w' := by
  have hA := below_alloc (Below.refl w.heap.size w) (.cells #[.int .i64 8, .int .i64 0, .int .i64 t, .int .i64 j, .int .i64 0, .int .i64 0, .int .i64 0, .int .i64 0, .int .i64 0, .int .i64 0, .int .i64 0, .slice none 0 0, .bool false, .slice none 0 0, .slice none 0 0] 37)
  go_enter Try.func36, Try.ntmps36
  cases h0 : wi t 1 65535 with
  | false =>
    go_wp2_with (go_at_call 90; refine (in82_any _ _ _ _).mono ?_; rintro e w' ⟨rfl, rfl⟩)
    go_ret
    exact ⟨by simp [rightM, h0], hA⟩
  | true =>
    cases h1 : wi j 1 1073741824 with
    | false =>
      go_wp2_with (go_at_call 90; refine (in82_any _ _ _ _).mono ?_; rintro e w' ⟨rfl, rfl⟩)
      go_ret
      exact ⟨by simp [rightM, h0, h1], hA⟩
    | true =>
      go_wp2_with (go_at_call 90; refine (in82_any _ _ _ _).mono ?_; rintro e w' ⟨rfl, rfl⟩)
      go_ret
      exact ⟨by simp [rightM, h0, h1], hA⟩
set_option maxRecDepth 100000 in
set_option maxHeartbeats 4000000 in
theorem r59_unp (w : World) (t j : Int) : Calls Try.prog 36 #[.agg #[.int .i64 9, .int .i64 0, .int .i64 t, .int .i64 j, .int .i64 0, .int .i64 0, .int .i64 0, .int .i64 0, .int .i64 0, .int .i64 0, .int .i64 0, .slice none 0 0, .bool false, .slice none 0 0, .slice none 0 0]] w fun e w' => e = .returned (.bool (rightM (.unp t j))) ∧ Below w.heap.size w w' := by
  have hA := below_alloc (Below.refl w.heap.size w) (.cells #[.int .i64 9, .int .i64 0, .int .i64 t, .int .i64 j, .int .i64 0, .int .i64 0, .int .i64 0, .int .i64 0, .int .i64 0, .int .i64 0, .int .i64 0, .slice none 0 0, .bool false, .slice none 0 0, .slice none 0 0] 37)
  go_enter Try.func36, Try.ntmps36
  cases h0 : wi t 1 65535 with
  | false =>
    go_wp2_with (go_at_call 90; refine (in82_any _ _ _ _).mono ?_; rintro e w' ⟨rfl, rfl⟩)
    go_ret
    exact ⟨by simp [rightM, h0], hA⟩
  | true =>
    cases h1 : wi j 1 1073741824 with
    | false =>
      go_wp2_with (go_at_call 90; refine (in82_any _ _ _ _).mono ?_; rintro e w' ⟨rfl, rfl⟩)
      go_ret
      exact ⟨by simp [rightM, h0, h1], hA⟩
    | true =>
      go_wp2_with (go_at_call 90; refine (in82_any _ _ _ _).mono ?_; rintro e w' ⟨rfl, rfl⟩)
      go_ret
      exact ⟨by simp [rightM, h0, h1], hA⟩
set_option maxRecDepth 100000 in
set_option maxHeartbeats 4000000 in
theorem r59_unpd (w : World) (a t j : Int) : Calls Try.prog 36 #[.agg #[.int .i64 10, .int .i64 a, .int .i64 t, .int .i64 j, .int .i64 0, .int .i64 0, .int .i64 0, .int .i64 0, .int .i64 0, .int .i64 0, .int .i64 0, .slice none 0 0, .bool false, .slice none 0 0, .slice none 0 0]] w fun e w' => e = .returned (.bool (rightM (.unpd a t j))) ∧ Below w.heap.size w w' := by
  have hA := below_alloc (Below.refl w.heap.size w) (.cells #[.int .i64 10, .int .i64 a, .int .i64 t, .int .i64 j, .int .i64 0, .int .i64 0, .int .i64 0, .int .i64 0, .int .i64 0, .int .i64 0, .int .i64 0, .slice none 0 0, .bool false, .slice none 0 0, .slice none 0 0] 37)
  go_enter Try.func36, Try.ntmps36
  cases h0 : wi t 1 65535 with
  | false =>
    go_wp2_with (go_at_call 90; refine (in82_any _ _ _ _).mono ?_; rintro e w' ⟨rfl, rfl⟩)
    go_ret
    exact ⟨by simp [rightM, h0], hA⟩
  | true =>
    cases h1 : wi j 1 1073741824 with
    | false =>
      go_wp2_with (go_at_call 90; refine (in82_any _ _ _ _).mono ?_; rintro e w' ⟨rfl, rfl⟩)
      go_ret
      exact ⟨by simp [rightM, h0, h1], hA⟩
    | true =>
      cases h2 : wi a 0 3 with
      | false =>
        go_wp2_with (go_at_call 90; refine (in82_any _ _ _ _).mono ?_; rintro e w' ⟨rfl, rfl⟩)
        go_ret
        exact ⟨by simp [rightM, h0, h1, h2], hA⟩
      | true =>
        go_wp2_with (go_at_call 90; refine (in82_any _ _ _ _).mono ?_; rintro e w' ⟨rfl, rfl⟩)
        go_ret
        exact ⟨by simp [rightM, h0, h1, h2], hA⟩
set_option maxRecDepth 100000 in
set_option maxHeartbeats 4000000 in
theorem r59_pinned (w : World) (a t j n : Int) (l : Bool) : Calls Try.prog 36 #[.agg #[.int .i64 3, .int .i64 0, .int .i64 0, .int .i64 0, .int .i64 0, .int .i64 0, .int .i64 0, .int .i64 a, .int .i64 t, .int .i64 j, .int .i64 n, .slice none 0 0, .bool l, .slice none 0 0, .slice none 0 0]] w fun e w' => e = .returned (.bool (rightM (.pinned ⟨a, t, j, n, .slice none 0 0, [], l⟩))) ∧ Below w.heap.size w w' := by
  have hA := below_alloc (Below.refl w.heap.size w) (.cells #[.int .i64 3, .int .i64 0, .int .i64 0, .int .i64 0, .int .i64 0, .int .i64 0, .int .i64 0, .int .i64 a, .int .i64 t, .int .i64 j, .int .i64 n, .slice none 0 0, .bool l, .slice none 0 0, .slice none 0 0] 37)
  go_enter Try.func36, Try.ntmps36
  go_wp2_with fail
  refine (part81_any _ a t j n l).mono ?_
  rintro e w1 ⟨rfl, hb⟩
  have hb1 := below_trans' hb hA
  go_wp2
  go_ret
  exact ⟨rfl, hb1⟩
set_option maxRecDepth 100000 in
set_option maxHeartbeats 4000000 in
theorem r59_none (w : World) : Calls Try.prog 36 #[.agg #[.int .i64 0, .int .i64 0, .int .i64 0, .int .i64 0, .int .i64 0, .int .i64 0, .int .i64 0, .int .i64 0, .int .i64 0, .int .i64 0, .int .i64 0, .slice none 0 0, .bool false, .slice none 0 0, .slice none 0 0]] w fun e w' => e = .returned (.bool (rightM .none)) ∧ Below w.heap.size w w' := by
  have hA := below_alloc (Below.refl w.heap.size w) (.cells #[.int .i64 0, .int .i64 0, .int .i64 0, .int .i64 0, .int .i64 0, .int .i64 0, .int .i64 0, .int .i64 0, .int .i64 0, .int .i64 0, .int .i64 0, .slice none 0 0, .bool false, .slice none 0 0, .slice none 0 0] 37)
  have h0 : wi 0 1 65535 = false := rfl
  go_enter Try.func36, Try.ntmps36
  go_wp2_with (go_at_call 90; refine (in82_any _ _ _ _).mono ?_; rintro e w' ⟨rfl, rfl⟩)
  go_ret
  exact ⟨rfl, hA⟩
end Go.Proofs.Ytniggacgkhkgiaa.Msg
/- What the reference's Right says of a Chunk. Conditions: its spans lie in memory. -/
namespace Go.Proofs.Ytniggacgkhkgiaa.Msg
open Go.RowKit Go.Sp Go.Sort

set_option maxRecDepth 100000 in
set_option maxHeartbeats 4000000 in
theorem r59_chunk (w : World) (a t j i n : Int) {sa : Option Addr} {sc : Nat} {xs : List Spn} (h : RS w 3 eSpn (.slice sa xs.length sc) xs) :
    Calls Try.prog 36 #[.agg #[.int .i64 6, .int .i64 a, .int .i64 t, .int .i64 j, .int .i64 0, .int .i64 i, .int .i64 n, .int .i64 0, .int .i64 0, .int .i64 0, .int .i64 0, .slice none 0 0, .bool false, .slice none 0 0, .slice sa xs.length sc]] w fun e w' => e = .returned (.bool (rightM (.chunk a t j i n (.slice sa xs.length sc) xs))) ∧ Below w.heap.size w w' := by
  have hA := below_alloc (Below.refl w.heap.size w) (.cells #[.int .i64 6, .int .i64 a, .int .i64 t, .int .i64 j, .int .i64 0, .int .i64 i, .int .i64 n, .int .i64 0, .int .i64 0, .int .i64 0, .int .i64 0, .slice none 0 0, .bool false, .slice none 0 0, .slice sa xs.length sc] 37)
  have hbx := heap_new w (.cells #[.int .i64 6, .int .i64 a, .int .i64 t, .int .i64 j, .int .i64 0, .int .i64 i, .int .i64 n, .int .i64 0, .int .i64 0, .int .i64 0, .int .i64 0, .slice none 0 0, .bool false, .slice none 0 0, .slice sa xs.length sc] 37) rfl
  have hl := h.1
  unfold maxLen at hl
  go_enter Try.func36, Try.ntmps36
  cases h0 : wi t 1 65535 with
  | false =>
    go_wp2_with (go_at_call 90; refine (in82_any _ _ _ _).mono ?_; rintro e w' ⟨rfl, rfl⟩)
    go_ret
    exact ⟨by simp [rightM, h0], hA⟩
  | true =>
    cases h1 : wi j 1 1073741824 with
    | false =>
      go_wp2_with (go_at_call 90; refine (in82_any _ _ _ _).mono ?_; rintro e w' ⟨rfl, rfl⟩)
      go_ret
      exact ⟨by simp [rightM, h1], hA⟩
    | true =>
      go_wp2_with (go_at_call 90; refine (in82_any _ _ _ _).mono ?_; rintro e w' ⟨rfl, rfl⟩)
      generalize (w.alloc (.cells #[.int .i64 6, .int .i64 a, .int .i64 t, .int .i64 j, .int .i64 0, .int .i64 i, .int .i64 n, .int .i64 0, .int .i64 0, .int .i64 0, .int .i64 0, .slice none 0 0, .bool false, .slice none 0 0, .slice sa xs.length sc] 37)) = w0 at hA hbx ⊢
      have hlt : w.heap.size < w0.heap.size := (Array.getElem?_eq_some_iff.1 hbx).1
      go_loopw [3] (fun v wr => ∃ q : Nat, q ≤ xs.length ∧ v = .int .i64 q ∧ Below w0.heap.size w0 wr ∧ (xs.take q).all (fun x => rightSp x && decide (x.1 = t)) = true) (fun v _ => xs.length - (intOf v).toNat)
      case atStart => exact ⟨0, Nat.zero_le _, rfl, Below.refl _ _, rfl⟩
      case round =>
        obtain ⟨q, hq, rfl, hb, hJ⟩ := hrel
        have hbw := below_trans' hb hA
        have hbxr := (hb.block _ hlt).trans hbx
        have e14 : wr.cell? ⟨w.heap.size, 14, none⟩ = some (.slice sa xs.length sc) := by simp [World.cell?, hbxr]
        by_cases hqN : q < xs.length
        · obtain ⟨_, a', c', hv, h2⟩ := h.only (only_of_below hbw (fun _ => False)) (fun _ _ => id)
          obtain ⟨b0, o0, ha, hb0, hcl⟩ := h2 (by omega)
          simp only [Value.slice.injEq] at hv
          obtain ⟨rfl, _, rfl⟩ := hv
          subst ha
          obtain ⟨x, hx⟩ : ∃ x, xs[q]? = some x := ⟨_, List.getElem?_eq_getElem hqN⟩
          have hT : (xs.take (q + 1)).all (fun x => rightSp x && decide (x.1 = t)) = (rightSp x && decide (x.1 = t)) := by
            rw [List.take_add_one, hx, List.all_append, hJ]; simp
          have hM : (rightSp x && decide (x.1 = t)) = false → rightM (.chunk a t j i n (.slice (some ⟨b0, o0, none⟩) xs.length sc) xs) = false := fun e => by
            have : (xs.all fun x => rightSp x && decide (x.1 = t)) = false := by rw [List.all_eq_false]; exact ⟨_, List.mem_of_getElem? hx, by simpa using e⟩
            simp [rightM, this]
          have g0 := hcl q x 0 _ hx rfl
          have g1 := hcl q x 1 _ hx rfl
          have g2 := hcl q x 2 _ hx rfl
          rw [← Nat.add_assoc] at g0 g1 g2
          rw [Nat.add_zero] at g0
          obtain ⟨y, s, tx⟩ := x
          simp only at g0 g1 g2
          have e2 : wr.cell? ⟨w.heap.size, 2, none⟩ = some (.int .i64 t) := by simp [World.cell?, hbxr]
          have HT := Lib.hid hT
          have HM := Lib.hid hM
          have k14 := fun d os => cell_regrown e14 d os
          have k0 := fun d os => cell_regrown g0 d os
          have k1 := fun d os => cell_regrown g1 d os
          have k2 := fun d os => cell_regrown g2 d os
          have kt := fun d os => cell_regrown e2 d os
          have HR := fun d os => right05_any (grow (redrawn wr d) os) (y, s, tx)
          simp only at HR
          have HB := Lib.hid (And.intro hbw hb)
          clear hT hM hcl hx h2 g0 g1 g2 e2 hJ hbx hbxr hA h hb hbw
          cases hr : rightSp (y, s, tx) with
          | false =>
            rw [hr] at HR
            have HE := Lib.hid (HM.out (by rw [hr]; rfl))
            have cQ := fun d os => Calls.regrown_of (HR d os)
            clear hr HR
            go_upto_region 15 with (fail)
            refine wp_region_quiet_below (by kernel_rfl) (by kernel_rfl) ?_
            repeat (first | go_big_quiet_step (exact cQ _ _) | quiet_step (exact cQ _ _))
            refine wpQuiet_nil ?_
            intro w2 hw2
            obtain ⟨p, rfl⟩ := hw2
            have hbr := below_regrown wr p.d p.os
            generalize grow (redrawn wr p.d) p.os = w2 at hbr ⊢
            clear k14 k0 k1 k2 kt cQ
            have hbe := below_trans' hbr HB.out.1
            go_wp2
            go_ret
            exact ⟨by rw [HE.out]; rfl, hbe⟩
          | true =>
            rw [hr] at HR
            have cQ := fun d os => Calls.regrown_of (HR d os)
            clear HR
            by_cases hy : y = t
            · have b1 : (y != t) = false := by simp [hy]
              have HE := Lib.hid (show (rightSp (y, s, tx) && decide (y = t)) = true by rw [hr, decide_eq_true hy]; rfl)
              clear hr hy
              go_upto_region 15 with (fail)
              refine wp_region_quiet_below (by kernel_rfl) (by kernel_rfl) ?_
              repeat (first | go_big_quiet_step (exact cQ _ _) | quiet_step (exact cQ _ _))
              refine wpQuiet_nil ?_
              intro w2 hw2
              obtain ⟨p, rfl⟩ := hw2
              have hbr := below_regrown wr p.d p.os
              generalize grow (redrawn wr p.d) p.os = w2 at hbr ⊢
              clear k14 k0 k1 k2 kt cQ
              have hbe := below_trans' hbr HB.out.2
              go_wp2
              exact ⟨⟨q + 1, by omega, by go_num, hbe, by rw [HT.out]; exact HE.out⟩, by simp [intOf]; omega⟩
            · have b1 : (y != t) = true := by simp [hy]
              have HE := Lib.hid (HM.out (by rw [hr, decide_eq_false hy]; rfl))
              clear hr hy
              go_upto_region 15 with (fail)
              refine wp_region_quiet_below (by kernel_rfl) (by kernel_rfl) ?_
              repeat (first | go_big_quiet_step (exact cQ _ _) | quiet_step (exact cQ _ _))
              refine wpQuiet_nil ?_
              intro w2 hw2
              obtain ⟨p, rfl⟩ := hw2
              have hbr := below_regrown wr p.d p.os
              generalize grow (redrawn wr p.d) p.os = w2 at hbr ⊢
              clear k14 k0 k1 k2 kt cQ
              have hbe := below_trans' hbr HB.out.1
              go_wp2
              go_ret
              exact ⟨by rw [HE.out]; rfl, hbe⟩
        · have hqe : q = xs.length := by omega
          subst hqe
          rw [List.take_length] at hJ
          have e1 : wr.cell? ⟨w.heap.size, 1, none⟩ = some (.int .i64 a) := by simp [World.cell?, hbxr]
          have e5 : wr.cell? ⟨w.heap.size, 5, none⟩ = some (.int .i64 i) := by simp [World.cell?, hbxr]
          have e6 : wr.cell? ⟨w.heap.size, 6, none⟩ = some (.int .i64 n) := by simp [World.cell?, hbxr]
          have HJ := Lib.hid (And.intro hJ hbw)
          clear hJ h hbxr hb hbw hbx hA
          cases h2 : wi a 0 3 with
          | false =>
            go_wp2_with (go_at_call 90; refine (in82_any _ _ _ _).mono ?_; rintro e w' ⟨rfl, rfl⟩)
            go_ret
            exact ⟨by simp [rightM, h2], HJ.out.2⟩
          | true =>
            cases h3 : wi n 1 500 with
            | false =>
              go_wp2_with (go_at_call 90; refine (in82_any _ _ _ _).mono ?_; rintro e w' ⟨rfl, rfl⟩)
              go_ret
              exact ⟨by simp [rightM, h3], HJ.out.2⟩
            | true =>
              have hn1 : wrap64 (n - 1) = n - 1 := by have := (wi_true.1 h3); unfold wrap64; omega
              cases h4 : wi i 0 (n - 1) with
              | false =>
                go_wp2_with (go_at_call 90; refine (in82_any _ _ _ _).mono ?_; rintro e w' ⟨rfl, rfl⟩)
                go_ret
                exact ⟨by simp [rightM, h4], HJ.out.2⟩
              | true =>
                by_cases h5 : xs.length ≤ 2
                · have b5 : decide ((xs.length : Int) ≤ 2) = true := decide_eq_true (by omega)
                  have H5 := Lib.hid h5
                  go_wp2_with (go_at_call 90; refine (in82_any _ _ _ _).mono ?_; rintro e w' ⟨rfl, rfl⟩)
                  go_ret
                  exact ⟨by simp only [rightM, h0, h1, h2, h3, h4, decide_eq_true H5.out, HJ.out.1]; rfl, HJ.out.2⟩
                · have b5 : decide ((xs.length : Int) ≤ 2) = false := decide_eq_false (by omega)
                  have H5 := Lib.hid h5
                  go_wp2_with (go_at_call 90; refine (in82_any _ _ _ _).mono ?_; rintro e w' ⟨rfl, rfl⟩)
                  go_ret
                  exact ⟨by simp only [rightM, h0, h1, h2, h3, h4, decide_eq_false H5.out]; rfl, HJ.out.2⟩
end Go.Proofs.Ytniggacgkhkgiaa.Msg
