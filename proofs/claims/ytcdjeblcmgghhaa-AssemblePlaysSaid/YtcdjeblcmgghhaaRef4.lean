/- What the reference's Right says of a Pinned that names some, and of a Manifest. Conditions: the message's slices lie in memory. PRINTED BY wip/gen_ref4.py. -/
import Derived.Test.YtcdjeblcmgghhaaRef3
namespace Go.Sp
open Go.RowKit
/-- the first q parts may be -/
def ptsTo (t j : Int) (ps : List Pt) (q : Nat) : Prop := (ps.take q).all (fun p => rightP p && (decide (p.t = t) && decide (p.j = j))) = true ∧ agOk (-1) ((ps.map fun p => p.a).take q) = true
theorem ptsTo_all {t j : Int} {ps : List Pt} (h : ptsTo t j ps ps.length) : partsOk t j ps = decide (0 < ps.length) := by
  obtain ⟨h1, h2⟩ := h
  rw [List.take_length] at h1
  rw [List.take_of_length_le (by simp)] at h2
  unfold partsOk
  rw [h1, h2]; simp
theorem ptsTo_len {t j : Int} {ps : List Pt} (h : ptsTo t j ps ps.length) : ps.length ≤ 4 := by
  obtain ⟨_, h2⟩ := h
  rw [List.take_of_length_le (by simp)] at h2
  simpa using agOk_len h2
theorem ptsTo_succ {t j : Int} {ps : List Pt} {q : Nat} {p : Pt} (h : ptsTo t j ps q) (hp : ps[q]? = some p) (h1 : rightP p = true) (h2 : p.t = t) (h3 : p.j = j) (h4 : 0 < q → ∀ y, ps[q - 1]? = some y → y.a < p.a) : ptsTo t j ps (q + 1) := by
  refine ⟨?_, (agOk_snoc (by rw [List.getElem?_map, hp]; rfl) h.2).2 ⟨?_, fun hq y hy => ?_⟩⟩
  · rw [List.take_add_one, hp, List.all_append, h.1]
    simp [h1, h2, h3]
  · simp only [rightP, Bool.and_eq_true, wi_true] at h1
    exact h1.2.1
  · rw [List.getElem?_map] at hy
    obtain ⟨z, hz, rfl⟩ := Option.map_eq_some_iff.1 hy
    exact h4 hq z hz
theorem parts_no {t j : Int} {ps : List Pt} {q : Nat} {p : Pt} (hp : ps[q]? = some p) (h : ¬ (rightP p = true ∧ p.t = t ∧ p.j = j)) : partsOk t j ps = false := by
  have : (ps.all fun p => rightP p && (decide (p.t = t) && decide (p.j = j))) = false := by
    rw [List.all_eq_false]
    refine ⟨p, List.mem_of_getElem? hp, fun e => h ?_⟩
    simpa using e
  unfold partsOk
  rw [this]; rfl
theorem parts_no' {t j : Int} {ps : List Pt} {q : Nat} {p y : Pt} (hp : ps[q + 1]? = some p) (hy : ps[q]? = some y) (h : ¬ y.a < p.a) : partsOk t j ps = false := by
  have : agOk (-1) (ps.map fun p => p.a) = false := by
    rw [Bool.eq_false_iff]
    intro e
    obtain ⟨h1, _⟩ := agOk_iff.1 e
    obtain ⟨l1, e1⟩ := List.getElem?_eq_some_iff.1 hp
    obtain ⟨l2, e2⟩ := List.getElem?_eq_some_iff.1 hy
    have := List.pairwise_iff_getElem.1 h1 q (q + 1) (by simpa using l2) (by simpa using l1) (by omega)
    simp only [List.getElem_map, e1, e2] at this
    exact h this
  unfold partsOk
  rw [this]; simp
end Go.Sp
namespace Go.Proofs.Ytcdjeblcmgghhaa.Msg
open Go.RowKit Go.Sp Go.Sort

set_option maxRecDepth 100000 in
set_option maxHeartbeats 4000000 in
theorem r59_pinC {w : World} {a t j n : Int} {ca : Option Addr} {cc : Nat} {cl : List Int} {l : Bool} (h : RS w 1 eInt (.slice ca cl.length cc) cl) : Calls Try.prog 59 #[.agg #[.int .i64 3, .int .i64 0, .int .i64 0, .int .i64 0, .int .i64 0, .int .i64 0, .int .i64 0, .int .i64 a, .int .i64 t, .int .i64 j, .int .i64 n, .slice ca cl.length cc, .bool l, .slice none 0 0, .slice none 0 0]] w fun e w' => e = .returned (.bool (rightP ⟨a, t, j, n, .slice ca cl.length cc, cl, l⟩)) ∧ Below w.heap.size w w' := by
  have hA := below_alloc (Below.refl w.heap.size w) (.cells #[.int .i64 3, .int .i64 0, .int .i64 0, .int .i64 0, .int .i64 0, .int .i64 0, .int .i64 0, .int .i64 a, .int .i64 t, .int .i64 j, .int .i64 n, .slice ca cl.length cc, .bool l, .slice none 0 0, .slice none 0 0] 34)
  have hr := h.only (only_of_below hA (fun _ => False)) (fun _ _ => id)
  go_enter Try.func59, Try.ntmps59
  go_wp2_with fail
  refine (partC_any hr).mono ?_
  rintro e w1 ⟨rfl, hb⟩
  have hb1 := below_trans' hb hA
  go_wp2
  go_ret
  exact ⟨rfl, hb1⟩

set_option maxRecDepth 100000 in
set_option maxHeartbeats 4000000 in
theorem r59_mani {w : World} {t j c : Int} {pa : Option Addr} {pc : Nat} {ps : List Pt} (h : Pts w (.slice pa ps.length pc) ps) :
    Calls Try.prog 59 #[.agg #[.int .i64 7, .int .i64 0, .int .i64 t, .int .i64 j, .int .i64 c, .int .i64 0, .int .i64 0, .int .i64 0, .int .i64 0, .int .i64 0, .int .i64 0, .slice none 0 0, .bool false, .slice pa ps.length pc, .slice none 0 0]] w fun e w' => e = .returned (.bool (rightM (.mani t j c (.slice pa ps.length pc) ps))) ∧ Below w.heap.size w w' := by
  have hA := below_alloc (Below.refl w.heap.size w) (.cells #[.int .i64 7, .int .i64 0, .int .i64 t, .int .i64 j, .int .i64 c, .int .i64 0, .int .i64 0, .int .i64 0, .int .i64 0, .int .i64 0, .int .i64 0, .slice none 0 0, .bool false, .slice pa ps.length pc, .slice none 0 0] 34)
  have hbx := heap_new w (.cells #[.int .i64 7, .int .i64 0, .int .i64 t, .int .i64 j, .int .i64 c, .int .i64 0, .int .i64 0, .int .i64 0, .int .i64 0, .int .i64 0, .int .i64 0, .slice none 0 0, .bool false, .slice pa ps.length pc, .slice none 0 0] 34) rfl
  have hl := h.1.1
  unfold maxLen at hl
  have hRM : rightM (.mani t j c (.slice pa ps.length pc) ps) = (wi t 1 65535 && (wi j 1 1073741824 && (wi c 0 3 && partsOk t j ps))) := rfl
  rw [hRM]
  clear hRM
  go_enter Try.func59, Try.ntmps59
  cases h0 : wi t 1 65535 with
  | false =>
    go_wp2_with (go_at_call 82; refine (in82_any _ _ _ _).mono ?_; rintro e w' ⟨rfl, rfl⟩)
    go_ret
    exact ⟨rfl, hA⟩
  | true =>
    cases h1 : wi j 1 1073741824 with
    | false =>
      go_wp2_with (go_at_call 82; refine (in82_any _ _ _ _).mono ?_; rintro e w' ⟨rfl, rfl⟩)
      go_ret
      exact ⟨rfl, hA⟩
    | true =>
      simp only [Bool.true_and]
      go_wp2_with (go_at_call 82; refine (in82_any _ _ _ _).mono ?_; rintro e w' ⟨rfl, rfl⟩)
      generalize (w.alloc (.cells #[.int .i64 7, .int .i64 0, .int .i64 t, .int .i64 j, .int .i64 c, .int .i64 0, .int .i64 0, .int .i64 0, .int .i64 0, .int .i64 0, .int .i64 0, .slice none 0 0, .bool false, .slice pa ps.length pc, .slice none 0 0] 34)) = w0 at hA hbx ⊢
      have hlt : w.heap.size < w0.heap.size := (Array.getElem?_eq_some_iff.1 hbx).1
      clear h0 h1
      go_loopw [4] (fun v wr => ∃ q : Nat, q ≤ ps.length ∧ v = .int .i64 q ∧ Below w0.heap.size w0 wr ∧ ptsTo t j ps q) (fun v _ => ps.length - (intOf v).toNat)
      case atStart => exact ⟨0, Nat.zero_le _, rfl, Below.refl _ _, rfl, rfl⟩
      case round =>
        obtain ⟨q, hq, rfl, hb, hJ⟩ := hrel
        have hbw := below_trans' hb hA
        have hbxr := (hb.block _ hlt).trans hbx
        have e8 : wr.cell? ⟨w.heap.size, 13, none⟩ = some (.slice pa ps.length pc) := by simp [World.cell?, hbxr]
        have hP := h.only (only_of_below hbw (fun _ => False)) (fun _ _ => id) (fun _ _ _ _ => id)
        by_cases hqN : q < ps.length
        · obtain ⟨b0, o0, c0', hv, hb0, hcl⟩ := pts_cells hP.1 (by omega)
          simp only [Value.slice.injEq] at hv
          obtain ⟨rfl, _, rfl⟩ := hv
          obtain ⟨p, hp⟩ : ∃ p, ps[q]? = some p := ⟨_, List.getElem?_eq_getElem hqN⟩
          obtain ⟨g0, g1, g2, g3, g4, g5⟩ := hcl q p hp
          have hcv := hP.2 p (List.mem_of_getElem? hp)
          have HNO := Lib.hid (parts_no (t := t) (j := j) hp)
          have HSU := Lib.hid (ptsTo_succ hJ hp)
          have HPA := Lib.hid (fun q' (e : q = q' + 1) y (hy : ps[q']? = some y) (h : ¬ y.a < p.a) => parts_no' (t := t) (j := j) (by rw [← e]; exact hp) hy h)
          have HY := Lib.hid (fun q' y (hy : ps[q']? = some y) => (hcl q' y hy).1)
          have hrp := rightP
          clear hrp
          obtain ⟨xa, xt, xj, xn, xcv, xcl, xl⟩ := p
          obtain ⟨_, ca, cc, hv, _⟩ := id hcv
          simp only at hv
          subst hv
          simp only at g0 g1 g2 g3 g4 g5
          have hA1 := below_alloc (Below.refl wr.heap.size wr) (.cells #[.int .i64 xa, .int .i64 xt, .int .i64 xj, .int .i64 xn, .slice ca xcl.length cc, .bool xl] 30)
          have hbp := heap_new wr (.cells #[.int .i64 xa, .int .i64 xt, .int .i64 xj, .int .i64 xn, .slice ca xcl.length cc, .bool xl] 30) rfl
          have hlr : w.heap.size < wr.heap.size := Nat.lt_of_lt_of_le hlt hb.size
          have hb0' : b0 < wr.heap.size := hb0
          clear hP h hp hcl hJ
          go_upto_region 23 with (fail)
          generalize (wr.alloc (.cells #[.int .i64 xa, .int .i64 xt, .int .i64 xj, .int .i64 xn, .slice ca xcl.length cc, .bool xl] 30)) = W1 at hA1 hbp ⊢
          have hcv1 := hcv.only (only_of_below hA1 (fun _ => False)) (fun _ _ => id)
          have f8 : W1.cell? ⟨w.heap.size, 13, none⟩ = some (.slice (some ⟨b0, o0, none⟩) ps.length pc) := by rw [hA1.cell (p := ⟨w.heap.size, 13, none⟩) hlr]; exact e8
          have f2 : W1.cell? ⟨w.heap.size, 2, none⟩ = some (.int .i64 t) := by rw [hA1.cell (p := ⟨w.heap.size, 2, none⟩) hlr]; simp [World.cell?, hbxr]
          have f3 : W1.cell? ⟨w.heap.size, 3, none⟩ = some (.int .i64 j) := by rw [hA1.cell (p := ⟨w.heap.size, 3, none⟩) hlr]; simp [World.cell?, hbxr]
          have k8 := fun d os => cell_regrown f8 d os
          have k2 := fun d os => cell_regrown f2 d os
          have k3 := fun d os => cell_regrown f3 d os
          have c0 := fun d os => cell_regrown (cell_blk hbp (j := 0) (u := .int .i64 xa) rfl) d os
          have c1 := fun d os => cell_regrown (cell_blk hbp (j := 1) (u := .int .i64 xt) rfl) d os
          have c2 := fun d os => cell_regrown (cell_blk hbp (j := 2) (u := .int .i64 xj) rfl) d os
          have c3 := fun d os => cell_regrown (cell_blk hbp (j := 3) (u := .int .i64 xn) rfl) d os
          have c4 := fun d os => cell_regrown (cell_blk hbp (j := 4) (u := .slice ca xcl.length cc) rfl) d os
          have c5 := fun d os => cell_regrown (cell_blk hbp (j := 5) (u := .bool xl) rfl) d os
          have HR := fun d os => partC_any (a := xa) (t := xt) (j := xj) (n := xn) (l := xl) (hcv1.only (only_of_below (below_regrown W1 d os) (fun _ => False)) (fun _ _ => id))
          have HB := Lib.hid (And.intro (below_trans' hA1 hbw) (hb.trans (hA1.mono hb.size)))
          have HG := Lib.hid (fun q' y (hy : ps[q']? = some y) => (show W1.cell? ⟨b0, o0 + q' * 6, none⟩ = some (.int .i64 y.a) by rw [hA1.cell (p := ⟨b0, o0 + q' * 6, none⟩) hb0']; exact HY.out q' y hy))
          clear hb hbw hbxr hA hbx hbp hA1 f8 f2 f3 g0 g1 g2 g3 g4 g5 hcv hcv1 HY
          cases hr : rightP ⟨xa, xt, xj, xn, .slice ca xcl.length cc, xcl, xl⟩ with
          | false =>
            rw [hr] at HR
            have cQ := fun d os => Calls.regrown_of (HR d os)
            have HE := Lib.hid (show (wi c 0 3 && partsOk t j ps) = false by rw [HNO.out (fun e => by rw [hr] at e; cases e.1)]; simp)
            clear HR hr
            go_upto_region 23 with (fail)
            refine wp_region_quiet_below (by kernel_rfl) (by kernel_rfl) ?_
            repeat (first | go_big_quiet_step (exact cQ _ _) | quiet_step (exact cQ _ _))
            refine wpQuiet_nil ?_
            intro w2 hw2
            obtain ⟨p2, rfl⟩ := hw2
            have hbr := below_regrown W1 p2.d p2.os
            generalize grow (redrawn W1 p2.d) p2.os = w2 at hbr ⊢
            clear k8 k2 k3 c0 c1 c2 c3 c4 c5 cQ
            have hbe := below_trans' hbr HB.out.1
            go_wp2
            go_ret
            exact ⟨by rw [HE.out]; rfl, hbe⟩
          | true =>
            rw [hr] at HR
            have cQ := fun d os => Calls.regrown_of (HR d os)
            clear HR
            by_cases ht : xt = t
            · have b1 : (xt != t) = false := by simp [ht]
              by_cases hj : xj = j
              · have b2 : (xj != j) = false := by simp [hj]
                by_cases hq0 : q = 0
                · have HE := Lib.hid (HSU.out hr ht hj (fun e => by omega))
                  have bq : decide (0 < (q : Int)) = false := decide_eq_false (by omega)
                  have bq' : decide (0 < q) = false := decide_eq_false (by omega)
                  clear hr ht hj hq0
                  go_upto_region 23 with (fail)
                  refine wp_region_quiet_below (by kernel_rfl) (by kernel_rfl) ?_
                  repeat (first | go_big_quiet_step (exact cQ _ _) | quiet_step (exact cQ _ _))
                  refine wpQuiet_nil ?_
                  intro w2 hw2
                  obtain ⟨p2, rfl⟩ := hw2
                  have hbr := below_regrown W1 p2.d p2.os
                  generalize grow (redrawn W1 p2.d) p2.os = w2 at hbr ⊢
                  clear k8 k2 k3 c0 c1 c2 c3 c4 c5 cQ
                  have hbe := below_trans' hbr HB.out.2
                  go_wp2
                  exact ⟨⟨q + 1, by omega, by go_num, hbe, HE.out⟩, by simp [intOf]; omega⟩
                · obtain ⟨q, rfl⟩ : ∃ m, q = m + 1 := ⟨q - 1, by omega⟩
                  obtain ⟨y, hy⟩ : ∃ y, ps[q]? = some y := ⟨_, List.getElem?_eq_getElem (by omega)⟩
                  have gy := HG.out q y hy
                  have ky := fun d os => cell_regrown gy d os
                  by_cases hyx : y.a < xa
                  · have HE := Lib.hid (HSU.out hr ht hj (fun _ y' e => by simp only [Nat.add_sub_cancel] at e; rw [hy] at e; cases e; exact hyx))
                    have b6 : decide (xa ≤ y.a) = false := decide_eq_false (by omega)
                    clear hr ht hj hy gy
                    go_upto_region 23 with (fail)
                    refine wp_region_quiet_below (by kernel_rfl) (by kernel_rfl) ?_
                    repeat (first | go_big_quiet_step (exact cQ _ _) | quiet_step (exact cQ _ _))
                    refine wpQuiet_nil ?_
                    intro w2 hw2
                    obtain ⟨p2, rfl⟩ := hw2
                    have hbr := below_regrown W1 p2.d p2.os
                    generalize grow (redrawn W1 p2.d) p2.os = w2 at hbr ⊢
                    clear k8 k2 k3 c0 c1 c2 c3 c4 c5 cQ ky
                    have hbe := below_trans' hbr HB.out.2
                    go_wp2
                    exact ⟨⟨q + 1 + 1, by omega, by go_num, hbe, HE.out⟩, by simp [intOf]; omega⟩
                  · have HE := Lib.hid (show (wi c 0 3 && partsOk t j ps) = false by rw [HPA.out q rfl y hy hyx]; simp)
                    have b6 : decide (xa ≤ y.a) = true := decide_eq_true (by omega)
                    clear hr ht hj hy gy
                    go_upto_region 23 with (fail)
                    refine wp_region_quiet_below (by kernel_rfl) (by kernel_rfl) ?_
                    repeat (first | go_big_quiet_step (exact cQ _ _) | quiet_step (exact cQ _ _))
                    refine wpQuiet_nil ?_
                    intro w2 hw2
                    obtain ⟨p2, rfl⟩ := hw2
                    have hbr := below_regrown W1 p2.d p2.os
                    generalize grow (redrawn W1 p2.d) p2.os = w2 at hbr ⊢
                    clear k8 k2 k3 c0 c1 c2 c3 c4 c5 cQ ky
                    have hbe := below_trans' hbr HB.out.1
                    go_wp2
                    go_ret
                    exact ⟨by rw [HE.out]; rfl, hbe⟩
              · have b2 : (xj != j) = true := by simp [hj]
                have HE := Lib.hid (show (wi c 0 3 && partsOk t j ps) = false by rw [HNO.out (fun e => hj e.2.2)]; simp)
                clear hr ht hj
                go_upto_region 23 with (fail)
                refine wp_region_quiet_below (by kernel_rfl) (by kernel_rfl) ?_
                repeat (first | go_big_quiet_step (exact cQ _ _) | quiet_step (exact cQ _ _))
                refine wpQuiet_nil ?_
                intro w2 hw2
                obtain ⟨p2, rfl⟩ := hw2
                have hbr := below_regrown W1 p2.d p2.os
                generalize grow (redrawn W1 p2.d) p2.os = w2 at hbr ⊢
                clear k8 k2 k3 c0 c1 c2 c3 c4 c5 cQ
                have hbe := below_trans' hbr HB.out.1
                go_wp2
                go_ret
                exact ⟨by rw [HE.out]; rfl, hbe⟩
            · have b1 : (xt != t) = true := by simp [ht]
              have HE := Lib.hid (show (wi c 0 3 && partsOk t j ps) = false by rw [HNO.out (fun e => ht e.2.1)]; simp)
              clear hr ht
              go_upto_region 23 with (fail)
              refine wp_region_quiet_below (by kernel_rfl) (by kernel_rfl) ?_
              repeat (first | go_big_quiet_step (exact cQ _ _) | quiet_step (exact cQ _ _))
              refine wpQuiet_nil ?_
              intro w2 hw2
              obtain ⟨p2, rfl⟩ := hw2
              have hbr := below_regrown W1 p2.d p2.os
              generalize grow (redrawn W1 p2.d) p2.os = w2 at hbr ⊢
              clear k8 k2 k3 c0 c1 c2 c3 c4 c5 cQ
              have hbe := below_trans' hbr HB.out.1
              go_wp2
              go_ret
              exact ⟨by rw [HE.out]; rfl, hbe⟩
        · have hqe : q = ps.length := by omega
          subst hqe
          have e1 : wr.cell? ⟨w.heap.size, 4, none⟩ = some (.int .i64 c) := by simp [World.cell?, hbxr]
          have HJ := Lib.hid (ptsTo_all hJ)
          have h4 := ptsTo_len hJ
          clear hJ h hbxr hb hbx hA hP
          cases h2 : wi c 0 3 with
          | false =>
            go_wp2_with (go_at_call 82; refine (in82_any _ _ _ _).mono ?_; rintro e w' ⟨rfl, rfl⟩)
            go_ret
            exact ⟨by rw [h2]; rfl, hbw⟩
          | true =>
            cases h3 : wi (ps.length : Int) 1 4 with
            | false =>
              have HZ := Lib.hid (show ¬ 0 < ps.length from fun e => by have := wi_true.2 (show (1 : Int) ≤ ps.length ∧ (ps.length : Int) ≤ 4 by omega); rw [h3] at this; cases this)
              go_wp2_with (go_at_call 82; refine (in82_any _ _ _ _).mono ?_; rintro e w' ⟨rfl, rfl⟩)
              go_ret
              exact ⟨by rw [h2, HJ.out, decide_eq_false HZ.out]; rfl, hbw⟩
            | true =>
              have HZ := Lib.hid (show 0 < ps.length by have := wi_true.1 h3; omega)
              go_wp2_with (go_at_call 82; refine (in82_any _ _ _ _).mono ?_; rintro e w' ⟨rfl, rfl⟩)
              go_ret
              exact ⟨by rw [h2, HJ.out, decide_eq_true HZ.out]; rfl, hbw⟩
end Go.Proofs.Ytcdjeblcmgghhaa.Msg
