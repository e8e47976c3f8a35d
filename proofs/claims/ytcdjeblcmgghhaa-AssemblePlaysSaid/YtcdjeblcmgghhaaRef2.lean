/- What the reference's Right says of a Chunk. Conditions: its spans lie in memory. -/
import Derived.Test.YtcdjeblcmgghhaaRef1
import Derived.Deep.RegionHeld3
import Derived.Deep.Cut
import Derived.Lib.QuietBelow
import Derived.BigQuiet
namespace Go.Proofs.Ytcdjeblcmgghhaa.Msg
open Go.RowKit Go.Sp Go.Sort

set_option maxRecDepth 100000 in
set_option maxHeartbeats 4000000 in
theorem r59_chunk (w : World) (a t j i n : Int) {sa : Option Addr} {sc : Nat} {xs : List Spn} (h : RS w 3 eSpn (.slice sa xs.length sc) xs) :
    Calls Try.prog 59 #[.agg #[.int .i64 6, .int .i64 a, .int .i64 t, .int .i64 j, .int .i64 0, .int .i64 i, .int .i64 n, .int .i64 0, .int .i64 0, .int .i64 0, .int .i64 0, .slice none 0 0, .bool false, .slice none 0 0, .slice sa xs.length sc]] w fun e w' => e = .returned (.bool (rightM (.chunk a t j i n (.slice sa xs.length sc) xs))) ∧ Below w.heap.size w w' := by
  have hA := below_alloc (Below.refl w.heap.size w) (.cells #[.int .i64 6, .int .i64 a, .int .i64 t, .int .i64 j, .int .i64 0, .int .i64 i, .int .i64 n, .int .i64 0, .int .i64 0, .int .i64 0, .int .i64 0, .slice none 0 0, .bool false, .slice none 0 0, .slice sa xs.length sc] 34)
  have hbx := heap_new w (.cells #[.int .i64 6, .int .i64 a, .int .i64 t, .int .i64 j, .int .i64 0, .int .i64 i, .int .i64 n, .int .i64 0, .int .i64 0, .int .i64 0, .int .i64 0, .slice none 0 0, .bool false, .slice none 0 0, .slice sa xs.length sc] 34) rfl
  have hl := h.1
  unfold maxLen at hl
  go_enter Try.func59, Try.ntmps59
  cases h0 : wi t 1 65535 with
  | false =>
    go_wp2_with (go_at_call 82; refine (in82_any _ _ _ _).mono ?_; rintro e w' ⟨rfl, rfl⟩)
    go_ret
    exact ⟨by simp [rightM, h0], hA⟩
  | true =>
    cases h1 : wi j 1 1073741824 with
    | false =>
      go_wp2_with (go_at_call 82; refine (in82_any _ _ _ _).mono ?_; rintro e w' ⟨rfl, rfl⟩)
      go_ret
      exact ⟨by simp [rightM, h1], hA⟩
    | true =>
      go_wp2_with (go_at_call 82; refine (in82_any _ _ _ _).mono ?_; rintro e w' ⟨rfl, rfl⟩)
      generalize (w.alloc (.cells #[.int .i64 6, .int .i64 a, .int .i64 t, .int .i64 j, .int .i64 0, .int .i64 i, .int .i64 n, .int .i64 0, .int .i64 0, .int .i64 0, .int .i64 0, .slice none 0 0, .bool false, .slice none 0 0, .slice sa xs.length sc] 34)) = w0 at hA hbx ⊢
      have hlt : w.heap.size < w0.heap.size := (Array.getElem?_eq_some_iff.1 hbx).1
      go_loopw [3] (fun v wr => ∃ q : Nat, q ≤ xs.length ∧ v = .int .i64 q ∧ Below w0.heap.size w0 wr ∧ (xs.take q).all (fun x => rightSp x && decide (x.1 = t)) = true) (fun v _ => xs.length - (intOf v).toNat)
      case atStart => exact ⟨0, Nat.zero_le _, rfl, Below.refl _ _, rfl⟩
      case round =>
        obtain ⟨q, hq, rfl, hb, hJ⟩ := hrel
        have hbw := below_trans' hb hA
        have hbxr := (hb.block _ hlt).trans hbx
        have e14 : wr.cell? ⟨w.heap.size, 14, none⟩ = some (.slice sa xs.length sc) := by simp [World.cell?, hbxr]
        by_cases hqN : q < xs.length
        · obtain ⟨_, a', c', hv, h2⟩ := h.only (only_of_below hbw (fun _ => False)) (fun _ _ => id)
          obtain ⟨b0, o0, ha, hb0, hcl⟩ := h2 (by omega)
          simp only [Value.slice.injEq] at hv
          obtain ⟨rfl, _, rfl⟩ := hv
          subst ha
          obtain ⟨x, hx⟩ : ∃ x, xs[q]? = some x := ⟨_, List.getElem?_eq_getElem hqN⟩
          have hT : (xs.take (q + 1)).all (fun x => rightSp x && decide (x.1 = t)) = (rightSp x && decide (x.1 = t)) := by
            rw [List.take_add_one, hx, List.all_append, hJ]; simp
          have hM : (rightSp x && decide (x.1 = t)) = false → rightM (.chunk a t j i n (.slice (some ⟨b0, o0, none⟩) xs.length sc) xs) = false := fun e => by
            have : (xs.all fun x => rightSp x && decide (x.1 = t)) = false := by rw [List.all_eq_false]; exact ⟨_, List.mem_of_getElem? hx, by simpa using e⟩
            simp [rightM, this]
          have g0 := hcl q x 0 _ hx rfl
          have g1 := hcl q x 1 _ hx rfl
          have g2 := hcl q x 2 _ hx rfl
          rw [← Nat.add_assoc] at g0 g1 g2
          rw [Nat.add_zero] at g0
          obtain ⟨y, s, tx⟩ := x
          simp only at g0 g1 g2
          have e2 : wr.cell? ⟨w.heap.size, 2, none⟩ = some (.int .i64 t) := by simp [World.cell?, hbxr]
          have HT := Lib.hid hT
          have HM := Lib.hid hM
          have k14 := fun d os => cell_regrown e14 d os
          have k0 := fun d os => cell_regrown g0 d os
          have k1 := fun d os => cell_regrown g1 d os
          have k2 := fun d os => cell_regrown g2 d os
          have kt := fun d os => cell_regrown e2 d os
          have HR := fun d os => right05_any (grow (redrawn wr d) os) (y, s, tx)
          simp only at HR
          have HB := Lib.hid (And.intro hbw hb)
          clear hT hM hcl hx h2 g0 g1 g2 e2 hJ hbx hbxr hA h hb hbw
          cases hr : rightSp (y, s, tx) with
          | false =>
            rw [hr] at HR
            have HE := Lib.hid (HM.out (by rw [hr]; rfl))
            have cQ := fun d os => Calls.regrown_of (HR d os)
            clear hr HR
            go_upto_region 15 with (fail)
            refine wp_region_quiet_below (by kernel_rfl) (by kernel_rfl) ?_
            repeat (first | go_big_quiet_step (exact cQ _ _) | quiet_step (exact cQ _ _))
            refine wpQuiet_nil ?_
            intro w2 hw2
            obtain ⟨p, rfl⟩ := hw2
            have hbr := below_regrown wr p.d p.os
            generalize grow (redrawn wr p.d) p.os = w2 at hbr ⊢
            clear k14 k0 k1 k2 kt cQ
            have hbe := below_trans' hbr HB.out.1
            go_wp2
            go_ret
            exact ⟨by rw [HE.out]; rfl, hbe⟩
          | true =>
            rw [hr] at HR
            have cQ := fun d os => Calls.regrown_of (HR d os)
            clear HR
            by_cases hy : y = t
            · have b1 : (y != t) = false := by simp [hy]
              have HE := Lib.hid (show (rightSp (y, s, tx) && decide (y = t)) = true by rw [hr, decide_eq_true hy]; rfl)
              clear hr hy
              go_upto_region 15 with (fail)
              refine wp_region_quiet_below (by kernel_rfl) (by kernel_rfl) ?_
              repeat (first | go_big_quiet_step (exact cQ _ _) | quiet_step (exact cQ _ _))
              refine wpQuiet_nil ?_
              intro w2 hw2
              obtain ⟨p, rfl⟩ := hw2
              have hbr := below_regrown wr p.d p.os
              generalize grow (redrawn wr p.d) p.os = w2 at hbr ⊢
              clear k14 k0 k1 k2 kt cQ
              have hbe := below_trans' hbr HB.out.2
              go_wp2
              exact ⟨⟨q + 1, by omega, by go_num, hbe, by rw [HT.out]; exact HE.out⟩, by simp [intOf]; omega⟩
            · have b1 : (y != t) = true := by simp [hy]
              have HE := Lib.hid (HM.out (by rw [hr, decide_eq_false hy]; rfl))
              clear hr hy
              go_upto_region 15 with (fail)
              refine wp_region_quiet_below (by kernel_rfl) (by kernel_rfl) ?_
              repeat (first | go_big_quiet_step (exact cQ _ _) | quiet_step (exact cQ _ _))
              refine wpQuiet_nil ?_
              intro w2 hw2
              obtain ⟨p, rfl⟩ := hw2
              have hbr := below_regrown wr p.d p.os
              generalize grow (redrawn wr p.d) p.os = w2 at hbr ⊢
              clear k14 k0 k1 k2 kt cQ
              have hbe := below_trans' hbr HB.out.1
              go_wp2
              go_ret
              exact ⟨by rw [HE.out]; rfl, hbe⟩
        · have hqe : q = xs.length := by omega
          subst hqe
          rw [List.take_length] at hJ
          have e1 : wr.cell? ⟨w.heap.size, 1, none⟩ = some (.int .i64 a) := by simp [World.cell?, hbxr]
          have e5 : wr.cell? ⟨w.heap.size, 5, none⟩ = some (.int .i64 i) := by simp [World.cell?, hbxr]
          have e6 : wr.cell? ⟨w.heap.size, 6, none⟩ = some (.int .i64 n) := by simp [World.cell?, hbxr]
          have HJ := Lib.hid (And.intro hJ hbw)
          clear hJ h hbxr hb hbw hbx hA
          cases h2 : wi a 0 3 with
          | false =>
            go_wp2_with (go_at_call 82; refine (in82_any _ _ _ _).mono ?_; rintro e w' ⟨rfl, rfl⟩)
            go_ret
            exact ⟨by simp [rightM, h2], HJ.out.2⟩
          | true =>
            cases h3 : wi n 1 500 with
            | false =>
              go_wp2_with (go_at_call 82; refine (in82_any _ _ _ _).mono ?_; rintro e w' ⟨rfl, rfl⟩)
              go_ret
              exact ⟨by simp [rightM, h3], HJ.out.2⟩
            | true =>
              have hn1 : wrap64 (n - 1) = n - 1 := by have := (wi_true.1 h3); unfold wrap64; omega
              cases h4 : wi i 0 (n - 1) with
              | false =>
                go_wp2_with (go_at_call 82; refine (in82_any _ _ _ _).mono ?_; rintro e w' ⟨rfl, rfl⟩)
                go_ret
                exact ⟨by simp [rightM, h4], HJ.out.2⟩
              | true =>
                by_cases h5 : xs.length ≤ 2
                · have b5 : decide ((xs.length : Int) ≤ 2) = true := decide_eq_true (by omega)
                  have H5 := Lib.hid h5
                  go_wp2_with (go_at_call 82; refine (in82_any _ _ _ _).mono ?_; rintro e w' ⟨rfl, rfl⟩)
                  go_ret
                  exact ⟨by simp only [rightM, h0, h1, h2, h3, h4, decide_eq_true H5.out, HJ.out.1]; rfl, HJ.out.2⟩
                · have b5 : decide ((xs.length : Int) ≤ 2) = false := decide_eq_false (by omega)
                  have H5 := Lib.hid h5
                  go_wp2_with (go_at_call 82; refine (in82_any _ _ _ _).mono ?_; rintro e w' ⟨rfl, rfl⟩)
                  go_ret
                  exact ⟨by simp only [rightM, h0, h1, h2, h3, h4, decide_eq_false H5.out]; rfl, HJ.out.2⟩
end Go.Proofs.Ytcdjeblcmgghhaa.Msg
