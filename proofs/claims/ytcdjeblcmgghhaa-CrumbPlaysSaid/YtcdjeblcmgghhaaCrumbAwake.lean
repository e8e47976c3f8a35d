/- The answers that the document fixes for crumb (awake). No condition. -/
import Derived.Test.YtcdjeblcmgghhaaCrumb2
namespace Go.Proofs.Ytcdjeblcmgghhaa.Crumb
open Go.RowKit Go.Sp

theorem reach_ex : IsReach [[1], [2], [], []] 0 [0, 1, 2] := by
  have n4 : (([[1], [2], [], []] : List (List Int)).length : Int) = 4 := rfl
  have b0 : Rch [[1], [2], [], []] 0 0 := .base (by omega) (by omega)
  have b1 : Rch [[1], [2], [], []] 0 1 := .step b0 (l := [1]) rfl (by simp) (by omega) (by omega)
  have b2 : Rch [[1], [2], [], []] 0 2 := .step b1 (l := [2]) rfl (by simp) (by omega) (by omega)
  refine ⟨by decide, fun x => ⟨fun hx => ?_, fun hx => ?_⟩⟩
  · simp at hx
    rcases hx with rfl | rfl | rfl
    · exact b0
    · exact b1
    · exact b2
  · induction hx with
    | base _ _ => simp
    | step _ h1 h2 h3 h4 ih =>
      simp at ih
      rcases ih with rfl | rfl | rfl
      · simp at h1; subst h1; simp at h2; simp [h2]
      · simp at h1; subst h1; simp at h2; simp [h2]
      · simp at h1; subst h1; simp at h2

theorem e1 : addM 3 [] 7 2 = (0, [(7, [2])]) := by decide
theorem e2 : addM 3 [(7, [2])] 7 0 = (0, [(7, [0, 2])]) := by decide
theorem e3 : addM 3 [(7, [0, 2])] 7 2 = (8, [(7, [0, 2])]) := by decide
theorem e4 : addM 3 [(7, [0, 2])] 7 3 = (2, [(7, [0, 2])]) := by decide

theorem nm_lit (w : World) {B : Nat} (hB : B = w.heap.size) : NM (((w.alloc (.cells #[.int .i64 1] 3)).alloc (.cells #[.int .i64 2] 3)).alloc (.cells #[.slice (some ⟨B, 0, none⟩) 1 1, .slice (some ⟨B + 1, 0, none⟩) 1 1, .slice none 0 0, .slice none 0 0] 28)) (.slice (some ⟨B + 1 + 1, 0, none⟩) 4 4) [[1], [2], [], []] := by
  have o2 : Only (fun _ => False) (w.alloc (.cells #[.int .i64 1] 3)) (((w.alloc (.cells #[.int .i64 1] 3)).alloc (.cells #[.int .i64 2] 3)).alloc (.cells #[.slice (some ⟨B, 0, none⟩) 1 1, .slice (some ⟨B + 1, 0, none⟩) 1 1, .slice none 0 0, .slice none 0 0] 28)) := ((Only.refl _ _).alloc _).alloc _
  have o3 : Only (fun _ => False) ((w.alloc (.cells #[.int .i64 1] 3)).alloc (.cells #[.int .i64 2] 3)) (((w.alloc (.cells #[.int .i64 1] 3)).alloc (.cells #[.int .i64 2] 3)).alloc (.cells #[.slice (some ⟨B, 0, none⟩) 1 1, .slice (some ⟨B + 1, 0, none⟩) 1 1, .slice none 0 0, .slice none 0 0] 28)) := (Only.refl _ _).alloc _
  have r1 := (RS.lit w [1] 3 (by unfold maxLen; simp) (cap := 1) hB).only o2 (fun _ _ => id)
  have r2 := (RS.lit (w.alloc (.cells #[.int .i64 1] 3)) [2] 3 (by unfold maxLen; simp) (cap := 1) (b := B + 1) (by simp [hB])).only o3 (fun _ _ => id)
  refine ⟨[.slice (some ⟨B, 0, none⟩) 1 1, .slice (some ⟨B + 1, 0, none⟩) 1 1, .slice none 0 0, .slice none 0 0], rfl, ⟨by unfold maxLen; simp, _, _, rfl, fun _ => ⟨_, 0, rfl, by simp; omega, fun i x j u hx hu => ?_⟩⟩, fun i u l hu hl => ?_⟩
  · have hu' : j = 0 ∧ u = x := by
      cases j with
      | zero => simp [eV] at hu; exact ⟨rfl, hu.symm⟩
      | succ j => simp [eV] at hu
    obtain ⟨rfl, rfl⟩ := hu'
    rw [World.cell?, heap_new _ _ (by simp [hB])]
    simpa using hx
  · match i, hu, hl with
    | 0, hu, hl => simp at hu hl; subst hu; subst hl; exact r1
    | 1, hu, hl => simp at hu hl; subst hu; subst hl; exact r2
    | 2, hu, hl => simp at hu hl; subst hu; subst hl; exact RS.nil _ _ _
    | 3, hu, hl => simp at hu hl; subst hu; subst hl; exact RS.nil _ _ _
    | i + 4, hu, hl => simp at hu

set_option maxRecDepth 100000 in
set_option maxHeartbeats 1000000 in
theorem awake_any (w : World) : Calls Try.prog 43 #[] w fun e w' => e = .returned (.bool true) ∧ Below w.heap.size w w' := by
  go_enter Try.func43, Try.ntmps43
  go_wp2_with (fail)
  refine (new_cr (n := 3) (by omega) (by omega)).mono ?_
  rintro e w1 ⟨R, cb, rfl, h1, hR, hb⟩
  have s1 : St w w1 cb 3 [] := ⟨R, h1, hR, hb⟩
  clear h1 hR hb
  go_wp2_with (fail)
  refine (new_no (n := 5) (by omega)).mono ?_
  rintro e w2 ⟨rfl, rfl⟩
  go_wp2_with (fail)
  refine (s1.add (by decide) e1).mono ?_
  rintro e w2 ⟨rfl, s2⟩
  go_wp2_with (fail)
  refine (s2.add (by decide) e2).mono ?_
  rintro e w3 ⟨rfl, s3⟩
  go_wp2_with (fail)
  refine (s3.add (by decide) e3).mono ?_
  rintro e w4 ⟨rfl, s4⟩
  go_wp2_with (fail)
  refine (s4.add (by decide) e4).mono ?_
  rintro e w5 ⟨rfl, s5⟩
  clear s1 s2 s3 s4
  go_wp2_with (fail)
  refine (s5.of 7).mono ?_
  rintro e w6 ⟨v6, rfl, r6, n6, b6, s6⟩
  obtain ⟨_, a6, c6, rfl, q6⟩ := id r6
  clear s5 q6
  go_wp2_with (fail)
  refine (sameInts_any (xs := [0, 2]) (ys := [0, 2]) (r6.only ((Only.refl (fun _ => False) w6).alloc _) (fun _ _ => id)) (RS.lit w6 [0, 2] _ (by unfold maxLen; simp) rfl)).mono ?_
  rintro e w7 ⟨rfl, q, rfl⟩
  have s7 := (s6.alloc (.cells #[.int .i64 0, .int .i64 2] 3)).drewN q
  clear r6 n6 b6 s6
  go_wp2_with (fail)
  refine (s7.traces (by simp)).mono ?_
  rintro e w8 ⟨v8, rfl, r8, n8, b8, s8⟩
  obtain ⟨_, a8, c8, rfl, q8⟩ := id r8
  clear s7 q8
  go_wp2_with (fail)
  refine (sameInts_any (xs := [7]) (ys := [7]) (r8.only ((Only.refl (fun _ => False) w8).alloc _) (fun _ _ => id)) (RS.lit w8 [7] _ (by unfold maxLen; simp) rfl)).mono ?_
  rintro e w9 ⟨rfl, q2, rfl⟩
  have s9 := (s8.alloc (.cells #[.int .i64 7] 3)).drewN q2
  clear r8 n8 b8 s8
  go_wp2_with (fail)
  have hnm := nm_lit ((w8.alloc (.cells #[.int .i64 7] 3)).drewN q2) (B := w8.heap.size + 1) (by simp)
  refine (reach_any hnm (by simp) (by intro l hl; simp at hl; rcases hl with rfl | rfl | rfl | rfl <;> simp) 0).mono ?_
  rintro e w10 ⟨u, L, rfl, hsl, hL, hnew, hbel⟩
  have hLe := hL.ext reach_ex
  subst hLe
  have r10 := SL.ints hsl
  obtain ⟨_, a10, c10, rfl, q10⟩ := id r10
  have s10 := (((s9.alloc (.cells #[.int .i64 1] 3)).alloc (.cells #[.int .i64 2] 3)).alloc _).step hbel
  clear s9 q10 hnm hL hsl hbel hnew
  go_wp2_with (fail)
  refine (sameInts_any (xs := [0, 1, 2]) (ys := [0, 1, 2]) (r10.only ((Only.refl (fun _ => False) w10).alloc _) (fun _ _ => id)) (RS.lit w10 [0, 1, 2] _ (by unfold maxLen; simp) rfl)).mono ?_
  rintro e w11 ⟨rfl, q, rfl⟩
  have s11 := (s10.alloc (.cells #[.int .i64 0, .int .i64 1, .int .i64 2] 3)).drewN q
  obtain ⟨R, _, _, hb⟩ := s11
  clear s10 r10
  go_wp2
  go_ret
  exact ⟨rfl, hb⟩
end Go.Proofs.Ytcdjeblcmgghhaa.Crumb
