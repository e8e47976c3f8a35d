/- What the reference's part says of a Pinned that names some. Conditions: its numbers lie in memory. -/
import Derived.Test.YtcdjeblcmgghhaaRef2
import Derived.Test.YtcdjeblcmgghhaaBase
namespace Go.Sp
open Go.RowKit
theorem agOk_iff : ∀ {l : List Int} {x : Int}, agOk x l = true ↔ l.Pairwise (· < ·) ∧ ∀ c ∈ l, x < c ∧ c < 4
  | [], x => by simp [agOk]
  | a :: r, x => by
    rw [agOk_cons, Bool.and_eq_true, Bool.and_eq_true, decide_eq_true_eq, decide_eq_true_eq, agOk_iff (l := r), List.pairwise_cons]
    constructor
    · rintro ⟨h1, h2, h3, h4⟩
      refine ⟨⟨fun y hy => (h4 y hy).1, h3⟩, fun c hc => ?_⟩
      rcases List.mem_cons.1 hc with rfl | hc
      · exact ⟨h1, h2⟩
      · have := h4 c hc; omega
    · rintro ⟨⟨h1, h2⟩, h3⟩
      exact ⟨(h3 a List.mem_cons_self).1, (h3 a List.mem_cons_self).2, h2, fun c hc => ⟨h1 c hc, (h3 c (List.mem_cons_of_mem _ hc)).2⟩⟩
theorem agOk_len {l : List Int} (h : agOk (-1) l = true) : l.length ≤ 4 := by
  obtain ⟨h1, h2⟩ := agOk_iff.1 h
  have := rising_len (lo := 0) (hi := 4) h1 (fun x hx => by have := h2 x hx; omega) (by omega)
  omega
theorem agOk_take {l : List Int} (h : agOk (-1) l = true) (q : Nat) : agOk (-1) (l.take q) = true := by
  obtain ⟨h1, h2⟩ := agOk_iff.1 h
  exact agOk_iff.2 ⟨h1.sublist (List.take_sublist _ _), fun c hc => h2 c (List.mem_of_mem_take hc)⟩
/-- what the reference looks at, place by place -/
def agAt (l : List Int) (q : Nat) (x : Int) : Prop := (0 ≤ x ∧ x ≤ 3) ∧ (0 < q → ∀ y, l[q - 1]? = some y → y < x)
theorem agOk_snoc {l : List Int} {q : Nat} {x : Int} (hx : l[q]? = some x) (h : agOk (-1) (l.take q) = true) : agOk (-1) (l.take (q + 1)) = true ↔ agAt l q x := by
  obtain ⟨h1, h2⟩ := agOk_iff.1 h
  have hql : q < l.length := (List.getElem?_eq_some_iff.1 hx).1
  have hlen : (l.take q).length = q := by rw [List.length_take]; omega
  rw [agOk_iff, List.take_add_one, hx]
  simp only [Option.toList_some, List.pairwise_append, List.pairwise_singleton, List.mem_singleton, List.mem_append, true_and]
  constructor
  · rintro ⟨⟨_, h4⟩, h5⟩
    refine ⟨by have := h5 x (.inr rfl); omega, fun hq y hy => h4 y ?_ x rfl⟩
    exact List.mem_of_getElem? (i := q - 1) (by rw [List.getElem?_take_of_lt (by omega)]; exact hy)
  · rintro ⟨h3, h4⟩
    refine ⟨⟨h1, fun a ha b hb => ?_⟩, fun c hc => ?_⟩
    · subst hb
      obtain ⟨i, hi, rfl⟩ := List.mem_iff_getElem.1 ha
      rw [hlen] at hi
      have hl := h4 (by omega) _ (List.getElem?_eq_getElem (by omega))
      by_cases e : i = q - 1
      · subst e; simpa using hl
      · have := List.pairwise_iff_getElem.1 h1 i (q - 1) (by omega) (by omega) (by omega)
        rw [List.getElem_take, List.getElem_take] at this
        rw [List.getElem_take]
        omega
    · rcases hc with hc | rfl
      · exact h2 c hc
      · omega
end Go.Sp
namespace Go.Proofs.Ytcdjeblcmgghhaa.Msg
open Go.RowKit Go.Sp Go.Sort

theorem in82_below (w : World) (n lo hi : Int) : Calls Try.prog 82 #[.int .i64 n, .int .i64 lo, .int .i64 hi] w fun e w' => e = .returned (.bool (wi n lo hi)) ∧ Below w.heap.size w w' :=
  (in82_any w n lo hi).mono fun e w' ⟨h1, h2⟩ => ⟨h1, by subst h2; exact Below.refl _ _⟩

set_option maxRecDepth 100000 in
set_option maxHeartbeats 4000000 in
theorem partC_any {w : World} {a t j n : Int} {ca : Option Addr} {cc : Nat} {cl : List Int} {l : Bool} (h : RS w 1 eInt (.slice ca cl.length cc) cl) :
    Calls Try.prog 81 #[.agg #[.int .i64 a, .int .i64 t, .int .i64 j, .int .i64 n, .slice ca cl.length cc, .bool l]] w fun e w' => e = .returned (.bool (rightP ⟨a, t, j, n, .slice ca cl.length cc, cl, l⟩)) ∧ Below w.heap.size w w' := by
  have hA := below_alloc (Below.refl w.heap.size w) (.cells #[.int .i64 a, .int .i64 t, .int .i64 j, .int .i64 n, .slice ca cl.length cc, .bool l] 30)
  have hbx := heap_new w (.cells #[.int .i64 a, .int .i64 t, .int .i64 j, .int .i64 n, .slice ca cl.length cc, .bool l] 30) rfl
  have hl := h.1
  unfold maxLen at hl
  go_enter Try.func81, Try.ntmps81
  cases h0 : wi a 0 3 with
  | false =>
    go_wp2_with (go_at_call 82; refine (in82_any _ _ _ _).mono ?_; rintro e w' ⟨rfl, rfl⟩)
    go_ret
    exact ⟨by simp [rightP, h0], hA⟩
  | true =>
    cases h1 : wi t 1 65535 with
    | false =>
      go_wp2_with (go_at_call 82; refine (in82_any _ _ _ _).mono ?_; rintro e w' ⟨rfl, rfl⟩)
      go_ret
      exact ⟨by simp [rightP, h0, h1], hA⟩
    | true =>
      cases h2 : wi j 1 1073741824 with
      | false =>
        go_wp2_with (go_at_call 82; refine (in82_any _ _ _ _).mono ?_; rintro e w' ⟨rfl, rfl⟩)
        go_ret
        exact ⟨by simp [rightP, h0, h1, h2], hA⟩
      | true =>
        cases h3 : wi n 0 1000 with
        | false =>
          go_wp2_with (go_at_call 82; refine (in82_any _ _ _ _).mono ?_; rintro e w' ⟨rfl, rfl⟩)
          go_ret
          exact ⟨by simp [rightP, h0, h1, h2, h3], hA⟩
        | true =>
          have HP := Lib.hid (show rightP ⟨a, t, j, n, .slice ca cl.length cc, cl, l⟩ = agOk (-1) cl by unfold rightP; simp only [h0, h1, h2, h3, Bool.true_and])
          by_cases h4 : cl.length ≤ 4
          · have b4 : decide (4 < (cl.length : Int)) = false := decide_eq_false (by omega)
            go_wp2_with (go_at_call 82; refine (in82_any _ _ _ _).mono ?_; rintro e w' ⟨rfl, rfl⟩)
            generalize (w.alloc (.cells #[.int .i64 a, .int .i64 t, .int .i64 j, .int .i64 n, .slice ca cl.length cc, .bool l] 30)) = w0 at hA hbx ⊢
            have hlt : w.heap.size < w0.heap.size := (Array.getElem?_eq_some_iff.1 hbx).1
            clear h0 h1 h2 h3
            go_loopw [3] (fun v wr => ∃ q : Nat, q ≤ cl.length ∧ v = .int .i64 q ∧ Below w0.heap.size w0 wr ∧ agOk (-1) (cl.take q) = true) (fun v _ => cl.length - (intOf v).toNat)
            case atStart => exact ⟨0, Nat.zero_le _, rfl, Below.refl _ _, rfl⟩
            case round =>
              obtain ⟨q, hq, rfl, hb, hJ⟩ := hrel
              have hbw := below_trans' hb hA
              have hbxr := (hb.block _ hlt).trans hbx
              have e4 : wr.cell? ⟨w.heap.size, 4, none⟩ = some (.slice ca cl.length cc) := by simp [World.cell?, hbxr]
              by_cases hqN : q < cl.length
              · obtain ⟨b0, o0, c0, hv, hb0, hcl⟩ := (h.only (only_of_below hbw (fun _ => False)) (fun _ _ => id)).int (by omega)
                simp only [Value.slice.injEq, true_and] at hv
                obtain ⟨rfl, rfl⟩ := hv
                obtain ⟨x, hx⟩ : ∃ x, cl[q]? = some x := ⟨_, List.getElem?_eq_getElem hqN⟩
                have hS := agOk_snoc hx hJ
                have hno : ¬ agAt cl q x → agOk (-1) cl = false := fun hn => by
                  rw [Bool.eq_false_iff]
                  exact fun e => hn (hS.1 (agOk_take e _))
                have gx := hcl q x hx
                have HS := Lib.hid hS
                have HNO := Lib.hid hno
                have HB := Lib.hid (And.intro hbw hb)
                have k4 := fun d os => cell_regrown e4 d os
                have kx := fun d os => cell_regrown gx d os
                have HR := fun d os => in82_below (grow (redrawn wr d) os) x 0 3
                have HY := Lib.hid (fun (y : Int) (e : cl[q - 1]? = some y) => hcl (q - 1) y e)
                clear hS hno hJ hb hbw hbx hbxr h hA gx hcl
                cases hw : wi x 0 3 with
                | false =>
                  rw [hw] at HR
                  have cQ := fun d os => Calls.regrown_of (HR d os)
                  have HE := Lib.hid (HNO.out (fun e => by have := wi_true.2 e.1; rw [hw] at this; cases this))
                  clear HR hw hx
                  go_upto_region 6 with (fail)
                  refine wp_region_quiet_below (by kernel_rfl) (by kernel_rfl) ?_
                  repeat (first | go_big_quiet_step (exact cQ _ _) | quiet_step (exact cQ _ _))
                  refine wpQuiet_nil ?_
                  intro w2 hw2
                  obtain ⟨p, rfl⟩ := hw2
                  have hbr := below_regrown wr p.d p.os
                  generalize grow (redrawn wr p.d) p.os = w2 at hbr ⊢
                  clear k4 kx cQ
                  have hbe := below_trans' hbr HB.out.1
                  go_wp2
                  go_ret
                  exact ⟨by rw [HP.out, HE.out]; rfl, hbe⟩
                | true =>
                  rw [hw] at HR
                  have cQ := fun d os => Calls.regrown_of (HR d os)
                  have hwx := wi_true.1 hw
                  clear HR hw
                  by_cases hq0 : q = 0
                  · have HE := Lib.hid (HS.out.2 ⟨hwx, fun e => by omega⟩)
                    have bq : decide (0 < (q : Int)) = false := decide_eq_false (by omega)
                    have bq' : decide (0 < q) = false := decide_eq_false (by omega)
                    clear hx hwx hq0
                    go_upto_region 6 with (fail)
                    refine wp_region_quiet_below (by kernel_rfl) (by kernel_rfl) ?_
                    repeat (first | go_big_quiet_step (exact cQ _ _) | quiet_step (exact cQ _ _))
                    refine wpQuiet_nil ?_
                    intro w2 hw2
                    obtain ⟨p, rfl⟩ := hw2
                    have hbr := below_regrown wr p.d p.os
                    generalize grow (redrawn wr p.d) p.os = w2 at hbr ⊢
                    clear k4 kx cQ
                    have hbe := below_trans' hbr HB.out.2
                    go_wp2
                    exact ⟨⟨q + 1, by omega, by go_num, hbe, HE.out⟩, by simp [intOf]; omega⟩
                  · obtain ⟨q, rfl⟩ : ∃ m, q = m + 1 := ⟨q - 1, by omega⟩
                    obtain ⟨y, hy⟩ : ∃ y, cl[q]? = some y := ⟨_, List.getElem?_eq_getElem (by omega)⟩
                    have gy := HY.out y hy
                    simp only [Nat.add_sub_cancel] at gy
                    have ky := fun d os => cell_regrown gy d os
                    by_cases hyx : y < x
                    · have HE := Lib.hid (HS.out.2 ⟨hwx, fun _ y' e => by simp only [Nat.add_sub_cancel] at e; rw [hy] at e; cases e; exact hyx⟩)
                      have b6 : decide (x ≤ y) = false := decide_eq_false (by omega)
                      clear hx hwx hy gy
                      go_upto_region 6 with (fail)
                      refine wp_region_quiet_below (by kernel_rfl) (by kernel_rfl) ?_
                      repeat (first | go_big_quiet_step (exact cQ _ _) | quiet_step (exact cQ _ _))
                      refine wpQuiet_nil ?_
                      intro w2 hw2
                      obtain ⟨p, rfl⟩ := hw2
                      have hbr := below_regrown wr p.d p.os
                      generalize grow (redrawn wr p.d) p.os = w2 at hbr ⊢
                      clear k4 kx ky cQ
                      have hbe := below_trans' hbr HB.out.2
                      go_wp2
                      exact ⟨⟨q + 1 + 1, by omega, by go_num, hbe, HE.out⟩, by simp [intOf]; omega⟩
                    · have HE := Lib.hid (HNO.out (fun e => hyx (e.2 (by omega) y (by simpa using hy))))
                      have b6 : decide (x ≤ y) = true := decide_eq_true (by omega)
                      clear hx hwx hy gy
                      go_upto_region 6 with (fail)
                      refine wp_region_quiet_below (by kernel_rfl) (by kernel_rfl) ?_
                      repeat (first | go_big_quiet_step (exact cQ _ _) | quiet_step (exact cQ _ _))
                      refine wpQuiet_nil ?_
                      intro w2 hw2
                      obtain ⟨p, rfl⟩ := hw2
                      have hbr := below_regrown wr p.d p.os
                      generalize grow (redrawn wr p.d) p.os = w2 at hbr ⊢
                      clear k4 kx ky cQ
                      have hbe := below_trans' hbr HB.out.1
                      go_wp2
                      go_ret
                      exact ⟨by rw [HP.out, HE.out]; rfl, hbe⟩
              · have hqe : q = cl.length := by omega
                subst hqe
                rw [List.take_length] at hJ
                have HJ := Lib.hid hJ
                clear hJ
                go_wp2
                go_ret
                exact ⟨by rw [HP.out, HJ.out]; rfl, hbw⟩
          · have b4 : decide (4 < (cl.length : Int)) = true := decide_eq_true (by omega)
            have HE := Lib.hid (show agOk (-1) cl = false by rw [Bool.eq_false_iff]; exact fun e => h4 (agOk_len e))
            go_wp2_with (go_at_call 82; refine (in82_any _ _ _ _).mono ?_; rintro e w' ⟨rfl, rfl⟩)
            go_ret
            exact ⟨by rw [HP.out, HE.out]; rfl, hA⟩
end Go.Proofs.Ytcdjeblcmgghhaa.Msg
