/- What assemble's Missing answers. Conditions: the assembler lies in memory as AsR says. -/
import Derived.Test.YtcdjeblcmgghhaaAsm5
namespace Go.Sp
open Go.RowKit
/-- the agents of which something is missing -/
def missL (t : Int) (C : List Chk) (ps : List Pt) : List Int := (ps.filter fun p => !(partR t C p.a p.n).2).map fun p => p.a
def missM (t : Int) (C : List Chk) : Option (Int × List Pt) → List Int
  | none => []
  | some x => missL t C x.2
theorem missL_len (t : Int) (C : List Chk) (ps : List Pt) : (missL t C ps).length ≤ ps.length := by unfold missL; rw [List.length_map]; exact List.length_filter_le _ _
theorem missL_snoc (t : Int) (C : List Chk) (ps : List Pt) (p : Pt) : missL t C (ps ++ [p]) = missL t C ps ++ bif (partR t C p.a p.n).2 then [] else [p.a] := by
  unfold missL
  rw [List.filter_append, List.map_append]
  cases h : (partR t C p.a p.n).2 <;> simp [h]
end Go.Sp
namespace Go.Proofs.Ytcdjeblcmgghhaa.Asm
open Go.RowKit Go.Sp Msg

section
variable {w : World} {R : Nat → Prop} {ab : Nat} {t j : Int} {man : Option (Int × List Pt)} {C : List Chk}

set_option maxRecDepth 100000 in
set_option maxHeartbeats 4000000 in
theorem missing_any (h : AsR w R ab t j man C) :
    Calls Try.prog 21 #[.pointer (some ⟨ab, 0, none⟩)] w fun e w' => ∃ v, e = .returned v ∧ RS w' 1 eInt v (missM t C man) ∧ (∀ g', v.ownBlock = some g' → w.heap.size ≤ g') ∧ Below w.heap.size w w' := by
  obtain ⟨i0, z0, hi, hz, hz1, hz2, hz3⟩ := info_at (P := Try.prog) (e := 3) (f := (1, 8, 1)) (by kernel_rfl)
  obtain ⟨D, rm, rows, g, md, h0, T, hmd, hsm⟩ := h
  have q2 := h0.c2
  cases md with
  | none =>
    have hmn : missM t C man = [] := by rw [← hmd]; rfl
    rw [hmn]
    simp only [manPtr] at q2
    clear h0 T hmd hsm hmn
    go_enter Try.func21, Try.ntmps21
    go_wp2
    go_ret
    exact ⟨_, rfl, RS.nil _ _ _, fun g' hg' => by simp [Value.ownBlock] at hg', Below.refl _ _⟩
  | some d =>
    obtain ⟨mb, c, pv, ps⟩ := d
    have hmn : missM t C man = missL t C ps := by rw [← hmd]; rfl
    have hps := hsm _ hmd.symm
    rw [hmn]
    simp only [manPtr] at q2
    obtain ⟨hmb, hpv⟩ := h0.mn _ rfl
    obtain ⟨_, _, _, hcr⟩ := h0.mnn _ rfl
    simp only at hmb hpv hcr hps
    obtain ⟨_, a, cp, rfl, _⟩ := id hpv
    have m3 : w.cell? ⟨mb, 3, none⟩ = some (.slice a ps.length cp) := by simp [World.cell?, hmb]
    clear hmd hsm hmn hmb
    go_enter Try.func21, Try.ntmps21
    go_wp2
    go_loopw [2, 24] (fun v i wr => ∃ q : Nat, q ≤ ps.length ∧ i = .int .i64 q ∧ SL wr.heap 3 1 v (missL t C (ps.take q)).length ((missL t C (ps.take q)).map fun x => .int .i64 x) ∧ (∀ g', v.ownBlock = some g' → w.heap.size ≤ g') ∧ Below w.heap.size w wr) (fun _ i _ => ps.length - (intOf i).toNat)
    case atStart => exact ⟨0, Nat.zero_le _, rfl, SL.nil _ _ _, fun g' hg' => by simp [Value.ownBlock] at hg', Below.refl _ _⟩
    case round =>
      obtain ⟨q, hq, rfl, hs, hn, hb⟩ := hrel
      have hpr := hpv.only (only_of_below hb (fun _ => False)) (fun _ _ => id)
      have hml := missL_len t C (ps.take q)
      have htl : (ps.take q).length = q := by simp; omega
      by_cases hqN : q < ps.length
      · obtain ⟨b0, o0, c0', hv, hb0, hcl⟩ := pts_cells hpr (by omega)
        simp only [Value.slice.injEq] at hv
        obtain ⟨rfl, _, rfl⟩ := hv
        obtain ⟨p, hp⟩ : ∃ p, ps[q]? = some p := ⟨_, List.getElem?_eq_getElem hqN⟩
        obtain ⟨g0, g1, g2, g3, g4, g5⟩ := hcl q p hp
        obtain ⟨hcv, _⟩ := hcr p (List.mem_of_getElem? hp)
        have hL := missL_snoc t C (ps.take q) p
        have hts : ps.take (q + 1) = ps.take q ++ [p] := by rw [List.take_add_one, hp]; rfl
        rw [← hts] at hL
        obtain ⟨pa, pt, pj, pn, pcv, pcl, pl⟩ := p
        simp only at hcv g0 g1 g2 g3 g4 g5 hL
        subst hcv
        have HL := Lib.hid hL
        clear hL hts hcl hp m3 q2
        have hA := below_alloc (Below.refl wr.heap.size wr) (.cells #[.int .i64 pa, .int .i64 pt, .int .i64 pj, .int .i64 pn, .slice none 0 0, .bool pl] 65)
        have hbx := heap_new wr (.cells #[.int .i64 pa, .int .i64 pt, .int .i64 pj, .int .i64 pn, .slice none 0 0, .bool pl] 65) rfl
        have hw2 := below_trans' hA hb
        have HP := part_any (h0.below hw2) T (a := pa) (t' := pt) (j' := pj) (n := pn) (ca := none) (cn := 0) (cc := 0) (l := pl)
        go_wp2_with fail
        generalize (wr.alloc (.cells #[.int .i64 pa, .int .i64 pt, .int .i64 pj, .int .i64 pn, .slice none 0 0, .bool pl] 65)) = w2 at hA hbx hw2 HP ⊢
        refine HP.mono ?_
        rintro e w3 ⟨v3, rfl, hr3, hn3, hb3⟩
        obtain ⟨a3, c3, rfl⟩ := hr3.form
        have hlt2 : wr.heap.size < w2.heap.size := (Array.getElem?_eq_some_iff.1 hbx).1
        have hbx3 := (hb3.block wr.heap.size hlt2).trans hbx
        have d0 : w3.cell? ⟨wr.heap.size, 0, none⟩ = some (.int .i64 pa) := by simp [World.cell?, hbx3]
        have hw3 := below_trans' hb3 hw2
        have hs3 := hs.only (only_of_below (below_trans' hb3 hA) (fun _ => False)) (fun _ _ => id)
        generalize partR t C pa pn = PR at *
        obtain ⟨pl1, ok⟩ := PR
        clear HP hr3 hn3 hb3 hbx hbx3 hw2 hA hs
        cases ok with
        | true =>
          have HE := Lib.hid (show missL t C (ps.take (q + 1)) = missL t C (ps.take q) by rw [HL.out]; simp)
          go_wp2
          exact ⟨⟨q + 1, by omega, by go_num, by rw [HE.out]; exact hs3, hn, hw3⟩, by simp [intOf]; omega⟩
        | false =>
          have HE := Lib.hid (show missL t C (ps.take (q + 1)) = missL t C (ps.take q) ++ [pa] by rw [HL.out]; rfl)
          generalize missL t C (ps.take q) = L at *
          go_wp2_with (at_builtin; refine halt ?_)
          refine Halt.go ?_
          refine wpList_appd (v := u2) rfl _ _ _ rfl Try.underlying28 hi hz hz1 hz2 hz3 rfl (hs3.alloc _) (m := 1) (news := [.int .i64 pa]) rfl rfl (cells_new _ _ _ rfl) (by simp [Value.oneCell']) (by unfold maxLen; omega) (by omega) ?_
          rintro v7 w7 hs7 ho7 hv7
          have hb7 : Below w.heap.size w w7 := (below_alloc hw3 _).trans (ho7.below (by have := hw3.size; simp; omega) (fun i hi e => by have := hn i e; omega))
          have hn7 : ∀ g', v7.ownBlock = some g' → w.heap.size ≤ g' := fun g' hg' => by
            rcases hv7 with e | e
            · exact hn g' (by rw [← e]; exact hg')
            · rw [e] at hg'; cases hg'; have := hw3.size; simp; omega
          go_wp2
          exact ⟨⟨q + 1, by omega, by go_num, by rw [HE.out, List.length_append, List.map_append]; exact hs7, hn7, hb7⟩, by simp [intOf]; omega⟩
      · have hqe : q = ps.length := by omega
        subst hqe
        rw [List.take_length] at hs
        have hr := SL.ints hs
        clear htl hml
        go_wp2
        go_ret
        exact ⟨_, rfl, hr, hn, hb⟩
end
end Go.Proofs.Ytcdjeblcmgghhaa.Asm
