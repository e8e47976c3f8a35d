/- What assemble's Record answers. Conditions: the assembler lies in memory as AsR says. -/
import Derived.Test.YtcdjeblcmgghhaaAsm6
import Derived.Handy
import Derived.Deep.Cut
namespace Go.Sp
open Go.RowKit
/-- a record's part in memory, and what it holds -/
structure Pd where
  a : Int
  sv : Value
  sl : List Spn
  cv : Value
  cl : List Int
  l : Bool
def ePd (p : Pd) : List Value := [.int .i64 p.a, p.sv, p.cv, .bool p.l]
theorem ePd_len (p : Pd) : (ePd p).length = 4 := rfl
abbrev Con := Int × List Spn × List Int × Bool
def con (p : Pd) : Con := (p.a, p.sl, p.cl, p.l)
/-- a record: trace, job, class, whole, parts; and whether it is one -/
abbrev Rec := Int × Int × Int × Bool × List Con × Bool
def conL (t : Int) (C : List Chk) (ps : List Pt) : List Con := ps.map fun p => (p.a, (partR t C p.a p.n).1, [], p.l)
def wholeL (ps : List Pt) : Bool := ps.all fun p => !p.l
def recM (t j : Int) (C : List Chk) : Option (Int × List Pt) → Rec
  | none => (0, 0, 0, false, [], false)
  | some x => bif decide (0 < (missL t C x.2).length) then (0, 0, 0, false, [], false) else (t, j, x.1, wholeL x.2, conL t C x.2, true)
end Go.Sp
namespace Go.Proofs.Ytcdjeblcmgghhaa.Asm
open Go.RowKit Go.Sp Msg

/-- a record's parts in memory -/
def Pds (w : World) (v : Value) (qs : List Pd) : Prop := SL w.heap 69 4 v qs.length (qs.flatMap ePd) ∧ ∀ q ∈ qs, SL w.heap 63 3 q.sv q.sl.length (q.sl.flatMap eSpn) ∧ q.cv = .slice none 0 0 ∧ q.cl = []

def RecIs (w : World) (r : Rec) (e : Ending) : Prop := ∃ pv qs, e = .returned (.tuple #[.agg #[.int .i64 r.1, .int .i64 r.2.1, .int .i64 r.2.2.1, .bool r.2.2.2.1, pv], .bool r.2.2.2.2.2]) ∧ Pds w pv qs ∧ qs.map con = r.2.2.2.2.1

section
variable {w : World} {R : Nat → Prop} {ab : Nat} {t j : Int} {man : Option (Int × List Pt)} {C : List Chk}

theorem cloneI_nil (w : World) : Calls Try.prog 63 #[.slice none 0 0] w fun e w' => e = .returned (.slice none 0 0) ∧ w = w' := by
  have qn : ∀ (w : World), (binOp .eql 28 (.slice none 0 0) (.slice none 0 0)).run Try.prog w = .ok (.bool true) w := fun w => run_eql_nil_slice w _ _ none 0 0 0 0 Try.underlying28
  go_enter Try.func63, Try.ntmps63
  go_wp2
  go_ret
  exact ⟨rfl, by first | rfl | trivial⟩

set_option maxRecDepth 100000 in
set_option maxHeartbeats 4000000 in
theorem record_any (h : AsR w R ab t j man C) :
    Calls Try.prog 23 #[.pointer (some ⟨ab, 0, none⟩)] w fun e w' => RecIs w' (recM t j C man) e ∧ Below w.heap.size w w' := by
  obtain ⟨i0, z0, hi, hz, hz1, hz2, hz3⟩ := info_at (P := Try.prog) (e := 69) (f := (4, 64, 4)) (by kernel_rfl)
  have hM := fun (w1 : World) (hb : Below w.heap.size w w1) => missing_any (h.below hb)
  have hA := below_alloc (Below.refl w.heap.size w) (.cells #[.int .i64 0, .int .i64 0, .int .i64 0, .bool false, .slice none 0 0] 50)
  have hbx := heap_new w (.cells #[.int .i64 0, .int .i64 0, .int .i64 0, .bool false, .slice none 0 0] 50) rfl
  obtain ⟨D, rm, rows, g, md, h0, T, hmd, hsm⟩ := h
  cases md with
  | none =>
    have hmn : man = none := hmd.symm
    subst hmn
    have q2 := (h0.below hA).c2
    simp only [manPtr] at q2
    clear h0 T hmd hsm hM
    go_enter Try.func23, Try.ntmps23
    go_wp2
    go_returns
    exact ⟨⟨_, [], rfl, ⟨SL.nil _ _ _, by simp⟩, rfl⟩, hA⟩
  | some d =>
    obtain ⟨mb, c, pv, ps⟩ := d
    have hmn : man = some (c, ps) := hmd.symm
    subst hmn
    have hps := hsm _ rfl
    obtain ⟨hmb, hpv⟩ := h0.mn _ rfl
    obtain ⟨_, _, _, hcr⟩ := h0.mnn _ rfl
    simp only at hmb hpv hcr hps
    obtain ⟨_, a, cp, rfl, _⟩ := id hpv
    have q2 := (h0.below hA).c2
    simp only [manPtr] at q2
    clear hmd hsm
    go_enter Try.func23, Try.ntmps23
    go_wp2_with fail
    refine (hM _ hA).mono ?_
    rintro e w1 ⟨v1, rfl, hr1, hn1, hb1⟩
    obtain ⟨_, a1, c1, rfl, _⟩ := id hr1
    have hlt0 : w.heap.size < (w.alloc (.cells #[.int .i64 0, .int .i64 0, .int .i64 0, .bool false, .slice none 0 0] 50)).heap.size := by simp
    have hbx1 := (hb1.block w.heap.size hlt0).trans hbx
    have hw1 := below_trans' hb1 hA
    have h1 := h0.below hw1
    have hmb1 := (h1.mn _ rfl).1
    simp only at hmb1
    have hRB := h0.rlt
    have r0 : w1.cell? ⟨w.heap.size, 0, none⟩ = some (.int .i64 0) := by simp [World.cell?, hbx1]
    have r1 : w1.cell? ⟨w.heap.size, 1, none⟩ = some (.int .i64 0) := by simp [World.cell?, hbx1]
    have r2 : w1.cell? ⟨w.heap.size, 2, none⟩ = some (.int .i64 0) := by simp [World.cell?, hbx1]
    have r3 : w1.cell? ⟨w.heap.size, 3, none⟩ = some (.bool false) := by simp [World.cell?, hbx1]
    have r4 : w1.cell? ⟨w.heap.size, 4, none⟩ = some (.slice none 0 0) := by simp [World.cell?, hbx1]
    have f0 : ∀ k, w1.frozen? ⟨w.heap.size, k, none⟩ = false := fun k => by simp [World.frozen?, hbx1]
    have hml0 : (missM t C (some (c, ps))).length = (missL t C ps).length := rfl
    clear hM hr1 hn1 hb1 hbx q2 hA
    by_cases hml : 0 < (missL t C ps).length
    · have hd : decide (0 < ((missM t C (some (c, ps))).length : Int)) = true := by rw [hml0]; exact decide_eq_true (by omega)
      have hbs : Only (· = w.heap.size) w1 (((((w1.setCell ⟨w.heap.size, 0, none⟩ (.int .i64 0)).setCell ⟨w.heap.size, 1, none⟩ (.int .i64 0)).setCell ⟨w.heap.size, 2, none⟩ (.int .i64 0)).setCell ⟨w.heap.size, 3, none⟩ (.bool false)).setCell ⟨w.heap.size, 4, none⟩ (.slice none 0 0)) :=
        (((((Only.refl (· = w.heap.size) w1).setCell (p := ⟨w.heap.size, 0, none⟩) (fun _ => rfl) _).setCell (p := ⟨w.heap.size, 1, none⟩) (fun _ => rfl) _).setCell (p := ⟨w.heap.size, 2, none⟩) (fun _ => rfl) _).setCell (p := ⟨w.heap.size, 3, none⟩) (fun _ => rfl) _).setCell (p := ⟨w.heap.size, 4, none⟩) (fun _ => rfl) _
      have hbw := hw1.trans (hbs.below hw1.size (fun i hi e => by omega))
      have HE := Lib.hid (show recM t j C (some (c, ps)) = (0, 0, 0, false, [], false) by simp only [recM]; rw [decide_eq_true hml]; rfl)
      have hb3 : (((((w1.setCell ⟨w.heap.size, 0, none⟩ (.int .i64 0)).setCell ⟨w.heap.size, 1, none⟩ (.int .i64 0)).setCell ⟨w.heap.size, 2, none⟩ (.int .i64 0)).setCell ⟨w.heap.size, 3, none⟩ (.bool false)).setCell ⟨w.heap.size, 4, none⟩ (.slice none 0 0)).heap[w.heap.size]? = some (.cells #[.int .i64 0, .int .i64 0, .int .i64 0, .bool false, .slice none 0 0] 50 (0, 0)) := by
        have g1 := heap_setCell_cells (o := 0) hbx1 (.int .i64 0)
        have g2 := heap_setCell_cells (o := 1) g1 (.int .i64 0)
        have g3 := heap_setCell_cells (o := 2) g2 (.int .i64 0)
        have g4 := heap_setCell_cells (o := 3) g3 (.bool false)
        have g5 := heap_setCell_cells (o := 4) g4 (.slice none 0 0)
        rw [g5]; rfl
      clear hbs h1 h0 T hmb hmb1 hpv hcr hbx1
      go_wp2
      generalize (((((w1.setCell ⟨w.heap.size, 0, none⟩ (.int .i64 0)).setCell ⟨w.heap.size, 1, none⟩ (.int .i64 0)).setCell ⟨w.heap.size, 2, none⟩ (.int .i64 0)).setCell ⟨w.heap.size, 3, none⟩ (.bool false)).setCell ⟨w.heap.size, 4, none⟩ (.slice none 0 0)) = w5 at hb3 hbw ⊢
      have x0 : w5.cell? ⟨w.heap.size, 0, none⟩ = some (.int .i64 0) := by simp [World.cell?, hb3]
      have x1 : w5.cell? ⟨w.heap.size, 1, none⟩ = some (.int .i64 0) := by simp [World.cell?, hb3]
      have x2 : w5.cell? ⟨w.heap.size, 2, none⟩ = some (.int .i64 0) := by simp [World.cell?, hb3]
      have x3 : w5.cell? ⟨w.heap.size, 3, none⟩ = some (.bool false) := by simp [World.cell?, hb3]
      have x4 : w5.cell? ⟨w.heap.size, 4, none⟩ = some (.slice none 0 0) := by simp [World.cell?, hb3]
      refine bodyPost_ret (by simp [results, Try.results23, go_sem, x0, x1, x2, x3, x4]; try rfl) rfl ?_
      rw [HE.out]
      exact ⟨⟨_, [], rfl, ⟨SL.nil _ _ _, by simp⟩, rfl⟩, hbw⟩
    · have hd : decide (0 < ((missM t C (some (c, ps))).length : Int)) = false := by rw [hml0]; exact decide_eq_false (by omega)
      have k0 := h1.c0
      have k1 := h1.c1
      have k2 := h1.c2
      simp only [manPtr] at k2
      have k3 : w1.cell? ⟨mb, 2, none⟩ = some (.int .i64 c) := by simp [World.cell?, hmb1]
      go_upto_region 3 with (fail)
      have CTX := Lib.hid (And.intro h0 (And.intro h1 (And.intro T (And.intro hw1 (And.intro hmb1 (And.intro hbx1 (And.intro hpv (And.intro hcr (And.intro hml hRB)))))))))
      clear h0 h1 T hw1 hmb1 hbx1 hpv hcr hml hRB hmb hlt0 hml0 hd
      have f00 := f0 0
      have f01 := f0 1
      have f02 := f0 2
      have f03 := f0 3
      have f04 := f0 4
      clear f0
      go_still_tail 16, (by kernel_rfl)
      change wpList _ _ _ _ _ w1.drew
      obtain ⟨h0, h1, T, hw1, hmb1, hbx1, hpv, hcr, hml, hRB⟩ := CTX.out
      have h2 := h1.drewN 1
      have hw2 : Below w.heap.size w w1.drew := hw1.drew
      have hmb2 : w1.drew.heap[mb]? = _ := hmb1
      have hbx2 : w1.drew.heap[w.heap.size]? = _ := hbx1
      have hsz2 : w1.drew.heap.size = w1.heap.size := rfl
      have r0 : w1.drew.cell? ⟨w.heap.size, 0, none⟩ = some (.int .i64 0) := by simp [World.cell?, hbx2]
      have r1 : w1.drew.cell? ⟨w.heap.size, 1, none⟩ = some (.int .i64 0) := by simp [World.cell?, hbx2]
      have r2 : w1.drew.cell? ⟨w.heap.size, 2, none⟩ = some (.int .i64 0) := by simp [World.cell?, hbx2]
      have r3 : w1.drew.cell? ⟨w.heap.size, 3, none⟩ = some (.bool false) := by simp [World.cell?, hbx2]
      have r4 : w1.drew.cell? ⟨w.heap.size, 4, none⟩ = some (.slice none 0 0) := by simp [World.cell?, hbx2]
      have f0 : w1.drew.frozen? ⟨w.heap.size, 0, none⟩ = false := by simp [World.frozen?, hbx2]
      have f1 : w1.drew.frozen? ⟨w.heap.size, 1, none⟩ = false := by simp [World.frozen?, hbx2]
      have f2 : w1.drew.frozen? ⟨w.heap.size, 2, none⟩ = false := by simp [World.frozen?, hbx2]
      have f3 : w1.drew.frozen? ⟨w.heap.size, 3, none⟩ = false := by simp [World.frozen?, hbx2]
      have f4 : w1.drew.frozen? ⟨w.heap.size, 4, none⟩ = false := by simp [World.frozen?, hbx2]
      replace h2 : Arep w1.drew R D ab rm t j (some ⟨mb, c, .slice a ps.length cp, ps⟩) rows g := h2
      clear h0 h1 CTX hw1 hmb1 hbx1 f00 f01 f02 f03 f04 k0 k1 k2 k3 hsz2
      generalize w1.drew = w2 at h2 hw2 hmb2 hbx2 r0 r1 r2 r3 r4 f0 f1 f2 f3 f4 ⊢
      have hOs : Only (· = w.heap.size) w2 (((((w2.setCell ⟨w.heap.size, 0, none⟩ (.int .i64 t)).setCell ⟨w.heap.size, 1, none⟩ (.int .i64 j)).setCell ⟨w.heap.size, 2, none⟩ (.int .i64 c)).setCell ⟨w.heap.size, 3, none⟩ (.bool true)).setCell ⟨w.heap.size, 4, none⟩ (.slice none 0 0)) :=
        (((((Only.refl (· = w.heap.size) w2).setCell (p := ⟨w.heap.size, 0, none⟩) (fun _ => rfl) _).setCell (p := ⟨w.heap.size, 1, none⟩) (fun _ => rfl) _).setCell (p := ⟨w.heap.size, 2, none⟩) (fun _ => rfl) _).setCell (p := ⟨w.heap.size, 3, none⟩) (fun _ => rfl) _).setCell (p := ⟨w.heap.size, 4, none⟩) (fun _ => rfl) _
      have hb3 : (((((w2.setCell ⟨w.heap.size, 0, none⟩ (.int .i64 t)).setCell ⟨w.heap.size, 1, none⟩ (.int .i64 j)).setCell ⟨w.heap.size, 2, none⟩ (.int .i64 c)).setCell ⟨w.heap.size, 3, none⟩ (.bool true)).setCell ⟨w.heap.size, 4, none⟩ (.slice none 0 0)).heap[w.heap.size]? = some (.cells #[.int .i64 t, .int .i64 j, .int .i64 c, .bool true, .slice none 0 0] 50 (0, 0)) := by
        have g1 := heap_setCell_cells (o := 0) hbx2 (.int .i64 t)
        have g2 := heap_setCell_cells (o := 1) g1 (.int .i64 j)
        have g3 := heap_setCell_cells (o := 2) g2 (.int .i64 c)
        have g4 := heap_setCell_cells (o := 3) g3 (.bool true)
        have g5 := heap_setCell_cells (o := 4) g4 (.slice none 0 0)
        rw [g5]; rfl
      have CTX := Lib.hid (And.intro h2 (And.intro T (And.intro hw2 (And.intro hmb2 (And.intro hbx2 (And.intro hpv (And.intro hcr (And.intro hml (And.intro hRB (And.intro hOs hb3))))))))))
      clear h2 T hw2 hmb2 hbx2 hpv hcr hml hRB hOs hb3
      go_upto_region 4 with (fail)
      obtain ⟨h2, T, hw2, hmb2, hbx2, hpv, hcr, hml, hRB, hOs, hb3⟩ := CTX.out
      clear CTX r0 r1 r2 r3 r4 f0 f1 f2 f3 f4
      have hO3 : Only (fun _ => False) w (((((w2.setCell ⟨w.heap.size, 0, none⟩ (.int .i64 t)).setCell ⟨w.heap.size, 1, none⟩ (.int .i64 j)).setCell ⟨w.heap.size, 2, none⟩ (.int .i64 c)).setCell ⟨w.heap.size, 3, none⟩ (.bool true)).setCell ⟨w.heap.size, 4, none⟩ (.slice none 0 0)) := (only_of_below hw2 (fun _ => False)).trans' hOs (fun i hi e => by omega)
      have hnR : ¬ R w.heap.size := fun e => by have := hRB _ e; omega
      have h3 := h2.only hOs (fun b hb e => hnR (by rw [← e]; exact hb))
      have hsz3 : w.heap.size < (((((w2.setCell ⟨w.heap.size, 0, none⟩ (.int .i64 t)).setCell ⟨w.heap.size, 1, none⟩ (.int .i64 j)).setCell ⟨w.heap.size, 2, none⟩ (.int .i64 c)).setCell ⟨w.heap.size, 3, none⟩ (.bool true)).setCell ⟨w.heap.size, 4, none⟩ (.slice none 0 0)).heap.size := (Array.getElem?_eq_some_iff.1 hb3).1
      generalize (((((w2.setCell ⟨w.heap.size, 0, none⟩ (.int .i64 t)).setCell ⟨w.heap.size, 1, none⟩ (.int .i64 j)).setCell ⟨w.heap.size, 2, none⟩ (.int .i64 c)).setCell ⟨w.heap.size, 3, none⟩ (.bool true)).setCell ⟨w.heap.size, 4, none⟩ (.slice none 0 0)) = w3 at hOs hb3 hO3 h3 hsz3 ⊢
      clear h2 hw2 hmb2 hbx2 hOs
      have k2 := h3.c2
      simp only [manPtr] at k2
      have m3 : w3.cell? ⟨mb, 3, none⟩ = some (.slice a ps.length cp) := by have := (h3.mn _ rfl).1; simp only at this; simp [World.cell?, this]
      have hpv3 := hpv.only hO3 (fun _ _ => id)
      have hbw3 : Below w.heap.size w w3 := hO3.below (Nat.le_refl _) (fun _ _ => id)
      have HE := Lib.hid (show recM t j C (some (c, ps)) = (t, j, c, wholeL ps, conL t C ps, true) by simp only [recM]; rw [decide_eq_false hml]; rfl)
      obtain ⟨B, hB⟩ : ∃ B, B = w.heap.size := ⟨_, rfl⟩
      rw [← hB] at hb3 hsz3 hnR ⊢
      have HB := Lib.hid hB
      clear hB hml hpv hO3 hRB
      go_wp2
      go_loopw [48] (fun i wr => ∃ (q : Nat) (pv : Value) (qs : List Pd), q ≤ ps.length ∧ i = .int .i64 q ∧ wr.heap[B]? = some (.cells #[.int .i64 t, .int .i64 j, .int .i64 c, .bool (wholeL (ps.take q)), pv] 50 (0, 0)) ∧ SL wr.heap 69 4 pv qs.length (qs.flatMap ePd) ∧ qs.length = q ∧ (∀ g', pv.ownBlock = some g' → w3.heap.size ≤ g') ∧
        (∀ p ∈ qs, SL wr.heap 63 3 p.sv p.sl.length (p.sl.flatMap eSpn) ∧ (∀ g', p.sv.ownBlock = some g' → w3.heap.size ≤ g') ∧ p.cv = .slice none 0 0 ∧ p.cl = []) ∧ qs.map con = conL t C (ps.take q) ∧ Only (· = B) w3 wr) (fun i _ => ps.length - (intOf i).toNat)
      case atStart => exact ⟨0, _, [], Nat.zero_le _, rfl, hb3, SL.nil _ _ _, rfl, fun g' hg' => by simp [Value.ownBlock] at hg', by simp, rfl, Only.refl _ _⟩
      case round =>
        obtain ⟨q, pv, qs, hq, rfl, hbr, hs, hql, hnp, hel, hcon, hO⟩ := hrel
        subst hql
        have h4 := h3.only hO (fun b hb e => hnR (by rw [← e]; exact hb))
        have hBw : B < wr.heap.size := (Array.getElem?_eq_some_iff.1 hbr).1
        have hbw : Below w.heap.size w wr := hbw3.trans (hO.below hbw3.size (fun i hi e => by have := HB.out; omega))
        have hpBn : ∀ g', pv.ownBlock = some g' → g' ≠ B := fun g' hg' e => by have := hnp g' hg'; omega
        have hpr := hpv3.only hO (fun g' hg' e => by
          have := (h3.mnn _ rfl).2.2.1 g' hg'
          exact hnR (by rw [← e]; exact h3.dr _ this))
        by_cases hqN : qs.length < ps.length
        · obtain ⟨b0, o0, c0', hv, hb0, hcl⟩ := pts_cells hpr (by omega)
          simp only [Value.slice.injEq] at hv
          obtain ⟨rfl, _, rfl⟩ := hv
          obtain ⟨p, hp⟩ : ∃ p, ps[qs.length]? = some p := ⟨_, List.getElem?_eq_getElem hqN⟩
          obtain ⟨g0, g1, g2, g3, g4, g5⟩ := hcl _ p hp
          obtain ⟨hcv, _⟩ := hcr p (List.mem_of_getElem? hp)
          have hts : ps.take (qs.length + 1) = ps.take qs.length ++ [p] := by rw [List.take_add_one, hp]; rfl
          obtain ⟨pa, pt, pj, pn, pcv, pcl, pl⟩ := p
          simp only at hcv g0 g1 g2 g3 g4 g5
          subst hcv
          have hC1 : conL t C (ps.take (qs.length + 1)) = conL t C (ps.take qs.length) ++ [(pa, (partR t C pa pn).1, [], pl)] := by rw [hts]; simp [conL]
          have hW1 : wholeL (ps.take (qs.length + 1)) = (wholeL (ps.take qs.length) && !pl) := by rw [hts]; simp [wholeL]
          have HC1 := Lib.hid hC1
          have HW1 := Lib.hid hW1
          clear hC1 hW1 hts hcl hp k2 m3
          have hA := below_alloc (Below.refl wr.heap.size wr) (.cells #[.int .i64 pa, .int .i64 pt, .int .i64 pj, .int .i64 pn, .slice none 0 0, .bool pl] 65)
          have hbx := heap_new wr (.cells #[.int .i64 pa, .int .i64 pt, .int .i64 pj, .int .i64 pn, .slice none 0 0, .bool pl] 65) rfl
          have hw2 := below_trans' hA hbw
          have HP := part_any (h4.below hA) T (a := pa) (t' := pt) (j' := pj) (n := pn) (ca := none) (cn := 0) (cc := 0) (l := pl)
          go_wp2_with fail
          generalize (wr.alloc (.cells #[.int .i64 pa, .int .i64 pt, .int .i64 pj, .int .i64 pn, .slice none 0 0, .bool pl] 65)) = w4 at hA hbx hw2 HP ⊢
          refine HP.mono ?_
          rintro e w5 ⟨v3, rfl, hs6, hn6, hb5⟩
          have hlt2 : wr.heap.size < w4.heap.size := (Array.getElem?_eq_some_iff.1 hbx).1
          have hr5 := below_trans' hb5 hA
          have hbx5 := (hb5.block wr.heap.size hlt2).trans hbx
          have hbr5 := (hr5.block B hBw).trans hbr
          have hs5 := hs.only (only_of_below hr5 (fun _ => False)) (fun _ _ => id)
          obtain ⟨a6, c6, rfl⟩ := hs6.form
          have hel5 : ∀ p ∈ qs, SL w5.heap 63 3 p.sv p.sl.length (p.sl.flatMap eSpn) ∧ (∀ g', p.sv.ownBlock = some g' → w3.heap.size ≤ g') ∧ p.cv = .slice none 0 0 ∧ p.cl = [] := fun p hp => ⟨(hel p hp).1.only (only_of_below hr5 (fun _ => False)) (fun _ _ => id), (hel p hp).2⟩
          have hO5 : Only (· = B) w3 w5 := hO.trans (only_of_below hr5 _)
          have hsz35 := hO.size
          have hn6' : ∀ g', (Value.slice a6 (partR t C pa pn).1.length c6).ownBlock = some g' → w3.heap.size ≤ g' := fun g' hg' => by have := (hn6 g' hg').1; have := hA.size; omega
          have hszr5 := hr5.size
          generalize hPR : partR t C pa pn = PR at *
          obtain ⟨L6, ok⟩ := PR
          have HPR := Lib.hid hPR
          simp only at hs6
          clear HP hn6 hb5 hbx hw2 hA hs hel hbr hpr h4 hlt2 g0 g1 g2 g3 g4 g5 hbw hPR
          -- region 8
          have hn6 : (Value.slice a6 L6.length c6).oneCell' = true := rfl
          have hs5d : SL ((w5.alloc (.cells #[.int .i64 pa, .slice a6 L6.length c6, .slice none 0 0, .bool pl] 69)).drew).heap 69 4 pv qs.length (qs.flatMap ePd) := hs5.alloc _
          have hAd : Only (fun _ => False) w5 ((w5.alloc (.cells #[.int .i64 pa, .slice a6 L6.length c6, .slice none 0 0, .bool pl] 69)).drew) := ((Only.refl _ _).alloc _).drew
          have hpvP : pv.ownBlock ≠ some wr.heap.size := sl_not hbx5 hs5 (by decide)
          have hpvB : pv.ownBlock ≠ some B := fun e => hpBn B e rfl
          have hbx5a := hAd.heap hbx5 id
          have hbr5a := hAd.heap hbr5 id
          have hPB : wr.heap.size ≠ B := by omega
          have q1 : w5.drew.cell? ⟨wr.heap.size, 0, none⟩ = some (.int .i64 pa) := by simp [World.cell?, show w5.drew.heap[wr.heap.size]? = _ from hbx5]
          have q2 : w5.drew.cell? ⟨wr.heap.size, 4, none⟩ = some (.slice none 0 0) := by simp [World.cell?, show w5.drew.heap[wr.heap.size]? = _ from hbx5]
          have q3 : w5.drew.cell? ⟨wr.heap.size, 5, none⟩ = some (.bool pl) := by simp [World.cell?, show w5.drew.heap[wr.heap.size]? = _ from hbx5]
          have y1 : ((w5.alloc (.cells #[.int .i64 pa, .slice a6 L6.length c6, .slice none 0 0, .bool pl] 69)).drew).cell? ⟨wr.heap.size, 0, none⟩ = some (.int .i64 pa) := by simp only [World.cell?, hbx5a]; rfl
          have y2 : ((w5.alloc (.cells #[.int .i64 pa, .slice a6 L6.length c6, .slice none 0 0, .bool pl] 69)).drew).cell? ⟨wr.heap.size, 4, none⟩ = some (.slice none 0 0) := by simp only [World.cell?, hbx5a]; rfl
          have y3 : ((w5.alloc (.cells #[.int .i64 pa, .slice a6 L6.length c6, .slice none 0 0, .bool pl] 69)).drew).cell? ⟨wr.heap.size, 5, none⟩ = some (.bool pl) := by simp only [World.cell?, hbx5a]; rfl
          have b4 : w5.drew.cell? ⟨B, 4, none⟩ = some pv := by simp [World.cell?, show w5.drew.heap[B]? = _ from hbr5]
          have b4w : ((w5.alloc (.cells #[.int .i64 pa, .slice a6 L6.length c6, .slice none 0 0, .bool pl] 69)).drew).cell? ⟨B, 4, none⟩ = some pv := by simp only [World.cell?, hbr5a]; rfl
          have CTX := Lib.hid (And.intro hs5 (And.intro hel5 (And.intro hO5 (And.intro hAd (And.intro hs6 (And.intro h3 (And.intro T (And.intro hcon (And.intro hnp (And.intro hpBn hn6')))))))))) 
          have HSD := Lib.hid hs5d
          have HBX := Lib.hid hbx5a
          have HBR := Lib.hid hbr5a
          have HPP := Lib.hid (And.intro hpvP hpvB)
          clear hs5 hel5 hO5 hAd hs6 h3 T hcon hnp hbx5 hbr5 hbx5a hbr5a hs5d hpvP hpvB hpBn hb3 hpv3 hcr hnR hn6'
          go_upto_region 8 with (fail)
          refine wp_region_held_drew (S := fun w' => w'.cell? ⟨wr.heap.size, 0, none⟩ = some (.int .i64 pa) ∧ w'.cell? ⟨wr.heap.size, 4, none⟩ = some (.slice none 0 0) ∧ w'.cell? ⟨wr.heap.size, 5, none⟩ = some (.bool pl)) (by kernel_rfl) ⟨q1, q2, q3⟩ (fun hHeld => ?_)
          refine wpAnyH_take (i := 0) (v := ?_) rfl (by kernel_rfl) (by kernel_rfl) (by kernel_rfl) (fun _ _ _ h => h) (Or.inl ⟨by rfl, ?_⟩) (by assumption) ?_
          rotate_left 1
          · intro w hSw
            (try dsimp only at hSw)
            go_simp
            try with_reducible rfl
          (try simp only [Act.put, List.setIfInBounds_toArray, List.set_cons_zero, List.set_cons_succ])
          refine wpAnyH_take (i := 2) (v := ?_) rfl (by kernel_rfl) (by kernel_rfl) (by kernel_rfl) (fun _ _ _ h => h) (Or.inl ⟨by rfl, ?_⟩) (by assumption) ?_
          rotate_left 1
          · intro w hSw
            (try dsimp only at hSw)
            go_simp
            try with_reducible rfl
          (try simp only [Act.put, List.setIfInBounds_toArray, List.set_cons_zero, List.set_cons_succ])
          refine wpAnyH_take (i := 3) (v := ?_) rfl (by kernel_rfl) (by kernel_rfl) (by kernel_rfl) (fun _ _ _ h => h) (Or.inl ⟨by rfl, ?_⟩) (by assumption) ?_
          rotate_left 1
          · intro w hSw
            (try dsimp only at hSw)
            go_simp
            try with_reducible rfl
          (try simp only [Act.put, List.setIfInBounds_toArray, List.set_cons_zero, List.set_cons_succ])
          refine wpAnyH_take (i := 4) (v := ?_) rfl (by kernel_rfl) (by kernel_rfl) (by kernel_rfl) (fun _ _ _ h => h) (Or.inl ⟨by rfl, ?_⟩) (by assumption) ?_
          rotate_left 1
          · intro w hSw
            (try dsimp only at hSw)
            go_simp
            try with_reducible rfl
          (try simp only [Act.put, List.setIfInBounds_toArray, List.set_cons_zero, List.set_cons_succ])
          refine wpAnyH_take (i := 5) (v := ?_) rfl (by kernel_rfl) (by kernel_rfl) (by kernel_rfl) (fun _ _ _ h => h) (Or.inl ⟨by rfl, ?_⟩) (by assumption) ?_
          rotate_left 1
          · intro w hSw
            (try dsimp only at hSw)
            go_simp
            try with_reducible rfl
          (try simp only [Act.put, List.setIfInBounds_toArray, List.set_cons_zero, List.set_cons_succ])
          refine wpAnyH_take (i := 6) (v := ?_) rfl (by kernel_rfl) (by kernel_rfl) (by kernel_rfl) (fun _ _ _ h => h) (Or.inl ⟨by rfl, ?_⟩) (by assumption) ?_
          rotate_left 1
          · intro w hSw
            (try dsimp only at hSw)
            go_simp
            try with_reducible rfl
          (try simp only [Act.put, List.setIfInBounds_toArray, List.set_cons_zero, List.set_cons_succ])
          refine wpAnyH_take (i := 8) (v := ?_) rfl (by kernel_rfl) (by kernel_rfl) (by kernel_rfl) (fun _ _ _ h => h) (Or.inl ⟨by rfl, ?_⟩) (by assumption) ?_
          rotate_left 1
          · intro w hSw
            (try dsimp only at hSw)
            go_simp
            try with_reducible rfl
          (try simp only [Act.put, List.setIfInBounds_toArray, List.set_cons_zero, List.set_cons_succ])
          refine wpAnyH_take (i := 9) (v := ?_) rfl (by kernel_rfl) (by kernel_rfl) (by kernel_rfl) (fun _ _ _ h => h) (Or.inl ⟨by rfl, ?_⟩) (by assumption) ?_
          rotate_left 1
          · intro w hSw
            (try dsimp only at hSw)
            go_simp
            try with_reducible rfl
          (try simp only [Act.put, List.setIfInBounds_toArray, List.set_cons_zero, List.set_cons_succ])
          refine wpAnyH_ready (rs := [1, 7]) (by kernel_rfl) (by simp) ?_
          refine AllReadyH.cons (o := _) rfl (fun K hK => ?_) ?_
          · skip
            go_simp
            refine hK.out _ _ (by first | exact ⟨q1, q2, q3⟩ | exact ⟨y1, y2, y3⟩ | exact ⟨z1, z2, z3⟩ | exact ⟨x1, x2, x3⟩) (fun hHeld => ?_)
            clear hK K
            (try simp only [Act.put, List.setIfInBounds_toArray, List.set_cons_zero, List.set_cons_succ])
            refine wpAnyH_ready (rs := [7]) (by kernel_rfl) (by simp) ?_
            refine AllReadyH.cons (o := _) rfl (fun K hK => ?_) ?_
            · skip
              go_simp
              go_wp2_with (go_at_call 63; refine (cloneI_nil _).mono ?_; rintro e w' ⟨rfl, rfl⟩)
              refine hK.out _ _ (by first | exact ⟨q1, q2, q3⟩ | exact ⟨y1, y2, y3⟩ | exact ⟨z1, z2, z3⟩ | exact ⟨x1, x2, x3⟩) (fun hHeld => ?_)
              clear hK K
              (try simp only [Act.put, List.setIfInBounds_toArray, List.set_cons_zero, List.set_cons_succ])
              refine wpAnyH_take (i := 10) (v := ?_) rfl (by kernel_rfl) (by kernel_rfl) (by kernel_rfl) (fun _ _ _ h => h) (Or.inl ⟨by rfl, ?_⟩) (by assumption) ?_
              rotate_left 1
              · intro w hSw
                (try dsimp only at hSw)
                go_simp
                try with_reducible rfl
              (try simp only [Act.put, List.setIfInBounds_toArray, List.set_cons_zero, List.set_cons_succ])
              refine wpAnyH_ready (rs := [11]) (by kernel_rfl) (by simp) ?_
              refine AllReadyH.cons (o := _) rfl (fun K hK => ?_) ?_
              · skip
                go_simp
                refine hK.out _ _ (by first | exact ⟨q1, q2, q3⟩ | exact ⟨y1, y2, y3⟩ | exact ⟨z1, z2, z3⟩ | exact ⟨x1, x2, x3⟩) (fun hHeld => ?_)
                clear hK K
                (try simp only [Act.put, List.setIfInBounds_toArray, List.set_cons_zero, List.set_cons_succ])
                refine wpAnyH_ready (rs := [12]) (by kernel_rfl) (by simp) ?_
                refine AllReadyH.cons (o := _) rfl (fun K hK => ?_) ?_
                · skip
                  (refine step_appd (v := pv) rfl _ _ _ rfl Try.underlying48 hi hz hz1 hz2 hz3 rfl HSD.out (ad := ⟨w5.heap.size, 0, none⟩) (m := 1) (c := 1) (news := [.int .i64 pa, .slice a6 L6.length c6, .slice none 0 0, .bool pl]) (by omega) rfl rfl (fun j u hj => cells_new w5 _ _ rfl j u hj) (by simp [Value.oneCell']) (by unfold maxLen; omega) (by omega) rfl ?_)
                  rintro bb o7 c7 w7 hs7 ho7 hv7
                  have hbx7 := ho7.heap HBX.out (fun e => HPP.out.1 e)
                  have hbr7 := ho7.heap HBR.out (fun e => HPP.out.2 e)
                  have hset : Only (· = B) w7 (w7.setCell ⟨B, 4, none⟩ (.slice (some ⟨bb, o7, none⟩) (qs.length + 1) c7)) := (Only.refl (· = B) w7).setCell (p := ⟨B, 4, none⟩) (fun _ => rfl) _
                  have hbx8 := hset.heap hbx7 hPB
                  have z1 : w7.cell? ⟨wr.heap.size, 0, none⟩ = some (.int .i64 pa) := by simp only [World.cell?, hbx7]; rfl
                  have z2 : w7.cell? ⟨wr.heap.size, 4, none⟩ = some (.slice none 0 0) := by simp only [World.cell?, hbx7]; rfl
                  have z3 : w7.cell? ⟨wr.heap.size, 5, none⟩ = some (.bool pl) := by simp only [World.cell?, hbx7]; rfl
                  have x1 : (w7.setCell ⟨B, 4, none⟩ (.slice (some ⟨bb, o7, none⟩) (qs.length + 1) c7)).cell? ⟨wr.heap.size, 0, none⟩ = some (.int .i64 pa) := by simp only [World.cell?, hbx8]; rfl
                  have x2 : (w7.setCell ⟨B, 4, none⟩ (.slice (some ⟨bb, o7, none⟩) (qs.length + 1) c7)).cell? ⟨wr.heap.size, 4, none⟩ = some (.slice none 0 0) := by simp only [World.cell?, hbx8]; rfl
                  have x3 : (w7.setCell ⟨B, 4, none⟩ (.slice (some ⟨bb, o7, none⟩) (qs.length + 1) c7)).cell? ⟨wr.heap.size, 5, none⟩ = some (.bool pl) := by simp only [World.cell?, hbx8]; rfl
                  have b7 : w7.cell? ⟨B, 4, none⟩ = some pv := by simp only [World.cell?, hbr7]; rfl
                  have b7f : w7.frozen? ⟨B, 4, none⟩ = false := by simp [World.frozen?, hbr7]
                  have HS7 := Lib.hid (And.intro hs7 (And.intro ho7 (And.intro hv7 (And.intro hset (And.intro hbx8 hbr7)))))
                  clear hs7 ho7 hv7 hset hbx8 hbx7 hbr7
                  refine hK.out _ _ (by first | exact ⟨q1, q2, q3⟩ | exact ⟨y1, y2, y3⟩ | exact ⟨z1, z2, z3⟩ | exact ⟨x1, x2, x3⟩) (fun hHeld => ?_)
                  clear hK K
                  (try simp only [Act.put, List.setIfInBounds_toArray, List.set_cons_zero, List.set_cons_succ])
                  refine wpAnyH_take (i := 13) (v := ?_) rfl (by kernel_rfl) (by kernel_rfl) (by kernel_rfl) (fun _ _ _ h => h) (Or.inl ⟨by rfl, ?_⟩) (by assumption) ?_
                  rotate_left 1
                  · intro w hSw
                    (try dsimp only at hSw)
                    go_simp
                    try with_reducible rfl
                  (try simp only [Act.put, List.setIfInBounds_toArray, List.set_cons_zero, List.set_cons_succ])
                  refine wpAnyH_ready (rs := [14]) (by kernel_rfl) (by simp) ?_
                  refine AllReadyH.cons (o := _) rfl (fun K hK => ?_) ?_
                  · skip
                    go_simp
                    refine hK.out _ _ (by first | exact ⟨q1, q2, q3⟩ | exact ⟨y1, y2, y3⟩ | exact ⟨z1, z2, z3⟩ | exact ⟨x1, x2, x3⟩) (fun hHeld => ?_)
                    clear hK K
                    (try simp only [Act.put, List.setIfInBounds_toArray, List.set_cons_zero, List.set_cons_succ])
                    refine wpAnyH_done (by kernel_rfl) ?_ _
                    obtain ⟨hs7, ho7, hv7, hset, hbx8, hbr7⟩ := HS7.out
                    obtain ⟨hs5, hel5, hO5, hAd, hs6, h3, T, hcon, hnp, hpBn, hn6'⟩ := CTX.out
                    have hbr8 := heap_setCell_cells (o := 4) hbr7 (.slice (some ⟨bb, o7, none⟩) (qs.length + 1) c7)
                    have hs8 := hs7.only hset (fun g' hg' e => sl_not hbr7 hs7 (by decide) (by rw [← e]; exact hg'))
                    have hO8 := ((hO5.trans' hAd (fun i _ h => h.elim)).trans' ho7 (fun i hi e => absurd hi (by have := hnp i e; omega))).trans' hset (fun i _ e => e)
                    have hnp8 : ∀ g', (Value.slice (some ⟨bb, o7, none⟩) (qs.length + 1) c7).ownBlock = some g' → w3.heap.size ≤ g' := fun g' hg' => by
                      simp only [Value.ownBlock, Option.map, Option.some.injEq] at hg'
                      subst hg'
                      rcases hv7 with e | e
                      · exact hnp _ e
                      · have := hAd.size; omega
                    have hmv : ∀ (u : Value) (L : List Spn), SL w5.heap 63 3 u L.length (L.flatMap eSpn) → (∀ g', u.ownBlock = some g' → w3.heap.size ≤ g') → SL (w7.setCell ⟨B, 4, none⟩ (.slice (some ⟨bb, o7, none⟩) (qs.length + 1) c7)).heap 63 3 u L.length (L.flatMap eSpn) := fun u L hu hun =>
                      (((hu.only hAd (fun _ _ => id)).only ho7 (sl_two' hu hs5 (by decide))).only hset (fun g' hg' e => by have := hun g' hg'; omega))
                    have hel8 : ∀ p ∈ qs ++ [(⟨pa, .slice a6 L6.length c6, L6, .slice none 0 0, [], pl⟩ : Pd)], SL (w7.setCell ⟨B, 4, none⟩ (.slice (some ⟨bb, o7, none⟩) (qs.length + 1) c7)).heap 63 3 p.sv p.sl.length (p.sl.flatMap eSpn) ∧ (∀ g', p.sv.ownBlock = some g' → w3.heap.size ≤ g') ∧ p.cv = .slice none 0 0 ∧ p.cl = [] := fun p hp => by
                      rcases List.mem_append.1 hp with hp | hp
                      · exact ⟨hmv _ _ (hel5 p hp).1 (hel5 p hp).2.1, (hel5 p hp).2⟩
                      · rw [List.mem_singleton.1 hp]
                        exact ⟨hmv _ _ hs6 hn6', hn6', rfl, rfl⟩
                    have hcon8 : (qs ++ [(⟨pa, .slice a6 L6.length c6, L6, .slice none 0 0, [], pl⟩ : Pd)]).map con = conL t C (ps.take (qs.length + 1)) := by
                      rw [List.map_append, hcon, HC1.out]; rfl
                    have hs8' : SL (w7.setCell ⟨B, 4, none⟩ (.slice (some ⟨bb, o7, none⟩) (qs.length + 1) c7)).heap 69 4 (.slice (some ⟨bb, o7, none⟩) (qs.length + 1) c7) (qs ++ [(⟨pa, .slice a6 L6.length c6, L6, .slice none 0 0, [], pl⟩ : Pd)]).length ((qs ++ [(⟨pa, .slice a6 L6.length c6, L6, .slice none 0 0, [], pl⟩ : Pd)]).flatMap ePd) := by
                      rw [List.length_append, List.flatMap_append]; exact hs8
                    have HL8 := Lib.hid (show (qs ++ [(⟨pa, .slice a6 L6.length c6, L6, .slice none 0 0, [], pl⟩ : Pd)]).length = qs.length + 1 by simp)
                    generalize (qs ++ [(⟨pa, .slice a6 L6.length c6, L6, .slice none 0 0, [], pl⟩ : Pd)]) = qs8 at hel8 hcon8 hs8' HL8
                    generalize (w7.setCell ⟨B, 4, none⟩ (.slice (some ⟨bb, o7, none⟩) (qs.length + 1) c7)) = w8 at *
                    have e3 : w8.cell? ⟨B, 3, none⟩ = some (.bool (wholeL (ps.take qs.length))) := by simp [World.cell?, hbr8]
                    have f3 : w8.frozen? ⟨B, 3, none⟩ = false := by simp [World.frozen?, hbr8]
                    have hst : ∀ u, Only (· = B) w8 (w8.setCell ⟨B, 3, none⟩ u) := fun u => (Only.refl (· = B) w8).setCell (p := ⟨B, 3, none⟩) (fun _ => rfl) _
                    have HFIN : ∀ bw, bw = wholeL (ps.take (qs.length + 1)) → ∃ (q : Nat) (pv : Value) (qs' : List Pd), q ≤ ps.length ∧ Value.int .i64 ((qs.length : Int) + 1) = .int .i64 q ∧ (w8.setCell ⟨B, 3, none⟩ (.bool bw)).heap[B]? = some (.cells #[.int .i64 t, .int .i64 j, .int .i64 c, .bool (wholeL (ps.take q)), pv] 50 (0, 0)) ∧ SL (w8.setCell ⟨B, 3, none⟩ (.bool bw)).heap 69 4 pv qs'.length (qs'.flatMap ePd) ∧ qs'.length = q ∧ (∀ g', pv.ownBlock = some g' → w3.heap.size ≤ g') ∧
                        (∀ p ∈ qs', SL (w8.setCell ⟨B, 3, none⟩ (.bool bw)).heap 63 3 p.sv p.sl.length (p.sl.flatMap eSpn) ∧ (∀ g', p.sv.ownBlock = some g' → w3.heap.size ≤ g') ∧ p.cv = .slice none 0 0 ∧ p.cl = []) ∧ qs'.map con = conL t C (ps.take q) ∧ Only (· = B) w3 (w8.setCell ⟨B, 3, none⟩ (.bool bw)) := fun bw hbw => by
                      have hbr9 := heap_setCell_cells (o := 3) hbr8 (.bool bw)
                      refine ⟨qs.length + 1, _, qs8, by omega, by go_num, ?_, hs8'.only (hst _) (fun g' hg' e => by have := hnp8 g' hg'; omega), HL8.out, hnp8, fun p hp => ⟨(hel8 p hp).1.only (hst _) (fun g' hg' e => by have := (hel8 p hp).2.1 g' hg'; omega), (hel8 p hp).2⟩, hcon8, hO8.trans' (hst _) (fun i _ e => e)⟩
                      rw [hbr9, ← hbw]; rfl
                    have HF := Lib.hid HFIN
                    clear HFIN hst hs8' hcon8 hel8 hmv hnp8 hO8 hs8 hbr8 hs7 ho7 hv7 hset hbx8 hbr7 hs5 hel5 hO5 hAd hs6 h3 T hcon hnp hpBn hn6' b4 b4w b7 b7f q1 q2 q3 y1 y2 y3 z1 z2 z3 x1 x2
                    generalize wholeL (ps.take qs.length) = wh at *
                    cases wh <;> cases pl
                    all_goals (
                      go_wp2
                      exact ⟨HF.out _ (by rw [HW1.out]; rfl), by simp [intOf]; omega⟩)
                  exact AllReadyH.nil
                exact AllReadyH.nil
              exact AllReadyH.nil
            exact AllReadyH.nil
          refine AllReadyH.cons (o := _) rfl (fun K hK => ?_) ?_
          · skip
            go_simp
            go_wp2_with (go_at_call 63; refine (cloneI_nil _).mono ?_; rintro e w' ⟨rfl, rfl⟩)
            refine hK.out _ _ (by first | exact ⟨q1, q2, q3⟩ | exact ⟨y1, y2, y3⟩ | exact ⟨z1, z2, z3⟩ | exact ⟨x1, x2, x3⟩) (fun hHeld => ?_)
            clear hK K
            (try simp only [Act.put, List.setIfInBounds_toArray, List.set_cons_zero, List.set_cons_succ])
            refine wpAnyH_take (i := 10) (v := ?_) rfl (by kernel_rfl) (by kernel_rfl) (by kernel_rfl) (fun _ _ _ h => h) (Or.inl ⟨by rfl, ?_⟩) (by assumption) ?_
            rotate_left 1
            · intro w hSw
              (try dsimp only at hSw)
              go_simp
              try with_reducible rfl
            (try simp only [Act.put, List.setIfInBounds_toArray, List.set_cons_zero, List.set_cons_succ])
            refine wpAnyH_ready (rs := [1, 11]) (by kernel_rfl) (by simp) ?_
            refine AllReadyH.cons (o := _) rfl (fun K hK => ?_) ?_
            · skip
              go_simp
              refine hK.out _ _ (by first | exact ⟨q1, q2, q3⟩ | exact ⟨y1, y2, y3⟩ | exact ⟨z1, z2, z3⟩ | exact ⟨x1, x2, x3⟩) (fun hHeld => ?_)
              clear hK K
              (try simp only [Act.put, List.setIfInBounds_toArray, List.set_cons_zero, List.set_cons_succ])
              refine wpAnyH_ready (rs := [11]) (by kernel_rfl) (by simp) ?_
              refine AllReadyH.cons (o := _) rfl (fun K hK => ?_) ?_
              · skip
                go_simp
                refine hK.out _ _ (by first | exact ⟨q1, q2, q3⟩ | exact ⟨y1, y2, y3⟩ | exact ⟨z1, z2, z3⟩ | exact ⟨x1, x2, x3⟩) (fun hHeld => ?_)
                clear hK K
                (try simp only [Act.put, List.setIfInBounds_toArray, List.set_cons_zero, List.set_cons_succ])
                refine wpAnyH_ready (rs := [12]) (by kernel_rfl) (by simp) ?_
                refine AllReadyH.cons (o := _) rfl (fun K hK => ?_) ?_
                · skip
                  (refine step_appd (v := pv) rfl _ _ _ rfl Try.underlying48 hi hz hz1 hz2 hz3 rfl HSD.out (ad := ⟨w5.heap.size, 0, none⟩) (m := 1) (c := 1) (news := [.int .i64 pa, .slice a6 L6.length c6, .slice none 0 0, .bool pl]) (by omega) rfl rfl (fun j u hj => cells_new w5 _ _ rfl j u hj) (by simp [Value.oneCell']) (by unfold maxLen; omega) (by omega) rfl ?_)
                  rintro bb o7 c7 w7 hs7 ho7 hv7
                  have hbx7 := ho7.heap HBX.out (fun e => HPP.out.1 e)
                  have hbr7 := ho7.heap HBR.out (fun e => HPP.out.2 e)
                  have hset : Only (· = B) w7 (w7.setCell ⟨B, 4, none⟩ (.slice (some ⟨bb, o7, none⟩) (qs.length + 1) c7)) := (Only.refl (· = B) w7).setCell (p := ⟨B, 4, none⟩) (fun _ => rfl) _
                  have hbx8 := hset.heap hbx7 hPB
                  have z1 : w7.cell? ⟨wr.heap.size, 0, none⟩ = some (.int .i64 pa) := by simp only [World.cell?, hbx7]; rfl
                  have z2 : w7.cell? ⟨wr.heap.size, 4, none⟩ = some (.slice none 0 0) := by simp only [World.cell?, hbx7]; rfl
                  have z3 : w7.cell? ⟨wr.heap.size, 5, none⟩ = some (.bool pl) := by simp only [World.cell?, hbx7]; rfl
                  have x1 : (w7.setCell ⟨B, 4, none⟩ (.slice (some ⟨bb, o7, none⟩) (qs.length + 1) c7)).cell? ⟨wr.heap.size, 0, none⟩ = some (.int .i64 pa) := by simp only [World.cell?, hbx8]; rfl
                  have x2 : (w7.setCell ⟨B, 4, none⟩ (.slice (some ⟨bb, o7, none⟩) (qs.length + 1) c7)).cell? ⟨wr.heap.size, 4, none⟩ = some (.slice none 0 0) := by simp only [World.cell?, hbx8]; rfl
                  have x3 : (w7.setCell ⟨B, 4, none⟩ (.slice (some ⟨bb, o7, none⟩) (qs.length + 1) c7)).cell? ⟨wr.heap.size, 5, none⟩ = some (.bool pl) := by simp only [World.cell?, hbx8]; rfl
                  have b7 : w7.cell? ⟨B, 4, none⟩ = some pv := by simp only [World.cell?, hbr7]; rfl
                  have b7f : w7.frozen? ⟨B, 4, none⟩ = false := by simp [World.frozen?, hbr7]
                  have HS7 := Lib.hid (And.intro hs7 (And.intro ho7 (And.intro hv7 (And.intro hset (And.intro hbx8 hbr7)))))
                  clear hs7 ho7 hv7 hset hbx8 hbx7 hbr7
                  refine hK.out _ _ (by first | exact ⟨q1, q2, q3⟩ | exact ⟨y1, y2, y3⟩ | exact ⟨z1, z2, z3⟩ | exact ⟨x1, x2, x3⟩) (fun hHeld => ?_)
                  clear hK K
                  (try simp only [Act.put, List.setIfInBounds_toArray, List.set_cons_zero, List.set_cons_succ])
                  refine wpAnyH_take (i := 13) (v := ?_) rfl (by kernel_rfl) (by kernel_rfl) (by kernel_rfl) (fun _ _ _ h => h) (Or.inl ⟨by rfl, ?_⟩) (by assumption) ?_
                  rotate_left 1
                  · intro w hSw
                    (try dsimp only at hSw)
                    go_simp
                    try with_reducible rfl
                  (try simp only [Act.put, List.setIfInBounds_toArray, List.set_cons_zero, List.set_cons_succ])
                  refine wpAnyH_ready (rs := [14]) (by kernel_rfl) (by simp) ?_
                  refine AllReadyH.cons (o := _) rfl (fun K hK => ?_) ?_
                  · skip
                    go_simp
                    refine hK.out _ _ (by first | exact ⟨q1, q2, q3⟩ | exact ⟨y1, y2, y3⟩ | exact ⟨z1, z2, z3⟩ | exact ⟨x1, x2, x3⟩) (fun hHeld => ?_)
                    clear hK K
                    (try simp only [Act.put, List.setIfInBounds_toArray, List.set_cons_zero, List.set_cons_succ])
                    refine wpAnyH_done (by kernel_rfl) ?_ _
                    obtain ⟨hs7, ho7, hv7, hset, hbx8, hbr7⟩ := HS7.out
                    obtain ⟨hs5, hel5, hO5, hAd, hs6, h3, T, hcon, hnp, hpBn, hn6'⟩ := CTX.out
                    have hbr8 := heap_setCell_cells (o := 4) hbr7 (.slice (some ⟨bb, o7, none⟩) (qs.length + 1) c7)
                    have hs8 := hs7.only hset (fun g' hg' e => sl_not hbr7 hs7 (by decide) (by rw [← e]; exact hg'))
                    have hO8 := ((hO5.trans' hAd (fun i _ h => h.elim)).trans' ho7 (fun i hi e => absurd hi (by have := hnp i e; omega))).trans' hset (fun i _ e => e)
                    have hnp8 : ∀ g', (Value.slice (some ⟨bb, o7, none⟩) (qs.length + 1) c7).ownBlock = some g' → w3.heap.size ≤ g' := fun g' hg' => by
                      simp only [Value.ownBlock, Option.map, Option.some.injEq] at hg'
                      subst hg'
                      rcases hv7 with e | e
                      · exact hnp _ e
                      · have := hAd.size; omega
                    have hmv : ∀ (u : Value) (L : List Spn), SL w5.heap 63 3 u L.length (L.flatMap eSpn) → (∀ g', u.ownBlock = some g' → w3.heap.size ≤ g') → SL (w7.setCell ⟨B, 4, none⟩ (.slice (some ⟨bb, o7, none⟩) (qs.length + 1) c7)).heap 63 3 u L.length (L.flatMap eSpn) := fun u L hu hun =>
                      (((hu.only hAd (fun _ _ => id)).only ho7 (sl_two' hu hs5 (by decide))).only hset (fun g' hg' e => by have := hun g' hg'; omega))
                    have hel8 : ∀ p ∈ qs ++ [(⟨pa, .slice a6 L6.length c6, L6, .slice none 0 0, [], pl⟩ : Pd)], SL (w7.setCell ⟨B, 4, none⟩ (.slice (some ⟨bb, o7, none⟩) (qs.length + 1) c7)).heap 63 3 p.sv p.sl.length (p.sl.flatMap eSpn) ∧ (∀ g', p.sv.ownBlock = some g' → w3.heap.size ≤ g') ∧ p.cv = .slice none 0 0 ∧ p.cl = [] := fun p hp => by
                      rcases List.mem_append.1 hp with hp | hp
                      · exact ⟨hmv _ _ (hel5 p hp).1 (hel5 p hp).2.1, (hel5 p hp).2⟩
                      · rw [List.mem_singleton.1 hp]
                        exact ⟨hmv _ _ hs6 hn6', hn6', rfl, rfl⟩
                    have hcon8 : (qs ++ [(⟨pa, .slice a6 L6.length c6, L6, .slice none 0 0, [], pl⟩ : Pd)]).map con = conL t C (ps.take (qs.length + 1)) := by
                      rw [List.map_append, hcon, HC1.out]; rfl
                    have hs8' : SL (w7.setCell ⟨B, 4, none⟩ (.slice (some ⟨bb, o7, none⟩) (qs.length + 1) c7)).heap 69 4 (.slice (some ⟨bb, o7, none⟩) (qs.length + 1) c7) (qs ++ [(⟨pa, .slice a6 L6.length c6, L6, .slice none 0 0, [], pl⟩ : Pd)]).length ((qs ++ [(⟨pa, .slice a6 L6.length c6, L6, .slice none 0 0, [], pl⟩ : Pd)]).flatMap ePd) := by
                      rw [List.length_append, List.flatMap_append]; exact hs8
                    have HL8 := Lib.hid (show (qs ++ [(⟨pa, .slice a6 L6.length c6, L6, .slice none 0 0, [], pl⟩ : Pd)]).length = qs.length + 1 by simp)
                    generalize (qs ++ [(⟨pa, .slice a6 L6.length c6, L6, .slice none 0 0, [], pl⟩ : Pd)]) = qs8 at hel8 hcon8 hs8' HL8
                    generalize (w7.setCell ⟨B, 4, none⟩ (.slice (some ⟨bb, o7, none⟩) (qs.length + 1) c7)) = w8 at *
                    have e3 : w8.cell? ⟨B, 3, none⟩ = some (.bool (wholeL (ps.take qs.length))) := by simp [World.cell?, hbr8]
                    have f3 : w8.frozen? ⟨B, 3, none⟩ = false := by simp [World.frozen?, hbr8]
                    have hst : ∀ u, Only (· = B) w8 (w8.setCell ⟨B, 3, none⟩ u) := fun u => (Only.refl (· = B) w8).setCell (p := ⟨B, 3, none⟩) (fun _ => rfl) _
                    have HFIN : ∀ bw, bw = wholeL (ps.take (qs.length + 1)) → ∃ (q : Nat) (pv : Value) (qs' : List Pd), q ≤ ps.length ∧ Value.int .i64 ((qs.length : Int) + 1) = .int .i64 q ∧ (w8.setCell ⟨B, 3, none⟩ (.bool bw)).heap[B]? = some (.cells #[.int .i64 t, .int .i64 j, .int .i64 c, .bool (wholeL (ps.take q)), pv] 50 (0, 0)) ∧ SL (w8.setCell ⟨B, 3, none⟩ (.bool bw)).heap 69 4 pv qs'.length (qs'.flatMap ePd) ∧ qs'.length = q ∧ (∀ g', pv.ownBlock = some g' → w3.heap.size ≤ g') ∧
                        (∀ p ∈ qs', SL (w8.setCell ⟨B, 3, none⟩ (.bool bw)).heap 63 3 p.sv p.sl.length (p.sl.flatMap eSpn) ∧ (∀ g', p.sv.ownBlock = some g' → w3.heap.size ≤ g') ∧ p.cv = .slice none 0 0 ∧ p.cl = []) ∧ qs'.map con = conL t C (ps.take q) ∧ Only (· = B) w3 (w8.setCell ⟨B, 3, none⟩ (.bool bw)) := fun bw hbw => by
                      have hbr9 := heap_setCell_cells (o := 3) hbr8 (.bool bw)
                      refine ⟨qs.length + 1, _, qs8, by omega, by go_num, ?_, hs8'.only (hst _) (fun g' hg' e => by have := hnp8 g' hg'; omega), HL8.out, hnp8, fun p hp => ⟨(hel8 p hp).1.only (hst _) (fun g' hg' e => by have := (hel8 p hp).2.1 g' hg'; omega), (hel8 p hp).2⟩, hcon8, hO8.trans' (hst _) (fun i _ e => e)⟩
                      rw [hbr9, ← hbw]; rfl
                    have HF := Lib.hid HFIN
                    clear HFIN hst hs8' hcon8 hel8 hmv hnp8 hO8 hs8 hbr8 hs7 ho7 hv7 hset hbx8 hbr7 hs5 hel5 hO5 hAd hs6 h3 T hcon hnp hpBn hn6' b4 b4w b7 b7f q1 q2 q3 y1 y2 y3 z1 z2 z3 x1 x2
                    generalize wholeL (ps.take qs.length) = wh at *
                    cases wh <;> cases pl
                    all_goals (
                      go_wp2
                      exact ⟨HF.out _ (by rw [HW1.out]; rfl), by simp [intOf]; omega⟩)
                  exact AllReadyH.nil
                exact AllReadyH.nil
              exact AllReadyH.nil
            refine AllReadyH.cons (o := _) rfl (fun K hK => ?_) ?_
            · skip
              go_simp
              refine hK.out _ _ (by first | exact ⟨q1, q2, q3⟩ | exact ⟨y1, y2, y3⟩ | exact ⟨z1, z2, z3⟩ | exact ⟨x1, x2, x3⟩) (fun hHeld => ?_)
              clear hK K
              (try simp only [Act.put, List.setIfInBounds_toArray, List.set_cons_zero, List.set_cons_succ])
              refine wpAnyH_ready (rs := [1]) (by kernel_rfl) (by simp) ?_
              refine AllReadyH.cons (o := _) rfl (fun K hK => ?_) ?_
              · skip
                go_simp
                refine hK.out _ _ (by first | exact ⟨q1, q2, q3⟩ | exact ⟨y1, y2, y3⟩ | exact ⟨z1, z2, z3⟩ | exact ⟨x1, x2, x3⟩) (fun hHeld => ?_)
                clear hK K
                (try simp only [Act.put, List.setIfInBounds_toArray, List.set_cons_zero, List.set_cons_succ])
                refine wpAnyH_ready (rs := [12]) (by kernel_rfl) (by simp) ?_
                refine AllReadyH.cons (o := _) rfl (fun K hK => ?_) ?_
                · skip
                  (refine step_appd (v := pv) rfl _ _ _ rfl Try.underlying48 hi hz hz1 hz2 hz3 rfl HSD.out (ad := ⟨w5.heap.size, 0, none⟩) (m := 1) (c := 1) (news := [.int .i64 pa, .slice a6 L6.length c6, .slice none 0 0, .bool pl]) (by omega) rfl rfl (fun j u hj => cells_new w5 _ _ rfl j u hj) (by simp [Value.oneCell']) (by unfold maxLen; omega) (by omega) rfl ?_)
                  rintro bb o7 c7 w7 hs7 ho7 hv7
                  have hbx7 := ho7.heap HBX.out (fun e => HPP.out.1 e)
                  have hbr7 := ho7.heap HBR.out (fun e => HPP.out.2 e)
                  have hset : Only (· = B) w7 (w7.setCell ⟨B, 4, none⟩ (.slice (some ⟨bb, o7, none⟩) (qs.length + 1) c7)) := (Only.refl (· = B) w7).setCell (p := ⟨B, 4, none⟩) (fun _ => rfl) _
                  have hbx8 := hset.heap hbx7 hPB
                  have z1 : w7.cell? ⟨wr.heap.size, 0, none⟩ = some (.int .i64 pa) := by simp only [World.cell?, hbx7]; rfl
                  have z2 : w7.cell? ⟨wr.heap.size, 4, none⟩ = some (.slice none 0 0) := by simp only [World.cell?, hbx7]; rfl
                  have z3 : w7.cell? ⟨wr.heap.size, 5, none⟩ = some (.bool pl) := by simp only [World.cell?, hbx7]; rfl
                  have x1 : (w7.setCell ⟨B, 4, none⟩ (.slice (some ⟨bb, o7, none⟩) (qs.length + 1) c7)).cell? ⟨wr.heap.size, 0, none⟩ = some (.int .i64 pa) := by simp only [World.cell?, hbx8]; rfl
                  have x2 : (w7.setCell ⟨B, 4, none⟩ (.slice (some ⟨bb, o7, none⟩) (qs.length + 1) c7)).cell? ⟨wr.heap.size, 4, none⟩ = some (.slice none 0 0) := by simp only [World.cell?, hbx8]; rfl
                  have x3 : (w7.setCell ⟨B, 4, none⟩ (.slice (some ⟨bb, o7, none⟩) (qs.length + 1) c7)).cell? ⟨wr.heap.size, 5, none⟩ = some (.bool pl) := by simp only [World.cell?, hbx8]; rfl
                  have b7 : w7.cell? ⟨B, 4, none⟩ = some pv := by simp only [World.cell?, hbr7]; rfl
                  have b7f : w7.frozen? ⟨B, 4, none⟩ = false := by simp [World.frozen?, hbr7]
                  have HS7 := Lib.hid (And.intro hs7 (And.intro ho7 (And.intro hv7 (And.intro hset (And.intro hbx8 hbr7)))))
                  clear hs7 ho7 hv7 hset hbx8 hbx7 hbr7
                  refine hK.out _ _ (by first | exact ⟨q1, q2, q3⟩ | exact ⟨y1, y2, y3⟩ | exact ⟨z1, z2, z3⟩ | exact ⟨x1, x2, x3⟩) (fun hHeld => ?_)
                  clear hK K
                  (try simp only [Act.put, List.setIfInBounds_toArray, List.set_cons_zero, List.set_cons_succ])
                  refine wpAnyH_take (i := 13) (v := ?_) rfl (by kernel_rfl) (by kernel_rfl) (by kernel_rfl) (fun _ _ _ h => h) (Or.inl ⟨by rfl, ?_⟩) (by assumption) ?_
                  rotate_left 1
                  · intro w hSw
                    (try dsimp only at hSw)
                    go_simp
                    try with_reducible rfl
                  (try simp only [Act.put, List.setIfInBounds_toArray, List.set_cons_zero, List.set_cons_succ])
                  refine wpAnyH_ready (rs := [14]) (by kernel_rfl) (by simp) ?_
                  refine AllReadyH.cons (o := _) rfl (fun K hK => ?_) ?_
                  · skip
                    go_simp
                    refine hK.out _ _ (by first | exact ⟨q1, q2, q3⟩ | exact ⟨y1, y2, y3⟩ | exact ⟨z1, z2, z3⟩ | exact ⟨x1, x2, x3⟩) (fun hHeld => ?_)
                    clear hK K
                    (try simp only [Act.put, List.setIfInBounds_toArray, List.set_cons_zero, List.set_cons_succ])
                    refine wpAnyH_done (by kernel_rfl) ?_ _
                    obtain ⟨hs7, ho7, hv7, hset, hbx8, hbr7⟩ := HS7.out
                    obtain ⟨hs5, hel5, hO5, hAd, hs6, h3, T, hcon, hnp, hpBn, hn6'⟩ := CTX.out
                    have hbr8 := heap_setCell_cells (o := 4) hbr7 (.slice (some ⟨bb, o7, none⟩) (qs.length + 1) c7)
                    have hs8 := hs7.only hset (fun g' hg' e => sl_not hbr7 hs7 (by decide) (by rw [← e]; exact hg'))
                    have hO8 := ((hO5.trans' hAd (fun i _ h => h.elim)).trans' ho7 (fun i hi e => absurd hi (by have := hnp i e; omega))).trans' hset (fun i _ e => e)
                    have hnp8 : ∀ g', (Value.slice (some ⟨bb, o7, none⟩) (qs.length + 1) c7).ownBlock = some g' → w3.heap.size ≤ g' := fun g' hg' => by
                      simp only [Value.ownBlock, Option.map, Option.some.injEq] at hg'
                      subst hg'
                      rcases hv7 with e | e
                      · exact hnp _ e
                      · have := hAd.size; omega
                    have hmv : ∀ (u : Value) (L : List Spn), SL w5.heap 63 3 u L.length (L.flatMap eSpn) → (∀ g', u.ownBlock = some g' → w3.heap.size ≤ g') → SL (w7.setCell ⟨B, 4, none⟩ (.slice (some ⟨bb, o7, none⟩) (qs.length + 1) c7)).heap 63 3 u L.length (L.flatMap eSpn) := fun u L hu hun =>
                      (((hu.only hAd (fun _ _ => id)).only ho7 (sl_two' hu hs5 (by decide))).only hset (fun g' hg' e => by have := hun g' hg'; omega))
                    have hel8 : ∀ p ∈ qs ++ [(⟨pa, .slice a6 L6.length c6, L6, .slice none 0 0, [], pl⟩ : Pd)], SL (w7.setCell ⟨B, 4, none⟩ (.slice (some ⟨bb, o7, none⟩) (qs.length + 1) c7)).heap 63 3 p.sv p.sl.length (p.sl.flatMap eSpn) ∧ (∀ g', p.sv.ownBlock = some g' → w3.heap.size ≤ g') ∧ p.cv = .slice none 0 0 ∧ p.cl = [] := fun p hp => by
                      rcases List.mem_append.1 hp with hp | hp
                      · exact ⟨hmv _ _ (hel5 p hp).1 (hel5 p hp).2.1, (hel5 p hp).2⟩
                      · rw [List.mem_singleton.1 hp]
                        exact ⟨hmv _ _ hs6 hn6', hn6', rfl, rfl⟩
                    have hcon8 : (qs ++ [(⟨pa, .slice a6 L6.length c6, L6, .slice none 0 0, [], pl⟩ : Pd)]).map con = conL t C (ps.take (qs.length + 1)) := by
                      rw [List.map_append, hcon, HC1.out]; rfl
                    have hs8' : SL (w7.setCell ⟨B, 4, none⟩ (.slice (some ⟨bb, o7, none⟩) (qs.length + 1) c7)).heap 69 4 (.slice (some ⟨bb, o7, none⟩) (qs.length + 1) c7) (qs ++ [(⟨pa, .slice a6 L6.length c6, L6, .slice none 0 0, [], pl⟩ : Pd)]).length ((qs ++ [(⟨pa, .slice a6 L6.length c6, L6, .slice none 0 0, [], pl⟩ : Pd)]).flatMap ePd) := by
                      rw [List.length_append, List.flatMap_append]; exact hs8
                    have HL8 := Lib.hid (show (qs ++ [(⟨pa, .slice a6 L6.length c6, L6, .slice none 0 0, [], pl⟩ : Pd)]).length = qs.length + 1 by simp)
                    generalize (qs ++ [(⟨pa, .slice a6 L6.length c6, L6, .slice none 0 0, [], pl⟩ : Pd)]) = qs8 at hel8 hcon8 hs8' HL8
                    generalize (w7.setCell ⟨B, 4, none⟩ (.slice (some ⟨bb, o7, none⟩) (qs.length + 1) c7)) = w8 at *
                    have e3 : w8.cell? ⟨B, 3, none⟩ = some (.bool (wholeL (ps.take qs.length))) := by simp [World.cell?, hbr8]
                    have f3 : w8.frozen? ⟨B, 3, none⟩ = false := by simp [World.frozen?, hbr8]
                    have hst : ∀ u, Only (· = B) w8 (w8.setCell ⟨B, 3, none⟩ u) := fun u => (Only.refl (· = B) w8).setCell (p := ⟨B, 3, none⟩) (fun _ => rfl) _
                    have HFIN : ∀ bw, bw = wholeL (ps.take (qs.length + 1)) → ∃ (q : Nat) (pv : Value) (qs' : List Pd), q ≤ ps.length ∧ Value.int .i64 ((qs.length : Int) + 1) = .int .i64 q ∧ (w8.setCell ⟨B, 3, none⟩ (.bool bw)).heap[B]? = some (.cells #[.int .i64 t, .int .i64 j, .int .i64 c, .bool (wholeL (ps.take q)), pv] 50 (0, 0)) ∧ SL (w8.setCell ⟨B, 3, none⟩ (.bool bw)).heap 69 4 pv qs'.length (qs'.flatMap ePd) ∧ qs'.length = q ∧ (∀ g', pv.ownBlock = some g' → w3.heap.size ≤ g') ∧
                        (∀ p ∈ qs', SL (w8.setCell ⟨B, 3, none⟩ (.bool bw)).heap 63 3 p.sv p.sl.length (p.sl.flatMap eSpn) ∧ (∀ g', p.sv.ownBlock = some g' → w3.heap.size ≤ g') ∧ p.cv = .slice none 0 0 ∧ p.cl = []) ∧ qs'.map con = conL t C (ps.take q) ∧ Only (· = B) w3 (w8.setCell ⟨B, 3, none⟩ (.bool bw)) := fun bw hbw => by
                      have hbr9 := heap_setCell_cells (o := 3) hbr8 (.bool bw)
                      refine ⟨qs.length + 1, _, qs8, by omega, by go_num, ?_, hs8'.only (hst _) (fun g' hg' e => by have := hnp8 g' hg'; omega), HL8.out, hnp8, fun p hp => ⟨(hel8 p hp).1.only (hst _) (fun g' hg' e => by have := (hel8 p hp).2.1 g' hg'; omega), (hel8 p hp).2⟩, hcon8, hO8.trans' (hst _) (fun i _ e => e)⟩
                      rw [hbr9, ← hbw]; rfl
                    have HF := Lib.hid HFIN
                    clear HFIN hst hs8' hcon8 hel8 hmv hnp8 hO8 hs8 hbr8 hs7 ho7 hv7 hset hbx8 hbr7 hs5 hel5 hO5 hAd hs6 h3 T hcon hnp hpBn hn6' b4 b4w b7 b7f q1 q2 q3 y1 y2 y3 z1 z2 z3 x1 x2
                    generalize wholeL (ps.take qs.length) = wh at *
                    cases wh <;> cases pl
                    all_goals (
                      go_wp2
                      exact ⟨HF.out _ (by rw [HW1.out]; rfl), by simp [intOf]; omega⟩)
                  exact AllReadyH.nil
                exact AllReadyH.nil
              exact AllReadyH.nil
            exact AllReadyH.nil
          exact AllReadyH.nil
        · have hqe : qs.length = ps.length := by omega
          rw [hqe, List.take_length] at hbr
          rw [hqe, List.take_length] at hcon
          have x0 : wr.cell? ⟨B, 0, none⟩ = some (.int .i64 t) := by simp [World.cell?, hbr]
          have x1 : wr.cell? ⟨B, 1, none⟩ = some (.int .i64 j) := by simp [World.cell?, hbr]
          have x2 : wr.cell? ⟨B, 2, none⟩ = some (.int .i64 c) := by simp [World.cell?, hbr]
          have x3 : wr.cell? ⟨B, 3, none⟩ = some (.bool (wholeL ps)) := by simp [World.cell?, hbr]
          have x4 : wr.cell? ⟨B, 4, none⟩ = some pv := by simp [World.cell?, hbr]
          have f0 : wr.frozen? ⟨B, 0, none⟩ = false := by simp [World.frozen?, hbr]
          have f1 : wr.frozen? ⟨B, 1, none⟩ = false := by simp [World.frozen?, hbr]
          have f2 : wr.frozen? ⟨B, 2, none⟩ = false := by simp [World.frozen?, hbr]
          have f3 : wr.frozen? ⟨B, 3, none⟩ = false := by simp [World.frozen?, hbr]
          have f4 : wr.frozen? ⟨B, 4, none⟩ = false := by simp [World.frozen?, hbr]
          obtain ⟨pva, pvc, rfl⟩ := hs.form
          have hHQ := Lib.hid hqe
          clear h4 hpr hqe h3 T hpv3 hb3 hcr k2 m3
          have hst : Only (· = B) wr (((((wr.setCell ⟨B, 0, none⟩ (.int .i64 t)).setCell ⟨B, 1, none⟩ (.int .i64 j)).setCell ⟨B, 2, none⟩ (.int .i64 c)).setCell ⟨B, 3, none⟩ (.bool (wholeL ps))).setCell ⟨B, 4, none⟩ (.slice pva qs.length pvc)) :=
            (((((Only.refl (· = B) wr).setCell (p := ⟨B, 0, none⟩) (fun _ => rfl) _).setCell (p := ⟨B, 1, none⟩) (fun _ => rfl) _).setCell (p := ⟨B, 2, none⟩) (fun _ => rfl) _).setCell (p := ⟨B, 3, none⟩) (fun _ => rfl) _).setCell (p := ⟨B, 4, none⟩) (fun _ => rfl) _
          have hb9 : (((((wr.setCell ⟨B, 0, none⟩ (.int .i64 t)).setCell ⟨B, 1, none⟩ (.int .i64 j)).setCell ⟨B, 2, none⟩ (.int .i64 c)).setCell ⟨B, 3, none⟩ (.bool (wholeL ps))).setCell ⟨B, 4, none⟩ (.slice pva qs.length pvc)).heap[B]? = some (.cells #[.int .i64 t, .int .i64 j, .int .i64 c, .bool (wholeL ps), .slice pva qs.length pvc] 50 (0, 0)) := by
            have g1 := heap_setCell_cells (o := 0) hbr (.int .i64 t)
            have g2 := heap_setCell_cells (o := 1) g1 (.int .i64 j)
            have g3 := heap_setCell_cells (o := 2) g2 (.int .i64 c)
            have g4 := heap_setCell_cells (o := 3) g3 (.bool (wholeL ps))
            have g5 := heap_setCell_cells (o := 4) g4 (.slice pva qs.length pvc)
            rw [g5]; rfl
          have hs9 := hs.only hst (fun g' hg' e => hpBn g' hg' e)
          have hel9 : ∀ q ∈ qs, SL (((((wr.setCell ⟨B, 0, none⟩ (.int .i64 t)).setCell ⟨B, 1, none⟩ (.int .i64 j)).setCell ⟨B, 2, none⟩ (.int .i64 c)).setCell ⟨B, 3, none⟩ (.bool (wholeL ps))).setCell ⟨B, 4, none⟩ (.slice pva qs.length pvc)).heap 63 3 q.sv q.sl.length (q.sl.flatMap eSpn) ∧ q.cv = .slice none 0 0 ∧ q.cl = [] := fun p hp => ⟨(hel p hp).1.only hst (fun g' hg' e => by have := (hel p hp).2.1 g' hg'; omega), (hel p hp).2.2⟩
          have hbw9 := hbw.trans (hst.below hbw.size (fun i hi e => by have := HB.out; omega))
          have CTX := Lib.hid (And.intro hs9 (And.intro hel9 (And.intro hbw9 (And.intro hb9 hcon))))
          clear hst hb9 hs9 hel9 hbw9 hs hel hbw hbr hO hcon
          go_wp2
          obtain ⟨hs9, hel9, hbw9, hb9, hcon⟩ := CTX.out
          clear CTX
          generalize (((((wr.setCell ⟨B, 0, none⟩ (.int .i64 t)).setCell ⟨B, 1, none⟩ (.int .i64 j)).setCell ⟨B, 2, none⟩ (.int .i64 c)).setCell ⟨B, 3, none⟩ (.bool (wholeL ps))).setCell ⟨B, 4, none⟩ (.slice pva qs.length pvc)) = w9 at hs9 hel9 hbw9 hb9 ⊢
          have x0 : w9.cell? ⟨B, 0, none⟩ = some (.int .i64 t) := by simp [World.cell?, hb9]
          have x1 : w9.cell? ⟨B, 1, none⟩ = some (.int .i64 j) := by simp [World.cell?, hb9]
          have x2 : w9.cell? ⟨B, 2, none⟩ = some (.int .i64 c) := by simp [World.cell?, hb9]
          have x3 : w9.cell? ⟨B, 3, none⟩ = some (.bool (wholeL ps)) := by simp [World.cell?, hb9]
          have x4 : w9.cell? ⟨B, 4, none⟩ = some (.slice pva qs.length pvc) := by simp [World.cell?, hb9]
          refine bodyPost_ret (by simp [results, Try.results23, go_sem, x0, x1, x2, x3, x4]; try rfl) rfl ?_
          rw [HE.out]
          exact ⟨⟨_, qs, rfl, ⟨hs9, hel9⟩, hcon⟩, hbw9⟩
end
end Go.Proofs.Ytcdjeblcmgghhaa.Asm
