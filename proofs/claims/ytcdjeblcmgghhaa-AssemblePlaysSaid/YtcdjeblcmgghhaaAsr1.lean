/- The reference's assembler in memory, and what its Hear says of a message that is not for it. Conditions: it lies in memory as Wr says. PRINTED BY wip/gen_asr1.py. -/
import Derived.Test.YtcdjeblcmgghhaaAsr0
import Derived.Test.YtcdjeblcmgghhaaRef8
namespace Go.Sp
open Go.RowKit
def eAsr (t j : Int) (M : Ms) (has : Bool) (cv : Value) : Array Value := #[.int .i64 t, .int .i64 j, .int .i64 M.k, .int .i64 M.a, .int .i64 M.t, .int .i64 M.j, .int .i64 M.c, .int .i64 M.i, .int .i64 M.n, .int .i64 M.p.a, .int .i64 M.p.t, .int .i64 M.p.j, .int .i64 M.p.n, M.p.cv, .bool M.p.l, M.pv, M.sv, .bool has, cv]
def eCk (t j : Int) (x : Chk × Value) : List Value := eMs ⟨6, x.1.a, t, j, 0, x.1.i, x.1.n, zPt, .slice none 0 0, x.2⟩
theorem eCk_len (t j : Int) (x : Chk × Value) : (eCk t j x).length = 15 := rfl
end Go.Sp
namespace Go.Proofs.Ytcdjeblcmgghhaa.Asm
open Go.RowKit Go.Sp Msg Go.Sort

structure Wr (w0 w : World) (Rw : Nat → Prop) (wb : Nat) (t j : Int) (man : Option (Int × List Pt)) (C : List Chk) (M : Ms) (cv : Value) (Cs : List (Chk × Value)) : Prop where
  blk : w.heap[wb]? = some (.cells (eAsr t j M man.isSome cv) 37 (0, 0))
  sl : SL w.heap 34 15 cv Cs.length (Cs.flatMap (eCk t j))
  fs : Cs.map Prod.fst = C
  dat : ∀ x ∈ Cs, RS w0 3 eSpn x.2 x.1.xs
  mn : ∀ x, man = some x → M = ⟨7, 0, t, j, x.1, 0, 0, zPt, M.pv, .slice none 0 0⟩ ∧ SL w.heap 30 6 M.pv x.2.length (x.2.flatMap ePt) ∧ x.2.length ≤ 4 ∧ (∀ p ∈ x.2, p.cv = .slice none 0 0 ∧ p.cl = []) ∧ ∀ g, M.pv.ownBlock = some g → Rw g
  rb : Rw wb
  rc : ∀ g, cv.ownBlock = some g → Rw g
  lt : ∀ b, Rw b → w0.heap.size ≤ b ∧ b < w.heap.size
  uq : Uq C
  bel : Below w0.heap.size w0 w

section
variable {w0 w w1 : World} {Rw : Nat → Prop} {wb : Nat} {t j : Int} {man : Option (Int × List Pt)} {C : List Chk} {M : Ms} {cv : Value} {Cs : List (Chk × Value)}
theorem Wr.only {F : Nat → Prop} (h : Wr w0 w Rw wb t j man C M cv Cs) (o : Only F w w1) (hF : ∀ b, Rw b → ¬ F b) (hb : Below w0.heap.size w0 w1) : Wr w0 w1 Rw wb t j man C M cv Cs :=
  ⟨o.heap h.blk (hF _ h.rb), h.sl.only o (fun g hg => hF _ (h.rc g hg)), h.fs, h.dat, fun x hx => by
    obtain ⟨h1, h2, h3, h4, h5⟩ := h.mn x hx
    exact ⟨h1, h2.only o (fun g hg => hF _ (h5 g hg)), h3, h4, h5⟩, h.rb, h.rc, fun b hb => ⟨(h.lt b hb).1, Nat.lt_of_lt_of_le (h.lt b hb).2 o.size⟩, h.uq, hb⟩
theorem Wr.below (h : Wr w0 w Rw wb t j man C M cv Cs) (o : Below w.heap.size w w1) : Wr w0 w1 Rw wb t j man C M cv Cs := h.only (only_of_below o (fun _ => False)) (fun _ _ => id) (h.bel.trans (o.mono h.bel.size))
theorem Wr.cell (h : Wr w0 w Rw wb t j man C M cv Cs) {q : Nat} {u : Value} (hu : (eAsr t j M man.isSome cv)[q]? = some u) : w.cell? ⟨wb, q, none⟩ = some u := cell_blk h.blk hu
theorem Wr.wlt (h : Wr w0 w Rw wb t j man C M cv Cs) : wb < w.heap.size := (h.lt _ h.rb).2
end

set_option maxRecDepth 100000 in
set_option maxHeartbeats 4000000 in
theorem wHear_no {w : World} {wb : Nat} {t j k a t2 j2 c i n pa pt pj pn : Int} {pcv pv sv : Value} {pl r : Bool} (k0 : w.cell? ⟨wb, 0, none⟩ = some (.int .i64 t)) (k1 : w.cell? ⟨wb, 1, none⟩ = some (.int .i64 j))
    (hf : ∃ w', Below w.heap.size w w' ∧ True) (fcv : ∃ x y z, pcv = .slice x y z) (fpv : ∃ x y z, pv = .slice x y z) (fsv : ∃ x y z, sv = .slice x y z)
    (hr : ∀ w', Below w.heap.size w w' → Calls Try.prog 59 #[.agg #[.int .i64 k, .int .i64 a, .int .i64 t2, .int .i64 j2, .int .i64 c, .int .i64 i, .int .i64 n, .int .i64 pa, .int .i64 pt, .int .i64 pj, .int .i64 pn, pcv, .bool pl, pv, sv]] w' fun e w'' => e = .returned (.bool r) ∧ Below w'.heap.size w' w'')
    (hno : r = false ∨ (k ≠ 6 ∧ k ≠ 7) ∨ t2 ≠ t ∨ j2 ≠ j) :
    Calls Try.prog 18 #[.pointer (some ⟨wb, 0, none⟩), .agg #[.int .i64 k, .int .i64 a, .int .i64 t2, .int .i64 j2, .int .i64 c, .int .i64 i, .int .i64 n, .int .i64 pa, .int .i64 pt, .int .i64 pj, .int .i64 pn, pcv, .bool pl, pv, sv]] w fun e w' => e = .returned (.bool false) ∧ Below w.heap.size w w' := by
  obtain ⟨x1, y1, z1, rfl⟩ := fcv
  obtain ⟨x2, y2, z2, rfl⟩ := fpv
  obtain ⟨x3, y3, z3, rfl⟩ := fsv
  have hwl := World.block_lt_of_cell? _ _ k0
  have hA := below_alloc (Below.refl w.heap.size w) (.cells #[.int .i64 k, .int .i64 a, .int .i64 t2, .int .i64 j2, .int .i64 c, .int .i64 i, .int .i64 n, .int .i64 pa, .int .i64 pt, .int .i64 pj, .int .i64 pn, .slice x1 y1 z1, .bool pl, .slice x2 y2 z2, .slice x3 y3 z3] 34)
  have hbx := heap_new w (.cells #[.int .i64 k, .int .i64 a, .int .i64 t2, .int .i64 j2, .int .i64 c, .int .i64 i, .int .i64 n, .int .i64 pa, .int .i64 pt, .int .i64 pj, .int .i64 pn, .slice x1 y1 z1, .bool pl, .slice x2 y2 z2, .slice x3 y3 z3] 34) rfl
  go_enter Try.func18, Try.ntmps18
  go_upto_region 1 with (fail)
  generalize (w.alloc (.cells #[.int .i64 k, .int .i64 a, .int .i64 t2, .int .i64 j2, .int .i64 c, .int .i64 i, .int .i64 n, .int .i64 pa, .int .i64 pt, .int .i64 pj, .int .i64 pn, .slice x1 y1 z1, .bool pl, .slice x2 y2 z2, .slice x3 y3 z3] 34)) = W1 at hA hbx ⊢
  have f0 : W1.cell? ⟨wb, 0, none⟩ = some (.int .i64 t) := by rw [hA.cell (p := ⟨wb, 0, none⟩) hwl]; exact k0
  have f1 : W1.cell? ⟨wb, 1, none⟩ = some (.int .i64 j) := by rw [hA.cell (p := ⟨wb, 1, none⟩) hwl]; exact k1
  have K0 := fun d os => cell_regrown f0 d os
  have K1 := fun d os => cell_regrown f1 d os
  have c0 := fun d os => cell_regrown (cell_blk hbx (j := 0) (u := .int .i64 k) rfl) d os
  have c1 := fun d os => cell_regrown (cell_blk hbx (j := 1) (u := .int .i64 a) rfl) d os
  have c2 := fun d os => cell_regrown (cell_blk hbx (j := 2) (u := .int .i64 t2) rfl) d os
  have c3 := fun d os => cell_regrown (cell_blk hbx (j := 3) (u := .int .i64 j2) rfl) d os
  have c4 := fun d os => cell_regrown (cell_blk hbx (j := 4) (u := .int .i64 c) rfl) d os
  have c5 := fun d os => cell_regrown (cell_blk hbx (j := 5) (u := .int .i64 i) rfl) d os
  have c6 := fun d os => cell_regrown (cell_blk hbx (j := 6) (u := .int .i64 n) rfl) d os
  have c7 := fun d os => cell_regrown (cell_blk hbx (j := 7) (u := .int .i64 pa) rfl) d os
  have c8 := fun d os => cell_regrown (cell_blk hbx (j := 8) (u := .int .i64 pt) rfl) d os
  have c9 := fun d os => cell_regrown (cell_blk hbx (j := 9) (u := .int .i64 pj) rfl) d os
  have c10 := fun d os => cell_regrown (cell_blk hbx (j := 10) (u := .int .i64 pn) rfl) d os
  have c11 := fun d os => cell_regrown (cell_blk hbx (j := 11) (u := .slice x1 y1 z1) rfl) d os
  have c12 := fun d os => cell_regrown (cell_blk hbx (j := 12) (u := .bool pl) rfl) d os
  have c13 := fun d os => cell_regrown (cell_blk hbx (j := 13) (u := .slice x2 y2 z2) rfl) d os
  have c14 := fun d os => cell_regrown (cell_blk hbx (j := 14) (u := .slice x3 y3 z3) rfl) d os
  have HR := fun d os => hr (grow (redrawn W1 d) os) (below_trans' (below_regrown W1 d os) hA)
  have HA := Lib.hid hA
  clear hA hbx f0 f1 k0 k1 hr hf
  cases r with
  | false =>
    have cQ := fun d os => Calls.regrown_of (HR d os)
    clear HR hno
    refine wp_region_quiet_below (by kernel_rfl) (by kernel_rfl) ?_
    repeat (first | go_big_quiet_step (exact cQ _ _) | quiet_step (exact cQ _ _))
    refine wpQuiet_nil ?_
    intro w2 hw2
    obtain ⟨p2, rfl⟩ := hw2
    have hbr := below_regrown W1 p2.d p2.os
    generalize grow (redrawn W1 p2.d) p2.os = w2 at hbr ⊢
    clear K0 K1 c0 c1 c2 c3 c4 c5 c6 c7 c8 c9 c10 c11 c12 c13 c14 cQ
    have hbe := below_trans' hbr HA.out
    go_wp2
    go_ret
    exact ⟨rfl, hbe⟩
  | true =>
    have cQ := fun d os => Calls.regrown_of (HR d os)
    have hno := hno.resolve_left (by simp)
    clear HR
    by_cases hk : k ≠ 6 ∧ k ≠ 7
    · have b6 : (k != 6) = true := by simp [hk.1]
      have b7 : (k != 7) = true := by simp [hk.2]
      clear hk hno
      refine wp_region_quiet_below (by kernel_rfl) (by kernel_rfl) ?_
      repeat (first | go_big_quiet_step (exact cQ _ _) | quiet_step (exact cQ _ _))
      refine wpQuiet_nil ?_
      intro w2 hw2
      obtain ⟨p2, rfl⟩ := hw2
      have hbr := below_regrown W1 p2.d p2.os
      generalize grow (redrawn W1 p2.d) p2.os = w2 at hbr ⊢
      clear K0 K1 c0 c1 c2 c3 c4 c5 c6 c7 c8 c9 c10 c11 c12 c13 c14 cQ
      have hbe := below_trans' hbr HA.out
      go_wp2
      go_ret
      exact ⟨rfl, hbe⟩
    · have hno := hno.resolve_left hk
      by_cases h6 : k = 6
      · have b6 : (k != 6) = false := by simp [h6]
        by_cases ht : t2 = t
        · have bt : (t2 != t) = false := by simp [ht]
          have bj : (j2 != j) = true := by simp; exact hno.resolve_left (by simp [ht])
          clear hk hno h6 ht
          refine wp_region_quiet_below (by kernel_rfl) (by kernel_rfl) ?_
          repeat (first | go_big_quiet_step (exact cQ _ _) | quiet_step (exact cQ _ _))
          refine wpQuiet_nil ?_
          intro w2 hw2
          obtain ⟨p2, rfl⟩ := hw2
          have hbr := below_regrown W1 p2.d p2.os
          generalize grow (redrawn W1 p2.d) p2.os = w2 at hbr ⊢
          clear K0 K1 c0 c1 c2 c3 c4 c5 c6 c7 c8 c9 c10 c11 c12 c13 c14 cQ
          have hbe := below_trans' hbr HA.out
          go_wp2
          go_ret
          exact ⟨rfl, hbe⟩
        · have bt : (t2 != t) = true := by simp [ht]
          clear hk hno h6 ht
          refine wp_region_quiet_below (by kernel_rfl) (by kernel_rfl) ?_
          repeat (first | go_big_quiet_step (exact cQ _ _) | quiet_step (exact cQ _ _))
          refine wpQuiet_nil ?_
          intro w2 hw2
          obtain ⟨p2, rfl⟩ := hw2
          have hbr := below_regrown W1 p2.d p2.os
          generalize grow (redrawn W1 p2.d) p2.os = w2 at hbr ⊢
          clear K0 K1 c0 c1 c2 c3 c4 c5 c6 c7 c8 c9 c10 c11 c12 c13 c14 cQ
          have hbe := below_trans' hbr HA.out
          go_wp2
          go_ret
          exact ⟨rfl, hbe⟩
      · have h7 : k = 7 := by omega
        have b6 : (k != 6) = true := by simp [h6]
        have b7 : (k != 7) = false := by simp [h7]
        by_cases ht : t2 = t
        · have bt : (t2 != t) = false := by simp [ht]
          have bj : (j2 != j) = true := by simp; exact hno.resolve_left (by simp [ht])
          clear hk hno h6 h7 ht
          refine wp_region_quiet_below (by kernel_rfl) (by kernel_rfl) ?_
          repeat (first | go_big_quiet_step (exact cQ _ _) | quiet_step (exact cQ _ _))
          refine wpQuiet_nil ?_
          intro w2 hw2
          obtain ⟨p2, rfl⟩ := hw2
          have hbr := below_regrown W1 p2.d p2.os
          generalize grow (redrawn W1 p2.d) p2.os = w2 at hbr ⊢
          clear K0 K1 c0 c1 c2 c3 c4 c5 c6 c7 c8 c9 c10 c11 c12 c13 c14 cQ
          have hbe := below_trans' hbr HA.out
          go_wp2
          go_ret
          exact ⟨rfl, hbe⟩
        · have bt : (t2 != t) = true := by simp [ht]
          clear hk hno h6 h7 ht
          refine wp_region_quiet_below (by kernel_rfl) (by kernel_rfl) ?_
          repeat (first | go_big_quiet_step (exact cQ _ _) | quiet_step (exact cQ _ _))
          refine wpQuiet_nil ?_
          intro w2 hw2
          obtain ⟨p2, rfl⟩ := hw2
          have hbr := below_regrown W1 p2.d p2.os
          generalize grow (redrawn W1 p2.d) p2.os = w2 at hbr ⊢
          clear K0 K1 c0 c1 c2 c3 c4 c5 c6 c7 c8 c9 c10 c11 c12 c13 c14 cQ
          have hbe := below_trans' hbr HA.out
          go_wp2
          go_ret
          exact ⟨rfl, hbe⟩
end Go.Proofs.Ytcdjeblcmgghhaa.Asm
