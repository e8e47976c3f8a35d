/- What the methods of lease.Leases (but Tick) do to the two maps behind the pointer. Conditions: the receiver lies in memory as Lrep says. -/
import Derived.Test.YtcdjeblcmgghhaaProg
import Derived.Test.YtcdjeblcmgghhaaSlice
import Derived.StillTailTactics
import Derived.WalkKit
import Derived.WalkSpells
import Derived.WalkLawsBesides
namespace Go.Proofs.Ytcdjeblcmgghhaa.Lease
open Go.RowKit Go.Sp

/-- (job, left) -/
def eH (x : Int × Int) : Value := .agg #[.int .i64 x.1, .int .i64 x.2]
def eI (x : Int) : Value := .int .i64 x

theorem zH (w : World) : (zeroValue 144).run Try.prog w = .ok (eH (0, 0)) w := by kernel_rfl
theorem zI (w : World) : (zeroValue 3).run Try.prog w = .ok (eI 0) w := by kernel_rfl
@[go_sem] theorem fld0 (a b : Value) (w : World) : (Instr.field 144 (.agg #[a, b]) 0).run Try.prog w = .ok a w := by kernel_rfl
@[go_sem] theorem fld1 (a b : Value) (w : World) : (Instr.field 144 (.agg #[a, b]) 1).run Try.prog w = .ok b w := by kernel_rfl

/-- the object at block lb: ticks, what is held, what ran out -/
structure Lrep (w : World) (lb hb ob : Nat) (ticks : Int) (H : List (Int × (Int × Int))) (O : List (Int × Int)) : Prop where
  blk : w.heap[lb]? = some (.cells #[.int .i64 ticks, .map (some hb), .map (some ob)] 142 (0, 0))
  mh : IMap w.heap hb eH H
  mo : IMap w.heap ob eI O
  ne : hb ≠ ob

section
variable {w w' : World} {lb hb ob : Nat} {ticks : Int} {H : List (Int × (Int × Int))} {O : List (Int × Int)}

theorem Lrep.c0 (h : Lrep w lb hb ob ticks H O) : w.cell? ⟨lb, 0, none⟩ = some (.int .i64 ticks) := by simp [World.cell?, h.blk]
theorem Lrep.c1 (h : Lrep w lb hb ob ticks H O) : w.cell? ⟨lb, 1, none⟩ = some (.map (some hb)) := by simp [World.cell?, h.blk]
theorem Lrep.c2 (h : Lrep w lb hb ob ticks H O) : w.cell? ⟨lb, 2, none⟩ = some (.map (some ob)) := by simp [World.cell?, h.blk]
theorem Lrep.lh (h : Lrep w lb hb ob ticks H O) : lb ≠ hb := fun e => by
  obtain ⟨es, c, hh, _⟩ := h.mh
  have := h.blk
  rw [e, hh] at this; cases this
theorem Lrep.lo (h : Lrep w lb hb ob ticks H O) : lb ≠ ob := fun e => by
  obtain ⟨es, c, hh, _⟩ := h.mo
  have := h.blk
  rw [e, hh] at this; cases this
theorem Lrep.only {F : Nat → Prop} (h : Lrep w lb hb ob ticks H O) (o : Only F w w') (f1 : ¬ F lb) (f2 : ¬ F hb) (f3 : ¬ F ob) : Lrep w' lb hb ob ticks H O :=
  ⟨o.heap h.blk f1, h.mh.only o f2, h.mo.only o f3, h.ne⟩
theorem Lrep.heap (h : Lrep w lb hb ob ticks H O) (e : w'.heap = w.heap) : Lrep w' lb hb ob ticks H O :=
  ⟨by rw [e]; exact h.blk, by rw [e]; exact h.mh, by rw [e]; exact h.mo, h.ne⟩
theorem Lrep.putH (h : Lrep w lb hb ob ticks H O) {H'} (m : IMap w'.heap hb eH H') (o : Only (· = hb) w w') : Lrep w' lb hb ob ticks H' O :=
  ⟨o.heap h.blk h.lh, m, h.mo.only o (fun e => h.ne e.symm), h.ne⟩
theorem Lrep.putO (h : Lrep w lb hb ob ticks H O) {O'} (m : IMap w'.heap ob eI O') (o : Only (· = ob) w w') : Lrep w' lb hb ob ticks H O' :=
  ⟨o.heap h.blk h.lo, h.mh.only o h.ne, m, h.ne⟩

theorem held_form (x : Option (Int × Int)) : ((x.map eH).getD (eH (0,0))) = .agg #[.int .i64 (x.getD (0, 0)).1, .int .i64 (x.getD (0, 0)).2] := by
  cases x <;> rfl
theorem int_form (x : Option Int) : ((x.map eI).getD (eI 0)) = .int .i64 (x.getD 0) := by
  cases x <;> rfl

theorem look_held (h : Lrep w lb hb ob ticks H O) (k : Int) {a b : Int} (ha : ((mget k H).getD (0, 0)) = (a, b)) : (Instr.lookup 140 (.map (some hb)) (.int .i64 k) false).run Try.prog w = .ok (.agg #[.int .i64 a, .int .i64 b]) w := by
  have hl := h.mh.lookup (P := Try.prog) false Try.underlying140 Try.underlying3 (zH _) k
  rw [held_form, ha] at hl
  exact hl
theorem look_over (h : Lrep w lb hb ob ticks H O) (k : Int) {a : Int} (ha : ((mget k O).getD 0) = a) : (Instr.lookup 94 (.map (some ob)) (.int .i64 k) false).run Try.prog w = .ok (.int .i64 a) w := by
  have hl := h.mo.lookup (P := Try.prog) false Try.underlying94 Try.underlying3 (zI _) k
  rw [int_form, ha] at hl
  exact hl
theorem len_held (h : Lrep w lb hb ob ticks H O) : (Builtin.len_ #[140] 3 #[.map (some hb)]).run Try.prog w = .ok (.int .i64 H.length) w :=
  h.mh.len Try.underlying140

theorem job_any (k : Int) (h : Lrep w lb hb ob ticks H O) :
    Calls Try.prog 38 #[.pointer (some ⟨lb, 0, none⟩), .int .i64 k] w fun e w' => e = .returned (.int .i64 ((mget k H).getD (0, 0)).1) ∧ w = w' := by
  generalize hx : (mget k H).getD (0, 0) = x
  obtain ⟨a, b⟩ := x
  have hl := look_held h k hx
  have c1 := h.c1
  clear h hx
  go_enter Try.func38, Try.ntmps38
  go_wp2
  go_ret
  exact ⟨rfl, rfl⟩

theorem left_any (k : Int) (h : Lrep w lb hb ob ticks H O) :
    Calls Try.prog 39 #[.pointer (some ⟨lb, 0, none⟩), .int .i64 k] w fun e w' => e = .returned (.int .i64 ((mget k H).getD (0, 0)).2) ∧ w = w' := by
  generalize hx : (mget k H).getD (0, 0) = x
  obtain ⟨a, b⟩ := x
  have hl := look_held h k hx
  have c1 := h.c1
  clear h hx
  go_enter Try.func39, Try.ntmps39
  go_wp2
  go_ret
  exact ⟨rfl, rfl⟩

theorem over_any (k : Int) (h : Lrep w lb hb ob ticks H O) :
    Calls Try.prog 40 #[.pointer (some ⟨lb, 0, none⟩), .int .i64 k] w fun e w' => e = .returned (.int .i64 ((mget k O).getD 0)) ∧ w = w' := by
  generalize hx : (mget k O).getD 0 = x
  have hl := look_over h k hx
  have c1 := h.c2
  clear h hx
  go_enter Try.func40, Try.ntmps40
  go_wp2
  go_ret
  exact ⟨rfl, rfl⟩

theorem len_any (h : Lrep w lb hb ob ticks H O) :
    Calls Try.prog 42 #[.pointer (some ⟨lb, 0, none⟩)] w fun e w' => e = .returned (.int .i64 H.length) ∧ w = w' := by
  have hl := len_held h
  have c1 := h.c1
  clear h
  go_enter Try.func42, Try.ntmps42
  go_wp2
  go_ret
  exact ⟨rfl, rfl⟩

set_option maxRecDepth 100000 in
set_option maxHeartbeats 400000 in
theorem grant_any {k j : Int} (hk : (Lit.int .i64 k).wf = true) (h : Lrep w lb hb ob ticks H O) :
    Calls Try.prog 31 #[.pointer (some ⟨lb, 0, none⟩), .int .i64 k, .int .i64 j] w fun e w' => e = .returned (.tuple #[]) ∧ Lrep w' lb hb ob ticks (mput k (j, ticks) H) O ∧ Only (· = hb) w w' := by
  have c0 := h.c0
  have c1 := h.c1
  go_enter Try.func31, Try.ntmps31
  go_wp2
  go_still_tail 11, (by kernel_rfl)
  refine wpList_upd (enc := eH) (j, ticks) rfl _ _ _ _ rfl Try.underlying140 Try.underlying3 rfl rfl rfl hk (by exact h.mh) ?_
  rintro w1 hm1 ho1
  have ho2 : Only (· = hb) w w1 := ⟨ho1.os, ho1.tape, ho1.output, ho1.size, ho1.block⟩
  go_wp2
  go_end0
  exact ⟨rfl, h.putH hm1 ho2, ho2⟩

set_option maxRecDepth 100000 in
set_option maxHeartbeats 400000 in
theorem end_any {k : Int} (h : Lrep w lb hb ob ticks H O) :
    Calls Try.prog 33 #[.pointer (some ⟨lb, 0, none⟩), .int .i64 k] w fun e w' => e = .returned (.tuple #[]) ∧ Lrep w' lb hb ob ticks (mdel k H) O ∧ Only (· = hb) w w' := by
  have c1 := h.c1
  go_enter Try.func33, Try.ntmps33
  go_wp2_with (at_delete; refine wpList_dele (enc := eH) rfl _ _ _ _ rfl Try.underlying140 Try.underlying3 rfl rfl (by exact h.mh) ?_; rintro w1 hm1 ho1)
  go_end0
  exact ⟨rfl, h.putH hm1 ho1, ho1⟩

theorem new_no (h1 : ¬ (1 ≤ ticks ∧ ticks ≤ 1000)) :
    Calls Try.prog 30 #[.int .i64 ticks] w fun e w' => e = .returned (.tuple #[.pointer none, .int .i64 1]) ∧ w = w' := by
  by_cases hlt : ticks < 1
  · go_enter Try.func30, Try.ntmps30
    go_wp2
    go_ret2
    exact ⟨rfl, rfl⟩
  · have hgt : 1000 < ticks := by omega
    go_enter Try.func30, Try.ntmps30
    go_wp2
    go_ret2
    exact ⟨rfl, rfl⟩

set_option maxRecDepth 100000 in
set_option maxHeartbeats 400000 in
theorem new_yes (h1 : 1 ≤ ticks) (h2 : ticks ≤ 1000) :
    Calls Try.prog 30 #[.int .i64 ticks] w fun e w' => ∃ lb hb ob, e = .returned (.tuple #[.pointer (some ⟨lb, 0, none⟩), .int .i64 0]) ∧ Lrep w' lb hb ob ticks [] [] ∧ w.heap.size ≤ lb ∧ w.heap.size ≤ hb ∧ w.heap.size ≤ ob ∧ Below w.heap.size w w' := by
  have hmm := @run_makeMap Try.prog
  go_enter Try.func30, Try.ntmps30
  go_wp2
  go_ret2
  refine ⟨w.heap.size + 2, w.heap.size, w.heap.size + 1, rfl, ⟨?_, ?_, ?_, by omega⟩, by omega, by omega, by omega, (((Below.refl _ _).alloc (Nat.le_refl _) _).alloc (by simp) _).alloc (by simp; omega) _⟩
  · exact heap_new _ _ (by simp)
  · exact (((IMap.made w eH).alloc _).alloc _)
  · exact ((IMap.made' (w.alloc (.map #[] 0)) eI (by simp)).alloc _)

end
end Go.Proofs.Ytcdjeblcmgghhaa.Lease
