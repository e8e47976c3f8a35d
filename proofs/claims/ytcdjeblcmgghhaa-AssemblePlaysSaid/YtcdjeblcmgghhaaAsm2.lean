/- What assemble's chunk does: it keeps a chunk just if none of that agent's has another total or the same index. Conditions: the assembler lies in memory as Arep says; the chunk may be. -/
import Derived.Test.YtcdjeblcmgghhaaAsm1
import Derived.StillTailTactics
import Derived.Deep.RegionHeld3
namespace Go.Sp
open Go.RowKit

/-- a chunk that was kept -/
structure Chk where
  a : Int
  i : Int
  n : Int
  xs : List Spn
/-- the kept ones, in order, and the rows that hold them -/
structure Tie (rows : List (Int × Nat)) (g : Int → Ro) (C : List Chk) : Prop where
  t1 : ∀ a, mget a rows = none ↔ ∀ c ∈ C, c.a ≠ a
  t2 : ∀ c ∈ C, c.n = (g c.a).tot
  t3 : ∀ a b i x, mget a rows = some b → mget i (g a).ch = some x → (⟨a, i, (g a).tot, x.2⟩ : Chk) ∈ C
  t4 : ∀ c ∈ C, ∃ v, mget c.i (g c.a).ch = some (v, c.xs)
  t5 : ∀ c ∈ C, 0 ≤ c.i ∧ c.i < c.n ∧ c.n ≤ 500 ∧ c.xs.length ≤ 2
/-- is a chunk refused? -/
def refuse (C : List Chk) (c : Chk) : Bool := C.any fun d => decide (d.a = c.a) && (decide (d.n ≠ c.n) || decide (d.i = c.i))
def keepC (C : List Chk) (c : Chk) : List Chk := match refuse C c with
  | true => C
  | false => C ++ [c]
theorem keepC_true {C : List Chk} {c : Chk} (h : refuse C c = true) : keepC C c = C := by unfold keepC; rw [h]
theorem keepC_false {C : List Chk} {c : Chk} (h : refuse C c = false) : keepC C c = C ++ [c] := by unfold keepC; rw [h]

section
variable {rows : List (Int × Nat)} {g : Int → Ro} {C : List Chk} {c : Chk} {b : Nat} {v : Value}
theorem Tie.noRow (T : Tie rows g C) (h : mget c.a rows = none) : refuse C c = false := by
  unfold refuse
  rw [List.any_eq_false]
  intro d hd
  have := (T.t1 c.a).1 h d hd
  simp [this]
theorem Tie.there (T : Tie rows g C) {x : Value × List Spn} (h : mget c.a rows = some b) (hi : mget c.i (g c.a).ch = some x) : refuse C c = true := by
  unfold refuse
  rw [List.any_eq_true]
  exact ⟨_, T.t3 c.a b c.i x h hi, by simp⟩
theorem Tie.other (T : Tie rows g C) (h : mget c.a rows = some b) (hn : (g c.a).tot ≠ c.n) : refuse C c = true := by
  have : ¬ ∀ d ∈ C, d.a ≠ c.a := fun e => by rw [(T.t1 c.a).2 e] at h; cases h
  have ⟨d, hd, hda⟩ : ∃ d, d ∈ C ∧ d.a = c.a := by
    refine Classical.byContradiction fun e => this fun d hd he => e ⟨d, hd, he⟩
  unfold refuse
  rw [List.any_eq_true]
  have := T.t2 d hd
  rw [hda] at this
  exact ⟨d, hd, by simp [hda, this, hn]⟩
theorem Tie.fresh (T : Tie rows g C) (hi : mget c.i (g c.a).ch = Option.none) (hn : (g c.a).tot = c.n) : refuse C c = false := by
  unfold refuse
  rw [List.any_eq_false]
  intro d hd
  by_cases e : d.a = c.a
  · have h2 := T.t2 d hd
    obtain ⟨v, h4⟩ := T.t4 d hd
    rw [e] at h2 h4
    have : d.i ≠ c.i := fun e2 => by rw [e2, hi] at h4; cases h4
    simp [h2, hn, this]
  · simp [e]
theorem Tie.newRow (T : Tie rows g C) {a n : Int} {m : Nat} (h : mget a rows = Option.none) : ∀ c ∈ C, gSet g a ⟨m, n, []⟩ c.a = g c.a := fun c hc => gSet_other g _ ((T.t1 a).1 h c hc)
/-- a chunk is kept in a row that is there (rows: with the row), C the ones before -/
theorem Tie.put {rows0 : List (Int × Nat)} {g0 : Int → Ro} (T : Tie rows0 g0 C) (hr : mget c.a rows = some b) (hrs : ∀ k, k ≠ c.a → mget k rows = mget k rows0) (hgs : ∀ k, k ≠ c.a → g k = g0 k)
    (hca : (mget c.a rows0 = Option.none ∧ (g c.a).ch = []) ∨ (mget c.a rows0 = some b ∧ g c.a = g0 c.a)) (hn : (g c.a).tot = c.n) (hi : mget c.i (g c.a).ch = Option.none) (h5 : 0 ≤ c.i ∧ c.i < c.n ∧ c.n ≤ 500 ∧ c.xs.length ≤ 2) :
    Tie rows (gSet g c.a ⟨(g c.a).m, (g c.a).tot, mput c.i (v, c.xs) (g c.a).ch⟩) (C ++ [c]) := by
  have hC : ∀ d ∈ C, d.a = c.a → mget c.a rows0 = some b ∧ g c.a = g0 c.a := fun d hd e => by
    rcases hca with h | h
    · exact absurd e ((T.t1 c.a).1 h.1 d hd)
    · exact h
  refine ⟨fun k => ?_, fun d hd => ?_, fun k b' q x hk hx => ?_, fun d hd => ?_, fun d hd => ?_⟩
  · by_cases e : k = c.a
    · subst e
      rw [hr]
      exact ⟨fun h => (by cases h), fun h => absurd rfl (h c (by simp))⟩
    · rw [hrs k e, T.t1 k]
      constructor
      · intro h d hd
        rcases List.mem_append.1 hd with hd | hd
        · exact h d hd
        · rw [List.mem_singleton.1 hd]; exact fun e2 => e e2.symm
      · exact fun h d hd => h d (List.mem_append_left _ hd)
  · rcases List.mem_append.1 hd with hd | hd
    · by_cases e : d.a = c.a
      · rw [e, gSet_same]
        have := T.t2 d hd
        rw [e] at this
        simp only [(hC d hd e).2, this]
      · rw [gSet_other g _ e, hgs _ e]; exact T.t2 d hd
    · rw [List.mem_singleton.1 hd, gSet_same]; exact hn.symm
  · by_cases e : k = c.a
    · subst e
      rw [gSet_same] at hx ⊢
      simp only [mget_mput] at hx
      by_cases e2 : q = c.i
      · rw [if_pos e2] at hx
        cases hx
        rw [e2]
        refine List.mem_append_right _ ?_
        simp only [hn, List.mem_singleton]
      · rw [if_neg e2] at hx
        refine List.mem_append_left _ ?_
        rcases hca with h | h
        · rw [h.2] at hx; simp [mget] at hx
        · rw [h.2] at hx ⊢
          exact T.t3 _ b q x h.1 hx
    · rw [gSet_other g _ e, hgs k e] at hx ⊢
      rw [hrs k e] at hk
      exact List.mem_append_left _ (T.t3 k b' q x hk hx)
  · rcases List.mem_append.1 hd with hd | hd
    · obtain ⟨v', h4⟩ := T.t4 d hd
      by_cases e : d.a = c.a
      · rw [e, gSet_same]
        have hg := (hC d hd e).2
        rw [e, ← hg] at h4
        have : d.i ≠ c.i := fun e2 => by rw [e2, hi] at h4; cases h4
        exact ⟨v', by simp only [mget_mput, if_neg this]; exact h4⟩
      · rw [gSet_other g _ e, hgs _ e]; exact ⟨v', h4⟩
    · rw [List.mem_singleton.1 hd, gSet_same]
      exact ⟨v, mget_mput_same⟩
  · rcases List.mem_append.1 hd with hd | hd
    · exact T.t5 d hd
    · rw [List.mem_singleton.1 hd]; exact h5
end
end Go.Sp
namespace Go.Proofs.Ytcdjeblcmgghhaa.Asm
open Go.RowKit Go.Sp Msg

section
variable {w : World} {R D : Nat → Prop} {ab rm : Nat} {t j : Int} {man : Option ManD} {rows : List (Int × Nat)} {g : Int → Ro} {C : List Chk}

def Out (w : World) (R : Nat → Prop) (ab rm : Nat) (t j : Int) (man : Option ManD) (C : List Chk) (w' : World) : Prop :=
  ∃ R' D' rows' g', Arep w' R' D' ab rm t j man rows' g' ∧ Tie rows' g' C ∧ (∀ b, R' b → R b ∨ w.heap.size ≤ b) ∧ Only R w w'

theorem Out.same {w' : World} (h : Arep w R D ab rm t j man rows g) (T : Tie rows g C) (hb : Below w.heap.size w w') : Out w R ab rm t j man C w' :=
  ⟨R, D, rows, g, h.below hb, T, fun b hb => .inl hb, only_of_below hb R⟩

set_option maxRecDepth 100000 in
set_option maxHeartbeats 2000000 in
theorem chunk_any (h : Arep w R D ab rm t j man rows g) (T : Tie rows g C) {a i n t' j' : Int} {sv : Value} {xs : List Spn} (hs : RS w 3 eSpn sv xs) (hsR : 0 < xs.length → ∀ g', sv.ownBlock = some g' → ¬ R g') (ha : 0 ≤ a ∧ a ≤ 3) (h5 : 0 ≤ i ∧ i < n ∧ n ≤ 500 ∧ xs.length ≤ 2) :
    Calls Try.prog 57 #[.pointer (some ⟨ab, 0, none⟩), .agg #[.int .i64 a, .int .i64 t', .int .i64 j', .int .i64 i, .int .i64 n, sv]] w fun e w' =>
      e = .returned (.bool (!refuse C ⟨a, i, n, xs⟩)) ∧ Out w R ab rm t j man (keepC C ⟨a, i, n, xs⟩) w' := by
  obtain ⟨_, sa, sc, rfl, _⟩ := id hs
  have hmm := @run_makeMap Try.prog
  go_enter Try.func57, Try.ntmps57
  go_wp2
  have hA := below_alloc (Below.refl w.heap.size w) (.cells #[.int .i64 a, .int .i64 t', .int .i64 j', .int .i64 i, .int .i64 n, .slice sa xs.length sc] 67)
  have hbx : (w.alloc (.cells #[.int .i64 a, .int .i64 t', .int .i64 j', .int .i64 i, .int .i64 n, .slice sa xs.length sc] 67)).heap[w.heap.size]? = some (.cells #[.int .i64 a, .int .i64 t', .int .i64 j', .int .i64 i, .int .i64 n, .slice sa xs.length sc] 67 (0, 0)) := heap_new _ _ rfl
  generalize (w.alloc (.cells #[.int .i64 a, .int .i64 t', .int .i64 j', .int .i64 i, .int .i64 n, .slice sa xs.length sc] 67)) = w0 at hA hbx ⊢
  have h0 := h.below hA
  have k0 := h0.c3
  have e0 : w0.cell? ⟨w.heap.size, 0, none⟩ = some (.int .i64 a) := by simp [World.cell?, hbx]
  have lk := fun n => (h0.drewN n).look a
  have hB0 := h0.rlt
  have hbl : w.heap.size < w0.heap.size := (Array.getElem?_eq_some_iff.1 hbx).1
  have hRB : ∀ b, R b → b < w.heap.size := h.rlt
  have hsF : 0 < xs.length → ∀ g', (Value.slice sa xs.length sc).ownBlock = some g' → ¬ R g' := hsR
  cases hk : mget a rows with
  | none =>
    have hrf := T.noRow (c := ⟨a, i, n, xs⟩) hk
    have HRF := Lib.hid hrf
    rw [hk] at lk
    replace lk : ∀ n, (Instr.lookup 116 (.map (some rm)) (.int .i64 a) false).run Try.prog (w0.drewN n) = .ok (.pointer none) (w0.drewN n) := lk
    clear hrf
    go_quiet (fail)
    clear lk
    have h1 := h0.drewN nq
    have hA1 := belowN hA nq
    have hbx1 : (w0.drewN nq).heap[w.heap.size]? = _ := hbx
    generalize w0.drewN nq = w1 at h1 hA1 hbx1 ⊢
    clear h0 k0 e0 hA hbx hB0
    have e4 : w1.cell? ⟨w.heap.size, 4, none⟩ = some (.int .i64 n) := by simp [World.cell?, hbx1]
    go_wp2
    have NR := fun w2 hI hO => h1.newRow (w2 := w2) (n := n) hk rfl hI hO
    have hA2 := below_alloc (below_alloc (Below.refl w1.heap.size w1) (.map #[] 0)) (.cells #[.int .i64 n, .map (some w1.heap.size)] 169)
    have h2 := h1.below hA2
    have hb1lt : w.heap.size < w1.heap.size := (Array.getElem?_eq_some_iff.1 hbx1).1
    have hbx2 := (hA2.block w.heap.size hb1lt).trans hbx1
    generalize ((w1.alloc (.map #[] 0)).alloc (.cells #[.int .i64 n, .map (some w1.heap.size)] 169)) = W2 at NR hA2 h2 hbx2 ⊢
    have k2 := h2.c3
    have e02 : W2.cell? ⟨w.heap.size, 0, none⟩ = some (.int .i64 a) := by simp [World.cell?, hbx2]
    go_still_tail 7, (by kernel_rfl)
    refine wpList_upd (enc := ePtr) (w1.heap.size + 1) rfl _ _ _ _ rfl Try.underlying116 Try.underlying3 rfl rfl rfl (WalkArith.wf_i64 (by omega)) (by exact h2.mp) ?_
    rintro w3 hI3 hO3'
    have hO23 : Only (· = rm) W2 w3 := ⟨hO3'.os, hO3'.tape, hO3'.output, hO3'.size, hO3'.block⟩
    have hrm : rm ≠ w.heap.size := fun e => by have := hRB rm h2.rr; omega
    have hbx3 : w3.heap[w.heap.size]? = _ := hO23.heap hbx2 (fun e => hrm e.symm)
    have hO3 : Only R w w3 := ((only_of_below (below_trans' hA2 hA1) R)).trans (hO23.mono fun b _ e => by rw [e]; exact h2.rr)
    obtain ⟨R3, hR3e⟩ : ∃ R3 : Nat → Prop, R3 = (fun b => R b ∨ b = w1.heap.size ∨ b = w1.heap.size + 1) := ⟨_, rfl⟩
    obtain ⟨g3, hg3⟩ : ∃ g3, g3 = gSet g a ⟨w1.heap.size, n, []⟩ := ⟨_, rfl⟩
    obtain ⟨b3, hb3⟩ : ∃ b3, b3 = w1.heap.size + 1 := ⟨_, rfl⟩
    obtain ⟨rows3, hr3⟩ : ∃ rows3, rows3 = mput a b3 rows := ⟨_, rfl⟩
    have h3 := NR w3 hI3 hO23
    rw [← hR3e, ← hg3, ← hb3, ← hr3] at h3
    have hR3 : ∀ b, R3 b → R b ∨ w.heap.size ≤ b := fun b hb => by
      rw [hR3e] at hb
      rcases hb with h | h | h
      · exact .inl h
      · exact .inr (by omega)
      · exact .inr (by omega)
    have hk3 : mget a rows3 = some b3 := by rw [hr3]; exact mget_mput_same
    have ht3 : (g3 a).tot = n := by rw [hg3, gSet_same]
    have hc3 : (g3 a).ch = [] := by rw [hg3, gSet_same]
    have hi3 : mget i (g3 a).ch = none := by rw [hc3]; rfl
    have TP : ∀ v, Tie rows3 (gSet g3 a ⟨(g3 a).m, (g3 a).tot, mput i (v, xs) (g3 a).ch⟩) (C ++ [⟨a, i, n, xs⟩]) := fun v =>
      Tie.put (c := ⟨a, i, n, xs⟩) (b := b3) T hk3 (fun k e => by rw [hr3, mget_mput, if_neg e]) (fun k e => by rw [hg3, gSet_other g _ e]) (.inl ⟨hk, hc3⟩) ht3 hi3 h5
    rw [← hb3]
    clear NR hA2 h2 hbx2 k2 e02 hI3 hO3' hO23 hR3e hg3 hb3 hr3 h1 hA1 hbx1 e4 T hc3 hb1lt
    go_wp2
    have f0 : w3.cell? ⟨b3, 0, none⟩ = some (.int .i64 n) := by have := (h3.row a b3 hk3).1; rw [ht3] at this; simp [World.cell?, this]
    have f1 : w3.cell? ⟨b3, 1, none⟩ = some (.map (some (g3 a).m)) := by simp [World.cell?, (h3.row a b3 hk3).1]
    have e3 : w3.cell? ⟨w.heap.size, 3, none⟩ = some (.int .i64 i) := by simp [World.cell?, hbx3]
    have e4 : w3.cell? ⟨w.heap.size, 4, none⟩ = some (.int .i64 n) := by simp [World.cell?, hbx3]
    have e5 : w3.cell? ⟨w.heap.size, 5, none⟩ = some (.slice sa xs.length sc) := by simp [World.cell?, hbx3]
    have lk5 : ∀ n, (Instr.lookup 167 (.map (some (g3 a).m)) (.int .i64 i) true).run Try.prog (w3.drewN n) = .ok (.tuple #[.slice none 0 0, .bool false]) (w3.drewN n) := fun n => by
      have := (h3.drewN n).lookc true hk3 i
      rw [hi3] at this; exact this
    go_quiet (fail)
    have h4 := h3.drewN nq
    have hO4 := hO3.drewN nq
    have hbx4 : (w3.drewN nq).heap[w.heap.size]? = _ := hbx3
    have f0' : (w3.drewN nq).cell? ⟨b3, 0, none⟩ = some (.int .i64 n) := f0
    have f1' : (w3.drewN nq).cell? ⟨b3, 1, none⟩ = some (.map (some (g3 a).m)) := f1
    have e4' : (w3.drewN nq).cell? ⟨w.heap.size, 4, none⟩ = some (.int .i64 n) := e4
    generalize w3.drewN nq = w4 at h4 hO4 hbx4 f0' f1' e4' ⊢
    clear h3 hO3 hbx3 f0 f1 e3 e4 e5 lk5
    have b1 : (n != n) = false := by simp
    go_wp2
    go_quiet (fail)
    have h5' := h4.drewN nq
    have hO5 := hO4.drewN nq
    have hbx5 : (w4.drewN nq).heap[w.heap.size]? = _ := hbx4
    have f1 : (w4.drewN nq).cell? ⟨b3, 1, none⟩ = some (.map (some (g3 a).m)) := f1'
    generalize w4.drewN nq = w5 at h5' hO5 hbx5 f1 ⊢
    clear h4 hO4 hbx4 f0' f1' e4'
    have e3 : w5.cell? ⟨w.heap.size, 3, none⟩ = some (.int .i64 i) := by simp [World.cell?, hbx5]
    have e5 : w5.cell? ⟨w.heap.size, 5, none⟩ = some (.slice sa xs.length sc) := by simp [World.cell?, hbx5]
    go_wp2
    have hs5 := hs.only' hO5 hsF
    have h6 := h5'.drewN 1
    have hO6 := hO5.drew
    have q1 : w5.drew.cell? ⟨b3, 1, none⟩ = some (.map (some (g3 a).m)) := f1
    have q2 : w5.drew.cell? ⟨w.heap.size, 3, none⟩ = some (.int .i64 i) := e3
    have q3 : w5.drew.cell? ⟨w.heap.size, 5, none⟩ = some (.slice sa xs.length sc) := e5
    have hCL := cloneS_any (hs5.heap (w' := w5.drew) rfl) (by omega)
    go_region_held3 (fun w' => w'.cell? ⟨b3, 1, none⟩ = some (.map (some (g3 a).m)) ∧ w'.cell? ⟨w.heap.size, 3, none⟩ = some (.int .i64 i) ∧ w'.cell? ⟨w.heap.size, 5, none⟩ = some (.slice sa xs.length sc)) (first | exact ⟨q1, q2, q3⟩ | exact ⟨r1, r2, r3⟩ | exact ⟨y1, y2, y3⟩)
      (first
      | (go_at_call 80
         refine hCL.mono ?_
         rintro e w6 ⟨v6, rfl, hr6, hn6, hb6⟩
         obtain ⟨_, a6, c6, rfl, _⟩ := id hr6
         have r1 : w6.cell? ⟨b3, 1, none⟩ = some (.map (some (g3 a).m)) := by rw [hb6.cell (p := ⟨b3, 1, none⟩) (World.block_lt_of_cell? _ _ q1)]; exact q1
         have r2 : w6.cell? ⟨w.heap.size, 3, none⟩ = some (.int .i64 i) := by rw [hb6.cell (p := ⟨w.heap.size, 3, none⟩) (World.block_lt_of_cell? _ _ q2)]; exact q2
         have r3 : w6.cell? ⟨w.heap.size, 5, none⟩ = some (.slice sa xs.length sc) := by rw [hb6.cell (p := ⟨w.heap.size, 5, none⟩) (World.block_lt_of_cell? _ _ q3)]; exact q3
         have h7 := h6.below hb6
         obtain ⟨w7, hrun7, hI7, hO7⟩ := (h7.row a b3 hk3).2.update (P := Try.prog) Try.underlying167 Try.underlying3 (k := i) (WalkArith.wf_i64 (by omega)) ((.slice a6 xs.length c6 : Value), xs)
         have hmm7 : ∀ b o ty fr, w6.heap[b]? = some (.cells o ty fr) → b ≠ (g3 a).m := fun b o ty fr hb e => by
           obtain ⟨es, cl, hb2, _⟩ := (h7.row a b3 hk3).2
           rw [← e, hb] at hb2; cases hb2
         have hbx6 := hb6.block w.heap.size (Nat.lt_of_lt_of_le (Nat.lt_of_lt_of_le (Array.getElem?_eq_some_iff.1 hbx5).1 (Nat.le_refl _)) (Nat.le_refl _))
         rw [show w5.drew.heap[w.heap.size]? = _ from hbx5] at hbx6
         have hbb6 : w6.heap[b3]? = _ := (h7.row a b3 hk3).1
         have y1 : w7.cell? ⟨b3, 1, none⟩ = some (.map (some (g3 a).m)) := by rw [World.cell?_of_block (w := w6) (hO7.block b3 (World.block_lt_of_cell? _ _ r1) (hmm7 _ _ _ _ hbb6))]; exact r1
         have y2 : w7.cell? ⟨w.heap.size, 3, none⟩ = some (.int .i64 i) := by rw [World.cell?_of_block (w := w6) (hO7.block _ (World.block_lt_of_cell? _ _ r2) (hmm7 _ _ _ _ hbx6))]; exact r2
         have y3 : w7.cell? ⟨w.heap.size, 5, none⟩ = some (.slice sa xs.length sc) := by rw [World.cell?_of_block (w := w6) (hO7.block _ (World.block_lt_of_cell? _ _ r3) (hmm7 _ _ _ _ hbx6))]; exact r3))
    all_goals (
      go_wp2
      go_ret
      refine ⟨by rw [HRF.out]; rfl, ?_⟩
      rw [keepC_false HRF.out]
      have hnR : ∀ g', (Value.slice a6 xs.length c6).ownBlock = some g' → ¬ R3 g' ∧ g' < w6.heap.size := fun g' hg' => ⟨fun e => by have := h6.rlt _ e; have := hn6 g' hg'; have hq1 : (w5.drewN 1).heap.size = w5.drew.heap.size := rfl; omega, (hn6 g' hg').2⟩
      refine ⟨_, _, rows3, _, h7.put hk3 hr6 hnR hO7 hI7, TP _, fun b hb => ?_, (hO6.trans (only_of_below hb6 R)).trans' hO7 (fun b hb e => ?_)⟩
      · rcases hb with hb | hb
        · exact hR3 b hb
        · have := hn6 b hb; have := hO6.size; exact .inr (by omega)
      · rcases hR3 b (by rw [e]; exact (h7.rown a b3 hk3).2.1) with h | h
        · exact h
        · omega)
  | some b3 =>
    rw [hk] at lk
    replace lk : ∀ n, (Instr.lookup 116 (.map (some rm)) (.int .i64 a) false).run Try.prog (w0.drewN n) = .ok (.pointer (some ⟨b3, 0, none⟩)) (w0.drewN n) := lk
    go_quiet (fail)
    clear lk
    have h3 := h0.drewN nq
    have hA3 := belowN hA nq
    have hbx3 : (w0.drewN nq).heap[w.heap.size]? = _ := hbx
    generalize w0.drewN nq = w3 at h3 hA3 hbx3 ⊢
    clear h0 k0 e0 hA hbx hB0
    have hO3 : Only R w w3 := only_of_below hA3 R
    go_wp2
    cases hi3 : mget i (g a).ch with
    | some x =>
      have hrf := T.there (c := ⟨a, i, n, xs⟩) hk hi3
      have HRF := Lib.hid hrf
      have f1 : w3.cell? ⟨b3, 1, none⟩ = some (.map (some (g a).m)) := by simp [World.cell?, (h3.row a b3 hk).1]
      have e3 : w3.cell? ⟨w.heap.size, 3, none⟩ = some (.int .i64 i) := by simp [World.cell?, hbx3]
      obtain ⟨_, x1, x2, hxv, _⟩ := id (h3.chk a b3 i x hk hi3).1
      have lk5 : ∀ n, (Instr.lookup 167 (.map (some (g a).m)) (.int .i64 i) true).run Try.prog (w3.drewN n) = .ok (.tuple #[.slice x1 x.2.length x2, .bool true]) (w3.drewN n) := fun n => by
        have := (h3.drewN n).lookc true hk i
        rw [hi3] at this; rw [← hxv]; exact this
      clear hrf hi3
      go_quiet (fail)
      clear lk5 f1 e3
      go_wp2
      go_quiet (fail)
      go_wp2
      go_ret
      refine ⟨by rw [HRF.out]; rfl, ?_⟩
      rw [keepC_true HRF.out]
      exact Out.same h T (by repeat (first | exact hA3 | apply below_alloc | apply belowN))
    | none =>
      by_cases ht : (g a).tot = n
      · have hrf := T.fresh (c := ⟨a, i, n, xs⟩) hi3 ht
        have HRF := Lib.hid hrf
        obtain ⟨R3, hR3e⟩ : ∃ R3 : Nat → Prop, R3 = R := ⟨_, rfl⟩
        obtain ⟨g3, hg3⟩ : ∃ g3, g3 = g := ⟨_, rfl⟩
        obtain ⟨rows3, hr3⟩ : ∃ rows3, rows3 = rows := ⟨_, rfl⟩
        rw [← hR3e, ← hg3, ← hr3] at h3
        rw [← hg3] at ht hi3 
        rw [← hr3] at hk
        have hk3 := hk
        have ht3 := ht
        have hR3 : ∀ b, R3 b → R b ∨ w.heap.size ≤ b := fun b hb => .inl (by rw [← hR3e]; exact hb)
        have TP : ∀ v, Tie rows3 (gSet g3 a ⟨(g3 a).m, (g3 a).tot, mput i (v, xs) (g3 a).ch⟩) (C ++ [⟨a, i, n, xs⟩]) := fun v =>
          Tie.put (c := ⟨a, i, n, xs⟩) (b := b3) T hk3 (fun k e => by rw [hr3]) (fun k e => by rw [hg3]) (.inr ⟨by rw [← hr3]; exact hk, by rw [hg3]⟩) ht3 hi3 h5
        clear hrf hR3e hg3 hr3 hk ht T hA3
        have f0 : w3.cell? ⟨b3, 0, none⟩ = some (.int .i64 n) := by have := (h3.row a b3 hk3).1; rw [ht3] at this; simp [World.cell?, this]
        have f1 : w3.cell? ⟨b3, 1, none⟩ = some (.map (some (g3 a).m)) := by simp [World.cell?, (h3.row a b3 hk3).1]
        have e3 : w3.cell? ⟨w.heap.size, 3, none⟩ = some (.int .i64 i) := by simp [World.cell?, hbx3]
        have e4 : w3.cell? ⟨w.heap.size, 4, none⟩ = some (.int .i64 n) := by simp [World.cell?, hbx3]
        have e5 : w3.cell? ⟨w.heap.size, 5, none⟩ = some (.slice sa xs.length sc) := by simp [World.cell?, hbx3]
        have lk5 : ∀ n, (Instr.lookup 167 (.map (some (g3 a).m)) (.int .i64 i) true).run Try.prog (w3.drewN n) = .ok (.tuple #[.slice none 0 0, .bool false]) (w3.drewN n) := fun n => by
          have := (h3.drewN n).lookc true hk3 i
          rw [hi3] at this; exact this
        go_quiet (fail)
        have h4 := h3.drewN nq
        have hO4 := hO3.drewN nq
        have hbx4 : (w3.drewN nq).heap[w.heap.size]? = _ := hbx3
        have f0' : (w3.drewN nq).cell? ⟨b3, 0, none⟩ = some (.int .i64 n) := f0
        have f1' : (w3.drewN nq).cell? ⟨b3, 1, none⟩ = some (.map (some (g3 a).m)) := f1
        have e4' : (w3.drewN nq).cell? ⟨w.heap.size, 4, none⟩ = some (.int .i64 n) := e4
        generalize w3.drewN nq = w4 at h4 hO4 hbx4 f0' f1' e4' ⊢
        clear h3 hO3 hbx3 f0 f1 e3 e4 e5 lk5
        have b1 : (n != n) = false := by simp
        go_wp2
        go_quiet (fail)
        have h5' := h4.drewN nq
        have hO5 := hO4.drewN nq
        have hbx5 : (w4.drewN nq).heap[w.heap.size]? = _ := hbx4
        have f1 : (w4.drewN nq).cell? ⟨b3, 1, none⟩ = some (.map (some (g3 a).m)) := f1'
        generalize w4.drewN nq = w5 at h5' hO5 hbx5 f1 ⊢
        clear h4 hO4 hbx4 f0' f1' e4'
        have e3 : w5.cell? ⟨w.heap.size, 3, none⟩ = some (.int .i64 i) := by simp [World.cell?, hbx5]
        have e5 : w5.cell? ⟨w.heap.size, 5, none⟩ = some (.slice sa xs.length sc) := by simp [World.cell?, hbx5]
        go_wp2
        have hs5 := hs.only' hO5 hsF
        have h6 := h5'.drewN 1
        have hO6 := hO5.drew
        have q1 : w5.drew.cell? ⟨b3, 1, none⟩ = some (.map (some (g3 a).m)) := f1
        have q2 : w5.drew.cell? ⟨w.heap.size, 3, none⟩ = some (.int .i64 i) := e3
        have q3 : w5.drew.cell? ⟨w.heap.size, 5, none⟩ = some (.slice sa xs.length sc) := e5
        have hCL := cloneS_any (hs5.heap (w' := w5.drew) rfl) (by omega)
        go_region_held3 (fun w' => w'.cell? ⟨b3, 1, none⟩ = some (.map (some (g3 a).m)) ∧ w'.cell? ⟨w.heap.size, 3, none⟩ = some (.int .i64 i) ∧ w'.cell? ⟨w.heap.size, 5, none⟩ = some (.slice sa xs.length sc)) (first | exact ⟨q1, q2, q3⟩ | exact ⟨r1, r2, r3⟩ | exact ⟨y1, y2, y3⟩)
          (first
          | (go_at_call 80
             refine hCL.mono ?_
             rintro e w6 ⟨v6, rfl, hr6, hn6, hb6⟩
             obtain ⟨_, a6, c6, rfl, _⟩ := id hr6
             have r1 : w6.cell? ⟨b3, 1, none⟩ = some (.map (some (g3 a).m)) := by rw [hb6.cell (p := ⟨b3, 1, none⟩) (World.block_lt_of_cell? _ _ q1)]; exact q1
             have r2 : w6.cell? ⟨w.heap.size, 3, none⟩ = some (.int .i64 i) := by rw [hb6.cell (p := ⟨w.heap.size, 3, none⟩) (World.block_lt_of_cell? _ _ q2)]; exact q2
             have r3 : w6.cell? ⟨w.heap.size, 5, none⟩ = some (.slice sa xs.length sc) := by rw [hb6.cell (p := ⟨w.heap.size, 5, none⟩) (World.block_lt_of_cell? _ _ q3)]; exact q3
             have h7 := h6.below hb6
             obtain ⟨w7, hrun7, hI7, hO7⟩ := (h7.row a b3 hk3).2.update (P := Try.prog) Try.underlying167 Try.underlying3 (k := i) (WalkArith.wf_i64 (by omega)) ((.slice a6 xs.length c6 : Value), xs)
             have hmm7 : ∀ b o ty fr, w6.heap[b]? = some (.cells o ty fr) → b ≠ (g3 a).m := fun b o ty fr hb e => by
               obtain ⟨es, cl, hb2, _⟩ := (h7.row a b3 hk3).2
               rw [← e, hb] at hb2; cases hb2
             have hbx6 := hb6.block w.heap.size (Nat.lt_of_lt_of_le (Nat.lt_of_lt_of_le (Array.getElem?_eq_some_iff.1 hbx5).1 (Nat.le_refl _)) (Nat.le_refl _))
             rw [show w5.drew.heap[w.heap.size]? = _ from hbx5] at hbx6
             have hbb6 : w6.heap[b3]? = _ := (h7.row a b3 hk3).1
             have y1 : w7.cell? ⟨b3, 1, none⟩ = some (.map (some (g3 a).m)) := by rw [World.cell?_of_block (w := w6) (hO7.block b3 (World.block_lt_of_cell? _ _ r1) (hmm7 _ _ _ _ hbb6))]; exact r1
             have y2 : w7.cell? ⟨w.heap.size, 3, none⟩ = some (.int .i64 i) := by rw [World.cell?_of_block (w := w6) (hO7.block _ (World.block_lt_of_cell? _ _ r2) (hmm7 _ _ _ _ hbx6))]; exact r2
             have y3 : w7.cell? ⟨w.heap.size, 5, none⟩ = some (.slice sa xs.length sc) := by rw [World.cell?_of_block (w := w6) (hO7.block _ (World.block_lt_of_cell? _ _ r3) (hmm7 _ _ _ _ hbx6))]; exact r3))
        all_goals (
          go_wp2
          go_ret
          refine ⟨by rw [HRF.out]; rfl, ?_⟩
          rw [keepC_false HRF.out]
          have hnR : ∀ g', (Value.slice a6 xs.length c6).ownBlock = some g' → ¬ R3 g' ∧ g' < w6.heap.size := fun g' hg' => ⟨fun e => by have := h6.rlt _ e; have := hn6 g' hg'; have hq1 : (w5.drewN 1).heap.size = w5.drew.heap.size := rfl; omega, (hn6 g' hg').2⟩
          refine ⟨_, _, rows3, _, h7.put hk3 hr6 hnR hO7 hI7, TP _, fun b hb => ?_, (hO6.trans (only_of_below hb6 R)).trans' hO7 (fun b hb e => ?_)⟩
          · rcases hb with hb | hb
            · exact hR3 b hb
            · have := hn6 b hb; have := hO6.size; exact .inr (by omega)
          · rcases hR3 b (by rw [e]; exact (h7.rown a b3 hk3).2.1) with h | h
            · exact h
            · omega)
      · have hrf := T.other (c := ⟨a, i, n, xs⟩) hk ht
        have HRF := Lib.hid hrf
        have f0 : w3.cell? ⟨b3, 0, none⟩ = some (.int .i64 (g a).tot) := by simp [World.cell?, (h3.row a b3 hk).1]
        have f1 : w3.cell? ⟨b3, 1, none⟩ = some (.map (some (g a).m)) := by simp [World.cell?, (h3.row a b3 hk).1]
        have e3 : w3.cell? ⟨w.heap.size, 3, none⟩ = some (.int .i64 i) := by simp [World.cell?, hbx3]
        have e4 : w3.cell? ⟨w.heap.size, 4, none⟩ = some (.int .i64 n) := by simp [World.cell?, hbx3]
        have lk5 : ∀ n, (Instr.lookup 167 (.map (some (g a).m)) (.int .i64 i) true).run Try.prog (w3.drewN n) = .ok (.tuple #[.slice none 0 0, .bool false]) (w3.drewN n) := fun n => by
          have := (h3.drewN n).lookc true hk i
          rw [hi3] at this; exact this
        clear hrf hi3
        go_quiet (fail)
        have hA4 := belowN hA3 nq
        have f0' : (w3.drewN nq).cell? ⟨b3, 0, none⟩ = some (.int .i64 (g a).tot) := f0
        have e4' : (w3.drewN nq).cell? ⟨w.heap.size, 4, none⟩ = some (.int .i64 n) := e4
        generalize w3.drewN nq = w4 at hA4 f0' e4' ⊢
        clear lk5 f1 e3 f0 e4
        have b1 : ((g a).tot != n) = true := by simp [ht]
        go_wp2
        go_quiet (fail)
        go_wp2
        go_ret
        refine ⟨by rw [HRF.out]; rfl, ?_⟩
        rw [keepC_true HRF.out]
        exact Out.same h T (by repeat (first | exact hA4 | apply below_alloc | apply belowN))
end
end Go.Proofs.Ytcdjeblcmgghhaa.Asm
