/- What the methods of the reference's Leases do. Conditions: the object lies in memory as Rrep says; lists of at most a million. -/
import Derived.Test.YtcdjeblcmgghhaaInts
import Derived.StillTailTactics
namespace Go.Proofs.Ytcdjeblcmgghhaa.LeaseRef
open Go.RowKit Go.Sp

/-- (trace, job, left) -/
abbrev Ls := Int × Int × Int
def eL (x : Ls) : List Value := [.int .i64 x.1, .int .i64 x.2.1, .int .i64 x.2.2]
theorem eL_len (x : Ls) : (eL x).length = 3 := rfl

structure Rrep (w : World) (R : Nat → Prop) (rb : Nat) (T : Int) (lv ov : Value) (L Ov : List Ls) : Prop where
  blk : w.heap[rb]? = some (.cells #[.int .i64 T, lv, ov] 81 (0, 0))
  sl : SL w.heap 87 3 lv L.length (L.flatMap eL)
  so : SL w.heap 87 3 ov Ov.length (Ov.flatMap eL)
  rr : R rb
  rl : ∀ g, lv.ownBlock = some g → R g
  ro : ∀ g, ov.ownBlock = some g → R g
  ne : ∀ g, lv.ownBlock = some g → ov.ownBlock ≠ some g

section
variable {w w' : World} {R : Nat → Prop} {rb : Nat} {T : Int} {lv ov : Value} {L Ov : List Ls}

theorem sl_ne {h : Array Obj} {b n e size : Nat} {v : Value} {cs : List Value} {c : Array Value} {t : TypeId} {fr} (hb : h[b]? = some (.cells c t fr)) (hs : SL h e size v n cs) (hte : t ≠ e) : v.ownBlock ≠ some b := fun e1 => by
  rcases hs.2 with ⟨rfl, _⟩ | ⟨b', off, cap, cur, rfl, _, _, hb', _⟩
  · simp [Value.ownBlock] at e1
  · simp [Value.ownBlock] at e1
    subst e1
    rw [hb'] at hb
    cases hb
    exact hte rfl

theorem Rrep.c0 (h : Rrep w R rb T lv ov L Ov) : w.cell? ⟨rb, 0, none⟩ = some (.int .i64 T) := by simp [World.cell?, h.blk]
theorem Rrep.c1 (h : Rrep w R rb T lv ov L Ov) : w.cell? ⟨rb, 1, none⟩ = some lv := by simp [World.cell?, h.blk]
theorem Rrep.c2 (h : Rrep w R rb T lv ov L Ov) : w.cell? ⟨rb, 2, none⟩ = some ov := by simp [World.cell?, h.blk]
theorem Rrep.nl (h : Rrep w R rb T lv ov L Ov) : lv.ownBlock ≠ some rb := sl_ne h.blk h.sl (by decide)
theorem Rrep.no (h : Rrep w R rb T lv ov L Ov) : ov.ownBlock ≠ some rb := sl_ne h.blk h.so (by decide)
theorem Rrep.lt (h : Rrep w R rb T lv ov L Ov) : rb < w.heap.size := (Array.getElem?_eq_some_iff.1 h.blk).1
theorem Rrep.only {F : Nat → Prop} (h : Rrep w R rb T lv ov L Ov) (o : Only F w w') (hF : ∀ k, R k → ¬ F k) : Rrep w' R rb T lv ov L Ov :=
  ⟨o.heap h.blk (hF _ h.rr), h.sl.only o (fun k hk => hF _ (h.rl k hk)), h.so.only o (fun k hk => hF _ (h.ro k hk)), h.rr, h.rl, h.ro, h.ne⟩
theorem Rrep.fresh {F : Nat → Prop} (h : Rrep w R rb T lv ov L Ov) (o : Only F w w') (hF : ∀ k, k < w.heap.size → ¬ F k) : Rrep w' R rb T lv ov L Ov :=
  ⟨o.heap h.blk (hF _ h.lt), h.sl.only o (fun k hk => hF _ (h.sl.lt k hk)), h.so.only o (fun k hk => hF _ (h.so.lt k hk)), h.rr, h.rl, h.ro, h.ne⟩

theorem info87 : ∃ i z, Try.prog.info? 87 = some i ∧ i.zero = some z ∧ i.size = 3 ∧ i.bytes = 24 ∧ z.cells.size = 3 := info_at (f := (3, 24, 3)) (by kernel_rfl)

theorem filter_snoc {α : Type} {l : List α} {k : Nat} {x : α} (h : l[k]? = some x) (p : α → Bool) : (l.take (k + 1)).filter p = (l.take k).filter p ++ if p x then [x] else [] := by
  rw [List.take_add_one, h, Option.toList_some, List.filter_append]
  by_cases hp : p x <;> simp [hp]

set_option maxRecDepth 100000 in
set_option maxHeartbeats 1000000 in
theorem end_any {k : Int} (h : Rrep w R rb T lv ov L Ov) (hR : ∀ b, w.heap.size ≤ b → R b) (hn : L.length ≤ 1000000) :
    Calls Try.prog 34 #[.pointer (some ⟨rb, 0, none⟩), .int .i64 k] w fun e w' => e = .returned (.tuple #[]) ∧ ∃ lv', Rrep w' R rb T lv' ov (L.filter (fun p => p.1 != k)) Ov ∧ Only R w w' := by
  obtain ⟨i0, z0, hi, hz, hz1, hz2, hz3⟩ := info87
  obtain ⟨a, cap, rfl⟩ := h.sl.form
  have hrb := h.lt
  go_enter Try.func34, Try.ntmps34
  go_wp2
  go_loopw [4, 5] (fun out i wr => ∃ j : Nat, j ≤ L.length ∧ i = .int .i64 j ∧ SL wr.heap 87 3 out ((L.take j).filter (fun p => p.1 != k)).length (((L.take j).filter (fun p => p.1 != k)).flatMap eL) ∧
    (∀ g, out.ownBlock = some g → w.heap.size ≤ g) ∧ Only (fun _ => False) w wr) (fun _ i _ => L.length - (intOf i).toNat)
  case atStart => exact ⟨0, Nat.zero_le _, rfl, SL.nil _ _ _, fun g hg => by simp [Value.ownBlock] at hg, Only.refl _ _⟩
  case round =>
    obtain ⟨j, hj, rfl, hs, hnew, ho⟩ := hrel
    have hr := h.fresh ho (fun _ _ => id)
    have c1 := hr.c1
    by_cases hlt : j < L.length
    · obtain ⟨b, off, cap', hv, hb1, _, _⟩ := h.sl.form' (by omega)
      simp only [Value.slice.injEq, true_and] at hv
      obtain ⟨rfl, rfl⟩ := hv
      have hx : L[j]? = some L[j] := List.getElem?_eq_getElem hlt
      have hF := filter_snoc hx (fun p => p.1 != k)
      generalize L[j] = x at hx hF
      obtain ⟨x1, x2, x3⟩ := x
      have g0 : wr.cell? ⟨b, off + j * 3, none⟩ = some (.int .i64 x1) := hr.sl.elem eL_len hx (j := 0) rfl
      have g1 : wr.cell? ⟨b, off + j * 3 + 1, none⟩ = some (.int .i64 x2) := hr.sl.elem eL_len hx (j := 1) rfl
      have g2 : wr.cell? ⟨b, off + j * 3 + 2, none⟩ = some (.int .i64 x3) := hr.sl.elem eL_len hx (j := 2) rfl
      have HF := Lib.hid hF
      have HX := Lib.hid hx
      clear hF hx
      by_cases hp : x1 = k
      · have hp1 : (x1 != k) = false := by simp [hp]
        go_wp2
        refine ⟨⟨j + 1, by omega, by go_num, ?_, hnew, ho⟩, by simp [intOf]; omega⟩
        rw [HF.out, hp1, if_neg (by simp), List.append_nil]
        exact hs
      · have hp1 : (x1 != k) = true := by simp [hp]
        have hlen : ((L.take j).filter (fun p => p.1 != k)).length ≤ j := Nat.le_trans (List.length_filter_le _ _) (List.length_take_le _ _)
        generalize hM : ((L.take j).filter (fun p => p.1 != k)) = M at *
        clear hM
        go_wp2_with (at_builtin; refine wpList_appd (v := u4) rfl _ _ _ rfl Try.underlying79 hi hz hz1 hz2 hz3 rfl (hs.alloc _) (m := 1) (news := eL (x1, x2, x3)) rfl rfl (cells_new _ _ _ rfl) (by simp [Value.oneCell', eL]) (by unfold maxLen; omega) (by omega) ?_; rintro v5 w5 hs5 ho5 hv5)
        refine ⟨⟨j + 1, by omega, by go_num, ?_, ?_, ?_⟩, by simp [intOf]; omega⟩
        · rw [HF.out, hp1, if_pos rfl]
          simpa using hs5
        · intro g hg
          rcases hv5 with e | e
          · exact hnew g (by rw [← e]; exact hg)
          · rw [e] at hg; cases hg; have := ho.size; simp; omega
        · exact (ho.alloc _).trans' ho5 (fun i hi e => absurd hi (by have := hnew i e; omega))
    · have hje : j = L.length := by omega
      subst hje
      rw [List.take_length] at hs
      obtain ⟨a4, c4, rfl⟩ := hs.form
      have f1 : wr.frozen? ⟨rb, 1, none⟩ = false := by simp [World.frozen?, hr.blk]
      go_wp2
      go_end0
      have hlt : rb < wr.heap.size := hr.lt
      have hlv : (Value.slice a4 (L.filter (fun p => p.1 != k)).length c4).ownBlock ≠ some rb := fun e => by have := hnew _ e; omega
      have hset : Only (· = rb) wr (wr.setCell ⟨rb, 1, none⟩ (.slice a4 (L.filter (fun p => p.1 != k)).length c4)) := (Only.refl (· = rb) _).setCell (p := ⟨rb, 1, none⟩) (fun _ => rfl) _
      refine ⟨rfl, _, ⟨?_, ?_, ?_, h.rr, fun g hg => hR g (hnew g hg), h.ro, fun g hg e => ?_⟩, (ho.mono fun _ _ h => h.elim).trans (hset.mono fun i _ e => by subst e; exact h.rr)⟩
      · rw [heap_setCell_cells hr.blk]; rfl
      · exact hs.only hset (fun g hg e => by subst e; exact hlv hg)
      · exact hr.so.only hset (fun g hg e => by subst e; exact hr.no hg)
      · have := hnew g hg; have := h.so.lt g e; omega

/-- putting in front of the first greater one -/
def ins (x : Ls) : List Ls → List Ls
  | [] => [x]
  | y :: r => if x.1 < y.1 then x :: y :: r else y :: ins x r

/-- the loop's two parts: what is out already, and whether x is -/
def insTo (x : Ls) (l : List Ls) : List Ls × Bool := l.foldl (fun s y => if !s.2 && decide (x.1 < y.1) then (s.1 ++ [x, y], true) else (s.1 ++ [y], s.2)) ([], false)

theorem insTo_len (x : Ls) (l : List Ls) : (insTo x l).1.length ≤ 2 * l.length := by
  have h : ∀ (l : List Ls) (s : List Ls × Bool), (l.foldl (fun s y => if !s.2 && decide (x.1 < y.1) then (s.1 ++ [x, y], true) else (s.1 ++ [y], s.2)) s).1.length ≤ s.1.length + 2 * l.length := by
    intro l
    induction l with
    | nil => intro s; simp
    | cons y r ih =>
      intro s
      rw [List.foldl_cons]
      refine Nat.le_trans (ih _) ?_
      by_cases hc : (!s.2 && decide (x.1 < y.1)) = true
      · rw [if_pos hc]; simp; omega
      · rw [if_neg hc]; simp; omega
  simpa [insTo] using h l ([], false)

theorem insTo_snoc (x y : Ls) (l : List Ls) : insTo x (l ++ [y]) = if !(insTo x l).2 && decide (x.1 < y.1) then ((insTo x l).1 ++ [x, y], true) else ((insTo x l).1 ++ [y], (insTo x l).2) := by
  simp [insTo, List.foldl_append]

theorem insTo_after (x : Ls) (l a : List Ls) : l.foldl (fun s y => if !s.2 && decide (x.1 < y.1) then (s.1 ++ [x, y], true) else (s.1 ++ [y], s.2)) (a, true) = (a ++ l, true) := by
  induction l generalizing a with
  | nil => simp
  | cons y r ih =>
    rw [List.foldl_cons]
    simp only [Bool.not_true, Bool.false_and, Bool.false_eq_true, if_false]
    rw [ih]; simp

theorem insTo_ins (x : Ls) (l : List Ls) : (if (insTo x l).2 then (insTo x l).1 else (insTo x l).1 ++ [x]) = ins x l := by
  have h : ∀ (l a : List Ls), (if (l.foldl (fun s y => if !s.2 && decide (x.1 < y.1) then (s.1 ++ [x, y], true) else (s.1 ++ [y], s.2)) (a, false)).2 then (l.foldl (fun s y => if !s.2 && decide (x.1 < y.1) then (s.1 ++ [x, y], true) else (s.1 ++ [y], s.2)) (a, false)).1
      else (l.foldl (fun s y => if !s.2 && decide (x.1 < y.1) then (s.1 ++ [x, y], true) else (s.1 ++ [y], s.2)) (a, false)).1 ++ [x]) = a ++ ins x l := by
    intro l
    induction l with
    | nil => intro a; simp [ins]
    | cons y r ih =>
      intro a
      rw [List.foldl_cons]
      by_cases hc : x.1 < y.1
      · simp only [Bool.not_false, hc, decide_true, Bool.and_self, if_true]
        rw [insTo_after]
        simp [ins, hc]
      · simp only [Bool.not_false, hc, decide_false, Bool.and_false, Bool.false_eq_true, if_false]
        rw [ih]
        simp [ins, hc]
  simpa [insTo] using h l []

/-- a new list stored into the object -/
theorem rrep_put {w1 wr : World} {B : Nat} {M N : List Ls} {nv : Value} {w : World} (h1 : Rrep w1 R rb T lv ov M Ov) (hR1 : ∀ b, B ≤ b → R b) (ho : Only (fun _ => False) w1 wr) (hs : SL wr.heap 87 3 nv N.length (N.flatMap eL))
    (hnew : ∀ g, nv.ownBlock = some g → B ≤ g ∧ w1.heap.size ≤ g) (o1 : Only R w w1) : Rrep (wr.setCell ⟨rb, 1, none⟩ nv) R rb T nv ov N Ov ∧ Only R w (wr.setCell ⟨rb, 1, none⟩ nv) := by
  have hr := h1.fresh ho (fun _ _ => id)
  have hrb := h1.lt
  have hset : Only (· = rb) wr (wr.setCell ⟨rb, 1, none⟩ nv) := (Only.refl (· = rb) _).setCell (p := ⟨rb, 1, none⟩) (fun _ => rfl) _
  refine ⟨⟨?_, ?_, ?_, h1.rr, fun g hg => hR1 g (hnew g hg).1, h1.ro, fun g hg e => ?_⟩, (o1.trans (ho.mono fun _ _ h => h.elim)).trans (hset.mono fun i _ e => by subst e; exact h1.rr)⟩
  · rw [heap_setCell_cells hr.blk]; rfl
  · exact hs.only hset (fun g hg e => by have := (hnew g hg).2; omega)
  · exact hr.so.only hset (fun g hg e => by subst e; exact hr.no hg)
  · have := (hnew g hg).2; have := h1.so.lt g e; omega

set_option maxRecDepth 100000 in
set_option maxHeartbeats 2000000 in
theorem grant_any {k j : Int} (h : Rrep w R rb T lv ov L Ov) (hR : ∀ b, w.heap.size ≤ b → R b) (hn : L.length ≤ 1000000) :
    Calls Try.prog 32 #[.pointer (some ⟨rb, 0, none⟩), .int .i64 k, .int .i64 j] w fun e w' => e = .returned (.tuple #[]) ∧ ∃ lv', Rrep w' R rb T lv' ov (ins (k, j, T) (L.filter (fun p => p.1 != k))) Ov ∧ Only R w w' := by
  obtain ⟨i0, z0, hi, hz, hz1, hz2, hz3⟩ := info87
  go_enter Try.func32, Try.ntmps32
  go_wp2_with fail
  refine (end_any h hR hn).mono ?_
  rintro e w1 ⟨rfl, lv1, h1, o1⟩
  have hn1 : (L.filter (fun p => p.1 != k)).length ≤ 1000000 := Nat.le_trans (List.length_filter_le _ _) hn
  have hR1 : ∀ b, w1.heap.size ≤ b → R b := fun b hb => hR b (Nat.le_trans o1.size hb)
  obtain ⟨M, hMe⟩ : ∃ M, M = L.filter (fun p => p.1 != k) := ⟨_, rfl⟩
  rw [← hMe] at h1 hn1
  have HM := Lib.hid hMe
  clear h hR hn hMe
  obtain ⟨a, cap, rfl⟩ := h1.sl.form
  have c0 := h1.c0
  have hrb := h1.lt
  go_wp2
  have hA : Only (fun _ => False) w1 (w1.alloc (.cells #[.int .i64 k, .int .i64 j, .int .i64 T] 87)) := (Only.refl _ _).alloc _
  have hbx : (w1.alloc (.cells #[.int .i64 k, .int .i64 j, .int .i64 T] 87)).heap[w1.heap.size]? = some (.cells #[.int .i64 k, .int .i64 j, .int .i64 T] 87 (0, 0)) := heap_new _ _ rfl
  generalize (w1.alloc (.cells #[.int .i64 k, .int .i64 j, .int .i64 T] 87)) = W at hA hbx ⊢
  have hB : w1.heap.size < W.heap.size := (Array.getElem?_eq_some_iff.1 hbx).1
  have hB1 : w1.heap.size = w1.heap.size := rfl
  generalize hBe : w1.heap.size = B at hbx hB hrb hR1 ⊢
  have HBE := Lib.hid hBe
  clear hBe hB1
  go_loopw [6, 7, 9] (fun out dn i wr => ∃ q : Nat, q ≤ M.length ∧ i = .int .i64 q ∧ dn = .bool (insTo (k, j, T) (M.take q)).2 ∧ SL wr.heap 87 3 out (insTo (k, j, T) (M.take q)).1.length ((insTo (k, j, T) (M.take q)).1.flatMap eL) ∧
    (∀ g, out.ownBlock = some g → W.heap.size ≤ g) ∧ Only (fun _ => False) W wr) (fun _ _ i _ => M.length - (intOf i).toNat)
  case atStart => exact ⟨0, Nat.zero_le _, rfl, rfl, SL.nil _ _ _, fun g hg => by simp [Value.ownBlock] at hg, Only.refl _ _⟩
  case round =>
    obtain ⟨q, hq, rfl, rfl, hs, hnew, ho⟩ := hrel
    have hr := h1.fresh (hA.trans ho) (fun _ _ => id)
    have c1 := hr.c1
    have hx := ho.heap hbx id
    have x0 : wr.cell? ⟨B, 0, none⟩ = some (.int .i64 k) := by simp [World.cell?, hx]
    have x1 : wr.cell? ⟨B, 1, none⟩ = some (.int .i64 j) := by simp [World.cell?, hx]
    have x2 : wr.cell? ⟨B, 2, none⟩ = some (.int .i64 T) := by simp [World.cell?, hx]
    have hlen : (insTo (k, j, T) (M.take q)).1.length ≤ 2 * q := Nat.le_trans (insTo_len _ _) (by have := List.length_take_le q M; omega)
    by_cases hlt : q < M.length
    · obtain ⟨b, off, cap', hv, hb1, _, _⟩ := h1.sl.form' (by omega)
      simp only [Value.slice.injEq, true_and] at hv
      obtain ⟨rfl, rfl⟩ := hv
      have hy : M[q]? = some M[q] := List.getElem?_eq_getElem hlt
      have hF : insTo (k, j, T) (M.take (q + 1)) = insTo (k, j, T) (M.take q ++ [M[q]]) := by rw [List.take_add_one, hy, Option.toList_some]
      rw [insTo_snoc] at hF
      generalize M[q] = y at hy hF
      obtain ⟨y1, y2, y3⟩ := y
      have g0 : wr.cell? ⟨b, off + q * 3, none⟩ = some (.int .i64 y1) := hr.sl.elem eL_len hy (j := 0) rfl
      have g1 : wr.cell? ⟨b, off + q * 3 + 1, none⟩ = some (.int .i64 y2) := hr.sl.elem eL_len hy (j := 1) rfl
      have g2 : wr.cell? ⟨b, off + q * 3 + 2, none⟩ = some (.int .i64 y3) := hr.sl.elem eL_len hy (j := 2) rfl
      generalize insTo (k, j, T) (M.take q) = s at *
      obtain ⟨N, d⟩ := s
      simp only at hF hs hlen ⊢
      have HF := Lib.hid hF
      clear hF hx
      have hrM : Only (fun _ => False) w1 wr := hA.trans ho
      by_cases hc : d = false ∧ k < y1
      · obtain ⟨rfl, hky⟩ := hc
        go_wp2_with (at_builtin; refine halt ?_)
        refine Halt.go ?_
        refine (wpList_appd (v := u6) rfl _ _ _ rfl Try.underlying79 hi hz hz1 hz2 hz3 rfl (hs.alloc _) (m := 1) (news := eL (k, j, T)) rfl rfl (cells_new _ _ _ rfl) (by simp [Value.oneCell', eL]) (by unfold maxLen; omega) (by omega) ?_)
        rintro v5 w5 hs5 ho5 hv5
        have hn5 : ∀ g, v5.ownBlock = some g → W.heap.size ≤ g := fun g hg => hv5.elim (fun e => hnew g (e ▸ hg)) (fun e => by rw [e] at hg; cases hg; have := ho.size; simp; omega)
        have q5 : Only (fun _ => False) W w5 := (ho.alloc _).trans' ho5 (fun i hi e => absurd hi (by have := hnew i e; omega))
        have hr5 := h1.fresh (hA.trans q5) (fun _ _ => id)
        have c5 := hr5.c1
        have p0 : w5.cell? ⟨b, off + q * 3, none⟩ = some (.int .i64 y1) := hr5.sl.elem eL_len hy (j := 0) rfl
        have p1 : w5.cell? ⟨b, off + q * 3 + 1, none⟩ = some (.int .i64 y2) := hr5.sl.elem eL_len hy (j := 1) rfl
        have p2 : w5.cell? ⟨b, off + q * 3 + 2, none⟩ = some (.int .i64 y3) := hr5.sl.elem eL_len hy (j := 2) rfl
        clear c1 g0 g1 g2 ho5 hy x0 x1 x2
        go_wp2_with (at_builtin; refine halt ?_)
        refine Halt.go ?_
        refine (wpList_appd (v := v5) rfl _ _ _ rfl Try.underlying79 hi hz hz1 hz2 hz3 rfl (hs5.alloc _) (m := 1) (news := eL (y1, y2, y3)) rfl rfl (cells_new _ _ _ rfl) (by simp [Value.oneCell', eL]) (by unfold maxLen; omega) (by omega) ?_)
        rintro v6 w6 hs6 ho6 hv6
        go_wp2
        have HV : insTo (k, j, T) (M.take (q + 1)) = (N ++ [(k, j, T), (y1, y2, y3)], true) := by rw [HF.out]; simp [hky]
        refine ⟨⟨q + 1, by omega, by go_num, by rw [HV], ?_, ?_, ?_⟩, by simp [intOf]; omega⟩
        · rw [HV]; simpa using hs6
        · intro g hg
          rcases hv6 with e | e
          · exact hn5 g (by rw [← e]; exact hg)
          · rw [e] at hg; cases hg; have := q5.size; simp; omega
        · exact (q5.alloc _).trans' ho6 (fun i hi e => absurd hi (by have := hn5 i e; omega))
      · have HV : insTo (k, j, T) (M.take (q + 1)) = (N ++ [(y1, y2, y3)], d) := by
          rw [HF.out, if_neg]
          intro hh
          simp at hh
          exact hc hh
        have HV' := Lib.hid HV
        clear HV
        have hk2 : d = false → ¬ k < y1 := fun e hlt => hc ⟨e, hlt⟩
        clear hc
        cases d
        · have hk3 := hk2 rfl
          clear hk2 hy
          go_wp2_with (at_builtin; refine halt ?_)
          refine Halt.go ?_
          refine (wpList_appd (v := u6) rfl _ _ _ rfl Try.underlying79 hi hz hz1 hz2 hz3 rfl (hs.alloc _) (m := 1) (news := eL (y1, y2, y3)) rfl rfl (cells_new _ _ _ rfl) (by simp [Value.oneCell', eL]) (by unfold maxLen; omega) (by omega) ?_)
          rintro v5 w5 hs5 ho5 hv5
          go_wp2
          have HV := HV'.out
          refine ⟨⟨q + 1, by omega, by go_num, by rw [HV], ?_, ?_, ?_⟩, by simp [intOf]; omega⟩
          · rw [HV]; simpa using hs5
          · intro g hg
            rcases hv5 with e | e
            · exact hnew g (by rw [← e]; exact hg)
            · rw [e] at hg; cases hg; have := ho.size; simp; omega
          · exact (ho.alloc _).trans' ho5 (fun i hi e => absurd hi (by have := hnew i e; omega))
        · clear hk2 hy
          go_wp2_with (at_builtin; refine halt ?_)
          refine Halt.go ?_
          refine (wpList_appd (v := u6) rfl _ _ _ rfl Try.underlying79 hi hz hz1 hz2 hz3 rfl (hs.alloc _) (m := 1) (news := eL (y1, y2, y3)) rfl rfl (cells_new _ _ _ rfl) (by simp [Value.oneCell', eL]) (by unfold maxLen; omega) (by omega) ?_)
          rintro v5 w5 hs5 ho5 hv5
          go_wp2
          have HV := HV'.out
          refine ⟨⟨q + 1, by omega, by go_num, by rw [HV], ?_, ?_, ?_⟩, by simp [intOf]; omega⟩
          · rw [HV]; simpa using hs5
          · intro g hg
            rcases hv5 with e | e
            · exact hnew g (by rw [← e]; exact hg)
            · rw [e] at hg; cases hg; have := ho.size; simp; omega
          · exact (ho.alloc _).trans' ho5 (fun i hi e => absurd hi (by have := hnew i e; omega))
    · have hqe : q = M.length := by omega
      subst hqe
      rw [List.take_length] at *
      have hf := insTo_ins (k, j, T) M
      generalize insTo (k, j, T) M = s at *
      obtain ⟨N, d⟩ := s
      simp only at hf hs hlen ⊢
      have f1 : wr.frozen? ⟨rb, 1, none⟩ = false := by simp [World.frozen?, hr.blk]
      cases d
      · simp only [Bool.false_eq_true, if_false] at hf
        go_wp2_with (at_builtin; refine halt ?_)
        refine Halt.go ?_
        refine (wpList_appd (v := u6) rfl _ _ _ rfl Try.underlying79 hi hz hz1 hz2 hz3 rfl (hs.alloc _) (m := 1) (news := eL (k, j, T)) rfl rfl (cells_new _ _ _ rfl) (by simp [Value.oneCell', eL]) (by unfold maxLen; omega) (by omega) ?_)
        rintro v5 w5 hs5 ho5 hv5
        have hn5 : ∀ g, v5.ownBlock = some g → W.heap.size ≤ g := fun g hg => hv5.elim (fun e => hnew g (e ▸ hg)) (fun e => by rw [e] at hg; cases hg; have := ho.size; simp; omega)
        have q5 : Only (fun _ => False) W w5 := (ho.alloc _).trans' ho5 (fun i hi e => absurd hi (by have := hnew i e; omega))
        have hr5 := h1.fresh (hA.trans q5) (fun _ _ => id)
        have f5 : w5.frozen? ⟨rb, 1, none⟩ = false := by simp [World.frozen?, hr5.blk]
        have c5 := hr5.c1
        have hs6 : SL w5.heap 87 3 v5 (ins (k, j, T) M).length ((ins (k, j, T) M).flatMap eL) := by rw [← hf]; simpa using hs5
        obtain ⟨a5, cap5, rfl⟩ := hs6.form
        clear c1 f1 hs5 ho5 hv5
        go_wp2
        go_end0
        rw [← HM.out]
        exact ⟨rfl, _, rrep_put h1 hR1 (hA.trans q5) hs6 (fun g hg => by have := hn5 g hg; have := HBE.out; omega) o1⟩
      · simp only [if_true] at hf
        rw [hf] at hs
        obtain ⟨a5, cap5, rfl⟩ := hs.form
        go_wp2
        go_end0
        rw [← HM.out]
        exact ⟨rfl, _, rrep_put h1 hR1 (hA.trans ho) hs (fun g hg => by have := hnew g hg; have := HBE.out; omega) o1⟩

end
end Go.Proofs.Ytcdjeblcmgghhaa.LeaseRef
