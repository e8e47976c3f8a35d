/- What the program's hash says of two traces, and which of a list is worth least. Conditions: the list lies in memory. -/
import Derived.Test.YtniggacgkhkgiaaHash0
namespace Go.Sp
open Go.RowKit
def cmpI (a b : Int) : Int := if a < b then -1 else if b < a then 1 else 0
/-- which trace is worth less -/
def orI (a b : Int) : Int := if a = 0 then b else a
def cmpP (s a b : Int) : Int := orI (cmpI (prio s a) (prio s b)) (cmpI a b)
def lessP (s a b : Int) : Bool := decide (prio s a < prio s b) || (decide (prio s a = prio s b) && decide (a < b))
theorem cmpP_less (s a b : Int) : decide (cmpP s a b < 0) = lessP s a b := by
  unfold cmpP lessP orI cmpI
  by_cases h1 : prio s a < prio s b
  · have : ¬ prio s b < prio s a := by omega
    simp [h1]
  · by_cases h2 : prio s b < prio s a
    · have h3 : prio s a ≠ prio s b := by omega
      simp [h1, h2, h3]
    · have h3 : prio s a = prio s b := by omega
      by_cases h4 : a < b
      · simp [h3, h4]
      · by_cases h5 : b < a <;> simp [h3, h4, h5]
/-- the least one, from m on -/
def leastG (less : Int → Int → Bool) (m : Int) (l : List Int) : Int := l.foldl (fun m x => bif less x m then x else m) m
theorem leastG_succ (less : Int → Int → Bool) (m : Int) (xs : List Int) {j : Nat} {x : Int} (hx : xs[j]? = some x) : leastG less m (xs.take (j + 1)) = bif less x (leastG less m (xs.take j)) then x else leastG less m (xs.take j) := by
  unfold leastG; rw [List.take_add_one, hx, List.foldl_append]; rfl
def leastP (s : Int) : List Int → Int
  | [] => -1
  | x :: r => leastG (lessP s) x r
end Go.Sp
namespace Go.Proofs.Ytniggacgkhkgiaa.Hash
open Go.RowKit Go.Sp Msg

set_option maxRecDepth 100000 in
theorem nan64_any (w : World) (x : Int) : Calls Try.prog 155 #[.int .u64 x] w fun e w' => e = .returned (.bool false) ∧ w = w' := by
  have b : (x != x) = false := by simp
  go_enter Try.func155, Try.ntmps155
  go_wp2
  go_ret
  exact ⟨by first | rfl | simp, by first | rfl | trivial⟩
set_option maxRecDepth 100000 in
theorem nani_any (w : World) (x : Int) : Calls Try.prog 154 #[.int .i64 x] w fun e w' => e = .returned (.bool false) ∧ w = w' := by
  have b : (x != x) = false := by simp
  go_enter Try.func154, Try.ntmps154
  go_wp2
  go_ret
  exact ⟨by first | rfl | simp, by first | rfl | trivial⟩
set_option maxRecDepth 100000 in
theorem cmp64_any (w : World) (x y : Int) : Calls Try.prog 146 #[.int .u64 x, .int .u64 y] w fun e w' => e = .returned (.int .i64 (cmpI x y)) ∧ w = w' := by
  have hc : (x < y) ∨ (¬ x < y ∧ y < x) ∨ (¬ x < y ∧ ¬ y < x) := by omega
  rcases hc with h1 | ⟨h1, h2⟩ | ⟨h1, h2⟩
  · have HV := Lib.hid (show cmpI x y = -1 by unfold cmpI; rw [if_pos h1])
    have b1 : decide (x < y) = true := decide_eq_true h1
    go_enter Try.func146, Try.ntmps146
    go_wp2_with fail
    refine (nan64_any _ _).mono ?_
    rintro e w1 ⟨rfl, rfl⟩
    go_wp2_with fail
    refine (nan64_any _ _).mono ?_
    rintro e w1 ⟨rfl, rfl⟩
    go_wp2
    go_ret
    exact ⟨by rw [HV.out] <;> rfl, by first | rfl | trivial⟩
  · have HV := Lib.hid (show cmpI x y = 1 by unfold cmpI; rw [if_neg h1, if_pos h2])
    have b1 : decide (x < y) = false := decide_eq_false h1
    have b2 : decide (y < x) = true := decide_eq_true h2
    go_enter Try.func146, Try.ntmps146
    go_wp2_with fail
    refine (nan64_any _ _).mono ?_
    rintro e w1 ⟨rfl, rfl⟩
    go_wp2_with fail
    refine (nan64_any _ _).mono ?_
    rintro e w1 ⟨rfl, rfl⟩
    go_wp2
    go_ret
    exact ⟨by rw [HV.out] <;> rfl, by first | rfl | trivial⟩
  · have HV := Lib.hid (show cmpI x y = 0 by unfold cmpI; rw [if_neg h1, if_neg h2])
    have b1 : decide (x < y) = false := decide_eq_false h1
    have b2 : decide (y < x) = false := decide_eq_false h2
    go_enter Try.func146, Try.ntmps146
    go_wp2_with fail
    refine (nan64_any _ _).mono ?_
    rintro e w1 ⟨rfl, rfl⟩
    go_wp2_with fail
    refine (nan64_any _ _).mono ?_
    rintro e w1 ⟨rfl, rfl⟩
    go_wp2
    go_ret
    exact ⟨by rw [HV.out] <;> rfl, by first | rfl | trivial⟩
set_option maxRecDepth 100000 in
theorem cmpi_any (w : World) (x y : Int) : Calls Try.prog 148 #[.int .i64 x, .int .i64 y] w fun e w' => e = .returned (.int .i64 (cmpI x y)) ∧ w = w' := by
  have hc : (x < y) ∨ (¬ x < y ∧ y < x) ∨ (¬ x < y ∧ ¬ y < x) := by omega
  rcases hc with h1 | ⟨h1, h2⟩ | ⟨h1, h2⟩
  · have HV := Lib.hid (show cmpI x y = -1 by unfold cmpI; rw [if_pos h1])
    have b1 : decide (x < y) = true := decide_eq_true h1
    go_enter Try.func148, Try.ntmps148
    go_wp2_with fail
    refine (nani_any _ _).mono ?_
    rintro e w1 ⟨rfl, rfl⟩
    go_wp2_with fail
    refine (nani_any _ _).mono ?_
    rintro e w1 ⟨rfl, rfl⟩
    go_wp2
    go_ret
    exact ⟨by rw [HV.out] <;> rfl, by first | rfl | trivial⟩
  · have HV := Lib.hid (show cmpI x y = 1 by unfold cmpI; rw [if_neg h1, if_pos h2])
    have b1 : decide (x < y) = false := decide_eq_false h1
    have b2 : decide (y < x) = true := decide_eq_true h2
    go_enter Try.func148, Try.ntmps148
    go_wp2_with fail
    refine (nani_any _ _).mono ?_
    rintro e w1 ⟨rfl, rfl⟩
    go_wp2_with fail
    refine (nani_any _ _).mono ?_
    rintro e w1 ⟨rfl, rfl⟩
    go_wp2
    go_ret
    exact ⟨by rw [HV.out] <;> rfl, by first | rfl | trivial⟩
  · have HV := Lib.hid (show cmpI x y = 0 by unfold cmpI; rw [if_neg h1, if_neg h2])
    have b1 : decide (x < y) = false := decide_eq_false h1
    have b2 : decide (y < x) = false := decide_eq_false h2
    go_enter Try.func148, Try.ntmps148
    go_wp2_with fail
    refine (nani_any _ _).mono ?_
    rintro e w1 ⟨rfl, rfl⟩
    go_wp2_with fail
    refine (nani_any _ _).mono ?_
    rintro e w1 ⟨rfl, rfl⟩
    go_wp2
    go_ret
    exact ⟨by rw [HV.out] <;> rfl, by first | rfl | trivial⟩

set_option maxRecDepth 100000 in
theorem or_any {w : World} {v : Value} {a b : Int} (h : RS w 1 eInt v [a, b]) : Calls Try.prog 145 #[v] w fun e w' => e = .returned (.int .i64 (orI a b)) ∧ w = w' := by
  obtain ⟨bb, o, c, rfl, hb, hcl⟩ := h.int (by simp)
  have g0 := hcl 0 a rfl
  have g1 := hcl 1 b rfl
  rw [Nat.add_zero] at g0
  go_enter Try.func145, Try.ntmps145
  go_wp2
  go_loopw [8] (fun i wr => ∃ j : Nat, j ≤ 2 ∧ i = .int .i64 j ∧ wr = w ∧ (1 ≤ j → a = 0) ∧ (2 ≤ j → b = 0)) (fun i _ => 2 - (intOf i).toNat)
  case atStart => exact ⟨0, by omega, rfl, rfl, by omega, by omega⟩
  case round =>
    obtain ⟨j, hj, rfl, rfl, ha, hbz⟩ := hrel
    have hc : j = 0 ∨ j = 1 ∨ j = 2 := by omega
    rcases hc with rfl | rfl | rfl
    · by_cases h0 : a = 0
      · have HV := Lib.hid h0
        have b1 : (a != 0) = false := by simp [h0]
        clear h0 ha hbz
        go_wp2
        exact ⟨⟨1, by omega, rfl, by first | rfl | trivial, fun _ => HV.out, by omega⟩, by simp [intOf]⟩
      · have HV := Lib.hid (show orI a b = a by unfold orI; rw [if_neg h0])
        have b1 : (a != 0) = true := by simp [h0]
        clear h0 ha hbz
        go_wp2
        go_ret
        exact ⟨by rw [HV.out] <;> rfl, by first | rfl | trivial⟩
    · have ha0 := ha (by omega)
      by_cases h0 : b = 0
      · have HV := Lib.hid (And.intro ha0 h0)
        have b1 : (b != 0) = false := by simp [h0]
        clear h0 ha hbz ha0
        go_wp2
        exact ⟨⟨2, by omega, rfl, by first | rfl | trivial, fun _ => HV.out.1, fun _ => HV.out.2⟩, by simp [intOf]⟩
      · have HV := Lib.hid (show orI a b = b by unfold orI; rw [if_pos ha0])
        have b1 : (b != 0) = true := by simp [h0]
        clear h0 ha hbz ha0
        go_wp2
        go_ret
        exact ⟨by rw [HV.out] <;> rfl, by first | rfl | trivial⟩
    · have HV := Lib.hid (show orI a b = 0 by unfold orI; rw [if_pos (ha (by omega)), hbz (by omega)])
      clear ha hbz
      go_wp2
      go_ret
      exact ⟨by rw [HV.out] <;> rfl, by first | rfl | trivial⟩

set_option maxRecDepth 100000 in
theorem compare_any (w : World) (s a b : Int) : Calls Try.prog 132 #[.int .u64 s, .int .i64 a, .int .i64 b] w fun e w' => e = .returned (.int .i64 (cmpP s a b)) ∧ Below w.heap.size w w' := by
  have HP1 := fun w => priority_any w s a
  have HP2 := fun w => priority_any w s b
  have hv : cmpP s a b = orI (cmpI (prio s a) (prio s b)) (cmpI a b) := rfl
  generalize prio s a = p at HP1 hv
  generalize prio s b = q at HP2 hv
  generalize cmpP s a b = r at hv ⊢
  have HC1 := fun w => cmp64_any w p q
  have HC2 := fun w => cmpi_any w a b
  generalize cmpI p q = c1 at HC1 hv
  generalize cmpI a b = c2 at HC2 hv
  have HV := Lib.hid hv
  clear hv
  go_enter Try.func132, Try.ntmps132
  go_wp2_with fail
  refine (HP1 _).mono ?_
  rintro e w1 ⟨rfl, hb1⟩
  go_wp2_with fail
  refine (HP2 _).mono ?_
  rintro e w2 ⟨rfl, hb2⟩
  have hB := below_trans' hb2 hb1
  clear hb1 hb2
  go_wp2_with fail
  refine (HC1 _).mono ?_
  rintro e w3 ⟨rfl, rfl⟩
  go_wp2_with fail
  refine (HC2 _).mono ?_
  rintro e w3 ⟨rfl, rfl⟩
  have hA := below_alloc hB (.cells #[.int .i64 c1, .int .i64 c2] 3)
  have hrs := rs_lits (enc := eInt) (size := 1) (fun _ => rfl) w2 [c1, c2] 3 (by unfold maxLen; simp) (b := w2.heap.size) (cap := 2) rfl
  go_wp2_with fail
  refine (or_any hrs).mono ?_
  rintro e w3 ⟨rfl, rfl⟩
  go_wp2
  go_ret
  exact ⟨by rw [HV.out] <;> rfl, hA⟩
set_option maxRecDepth 100000 in
theorem lessC_any {w : World} {b : Nat} {s : Int} (hc : w.cell? ⟨b, 0, none⟩ = some (.int .u64 s)) (x y : Int) : Calls Try.prog 131 #[.int .i64 x, .int .i64 y, .pointer (some ⟨b, 0, none⟩)] w fun e w' => e = .returned (.int .i64 (cmpP s x y)) ∧ Below w.heap.size w w' := by
  go_enter Try.func131, Try.ntmps131
  go_wp2_with fail
  refine (compare_any _ s x y).mono ?_
  rintro e w1 ⟨rfl, hb⟩
  go_wp2
  go_ret
  exact ⟨rfl, hb⟩
set_option maxRecDepth 100000 in
set_option maxHeartbeats 2000000 in
theorem minf_gen {w : World} {b : Nat} {cmp : Int → Int → Int} {less : Int → Int → Bool} (hless : ∀ x y, decide (cmp x y < 0) = less x y) (HC : ∀ w' x y, Below w.heap.size w w' → Calls Try.prog 131 #[.int .i64 x, .int .i64 y, .pointer (some ⟨b, 0, none⟩)] w' fun e w'' => e = .returned (.int .i64 (cmp x y)) ∧ Below w'.heap.size w' w'') {v : Value} {x0 : Int} {xs : List Int} (h : RS w 1 eInt v (x0 :: xs)) : Calls Try.prog 130 #[v, .func (.func 131) #[] #[.pointer (some ⟨b, 0, none⟩)]] w fun e w' => e = .returned (.int .i64 (leastG less x0 xs)) ∧ Below w.heap.size w w' := by
  have hl := h.1
  unfold maxLen at hl
  obtain ⟨bb, o, c, rfl, hb0, hcl⟩ := h.int (by simp)
  rw [List.length_cons] at hl ⊢
  have g0 := hcl 0 x0 rfl
  rw [Nat.add_zero] at g0
  clear h
  go_enter Try.func130, Try.ntmps130
  go_wp2
  go_loopw [5, 6] (fun m i wr => ∃ j : Nat, j ≤ xs.length ∧ i = .int .i64 ((j : Int) + 1) ∧ m = .int .i64 (leastG less x0 (xs.take j)) ∧ Below w.heap.size w wr) (fun _ i _ => xs.length + 1 - (intOf i).toNat)
  case atStart => exact ⟨0, Nat.zero_le _, rfl, rfl, Below.refl _ _⟩
  case round =>
    obtain ⟨j, hj, rfl, rfl, hb⟩ := hrel
    by_cases hjl : j < xs.length
    · obtain ⟨x, hx⟩ : ∃ x, xs[j]? = some x := ⟨_, List.getElem?_eq_getElem hjl⟩
      have g : wr.cell? ⟨bb, o + (j + 1), none⟩ = some (.int .i64 x) := by rw [hb.cell (p := ⟨bb, o + (j + 1), none⟩) hb0]; exact hcl (j + 1) x (by simpa using hx)
      have HT := Lib.hid (show leastG less x0 (xs.take (j + 1)) = bif less x (leastG less x0 (xs.take j)) then x else leastG less x0 (xs.take j) from leastG_succ less x0 xs hx)
      generalize leastG less x0 (xs.take j) = m at HT ⊢
      have hL := hless x m
      have HCx := HC wr x m hb
      clear hx hcl g0 HC hless
      go_wp2_with fail
      refine HCx.mono ?_
      rintro e w2 ⟨rfl, hb2⟩
      have hb3 := below_trans' hb2 hb
      have g2 : w2.cell? ⟨bb, o + (j + 1), none⟩ = some (.int .i64 x) := by rw [hb2.cell (World.block_lt_of_cell? _ _ g)]; exact g
      clear hb2 hb g HCx
      generalize cmp x m = cv at hL ⊢
      cases hq : less x m with
      | true =>
        rw [hq] at hL
        have HQ := Lib.hid hq
        clear hq
        go_wp2
        exact ⟨⟨j + 1, by omega, by go_num, by rw [HT.out, HQ.out] <;> rfl, hb3⟩, by simp [intOf] <;> omega⟩
      | false =>
        rw [hq] at hL
        have HQ := Lib.hid hq
        clear hq
        go_wp2
        exact ⟨⟨j + 1, by omega, by go_num, by rw [HT.out, HQ.out] <;> rfl, hb3⟩, by simp [intOf] <;> omega⟩
    · have hje : j = xs.length := by omega
      subst hje
      rw [List.take_length]
      go_wp2
      go_ret
      exact ⟨rfl, hb⟩
theorem minf_any {w : World} {b : Nat} {s : Int} (hc : w.cell? ⟨b, 0, none⟩ = some (.int .u64 s)) {v : Value} {x0 : Int} {xs : List Int} (h : RS w 1 eInt v (x0 :: xs)) : Calls Try.prog 130 #[v, .func (.func 131) #[] #[.pointer (some ⟨b, 0, none⟩)]] w fun e w' => e = .returned (.int .i64 (leastG (lessP s) x0 xs)) ∧ Below w.heap.size w w' :=
  minf_gen (cmp := cmpP s) (less := lessP s) (cmpP_less s) (fun w' x y hb => lessC_any (by rw [hb.cell (p := ⟨b, 0, none⟩) (World.block_lt_of_cell? _ _ hc)]; exact hc) x y) h
set_option maxRecDepth 100000 in
theorem least_any {w : World} {s : Int} {v : Value} {x0 : Int} {xs : List Int} (h : RS w 1 eInt v (x0 :: xs)) : Calls Try.prog 121 #[.int .u64 s, v] w fun e w' => e = .returned (.int .i64 (leastP s (x0 :: xs))) ∧ Below w.heap.size w w' := by
  have hl := h.1
  unfold maxLen at hl
  obtain ⟨_, a, c, rfl, _⟩ := id h
  rw [List.length_cons] at hl h ⊢
  have hA := below_alloc (Below.refl w.heap.size w) (.cells #[.int .u64 s] 83)
  have hbx := cell_blk (heap_new w (.cells #[.int .u64 s] 83) rfl) (j := 0) (u := .int .u64 s) rfl
  have h2 := h.only (only_of_below hA (fun _ => False)) (fun _ _ => id)
  go_enter Try.func121, Try.ntmps121
  go_wp2_with fail
  refine (minf_any hbx h2).mono ?_
  rintro e w1 ⟨rfl, hb⟩
  have hB := below_trans' hb hA
  go_wp2
  go_ret
  exact ⟨rfl, hB⟩
end Go.Proofs.Ytniggacgkhkgiaa.Hash
