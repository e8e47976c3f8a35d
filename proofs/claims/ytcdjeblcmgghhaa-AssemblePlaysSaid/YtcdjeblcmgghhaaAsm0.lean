/- What slices.Clone at spans and at parts, and span.Row, say. Conditions: the slices lie in memory. -/
import Derived.Test.YtcdjeblcmgghhaaMsg5
import Derived.Test.YtcdjeblcmgghhaaBase
namespace Go.Sp
open Go.RowKit

theorem eSpn_len (x : Spn) : (eSpn x).length = 3 := rfl
theorem ePt_len (p : Pt) : (ePt p).length = 6 := rfl

/-- are spans a trace's, in order from the first one on? -/
def rowOk (t : Int) (xs : List Spn) : Nat → Bool
  | k => match xs with
    | [] => true
    | x :: r => decide (x.1 = t) && (decide (x.2.1 = (k : Int) + 1) && rowOk t r (k + 1))
theorem rowOk_cons (t : Int) (x : Spn) (r : List Spn) (k : Nat) : rowOk t (x :: r) k = (decide (x.1 = t) && (decide (x.2.1 = (k : Int) + 1) && rowOk t r (k + 1))) := by simp [rowOk]
theorem rowOk_nil (t : Int) (k : Nat) : rowOk t [] k = true := by simp [rowOk]
end Go.Sp
namespace Go.Proofs.Ytcdjeblcmgghhaa.Asm
open Go.RowKit Go.Sp Msg

set_option maxRecDepth 100000 in
set_option maxHeartbeats 1000000 in
theorem cloneS_any {w : World} {v : Value} {xs : List Spn} (h : RS w 3 eSpn v xs) (hn : xs.length ≤ 1000000) :
    Calls Try.prog 80 #[v] w fun e w' => ∃ v', e = .returned v' ∧ RS w' 3 eSpn v' xs ∧ (∀ g, v'.ownBlock = some g → w.heap.size ≤ g ∧ g < w'.heap.size) ∧ Below w.heap.size w w' := by
  obtain ⟨i0, z0, hi, hz, hz1, hz2, hz3⟩ := info_at (P := Try.prog) (e := 63) (f := (3, 32, 3)) (by kernel_rfl)
  obtain ⟨hm, a, c, rfl, hc⟩ := id h
  cases a with
  | none =>
    have h0 : xs = [] := by
      cases xs with
      | nil => rfl
      | cons x r => obtain ⟨b, o, e, _⟩ := hc (by simp); cases e
    subst h0
    have qn : ∀ (w : World) (c : Nat), (binOp .eql 32 (.slice none 0 c) (.slice none 0 0)).run Try.prog w = .ok (.bool true) w := fun w c => run_eql_nil_slice w _ _ none 0 0 0 c Try.underlying32
    go_enter Try.func80, Try.ntmps80
    go_wp2
    go_ret
    exact ⟨_, rfl, RS.nil _ _ _, fun g hg => by simp [Value.ownBlock] at hg, Below.refl _ _⟩
  | some ad =>
    have hnews : ∀ k u, (xs.flatMap eSpn)[k]? = some u → w.cell? (ad.add k) = some u := by
      intro k u hk
      cases xs with
      | nil => simp at hk
      | cons x r =>
        obtain ⟨b, o, e, _, h3⟩ := hc (by simp)
        simp only [Option.some.injEq] at e
        subst e
        exact rs_news eSpn_len h3 k u hk
    have h1 : ∀ u ∈ xs.flatMap eSpn, u.oneCell' = true := by
      intro u hu
      obtain ⟨x, _, hx⟩ := List.mem_flatMap.1 hu
      simp [eSpn] at hx
      rcases hx with rfl | rfl | rfl <;> rfl
    have qn : ∀ (w : World) (n c : Nat), (binOp .eql 32 (.slice (some ad) n c) (.slice none 0 0)).run Try.prog w = .ok (.bool false) w := fun w n c => Lib.run_eql_slice_nil w _ _ (some ad) n c 0 0 Try.underlying32
    go_enter Try.func80, Try.ntmps80
    go_wp2_with (at_builtin; refine halt ?_)
    refine Halt.go ?_
    refine wpList_appd (v := .slice (some ⟨w.heap.size, 0, none⟩) 0 0) rfl _ _ _ rfl Try.underlying32 hi hz hz1 hz2 hz3 rfl (sl_empty w _ 3) (m := xs.length) (news := xs.flatMap eSpn) rfl (flat_length eSpn_len xs) (fun k u hk => ?_) h1 (by unfold maxLen; omega) (by omega) ?_
    · have := hnews k u hk
      rw [World.cell?_alloc_lt _ _ _ (World.block_lt_of_cell? _ _ this)]; exact this
    rintro v7 w7 hs7 ho7 hv7
    have hb7 : Below w.heap.size w w7 := (below_alloc (Below.refl _ w) _).trans (ho7.below (by simp) (fun i hi e => by simp [Value.ownBlock] at e; omega))
    have hn7' : ∀ g, v7.ownBlock = some g → w.heap.size ≤ g := fun g hg => by
      rcases hv7 with e | e
      · rw [e] at hg; simp [Value.ownBlock] at hg; omega
      · rw [e] at hg; simp at hg; omega
    rw [Nat.zero_add, List.nil_append] at hs7
    have hn7 : ∀ g, v7.ownBlock = some g → w.heap.size ≤ g ∧ g < w7.heap.size := fun g hg => ⟨hn7' g hg, hs7.lt g hg⟩
    have hr7 := SL.rs eSpn_len hs7
    go_wp2
    go_ret
    exact ⟨v7, rfl, hr7, hn7, hb7⟩

set_option maxRecDepth 100000 in
set_option maxHeartbeats 1000000 in
theorem cloneP_any {w : World} {v : Value} {xs : List Pt} (h : RS w 6 ePt v xs) (hcv : ∀ p ∈ xs, RS w 1 eInt p.cv p.cl) (hn : xs.length ≤ 1000000) :
    Calls Try.prog 58 #[v] w fun e w' => ∃ v', e = .returned v' ∧ RS w' 6 ePt v' xs ∧ (∀ g, v'.ownBlock = some g → w.heap.size ≤ g ∧ g < w'.heap.size) ∧ Below w.heap.size w w' := by
  obtain ⟨i0, z0, hi, hz, hz1, hz2, hz3⟩ := info_at (P := Try.prog) (e := 65) (f := (6, 64, 6)) (by kernel_rfl)
  obtain ⟨hm, a, c, rfl, hc⟩ := id h
  cases a with
  | none =>
    have h0 : xs = [] := by
      cases xs with
      | nil => rfl
      | cons x r => obtain ⟨b, o, e, _⟩ := hc (by simp); cases e
    subst h0
    have qn : ∀ (w : World) (c : Nat), (binOp .eql 57 (.slice none 0 c) (.slice none 0 0)).run Try.prog w = .ok (.bool true) w := fun w c => run_eql_nil_slice w _ _ none 0 0 0 c Try.underlying57
    go_enter Try.func58, Try.ntmps58
    go_wp2
    go_ret
    exact ⟨_, rfl, RS.nil _ _ _, fun g hg => by simp [Value.ownBlock] at hg, Below.refl _ _⟩
  | some ad =>
    have hnews : ∀ k u, (xs.flatMap ePt)[k]? = some u → w.cell? (ad.add k) = some u := by
      intro k u hk
      cases xs with
      | nil => simp at hk
      | cons x r =>
        obtain ⟨b, o, e, _, h3⟩ := hc (by simp)
        simp only [Option.some.injEq] at e
        subst e
        exact rs_news ePt_len h3 k u hk
    have h1 : ∀ u ∈ xs.flatMap ePt, u.oneCell' = true := by
      intro u hu
      obtain ⟨x, _, hx⟩ := List.mem_flatMap.1 hu
      obtain ⟨_, a1, c1, e1, _⟩ := hcv x (by assumption)
      simp [ePt, e1] at hx
      rcases hx with rfl | rfl | rfl | rfl | rfl | rfl <;> rfl
    have qn : ∀ (w : World) (n c : Nat), (binOp .eql 57 (.slice (some ad) n c) (.slice none 0 0)).run Try.prog w = .ok (.bool false) w := fun w n c => Lib.run_eql_slice_nil w _ _ (some ad) n c 0 0 Try.underlying57
    go_enter Try.func58, Try.ntmps58
    go_wp2_with (at_builtin; refine halt ?_)
    refine Halt.go ?_
    refine wpList_appd (v := .slice (some ⟨w.heap.size, 0, none⟩) 0 0) rfl _ _ _ rfl Try.underlying57 hi hz hz1 hz2 hz3 rfl (sl_empty w _ 6) (m := xs.length) (news := xs.flatMap ePt) rfl (flat_length ePt_len xs) (fun k u hk => ?_) h1 (by unfold maxLen; omega) (by omega) ?_
    · have := hnews k u hk
      rw [World.cell?_alloc_lt _ _ _ (World.block_lt_of_cell? _ _ this)]; exact this
    rintro v7 w7 hs7 ho7 hv7
    have hb7 : Below w.heap.size w w7 := (below_alloc (Below.refl _ w) _).trans (ho7.below (by simp) (fun i hi e => by simp [Value.ownBlock] at e; omega))
    have hn7' : ∀ g, v7.ownBlock = some g → w.heap.size ≤ g := fun g hg => by
      rcases hv7 with e | e
      · rw [e] at hg; simp [Value.ownBlock] at hg; omega
      · rw [e] at hg; simp at hg; omega
    rw [Nat.zero_add, List.nil_append] at hs7
    have hn7 : ∀ g, v7.ownBlock = some g → w.heap.size ≤ g ∧ g < w7.heap.size := fun g hg => ⟨hn7' g hg, hs7.lt g hg⟩
    have hr7 := SL.rs ePt_len hs7
    go_wp2
    go_ret
    exact ⟨v7, rfl, hr7, hn7, hb7⟩

set_option maxRecDepth 100000 in
set_option maxHeartbeats 1000000 in
theorem row_any {w : World} {v : Value} {xs : List Spn} (t : Int) (h : RS w 3 eSpn v xs) :
    Calls Try.prog 83 #[v, .int .i64 t] w fun e w' => e = .returned (.bool (rowOk t xs 0)) ∧ Below w.heap.size w w' := by
  have hl := h.1
  unfold maxLen at hl
  obtain ⟨_, a, c, rfl, _⟩ := id h
  go_enter Try.func83, Try.ntmps83
  go_wp2
  go_loopw [9] (fun i wr => ∃ j : Nat, j ≤ xs.length ∧ i = .int .i64 j ∧ Below w.heap.size w wr ∧ rowOk t xs 0 = rowOk t (xs.drop j) j) (fun i _ => xs.length - (intOf i).toNat)
  case atStart => exact ⟨0, Nat.zero_le _, rfl, Below.refl _ _, rfl⟩
  case round =>
    obtain ⟨j, hj, rfl, hb, hJ⟩ := hrel
    by_cases hjl : j < xs.length
    · obtain ⟨_, a', c', hv, h2⟩ := id h
      obtain ⟨b0, o0, ha, hb0, hcl⟩ := h2 (by omega)
      simp only [Value.slice.injEq] at hv
      obtain ⟨rfl, _, rfl⟩ := hv
      subst ha
      obtain ⟨x, hx⟩ : ∃ x, xs[j]? = some x := ⟨_, List.getElem?_eq_getElem hjl⟩
      have hd : xs.drop j = x :: xs.drop (j + 1) := by rw [List.drop_eq_getElem_cons hjl]; congr 1; exact Option.some.inj ((List.getElem?_eq_getElem hjl).symm.trans hx)
      obtain ⟨y, q, s⟩ := x
      have g0 : wr.cell? ⟨b0, o0 + j * 3, none⟩ = some (.int .i64 y) := by rw [hb.cell (p := ⟨b0, o0 + j * 3, none⟩) hb0]; exact hcl j _ 0 _ hx rfl
      have g1 : wr.cell? ⟨b0, o0 + j * 3 + 1, none⟩ = some (.int .i64 q) := by rw [hb.cell (p := ⟨b0, o0 + j * 3 + 1, none⟩) hb0]; exact hcl j _ 1 _ hx rfl
      have g2 : wr.cell? ⟨b0, o0 + j * 3 + 2, none⟩ = some (.string s) := by rw [hb.cell (p := ⟨b0, o0 + j * 3 + 2, none⟩) hb0]; exact hcl j _ 2 _ hx rfl
      rw [hd, rowOk_cons] at hJ
      have HJ := Lib.hid hJ
      have hb2 := below_trans' (below_alloc (Below.refl _ wr) (.cells #[.int .i64 y, .int .i64 q, .string s] 63)) hb
      clear hcl hx hd hJ h2 h
      by_cases h1 : y = t
      · subst h1
        have e1 : (y != y) = false := by simp
        by_cases h3 : q = (j : Int) + 1
        · subst h3
          have e2 : ((j : Int) + 1 != (j : Int) + 1) = false := by simp
          have HK := Lib.hid (show rowOk y xs 0 = rowOk y (xs.drop (j + 1)) (j + 1) by rw [HJ.out]; simp)
          go_wp2
          exact ⟨⟨j + 1, by omega, by go_num, hb2, HK.out⟩, by simp [intOf]; omega⟩
        · have e2 : (q != (j : Int) + 1) = true := by simp [h3]
          go_wp2
          go_ret
          exact ⟨by rw [HJ.out]; simp [h3], hb2⟩
      · have e1 : (y != t) = true := by simp [h1]
        go_wp2
        go_ret
        exact ⟨by rw [HJ.out]; simp [h1], hb2⟩
    · have hje : j = xs.length := by omega
      subst hje
      rw [List.drop_length, rowOk_nil] at hJ
      have HJ := Lib.hid hJ
      clear hJ
      go_wp2
      go_ret
      exact ⟨by rw [HJ.out]; rfl, hb⟩
end Go.Proofs.Ytcdjeblcmgghhaa.Asm
