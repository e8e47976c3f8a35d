/- What the reference's in and insert answer. Conditions: the list lies in memory as RS says; it is rising; at most a million elements. -/
import Derived.Test.YtcdjeblcmgghhaaCrumb2
namespace Go.Sp
open Go.RowKit

def st1 (x : Int) (s : List Int × Bool) (y : Int) : List Int × Bool := if !s.2 && decide (x < y) then (s.1 ++ [x, y], true) else (s.1 ++ [y], s.2)
def insTo (x : Int) (l : List Int) : List Int × Bool := l.foldl (st1 x) ([], false)
theorem insTo_snoc (x y : Int) (l : List Int) : insTo x (l ++ [y]) = st1 x (insTo x l) y := by simp [insTo, List.foldl_append]
theorem insTo_len (x : Int) (l : List Int) : (insTo x l).1.length ≤ 2 * l.length := by
  have h : ∀ (l : List Int) (s : List Int × Bool), (l.foldl (st1 x) s).1.length ≤ s.1.length + 2 * l.length := by
    intro l
    induction l with
    | nil => intro s; simp
    | cons y r ih =>
      intro s
      have := ih (st1 x s y)
      rw [List.foldl_cons]
      have h2 : (st1 x s y).1.length ≤ s.1.length + 2 := by unfold st1; split <;> simp
      simp; omega
  simpa [insTo] using h l ([], false)
theorem insTo_after (x : Int) : ∀ (l a : List Int), l.foldl (st1 x) (a, true) = (a ++ l, true)
  | [], a => by simp
  | y :: r, a => by
    rw [List.foldl_cons]
    have : st1 x (a, true) y = (a ++ [y], true) := by simp [st1]
    rw [this, insTo_after x r]; simp
theorem insTo_from (x : Int) : ∀ (l a : List Int), l.foldl (st1 x) (a, false) = if l.any (fun y => decide (x < y)) then (a ++ insI x l, true) else (a ++ l, false)
  | [], a => by simp
  | y :: r, a => by
    rw [List.foldl_cons]
    by_cases h : x < y
    · have : st1 x (a, false) y = (a ++ [x, y], true) := by simp [st1, h]
      rw [this, insTo_after]
      simp [h, insI]
    · have : st1 x (a, false) y = (a ++ [y], false) := by simp [st1, h]
      rw [this, insTo_from x r]
      simp only [List.any_cons, h, decide_false, Bool.false_or]
      split <;> simp [insI, h]
theorem insI_last (x : Int) : ∀ {l : List Int}, l.any (fun y => decide (x < y)) = false → insI x l = l ++ [x]
  | [], _ => rfl
  | y :: r, h => by
    simp only [List.any_cons, Bool.or_eq_false_iff, decide_eq_false_iff_not] at h
    unfold insI
    rw [if_neg h.1, insI_last x h.2]; rfl
theorem insTo_ins (x : Int) (l : List Int) : (if (insTo x l).2 then (insTo x l).1 else (insTo x l).1 ++ [x]) = insI x l := by
  unfold insTo
  rw [insTo_from]
  cases h : l.any (fun y => decide (x < y)) with
  | true => simp
  | false => simp [insI_last x h]
end Go.Sp

namespace Go.Proofs.Ytcdjeblcmgghhaa.Crumb
open Go.RowKit Go.Sp

set_option maxHeartbeats 1000000 in
theorem in_any {w : World} {v : Value} {xs : List Int} (hr : RS w 1 eInt v xs) (hn : xs.length ≤ 1000000) (x : Int) :
    Calls Try.prog 70 #[v, .int .i64 x] w fun e w' => e = .returned (.bool (xs.contains x)) ∧ w = w' := by
  obtain ⟨_, a, cap, rfl, hc⟩ := id hr
  go_enter Try.func70, Try.ntmps70
  go_wp2
  go_loopw [5] (fun i wr => ∃ j : Nat, j ≤ xs.length ∧ i = .int .i64 j ∧ wr = w ∧ x ∉ xs.take j) (fun i _ => xs.length - (intOf i).toNat)
  case atStart => exact ⟨0, Nat.zero_le _, rfl, rfl, by simp⟩
  case round =>
    obtain ⟨j, hj, rfl, rfl, hJ⟩ := hrel
    by_cases hjn : j < xs.length
    · obtain ⟨b, off, rfl, hb, hcl⟩ := hc (by omega)
      obtain ⟨y, hy⟩ : ∃ y, xs[j]? = some y := ⟨_, List.getElem?_eq_getElem hjn⟩
      have hcy : wr.cell? ⟨b, off + j, none⟩ = some (.int .i64 y) := by
        have := hcl j y 0 _ hy rfl
        simpa using this
      have HY := Lib.hid hy
      have HJ := Lib.hid hJ
      clear hy hJ hcl
      by_cases e : y = x
      · subst e
        have hm : xs.contains y = true := List.contains_iff_mem.2 (List.mem_of_getElem? HY.out)
        go_wp2
        go_ret
        exact ⟨by rw [hm]; rfl, by first | rfl | trivial⟩
      · have hyx : (y == x) = false := by simp [e]
        go_wp2
        refine ⟨⟨j + 1, by omega, by go_num, by first | rfl | trivial, fun hm => ?_⟩, by simp [intOf]; omega⟩
        rw [List.take_add_one, HY.out] at hm
        rcases List.mem_append.1 hm with hm | hm
        · exact HJ.out hm
        · simp at hm; exact e hm.symm
    · have hje : j = xs.length := by omega
      subst hje
      rw [List.take_length] at hJ
      have hm : xs.contains x = false := by
        cases h : xs.contains x with
        | false => rfl
        | true => exact absurd (List.contains_iff_mem.1 h) hJ
      clear hJ
      go_wp2
      go_ret
      exact ⟨by rw [hm]; rfl, by first | rfl | trivial⟩

set_option maxRecDepth 100000 in
set_option maxHeartbeats 1000000 in
theorem refInsert_any {w : World} {v : Value} {xs : List Int} (hr : RS w 1 eInt v xs) (hn : xs.length ≤ 100000) (x : Int) :
    Calls Try.prog 71 #[v, .int .i64 x] w fun e w' => ∃ v', e = .returned v' ∧ SL w'.heap 3 1 v' (insI x xs).length ((insI x xs).map Sp.zI) ∧ (∀ g, v'.ownBlock = some g → w.heap.size ≤ g) ∧ Below w.heap.size w w' := by
  obtain ⟨_, a, cap, rfl, hc⟩ := id hr
  obtain ⟨i0, z0, hi, hz, hz1, hz2, hz3⟩ := info_at (P := Try.prog) (e := 3) (f := (1, 8, 1)) (by kernel_rfl)
  go_enter Try.func71, Try.ntmps71
  go_wp2
  go_loopw [5, 6, 7] (fun out dn i wr => ∃ j : Nat, j ≤ xs.length ∧ i = .int .i64 j ∧ dn = .bool (insTo x (xs.take j)).2 ∧ SL wr.heap 3 1 out (insTo x (xs.take j)).1.length ((insTo x (xs.take j)).1.map Sp.zI) ∧ (∀ g, out.ownBlock = some g → w.heap.size ≤ g) ∧ Below w.heap.size w wr) (fun _ _ i _ => xs.length - (intOf i).toNat)
  case atStart => exact ⟨0, Nat.zero_le _, rfl, rfl, SL.nil _ _ _, fun g hg => by simp [Value.ownBlock] at hg, Below.refl _ _⟩
  case round =>
    obtain ⟨j, hj, rfl, rfl, hs, hg, hb⟩ := hrel
    by_cases hjn : j < xs.length
    · obtain ⟨b, off, rfl, hbw, hcl⟩ := hc (by omega)
      obtain ⟨y, hy⟩ : ∃ y, xs[j]? = some y := ⟨_, List.getElem?_eq_getElem hjn⟩
      have hcell : ∀ W, Below w.heap.size w W → W.cell? ⟨b, off + j, none⟩ = some (.int .i64 y) := fun W hW => by
        rw [World.cell?_of_block (w := w) ((only_of_below hW (fun _ => False)).block b hbw id)]
        have := hcl j y 0 _ hy rfl
        simpa using this
      have hcy := hcell wr hb
      have hF : insTo x (xs.take (j + 1)) = st1 x (insTo x (xs.take j)) y := by rw [List.take_add_one, hy]; exact insTo_snoc _ _ _
      have hlen : (insTo x (xs.take j)).1.length ≤ 200000 := by
        have := insTo_len x (xs.take j)
        have h2 : (xs.take j).length = j := by simp; omega
        omega
      generalize insTo x (xs.take j) = s at *
      obtain ⟨o, dn⟩ := s
      have HF := Lib.hid hF
      clear hF hy hcl
      have hl1 : o.length ≤ 200000 := hlen
      replace hs : SL wr.heap 3 1 u5 o.length (o.map Sp.zI) := hs
      cases dn with
      | true =>
        go_wp2_with (at_builtin; refine halt ?_)
        refine Halt.go ?_
        refine wpList_appd (v := u5) rfl _ _ _ rfl Try.underlying28 hi hz hz1 hz2 hz3 rfl (hs.alloc _) (m := 1) (news := [.int .i64 y]) rfl rfl (cells_new _ _ _ rfl) (by simp [Value.oneCell']) (by unfold maxLen; omega) (by omega) ?_
        rintro v5 w5 hs5 ho5 hv5
        have hb5 : Below w.heap.size w w5 := (hb.alloc hb.size _).trans (ho5.below (by have := hb.size; simp; omega) (fun i hi e => by have := hg i e; omega))
        have hg5 : ∀ g, v5.ownBlock = some g → w.heap.size ≤ g := fun g hg' => by
          rcases hv5 with e | e
          · exact hg g (by rw [← e]; exact hg')
          · rw [e] at hg'; cases hg'; have := hb.size; simp; omega
        go_wp2
        refine ⟨⟨j + 1, by omega, by go_num, by rw [HF.out]; simp [st1], ?_, hg5, hb5⟩, by simp [intOf]; omega⟩
        rw [HF.out]
        simpa [st1, Sp.zI] using hs5
      | false =>
        by_cases hxy : x < y
        · have d1 : decide (x < y) = true := decide_eq_true hxy
          go_wp2_with (at_builtin; refine halt ?_)
          refine Halt.go ?_
          refine wpList_appd (v := u5) rfl _ _ _ rfl Try.underlying28 hi hz hz1 hz2 hz3 rfl (hs.alloc _) (m := 1) (news := [.int .i64 x]) rfl rfl (cells_new _ _ _ rfl) (by simp [Value.oneCell']) (by unfold maxLen; omega) (by omega) ?_
          rintro v4 w4 hs4 ho4 hv4
          have hb4 : Below w.heap.size w w4 := (hb.alloc hb.size _).trans (ho4.below (by have := hb.size; simp; omega) (fun i hi e => by have := hg i e; omega))
          have hg4 : ∀ g, v4.ownBlock = some g → w.heap.size ≤ g := fun g hg' => by
            rcases hv4 with e | e
            · exact hg g (by rw [← e]; exact hg')
            · rw [e] at hg'; cases hg'; have := hb.size; simp; omega
          have hcy4 := hcell w4 hb4
          have hs4' : SL w4.heap 3 1 v4 (o.length + 1) (o.map Sp.zI ++ [.int .i64 x]) := hs4
          clear hcy
          go_wp2_with (at_builtin; refine halt ?_)
          refine Halt.go ?_
          refine wpList_appd (v := v4) rfl _ _ _ rfl Try.underlying28 hi hz hz1 hz2 hz3 rfl (hs4'.alloc _) (m := 1) (news := [.int .i64 y]) rfl rfl (cells_new _ _ _ rfl) (by simp [Value.oneCell']) (by unfold maxLen; omega) (by omega) ?_
          rintro v5 w5 hs5 ho5 hv5
          have hb5 : Below w.heap.size w w5 := (hb4.alloc hb4.size _).trans (ho5.below (by have := hb4.size; simp; omega) (fun i hi e => by have := hg4 i e; omega))
          have hg5 : ∀ g, v5.ownBlock = some g → w.heap.size ≤ g := fun g hg' => by
            rcases hv5 with e | e
            · exact hg4 g (by rw [← e]; exact hg')
            · rw [e] at hg'; cases hg'; have := hb4.size; simp; omega
          go_wp2
          refine ⟨⟨j + 1, by omega, by go_num, by rw [HF.out]; simp [st1, hxy], ?_, hg5, hb5⟩, by simp [intOf]; omega⟩
          rw [HF.out]
          simpa [st1, hxy, Sp.zI] using hs5
        · have d1 : decide (x < y) = false := decide_eq_false hxy
          have HE2 := Lib.hid (show st1 x (o, false) y = (o ++ [y], false) by unfold st1; rw [d1]; rfl)
          go_wp2_with (at_builtin; refine halt ?_)
          refine Halt.go ?_
          refine wpList_appd (v := u5) rfl _ _ _ rfl Try.underlying28 hi hz hz1 hz2 hz3 rfl (hs.alloc _) (m := 1) (news := [.int .i64 y]) rfl rfl (cells_new _ _ _ rfl) (by simp [Value.oneCell']) (by unfold maxLen; omega) (by omega) ?_
          rintro v5 w5 hs5 ho5 hv5
          have hb5 : Below w.heap.size w w5 := (hb.alloc hb.size _).trans (ho5.below (by have := hb.size; simp; omega) (fun i hi e => by have := hg i e; omega))
          have hg5 : ∀ g, v5.ownBlock = some g → w.heap.size ≤ g := fun g hg' => by
            rcases hv5 with e | e
            · exact hg g (by rw [← e]; exact hg')
            · rw [e] at hg'; cases hg'; have := hb.size; simp; omega
          go_wp2
          refine ⟨⟨j + 1, by omega, by go_num, by rw [HF.out, HE2.out], ?_, hg5, hb5⟩, by simp [intOf]; omega⟩
          rw [HF.out, HE2.out]
          simpa [Sp.zI] using hs5
    · have hje : j = xs.length := by omega
      subst hje
      have hI := insTo_ins x xs
      rw [List.take_length] at hs ⊢
      have hlen : (insTo x xs).1.length ≤ 200000 := by have := insTo_len x xs; omega
      generalize insTo x xs = s at *
      obtain ⟨o, dn⟩ := s
      have hl1 : o.length ≤ 200000 := hlen
      replace hs : SL wr.heap 3 1 u5 o.length (o.map Sp.zI) := hs
      have HI := Lib.hid hI
      clear hI
      cases dn with
      | true =>
        go_wp2
        go_ret
        refine ⟨_, rfl, ?_, hg, hb⟩
        have := HI.out
        simp at this
        rw [← this]; exact hs
      | false =>
        go_wp2_with (at_builtin; refine halt ?_)
        refine Halt.go ?_
        refine wpList_appd (v := u5) rfl _ _ _ rfl Try.underlying28 hi hz hz1 hz2 hz3 rfl (hs.alloc _) (m := 1) (news := [.int .i64 x]) rfl rfl (cells_new _ _ _ rfl) (by simp [Value.oneCell']) (by unfold maxLen; omega) (by omega) ?_
        rintro v5 w5 hs5 ho5 hv5
        have hb5 : Below w.heap.size w w5 := (hb.alloc hb.size _).trans (ho5.below (by have := hb.size; simp; omega) (fun i hi e => by have := hg i e; omega))
        have hg5 : ∀ g, v5.ownBlock = some g → w.heap.size ≤ g := fun g hg' => by
          rcases hv5 with e | e
          · exact hg g (by rw [← e]; exact hg')
          · rw [e] at hg'; cases hg'; have := hb.size; simp; omega
        go_wp2
        go_ret
        refine ⟨_, rfl, ?_, hg5, hb5⟩
        have := HI.out
        simp at this
        rw [← this]
        simpa [Sp.zI] using hs5
end Go.Proofs.Ytcdjeblcmgghhaa.Crumb
