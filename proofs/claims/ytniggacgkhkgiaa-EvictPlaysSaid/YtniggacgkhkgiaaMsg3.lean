/- What msg.agents, span.Right and slices.ContainsFunc at msg's own closure say. Conditions: the slices lie in memory. -/
import Derived.Test.YtniggacgkhkgiaaMsg2
namespace Go.Sp
open Go.RowKit
/-- numbers that are agents, rising from behind last -/
def agOk : Int → List Int → Bool
  | _, [] => true
  | last, a :: r => decide (last < a) && (decide (a < 4) && agOk a r)
theorem agOk_cons (last a : Int) (r : List Int) : agOk last (a :: r) = (decide (last < a) && (decide (a < 4) && agOk a r)) := rfl
def rightSp (x : Spn) : Bool := decide (1 ≤ x.1) && (decide (x.1 ≤ 65535) && (decide (1 ≤ x.2.1) && (decide (x.2.1 ≤ 2147483648) && decide ((x.2.2.size : Int) ≤ 40))))
end Go.Sp
namespace Go.Proofs.Ytniggacgkhkgiaa.Msg
open Go.RowKit Go.Sp

set_option maxRecDepth 100000 in
set_option maxHeartbeats 1000000 in
theorem agents_any {w : World} {v : Value} {l : List Int} (h : RS w 1 eInt v l) : Calls Try.prog 84 #[v] w fun e w' => e = .returned (.bool (agOk (-1) l)) ∧ w = w' := by
  have hl := h.1
  unfold maxLen at hl
  obtain ⟨_, a, c, rfl, _⟩ := id h
  go_enter Try.func84, Try.ntmps84
  go_wp2
  go_loopw [3, 8] (fun la i wr => ∃ (j : Nat) (x : Int), j ≤ l.length ∧ la = .int .i64 x ∧ i = .int .i64 j ∧ wr = w ∧ agOk (-1) l = agOk x (l.drop j)) (fun _ i _ => l.length - (intOf i).toNat)
  case atStart => exact ⟨0, -1, Nat.zero_le _, rfl, rfl, rfl, rfl⟩
  case round =>
    obtain ⟨j, x, hj, rfl, rfl, rfl, hJ⟩ := hrel
    by_cases hjl : j < l.length
    · obtain ⟨b, o, c2, hv, _, hc⟩ := RS.int h (by omega)
      simp only [Value.slice.injEq] at hv
      obtain ⟨rfl, _, rfl⟩ := hv
      obtain ⟨y, hy⟩ : ∃ y, l[j]? = some y := ⟨_, List.getElem?_eq_getElem hjl⟩
      have g := hc j y hy
      have hd : l.drop j = y :: l.drop (j + 1) := by rw [List.drop_eq_getElem_cons hjl]; congr 1; exact Option.some.inj ((List.getElem?_eq_getElem hjl).symm.trans hy)
      rw [hd, agOk_cons] at hJ
      clear hc hy hd h
      generalize hR : agOk y (l.drop (j + 1)) = R at hJ
      have HR := Lib.hid hR
      clear hR
      by_cases h1 : x < y
      · have b1 : decide (y ≤ x) = false := by simp; omega
        by_cases h2 : y < 4
        · have b2 : decide (4 ≤ y) = false := by simp; omega
          have HG := Lib.hid (show agOk (-1) l = R by rw [hJ]; simp [h1, h2])
          clear hJ
          go_wp2
          exact ⟨⟨j + 1, y, by omega, rfl, by go_num, by first | rfl | trivial, by rw [HG.out, HR.out]⟩, by simp [intOf]; omega⟩
        · have b2 : decide (4 ≤ y) = true := by simp; omega
          have HG := Lib.hid (show agOk (-1) l = false by rw [hJ]; simp [h2])
          clear hJ
          go_wp2
          go_ret
          exact ⟨by rw [HG.out]; rfl, by first | rfl | trivial⟩
      · have b1 : decide (y ≤ x) = true := by simp; omega
        have HG := Lib.hid (show agOk (-1) l = false by rw [hJ]; simp [h1])
        clear hJ
        go_wp2
        go_ret
        exact ⟨by rw [HG.out]; rfl, by first | rfl | trivial⟩
    · have hje : j = l.length := by omega
      subst hje
      rw [List.drop_length] at hJ
      have hG : agOk (-1) l = true := hJ
      have HG := Lib.hid hG
      clear hJ hG
      go_wp2
      go_ret
      exact ⟨by rw [HG.out]; rfl, by first | rfl | trivial⟩

set_option maxRecDepth 100000 in
set_option maxHeartbeats 1000000 in
theorem spRight_any (w : World) (x : Spn) : Calls Try.prog 86 #[.agg #[.int .i64 x.1, .int .i64 x.2.1, .string x.2.2]] w fun e w' => e = .returned (.bool (rightSp x)) ∧ Below w.heap.size w w' := by
  obtain ⟨t, q, s⟩ := x
  unfold rightSp
  go_enter Try.func86, Try.ntmps86
  have hb : Below w.heap.size w (w.alloc (.cells #[.int .i64 t, .int .i64 q, .string s] 89)) := (Below.refl _ w).alloc (Nat.le_refl _) _
  by_cases h1 : 1 ≤ t
  · have b1 : decide (1 ≤ t) = true := decide_eq_true h1
    by_cases h2 : t ≤ 65535
    · have b2 : decide (t ≤ 65535) = true := decide_eq_true h2
      by_cases h3 : 1 ≤ q
      · have b3 : decide (1 ≤ q) = true := decide_eq_true h3
        by_cases h4 : q ≤ 2147483648
        · have b4 : decide (q ≤ 2147483648) = true := decide_eq_true h4
          go_wp2
          go_ret
          exact ⟨by simp [h1, h2, h3, h4], hb⟩
        · have b4 : decide (q ≤ 2147483648) = false := decide_eq_false h4
          go_wp2
          go_ret
          exact ⟨by simp [h4], hb⟩
      · have b3 : decide (1 ≤ q) = false := decide_eq_false h3
        go_wp2
        go_ret
        exact ⟨by simp [h3], hb⟩
    · have b2 : decide (t ≤ 65535) = false := decide_eq_false h2
      go_wp2
      go_ret
      exact ⟨by simp [h2], hb⟩
  · have b1 : decide (1 ≤ t) = false := decide_eq_false h1
    go_wp2
    go_ret
    exact ⟨by simp [h1], hb⟩

set_option maxRecDepth 100000 in
set_option maxHeartbeats 1000000 in
theorem wrong_any {w : World} {b : Nat} {t : Int} (hc : w.cell? ⟨b, 0, none⟩ = some (.int .i64 t)) (x : Spn) : Calls Try.prog 85 #[.agg #[.int .i64 x.1, .int .i64 x.2.1, .string x.2.2], .pointer (some ⟨b, 0, none⟩)] w fun e w' => e = .returned (.bool (!(rightSp x && decide (x.1 = t)))) ∧ Below w.heap.size w w' := by
  obtain ⟨y, q, s⟩ := x
  go_enter Try.func85, Try.ntmps85
  go_wp2_with fail
  have hbw := World.block_lt_of_cell? _ _ hc
  have hA : Below w.heap.size w (w.alloc (.cells #[.int .i64 y, .int .i64 q, .string s] 89)) := (Below.refl _ w).alloc (Nat.le_refl _) _
  have hbx : (w.alloc (.cells #[.int .i64 y, .int .i64 q, .string s] 89)).heap[w.heap.size]? = some (.cells #[.int .i64 y, .int .i64 q, .string s] 89 (0, 0)) := heap_new _ _ rfl
  have hsz : w.heap.size < (w.alloc (.cells #[.int .i64 y, .int .i64 q, .string s] 89)).heap.size := by simp
  generalize (w.alloc (.cells #[.int .i64 y, .int .i64 q, .string s] 89)) = w0 at hA hbx hsz ⊢
  have H := spRight_any w0 (y, q, s)
  refine H.mono ?_
  rintro e w1 ⟨rfl, hb1⟩
  have c1 : w1.cell? ⟨b, 0, none⟩ = some (.int .i64 t) := by
    rw [hb1.cell (p := ⟨b, 0, none⟩) (Nat.lt_trans hbw hsz), hA.cell (p := ⟨b, 0, none⟩) hbw]; exact hc
  have c2 : w1.cell? ⟨w.heap.size, 0, none⟩ = some (.int .i64 y) := by
    rw [hb1.cell (p := ⟨w.heap.size, 0, none⟩) hsz]; simp [World.cell?, hbx]
  have hb2 := hA.trans (hb1.mono hA.size)
  clear H hc hbx hb1 hA
  cases hr : rightSp (y, q, s) with
  | true =>
    by_cases hy : y = t
    · subst hy
      have e1 : (y != y) = false := by simp
      go_wp2
      go_ret
      exact ⟨by simp [hr], hb2⟩
    · have e1 : (y != t) = true := by simp [hy]
      go_wp2
      go_ret
      exact ⟨by simp [hy], hb2⟩
  | false =>
    go_wp2
    go_ret
    exact ⟨by simp [hr], hb2⟩

set_option maxRecDepth 100000 in
set_option maxHeartbeats 1000000 in
theorem index_any {w : World} {b : Nat} {t : Int} (hc : w.cell? ⟨b, 0, none⟩ = some (.int .i64 t)) {v : Value} {xs : List Spn} (h : RS w 3 eSpn v xs) :
    Calls Try.prog 118 #[v, .func (.func 85) #[] #[.pointer (some ⟨b, 0, none⟩)]] w fun e w' => (∃ i : Int, e = .returned (.int .i64 i) ∧ (decide (0 ≤ i)) = !(xs.all fun x => rightSp x && decide (x.1 = t))) ∧ Below w.heap.size w w' := by
  have hl := h.1
  unfold maxLen at hl
  obtain ⟨_, a, c, rfl, _⟩ := id h
  go_enter Try.func118, Try.ntmps118
  go_wp2
  go_loopw [8] (fun i wr => ∃ j : Nat, j ≤ xs.length ∧ i = .int .i64 j ∧ Below w.heap.size w wr ∧ (xs.take j).all (fun x => rightSp x && decide (x.1 = t)) = true) (fun i _ => xs.length - (intOf i).toNat)
  case atStart => exact ⟨0, Nat.zero_le _, rfl, Below.refl _ _, rfl⟩
  case round =>
    obtain ⟨j, hj, rfl, hb, hJ⟩ := hrel
    by_cases hjl : j < xs.length
    · obtain ⟨_, a', c', hv, h2⟩ := id h
      obtain ⟨b0, o0, ha, hb0, hcl⟩ := h2 (by omega)
      simp only [Value.slice.injEq] at hv
      obtain ⟨rfl, _, rfl⟩ := hv
      subst ha
      obtain ⟨x, hx⟩ : ∃ x, xs[j]? = some x := ⟨_, List.getElem?_eq_getElem hjl⟩
      obtain ⟨y, q, s⟩ := x
      have g0 : wr.cell? ⟨b0, o0 + j * 3, none⟩ = some (.int .i64 y) := by rw [hb.cell (p := ⟨b0, o0 + j * 3, none⟩) hb0]; exact hcl j _ 0 _ hx rfl
      have g1 : wr.cell? ⟨b0, o0 + j * 3 + 1, none⟩ = some (.int .i64 q) := by rw [hb.cell (p := ⟨b0, o0 + j * 3 + 1, none⟩) hb0]; exact hcl j _ 1 _ hx rfl
      have g2 : wr.cell? ⟨b0, o0 + j * 3 + 2, none⟩ = some (.string s) := by rw [hb.cell (p := ⟨b0, o0 + j * 3 + 2, none⟩) hb0]; exact hcl j _ 2 _ hx rfl
      have hT : (xs.take (j + 1)).all (fun x => rightSp x && decide (x.1 = t)) = (rightSp (y, q, s) && decide (y = t)) := by
        rw [List.take_add_one, hx, List.all_append, hJ]; simp
      have hM : (rightSp (y, q, s) && decide (y = t)) = false → xs.all (fun x => rightSp x && decide (x.1 = t)) = false := fun e => by
        rw [List.all_eq_false]; exact ⟨(y, q, s), List.mem_of_getElem? hx, by simpa using e⟩
      have HT := Lib.hid hT
      have HM := Lib.hid hM
      have HX := Lib.hid hx
      have cb : wr.cell? ⟨b, 0, none⟩ = some (.int .i64 t) := by rw [hb.cell (p := ⟨b, 0, none⟩) (World.block_lt_of_cell? _ _ hc)]; exact hc
      clear hcl hx hT hM hJ h2 h hc
      go_wp2_with fail
      refine (wrong_any cb (y, q, s)).mono ?_
      rintro e w2 ⟨rfl, hb2⟩
      have hb3 := hb.trans (hb2.mono hb.size)
      generalize hG : (rightSp (y, q, s) && decide (y = t)) = G at *
      have HG := Lib.hid hG
      clear hG hb hb2 cb g0 g1 g2
      cases G with
      | true =>
        go_wp2
        exact ⟨⟨j + 1, by omega, by go_num, hb3, HT.out⟩, by simp [intOf]; omega⟩
      | false =>
        go_wp2
        go_ret
        exact ⟨⟨j, rfl, by rw [HM.out (by first | rfl | trivial)]; simp⟩, hb3⟩
    · have hje : j = xs.length := by omega
      subst hje
      rw [List.take_length] at hJ
      have HJ := Lib.hid hJ
      clear hJ
      go_wp2
      go_ret
      exact ⟨⟨-1, rfl, by rw [HJ.out]; rfl⟩, hb⟩

set_option maxHeartbeats 1000000 in
theorem contains_any {w : World} {b : Nat} {t : Int} (hc : w.cell? ⟨b, 0, none⟩ = some (.int .i64 t)) {v : Value} {xs : List Spn} (h : RS w 3 eSpn v xs) :
    Calls Try.prog 87 #[v, .func (.func 85) #[] #[.pointer (some ⟨b, 0, none⟩)]] w fun e w' => e = .returned (.bool (!(xs.all fun x => rightSp x && decide (x.1 = t)))) ∧ Below w.heap.size w w' := by
  have H := index_any hc h
  obtain ⟨_, a, c, rfl, _⟩ := id h
  clear h
  go_enter Try.func87, Try.ntmps87
  go_wp2_with fail
  refine H.mono ?_
  rintro e w1 ⟨⟨i, rfl, hi⟩, hb⟩
  go_wp2
  go_ret
  exact ⟨by first | exact ret_bool hi | rfl, hb⟩
end Go.Proofs.Ytniggacgkhkgiaa.Msg
