/- What the law's few, Make and Message answer. Conditions: the slices lie in memory. -/
import Derived.Test.YtcdjeblcmgghhaaAsm3
namespace Go.Sp
open Go.RowKit
/-- a call's fields, and what its slices hold -/
structure OpD where
  k : Int
  a : Int
  t : Int
  j : Int
  i : Int
  n : Int
  sv : Value
  xs : List Spn
  cv : Value
  cs : List Int
  l : Bool
def eOpD (o : OpD) : List Value := [.int .i64 o.k, .int .i64 o.a, .int .i64 o.t, .int .i64 o.j, .int .i64 o.i, .int .i64 o.n, o.sv, o.cv, .bool o.l]
theorem eOpD_len (o : OpD) : (eOpD o).length = 9 := rfl
def OpIn (w : World) (o : OpD) : Prop := RS w 3 eSpn o.sv o.xs ∧ RS w 1 eInt o.cv o.cs
def fewS (xs : List Spn) : Bool := (xs.all fun x => decide ((x.2.2.size : Int) ≤ 100)) && decide (xs.length ≤ 100)
def fewO (o : OpD) : Bool := fewS o.xs && (decide (o.cs.length ≤ 20) && decide (o.a ≤ 1099511627776))
def fewL (os : List OpD) : Bool := (os.all fewO) && decide (os.length ≤ 100)
/-- Make, of kinds but 7, of no crumbs -/
def makeM (k a t j c n : Int) (l : Bool) (sv : Value) (xs : List Spn) : Mg :=
  if k = 1 then .trig a t c else if k = 2 then .pin t j else if k = 3 then .pinned ⟨a, t, j, n, .slice none 0 0, [], l⟩ else if k = 4 then .gone a t j else if k = 5 then .coll t j
  else if k = 6 then .chunk a t j c n sv xs else if k = 8 then .stor t j else if k = 9 then .unp t j else if k = 10 then .unpd a t j else .none
end Go.Sp
namespace Go.Proofs.Ytcdjeblcmgghhaa.Asm
open Go.RowKit Go.Sp Msg

set_option maxRecDepth 100000 in
set_option maxHeartbeats 1000000 in
theorem fewS_any {w : World} {v : Value} {xs : List Spn} (h : RS w 3 eSpn v xs) : Calls Try.prog 26 #[v] w fun e w' => e = .returned (.bool (fewS xs)) ∧ w = w' := by
  have hl := h.1
  unfold maxLen at hl
  obtain ⟨_, a, c, rfl, _⟩ := id h
  go_enter Try.func26, Try.ntmps26
  go_wp2
  go_loopw [3] (fun i wr => ∃ q : Nat, q ≤ xs.length ∧ i = .int .i64 q ∧ wr = w ∧ (xs.take q).all (fun x => decide ((x.2.2.size : Int) ≤ 100)) = true) (fun i _ => xs.length - (intOf i).toNat)
  case atStart => exact ⟨0, Nat.zero_le _, rfl, rfl, rfl⟩
  case round =>
    obtain ⟨q, hq, rfl, rfl, hJ⟩ := hrel
    by_cases hqN : q < xs.length
    · obtain ⟨_, a', c', hv, h2⟩ := id h
      obtain ⟨b0, o0, ha, hb0, hcl⟩ := h2 (by omega)
      simp only [Value.slice.injEq] at hv
      obtain ⟨rfl, _, rfl⟩ := hv
      subst ha
      obtain ⟨x, hx⟩ : ∃ x, xs[q]? = some x := ⟨_, List.getElem?_eq_getElem hqN⟩
      obtain ⟨t, s, tx⟩ := x
      have g2 : wr.cell? ⟨b0, o0 + q * 3 + 2, none⟩ = some (.string tx) := hcl q _ 2 _ hx rfl
      have hT : (xs.take (q + 1)).all (fun x => decide ((x.2.2.size : Int) ≤ 100)) = decide ((tx.size : Int) ≤ 100) := by
        rw [List.take_add_one, hx, List.all_append, hJ]; simp
      have hM : ¬ (tx.size : Int) ≤ 100 → fewS xs = false := fun e => by
        unfold fewS
        have : (xs.all fun x => decide ((x.2.2.size : Int) ≤ 100)) = false := by rw [List.all_eq_false]; exact ⟨_, List.mem_of_getElem? hx, by simpa using e⟩
        rw [this]; rfl
      have HT := Lib.hid hT
      have HM := Lib.hid hM
      clear hcl hx hT hM hJ h2 h
      by_cases hz : (tx.size : Int) ≤ 100
      · have b1 : decide (100 < (tx.size : Int)) = false := decide_eq_false (by omega)
        go_wp2
        exact ⟨⟨q + 1, by omega, by go_num, by first | rfl | trivial, by rw [HT.out]; exact decide_eq_true hz⟩, by simp [intOf]; omega⟩
      · have b1 : decide (100 < (tx.size : Int)) = true := decide_eq_true (by omega)
        go_wp2
        go_ret
        exact ⟨by rw [HM.out hz]; rfl, by first | rfl | trivial⟩
    · have hqe : q = xs.length := by omega
      subst hqe
      rw [List.take_length] at hJ
      have HJ := Lib.hid (show fewS xs = decide (xs.length ≤ 100) by unfold fewS; rw [hJ]; rfl)
      clear hJ h
      by_cases hz : xs.length ≤ 100
      · have b1 : decide ((xs.length : Int) ≤ 100) = true := decide_eq_true (by omega)
        go_wp2
        go_ret
        exact ⟨by rw [HJ.out, decide_eq_true hz]; rfl, by first | rfl | trivial⟩
      · have b1 : decide ((xs.length : Int) ≤ 100) = false := decide_eq_false (by omega)
        go_wp2
        go_ret
        exact ⟨by rw [HJ.out, decide_eq_false hz]; rfl, by first | rfl | trivial⟩

set_option maxRecDepth 100000 in
set_option maxHeartbeats 2000000 in
theorem fewL_any {w : World} {v : Value} {os : List OpD} (h : RS w 9 eOpD v os) (ho : ∀ o ∈ os, OpIn w o) : Calls Try.prog 14 #[v] w fun e w' => e = .returned (.bool (fewL os)) ∧ Below w.heap.size w w' := by
  have hl := h.1
  unfold maxLen at hl
  obtain ⟨_, a, c, rfl, _⟩ := id h
  go_enter Try.func14, Try.ntmps14
  go_wp2
  go_loopw [7] (fun i wr => ∃ q : Nat, q ≤ os.length ∧ i = .int .i64 q ∧ Below w.heap.size w wr ∧ (os.take q).all fewO = true) (fun i _ => os.length - (intOf i).toNat)
  case atStart => exact ⟨0, Nat.zero_le _, rfl, Below.refl _ _, rfl⟩
  case round =>
    obtain ⟨q, hq, rfl, hb, hJ⟩ := hrel
    by_cases hqN : q < os.length
    · obtain ⟨_, a', c', hv, h2⟩ := h.only (only_of_below hb (fun _ => False)) (fun _ _ => id)
      obtain ⟨b0, o0, ha, hb0, hcl⟩ := h2 (by omega)
      simp only [Value.slice.injEq] at hv
      obtain ⟨rfl, _, rfl⟩ := hv
      subst ha
      obtain ⟨x, hx⟩ : ∃ x, os[q]? = some x := ⟨_, List.getElem?_eq_getElem hqN⟩
      obtain ⟨hxs, hcs⟩ := ho x (List.mem_of_getElem? hx)
      have hT : (os.take (q + 1)).all fewO = fewO x := by rw [List.take_add_one, hx, List.all_append, hJ]; simp
      have hM : fewO x = false → fewL os = false := fun e => by
        unfold fewL
        have : os.all fewO = false := by rw [List.all_eq_false]; exact ⟨_, List.mem_of_getElem? hx, by simpa using e⟩
        rw [this]; rfl
      have g0 := hcl q x 0 _ hx rfl
      have g1 := hcl q x 1 _ hx rfl
      have g2 := hcl q x 2 _ hx rfl
      have g3 := hcl q x 3 _ hx rfl
      have g4 := hcl q x 4 _ hx rfl
      have g5 := hcl q x 5 _ hx rfl
      have g6 := hcl q x 6 _ hx rfl
      have g7 := hcl q x 7 _ hx rfl
      have g8 := hcl q x 8 _ hx rfl
      rw [← Nat.add_assoc] at g0 g1 g2 g3 g4 g5 g6 g7 g8
      rw [Nat.add_zero] at g0
      obtain ⟨k, a, t, j, i, n, sv, xs, cv, cs, l⟩ := x
      simp only at hxs hcs g0 g1 g2 g3 g4 g5 g6 g7 g8
      obtain ⟨_, xa, xc, rfl, _⟩ := id hxs
      obtain ⟨_, ca, cc, rfl, _⟩ := id hcs
      have HT := Lib.hid hT
      have HM := Lib.hid hM
      have hfe : fewO ⟨k, a, t, j, i, n, .slice xa xs.length xc, xs, .slice ca cs.length cc, cs, l⟩ = (fewS xs && (decide (cs.length ≤ 20) && decide (a ≤ 1099511627776))) := rfl
      have HFE := Lib.hid hfe
      have hA := below_alloc (Below.refl wr.heap.size wr) (.cells #[.int .i64 k, .int .i64 a, .int .i64 t, .int .i64 j, .int .i64 i, .int .i64 n, .slice xa xs.length xc, .slice ca cs.length cc, .bool l] 39)
      have hb2 := below_trans' hA hb
      have HF := fewS_any (hxs.only (only_of_below hb2 (fun _ => False)) (fun _ _ => id))
      clear hcl hx hT hM hJ h2 hxs hcs hfe hA
      go_wp2_with fail
      refine HF.mono ?_
      rintro e w2 ⟨rfl, rfl⟩
      cases hf : fewS xs with
      | false =>
        go_wp2
        go_ret
        exact ⟨by rw [HM.out (by rw [HFE.out, hf]; rfl)]; rfl, hb2⟩
      | true =>
        by_cases hz : cs.length ≤ 20
        · have b1 : decide (20 < (cs.length : Int)) = false := decide_eq_false (by omega)
          by_cases hy : a ≤ 1099511627776
          · have b2 : decide (1099511627776 < a) = false := decide_eq_false (by omega)
            go_wp2
            exact ⟨⟨q + 1, by omega, by go_num, hb2, by rw [HT.out, HFE.out, hf, decide_eq_true hz, decide_eq_true hy]; rfl⟩, by simp [intOf]; omega⟩
          · have b2 : decide (1099511627776 < a) = true := decide_eq_true (by omega)
            go_wp2
            go_ret
            exact ⟨by rw [HM.out (by rw [HFE.out, decide_eq_false (by omega : ¬ a ≤ 1099511627776)]; simp)]; rfl, hb2⟩
        · have b1 : decide (20 < (cs.length : Int)) = true := decide_eq_true (by omega)
          go_wp2
          go_ret
          exact ⟨by rw [HM.out (by rw [HFE.out, decide_eq_false (by omega : ¬ cs.length ≤ 20)]; simp)]; rfl, hb2⟩
    · have hqe : q = os.length := by omega
      subst hqe
      rw [List.take_length] at hJ
      have HJ := Lib.hid (show fewL os = decide (os.length ≤ 100) by unfold fewL; rw [hJ]; rfl)
      clear hJ h ho
      by_cases hz : os.length ≤ 100
      · have b1 : decide ((os.length : Int) ≤ 100) = true := decide_eq_true (by omega)
        go_wp2
        go_ret
        exact ⟨by rw [HJ.out, decide_eq_true hz]; rfl, hb⟩
      · have b1 : decide ((os.length : Int) ≤ 100) = false := decide_eq_false (by omega)
        go_wp2
        go_ret
        exact ⟨by rw [HJ.out, decide_eq_false hz]; rfl, hb⟩

set_option maxRecDepth 100000 in
set_option maxHeartbeats 4000000 in
theorem make_any (w : World) {k a t j c n : Int} (l : Bool) {sv : Value} {xs : List Spn} (h : RS w 3 eSpn sv xs) (hk : k ≠ 7) :
    Calls Try.prog 54 #[.int .i64 k, .int .i64 a, .int .i64 t, .int .i64 j, .int .i64 c, .int .i64 n, .slice none 0 0, .bool l, sv] w fun e w' => e = .returned (val (makeM k a t j c n l sv xs)) ∧ InMem w' (makeM k a t j c n l sv xs) ∧ Below w.heap.size w w' := by
  obtain ⟨_, sa, sc, rfl, _⟩ := id h
  have hb := below_alloc (Below.refl w.heap.size w) (.cells #[.int .i64 a, .int .i64 t, .int .i64 j, .int .i64 n, .slice none 0 0, .bool l] 65)
  have hs := h.only (only_of_below hb (fun _ => False)) (fun _ _ => id)
  have b7 : (k == 7) = false := by simp [hk]
  have hcase : k = 1 ∨ k = 2 ∨ k = 3 ∨ k = 4 ∨ k = 5 ∨ k = 6 ∨ k = 8 ∨ k = 9 ∨ k = 10 ∨ (k ≠ 1 ∧ k ≠ 2 ∧ k ≠ 3 ∧ k ≠ 4 ∧ k ≠ 5 ∧ k ≠ 6 ∧ k ≠ 8 ∧ k ≠ 9 ∧ k ≠ 10) := by omega
  clear hk
  rcases hcase with rfl | rfl | rfl | rfl | rfl | rfl | rfl | rfl | rfl | hcase
  case inr.inr.inl =>
    have H := Lib.hid (And.intro hs hb)
    clear hs hb h b7
    simp only [makeM]
    go_enter Try.func54, Try.ntmps54
    go_wp2
    go_ret
    exact ⟨rfl, RS.nil _ _ _, H.out.2⟩
  case inr.inr.inr.inr.inr.inl =>
    have H := Lib.hid (And.intro hs hb)
    clear hs hb h b7
    simp only [makeM]
    go_enter Try.func54, Try.ntmps54
    go_wp2
    go_ret
    exact ⟨rfl, H.out.1, H.out.2⟩
  case inr.inr.inr.inr.inr.inr.inr.inr.inr =>
    obtain ⟨n1, n2, n3, n4, n5, n6, n8, n9, n10⟩ := hcase
    have hM : makeM k a t j c n l (.slice sa xs.length sc) xs = .none := by simp [makeM, n1, n2, n3, n4, n5, n6, n8, n9, n10]
    rw [hM]
    have b1 : (k == 1) = false := by simp [n1]
    have b2 : (k == 2) = false := by simp [n2]
    have b3 : (k == 3) = false := by simp [n3]
    have b4 : (k == 4) = false := by simp [n4]
    have b5 : (k == 5) = false := by simp [n5]
    have b6 : (k == 6) = false := by simp [n6]
    have b8 : (k == 8) = false := by simp [n8]
    have b9 : (k == 9) = false := by simp [n9]
    have b10 : (k == 10) = false := by simp [n10]
    have H := Lib.hid (And.intro hs hb)
    clear hs hb h n1 n2 n3 n4 n5 n6 n8 n9 n10 hM
    go_enter Try.func54, Try.ntmps54
    go_wp2
    go_ret
    exact ⟨rfl, trivial, H.out.2⟩
  all_goals (
    have H := Lib.hid (And.intro hs hb)
    clear hs hb h b7
    simp only [makeM]
    go_enter Try.func54, Try.ntmps54
    go_wp2
    go_ret
    exact ⟨rfl, trivial, H.out.2⟩)
end Go.Proofs.Ytcdjeblcmgghhaa.Asm
