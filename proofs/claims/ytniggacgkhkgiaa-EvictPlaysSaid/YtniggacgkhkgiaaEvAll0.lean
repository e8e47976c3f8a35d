/- EvictAll in plain words: what is written of a trace that isn't lost is what the keeper has of it. No condition beyond those each lemma names. -/
import Derived.Test.YtniggacgkhkgiaaEvDo
namespace Go.Sp
open Go.RowKit
/-- what was written is what there is, but of lost ones -/
def WrOk (K : Kp) (W : List (Int × List Spn)) : Prop := ∀ t, hasK K.lost t = false → lgetA t K.M = lgetA t W
theorem hasK_put (m : List (Int × Unit)) (k j : Int) : hasK (mput k () m) j = (decide (j = k) || hasK m j) := by
  unfold hasK; rw [mget_mput]
  by_cases h : j = k <;> simp [h]
theorem hasK_del (m : List (Int × Unit)) (k j : Int) : hasK (mdel k m) j = (!decide (j = k) && hasK m j) := by
  unfold hasK; rw [mget_mdel]
  by_cases h : j = k <;> simp [h]
theorem lgetA_put {α : Type} (m : List (Int × List α)) (k j : Int) (v : List α) : lgetA j (mput k v m) = if j = k then v else lgetA j m := by
  unfold lgetA; rw [mget_mput]
  by_cases h : j = k <;> simp [h]
theorem lgetA_del {α : Type} (m : List (Int × List α)) (k j : Int) : lgetA j (mdel k m) = if j = k then [] else lgetA j m := by
  unfold lgetA; rw [mget_mdel]
  by_cases h : j = k <;> simp [h]
/-- what the law writes down behind a call -/
def wrNext (W : List (Int × List Spn)) (o : OpE) (x : Spn) (err : Int) : List (Int × List Spn) :=
  bif decide (o.k = 1) && decide (err = 0) then mput o.t (lgetA o.t W ++ [x]) W else bif decide (o.k = 4) then mdel o.t W else W
theorem WrOk.room {K : Kp} {W : List (Int × List Spn)} (h : WrOk K W) (k : Int) : WrOk (roomK K k) W := fun t ht => by
  unfold roomK at ht ⊢
  cases hm : (mayK K).isEmpty with
  | true =>
    rw [hm] at ht
    simp only [cond_true] at ht ⊢
    rw [hasK_put] at ht
    simp only [Bool.or_eq_false_iff] at ht
    exact h t ht.2
  | false =>
    rw [hm] at ht
    simp only [cond_false] at ht ⊢
    rw [hasK_put] at ht
    simp only [Bool.or_eq_false_iff, decide_eq_false_iff_not] at ht
    rw [lgetA_del, if_neg ht.1]
    exact h t ht.2
theorem WrOk.put {K : Kp} {W : List (Int × List Spn)} (h : WrOk K W) {k : Int} (s : ByteArray) (hk : hasK K.lost k = false) : WrOk (putK K k s) (mput k (lgetA k W ++ [spnK K k s]) W) := fun t ht => by
  have ht' : hasK K.lost t = false := ht
  show lgetA t (mput k (lgetA k K.M ++ [spnK K k s]) K.M) = _
  rw [lgetA_put, lgetA_put, h k hk]
  by_cases e : t = k
  · rw [if_pos e, if_pos e]
  · rw [if_neg e, if_neg e]; exact h t ht'
theorem lost_room {K : Kp} {k : Int} (h : hasK K.lost k = false) (hr : roomE K k = 0) : hasK (roomK K k).lost k = false := by
  obtain ⟨hm, hne⟩ := roomE_may hr
  unfold roomK
  rw [hm]
  simp only [cond_false]
  rw [hasK_put, h, decide_eq_false (fun e => hne e.symm)]
  rfl
/-- a lost trace's write is refused -/
theorem write_lost {K : Kp} {k : Int} {s : ByteArray} (h : hasK K.lost k = true) : (writeK K k s).2.2 ≠ 0 := by
  unfold writeK
  cases argK k s with
  | false => simp
  | true => rw [h]; simp
theorem WrOk.next {K : Kp} {W : List (Int × List Spn)} (h : WrOk K W) (o : OpE) : WrOk (doK K o).1 (wrNext W o (doK K o).2.1 (doK K o).2.2) := by
  by_cases h1 : o.k = 1
  · have hd : doK K o = writeK K o.t o.s := by unfold doK; rw [if_pos h1]
    rw [hd]
    have hw : ∀ x e, e ≠ (0 : Int) → wrNext W o x e = W := fun x e he => by unfold wrNext; rw [decide_eq_true h1, decide_eq_false he, decide_eq_false (by omega)]; rfl
    have hw0 : ∀ x, wrNext W o x 0 = mput o.t (lgetA o.t W ++ [x]) W := fun x => by unfold wrNext; rw [decide_eq_true h1]; rfl
    unfold writeK
    cases argK o.t o.s with
    | false => simp only [Bool.not_false, cond_true]; rw [hw _ _ (by omega)]; exact h
    | true =>
      simp only [Bool.not_true, cond_false]
      cases hl : hasK K.lost o.t with
      | true => simp only [cond_true]; rw [hw _ _ (by omega)]; exact h
      | false =>
        simp only [cond_false]
        cases hasK K.pins o.t with
        | true => simp only [cond_true]; rw [hw _ _ (by omega)]; exact h
        | false =>
          simp only [cond_false]
          unfold write1
          cases canW K o.t with
          | true => simp only [cond_true]; rw [hw0]; exact h.put o.s hl
          | false =>
            simp only [cond_false]
            cases hr : decide (roomE K o.t = 0) with
            | true =>
              simp only [cond_true]
              rw [hw0]
              exact (h.room o.t).put o.s (lost_room hl (of_decide_eq_true hr))
            | false =>
              simp only [cond_false]
              rw [hw _ _ (of_decide_eq_false hr)]
              exact h.room o.t
  · have hw : ∀ x e, wrNext W o x e = bif decide (o.k = 4) then mdel o.t W else W := fun x e => by unfold wrNext; rw [decide_eq_false h1]; rfl
    rw [hw]
    unfold doK
    rw [if_neg h1]
    by_cases h2 : o.k = 2
    · rw [if_pos h2, decide_eq_false (by omega)]; exact h
    rw [if_neg h2]
    by_cases h3 : o.k = 3
    · rw [if_pos h3, decide_eq_false (by omega)]; exact h
    rw [if_neg h3]
    by_cases h4 : o.k = 4
    · rw [if_pos h4, decide_eq_true h4]
      intro t ht
      show lgetA t (mdel o.t K.M) = lgetA t (mdel o.t W)
      have ht' : hasK (mdel o.t K.lost) t = false := ht
      rw [hasK_del] at ht'
      rw [lgetA_del, lgetA_del]
      by_cases e : t = o.t
      · rw [if_pos e, if_pos e]
      · rw [if_neg e, if_neg e]
        rw [decide_eq_false e] at ht'
        exact h t (by simpa using ht')
    · rw [if_neg h4, decide_eq_false h4]; exact h
def fewEO (o : OpE) : Bool := decide ((o.s.size : Int) ≤ 100)
def fewE (os : List OpE) : Bool := (os.all fewEO) && decide (os.length ≤ 200)
end Go.Sp
namespace Go.Proofs.Ytniggacgkhkgiaa.Ev
open Go.RowKit Go.Sp Msg Pool Hash

set_option maxRecDepth 100000 in
set_option maxHeartbeats 2000000 in
theorem fewE_any {w : World} {v : Value} {os : List OpE} (h : RS w 3 eOpE v os) : Calls Try.prog 45 #[v] w fun e w' => e = .returned (.bool (fewE os)) ∧ Below w.heap.size w w' := by
  have hl := h.1
  unfold maxLen at hl
  obtain ⟨_, a, c, rfl, _⟩ := id h
  go_enter Try.func45, Try.ntmps45
  go_wp2
  go_loopw [7] (fun i wr => ∃ q : Nat, q ≤ os.length ∧ i = .int .i64 q ∧ Below w.heap.size w wr ∧ (os.take q).all fewEO = true) (fun i _ => os.length - (intOf i).toNat)
  case atStart => exact ⟨0, Nat.zero_le _, rfl, Below.refl _ _, rfl⟩
  case round =>
    obtain ⟨q, hq, rfl, hb, hJ⟩ := hrel
    by_cases hqN : q < os.length
    · obtain ⟨_, a', c', hv, h2⟩ := h.only (only_of_below hb (fun _ => False)) (fun _ _ => id)
      obtain ⟨b0, o0, ha, hb0, hcl⟩ := h2 (by omega)
      simp only [Value.slice.injEq] at hv
      obtain ⟨rfl, _, rfl⟩ := hv
      subst ha
      obtain ⟨x, hx⟩ : ∃ x, os[q]? = some x := ⟨_, List.getElem?_eq_getElem hqN⟩
      have hT : (os.take (q + 1)).all fewEO = fewEO x := by rw [List.take_add_one, hx, List.all_append, hJ]; simp
      have hM : fewEO x = false → fewE os = false := fun e => by
        unfold fewE
        have : os.all fewEO = false := by rw [List.all_eq_false]; exact ⟨_, List.mem_of_getElem? hx, by simpa using e⟩
        rw [this]; rfl
      have g0 := hcl q x 0 _ hx rfl
      have g1 := hcl q x 1 _ hx rfl
      have g2 := hcl q x 2 _ hx rfl
      rw [← Nat.add_assoc] at g0 g1 g2
      rw [Nat.add_zero] at g0
      obtain ⟨k, t, s⟩ := x
      simp only at g0 g1 g2
      have HT := Lib.hid hT
      have HM := Lib.hid hM
      have hfe : fewEO ⟨k, t, s⟩ = decide ((s.size : Int) ≤ 100) := rfl
      have HFE := Lib.hid hfe
      have hA := below_alloc (Below.refl wr.heap.size wr) (.cells #[.int .i64 k, .int .i64 t, .string s] 100)
      have hb2 := below_trans' hA hb
      clear hcl hx hT hM hJ h2 hfe hA
      by_cases hz : (s.size : Int) ≤ 100
      · have b1 : decide (100 < (s.size : Int)) = false := decide_eq_false (by omega)
        have b2 : decide (100 < s.size) = false := decide_eq_false (by omega)
        go_wp2
        exact ⟨⟨q + 1, by omega, by go_num, hb2, by rw [HT.out, HFE.out, decide_eq_true hz]⟩, by simp [intOf] <;> omega⟩
      · have b1 : decide (100 < (s.size : Int)) = true := decide_eq_true (by omega)
        have b2 : decide (100 < s.size) = true := decide_eq_true (by omega)
        go_wp2
        go_ret
        exact ⟨by rw [HM.out (by rw [HFE.out, decide_eq_false (by omega)])]; rfl, hb2⟩
    · have hqe : q = os.length := by omega
      subst hqe
      rw [List.take_length] at hJ
      have HJ := Lib.hid (show fewE os = decide (os.length ≤ 200) by unfold fewE; rw [hJ]; rfl)
      clear hJ h
      by_cases hz : os.length ≤ 200
      · have b1 : decide ((os.length : Int) ≤ 200) = true := decide_eq_true (by omega)
        go_wp2
        go_ret
        exact ⟨by rw [HJ.out, decide_eq_true hz]; rfl, hb⟩
      · have b1 : decide ((os.length : Int) ≤ 200) = false := decide_eq_false (by omega)
        go_wp2
        go_ret
        exact ⟨by rw [HJ.out, decide_eq_false hz]; rfl, hb⟩
end Go.Proofs.Ytniggacgkhkgiaa.Ev
