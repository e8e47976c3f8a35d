/- The law's do at a keeper. Conditions: it lies in memory as Sk says. PRINTED BY wip/gen_evdo.py. -/
import Derived.Test.YtniggacgkhkgiaaEvNil
namespace Go.Sp
open Go.RowKit
/-- the keeper behind a call, the span, the error -/
def doK (K : Kp) (o : OpE) : Kp × Spn × Int :=
  if o.k = 1 then writeK K o.t o.s else if o.k = 2 then ({ K with pins := mput o.t () K.pins }, zSpn, 0) else if o.k = 3 then ({ K with pins := mdel o.t K.pins }, zSpn, 0) else if o.k = 4 then (forgetK K o.t, zSpn, 0) else (K, zSpn, 0)
theorem Nums.put {K : Kp} {k : Int} {s : ByteArray} (h : Nums K) (hk : argK k s = true) : Nums (putK K k s) := fun p hp => by
  have hk' : 1 ≤ k ∧ k ≤ 65535 := by
    unfold argK at hk
    simp only [Bool.and_eq_true, decide_eq_true_eq] at hk
    exact ⟨hk.1, hk.2.1⟩
  rcases mem_mput (show p ∈ mput k _ K.M from hp) with rfl | hp
  · exact hk'
  · exact h p hp
theorem Nums.write {K : Kp} {k : Int} {s : ByteArray} (h : Nums K) : Nums (writeK K k s).1 := by
  unfold writeK
  cases ha : argK k s with
  | false => exact h
  | true =>
    cases hasK K.lost k with
    | true => exact h
    | false =>
      cases hasK K.pins k with
      | true => exact h
      | false =>
        simp only [Bool.not_true, cond_false]
        unfold write1
        cases canW K k with
        | true => exact h.put ha
        | false =>
          cases decide (roomE K k = 0) with
          | true => exact (h.room).put ha
          | false => exact h.room
theorem gone_write (K : Kp) (k : Int) (s : ByteArray) : (writeK K k s).1.gone.length ≤ K.gone.length + 1 := by
  have hr := gone_room K k
  unfold writeK
  cases argK k s with
  | false => exact Nat.le_succ _
  | true =>
    cases hasK K.lost k with
    | true => exact Nat.le_succ _
    | false =>
      cases hasK K.pins k with
      | true => exact Nat.le_succ _
      | false =>
        simp only [Bool.not_true, cond_false]
        unfold write1
        cases canW K k with
        | true => exact Nat.le_succ _
        | false =>
          cases decide (roomE K k = 0) with
          | true => exact hr
          | false => exact hr
theorem Nums.doK {K : Kp} (h : Nums K) (o : OpE) : Nums (Sp.doK K o).1 := by
  unfold Sp.doK
  split
  · exact h.write
  split
  · exact h
  split
  · exact h
  split
  · exact fun p hp => h p (mem_mdel.1 hp).1
  · exact h
theorem gone_do (K : Kp) (o : OpE) : (doK K o).1.gone.length ≤ K.gone.length + 1 := by
  unfold doK
  split
  · exact gone_write _ _ _
  split
  · exact Nat.le_succ _
  split
  · exact Nat.le_succ _
  split
  · exact Nat.le_succ _
  · exact Nat.le_succ _
end Go.Sp
namespace Go.Proofs.Ytniggacgkhkgiaa.Ev
open Go.RowKit Go.Sp Msg Pool Hash

set_option maxRecDepth 100000 in
set_option maxHeartbeats 4000000 in
theorem do_any {w0 w : World} {X : Nat → Prop} {kb : Nat} {K : Kp} (o : OpE) (h : Sk w0 w X kb K) (hX : ∀ b, X b → b < w.heap.size) (hn : Nums K) (hg : K.gone.length ≤ 500) (hwf : (Lit.int .i64 o.t).wf = true) :
    Calls Try.prog 47 #[.pointer (some ⟨kb, 0, none⟩), .agg #[.int .i64 o.k, .int .i64 o.t, .string o.s]] w fun e w' => e = .returned (.tuple #[.agg #[.int .i64 (doK K o).2.1.1, .int .i64 (doK K o).2.1.2.1, .string (doK K o).2.1.2.2], .int .i64 (doK K o).2.2]) ∧ Sk w0 w' X kb (doK K o).1 ∧ Only (fun b => w0.heap.size ≤ b ∧ ¬ X b) w w' := by
  obtain ⟨k, t, s⟩ := o
  simp only at hwf ⊢
  have hbw := h.bel
  have hA := below_alloc (below_alloc (Below.refl w.heap.size w) (.cells #[.int .i64 k, .int .i64 t, .string s] 100)) (.cells #[.int .i64 0, .int .i64 0, .string ⟨#[]⟩] 89)
  have hby : ((w.alloc (.cells #[.int .i64 k, .int .i64 t, .string s] 100)).alloc (.cells #[.int .i64 0, .int .i64 0, .string ⟨#[]⟩] 89)).heap[w.heap.size + 1]? = some (.cells #[.int .i64 0, .int .i64 0, .string ⟨#[]⟩] 89 (0, 0)) := heap_new _ _ (by simp)
  have hzz : w.heap.size + 1 < ((w.alloc (.cells #[.int .i64 k, .int .i64 t, .string s] 100)).alloc (.cells #[.int .i64 0, .int .i64 0, .string ⟨#[]⟩] 89)).heap.size := by simp
  have hS := (h.turn (X' := fun b => X b ∨ b = w.heap.size + 1) (fun b hb e => by
    rcases e with e | e
    · exact e
    · omega)).step hA
  have hX' : ∀ b, (X b ∨ b = w.heap.size + 1) → b < ((w.alloc (.cells #[.int .i64 k, .int .i64 t, .string s] 100)).alloc (.cells #[.int .i64 0, .int .i64 0, .string ⟨#[]⟩] 89)).heap.size := fun b e => by
    rcases e with e | e
    · have := hX b e; have := hA.size; omega
    · omega
  obtain ⟨D, hD⟩ : ∃ D, D = doK K ⟨k, t, s⟩ := ⟨_, rfl⟩
  rw [← hD]
  obtain ⟨K2, ⟨x1, x2, x3⟩, err⟩ := D
  simp only
  have hcase : k = 1 ∨ k = 2 ∨ k = 3 ∨ k = 4 ∨ (k ≠ 1 ∧ k ≠ 2 ∧ k ≠ 3 ∧ k ≠ 4) := by omega
  rcases hcase with rfl | rfl | rfl | rfl | ⟨n1, n2, n3, n4⟩
  · have HW := hS.write (k := t) (s := s) (K' := K2) (x := (x1, x2, x3)) (err := err) hX' hn hg (by unfold doK at hD; simpa using hD.symm)
    clear hD hS hX' h
    go_enter Try.func47, Try.ntmps47
    go_wp2_with fail
    generalize ((w.alloc (.cells #[.int .i64 1, .int .i64 t, .string s] 100)).alloc (.cells #[.int .i64 0, .int .i64 0, .string ⟨#[]⟩] 89)) = w1 at hA hby hzz HW ⊢
    refine HW.mono ?_
    rintro e w2 ⟨rfl, hS2, hO2⟩
    clear HW
    have hby2 := hO2.heap hby (fun e => e.2 (.inr rfl))
    have g0 := cell_blk hby2 (j := 0) (u := .int .i64 0) rfl
    have g1 := cell_blk hby2 (j := 1) (u := .int .i64 0) rfl
    have g2 := cell_blk hby2 (j := 2) (u := .string ⟨#[]⟩) rfl
    have f0 := froz_blk hby2 0
    have f1 := froz_blk hby2 1
    have f2 := froz_blk hby2 2
    have hset : Only (· = w.heap.size + 1) w2 (((w2.setCell ⟨w.heap.size + 1, 0, none⟩ (.int .i64 x1)).setCell ⟨w.heap.size + 1, 1, none⟩ (.int .i64 x2)).setCell ⟨w.heap.size + 1, 2, none⟩ (.string x3)) :=
      (((Only.refl (· = w.heap.size + 1) _).setCell (p := ⟨w.heap.size + 1, 0, none⟩) (fun _ => rfl) _).setCell (p := ⟨w.heap.size + 1, 1, none⟩) (fun _ => rfl) _).setCell (p := ⟨w.heap.size + 1, 2, none⟩) (fun _ => rfl) _
    have hS3 := (hS2.only hset (fun b e => ⟨.inr e, by have := hbw.size; omega⟩)).turn (X' := X) (fun b _ e => .inl e)
    have hO3 : Only (fun b => w0.heap.size ≤ b ∧ ¬ X b) w _ := ((only_of_below hA _).trans (hO2.mono fun b _ e => ⟨e.1, fun h => e.2 (.inl h)⟩)).trans' hset (fun i hi e => by omega)
    have hr3 := res3 hby2 (.int .i64 x1) (.int .i64 x2) (.string x3)
    have HF := Lib.hid (And.intro hS3 (And.intro hO3 hr3))
    clear hset hS3 hO3 hr3 hby2 hS2 hO2 hby hA hzz hbw
    go_wp2
    obtain ⟨hS3, hO3, hr3⟩ := HF.out
    have x0 := cell_blk hr3 (j := 0) (u := .int .i64 x1) rfl
    have x1' := cell_blk hr3 (j := 1) (u := .int .i64 x2) rfl
    have x2' := cell_blk hr3 (j := 2) (u := .string x3) rfl
    generalize (((w2.setCell ⟨w.heap.size + 1, 0, none⟩ (.int .i64 x1)).setCell ⟨w.heap.size + 1, 1, none⟩ (.int .i64 x2)).setCell ⟨w.heap.size + 1, 2, none⟩ (.string x3)) = w3 at hS3 hO3 x0 x1' x2' ⊢
    refine bodyPost_ret (by simp [results, Try.results47, go_sem, x0, x1', x2']; try rfl) rfl ?_
    exact ⟨rfl, hS3, hO3⟩
  · have HW := hS.pin (k := t) hX' hwf
    obtain ⟨rfl, e3, rfl⟩ : K2 = { K with pins := mput t () K.pins } ∧ (x1, x2, x3) = zSpn ∧ err = 0 := by
      have := hD
      unfold doK at this
      simpa using this
    cases e3
    clear hD hS hX' h
    go_enter Try.func47, Try.ntmps47
    go_wp2_with fail
    generalize ((w.alloc (.cells #[.int .i64 2, .int .i64 t, .string s] 100)).alloc (.cells #[.int .i64 0, .int .i64 0, .string ⟨#[]⟩] 89)) = w1 at hA hby hzz HW ⊢
    refine HW.mono ?_
    rintro e w2 ⟨rfl, hS2, hO2⟩
    clear HW
    have hby2 := hO2.heap hby (fun e => e.2 (.inr rfl))
    have g0 := cell_blk hby2 (j := 0) (u := .int .i64 0) rfl
    have g1 := cell_blk hby2 (j := 1) (u := .int .i64 0) rfl
    have g2 := cell_blk hby2 (j := 2) (u := .string ⟨#[]⟩) rfl
    have f0 := froz_blk hby2 0
    have f1 := froz_blk hby2 1
    have f2 := froz_blk hby2 2
    have hset : Only (· = w.heap.size + 1) w2 (((w2.setCell ⟨w.heap.size + 1, 0, none⟩ (.int .i64 0)).setCell ⟨w.heap.size + 1, 1, none⟩ (.int .i64 0)).setCell ⟨w.heap.size + 1, 2, none⟩ (.string ⟨#[]⟩)) :=
      (((Only.refl (· = w.heap.size + 1) _).setCell (p := ⟨w.heap.size + 1, 0, none⟩) (fun _ => rfl) _).setCell (p := ⟨w.heap.size + 1, 1, none⟩) (fun _ => rfl) _).setCell (p := ⟨w.heap.size + 1, 2, none⟩) (fun _ => rfl) _
    have hS3 := (hS2.only hset (fun b e => ⟨.inr e, by have := hbw.size; omega⟩)).turn (X' := X) (fun b _ e => .inl e)
    have hO3 : Only (fun b => w0.heap.size ≤ b ∧ ¬ X b) w _ := ((only_of_below hA _).trans (hO2.mono fun b _ e => ⟨e.1, fun h => e.2 (.inl h)⟩)).trans' hset (fun i hi e => by omega)
    have hr3 := res3 hby2 (.int .i64 0) (.int .i64 0) (.string ⟨#[]⟩)
    have HF := Lib.hid (And.intro hS3 (And.intro hO3 hr3))
    clear hset hS3 hO3 hr3 hby2 hS2 hO2 hby hA hzz hbw
    go_wp2
    obtain ⟨hS3, hO3, hr3⟩ := HF.out
    have x0 := cell_blk hr3 (j := 0) (u := .int .i64 0) rfl
    have x1' := cell_blk hr3 (j := 1) (u := .int .i64 0) rfl
    have x2' := cell_blk hr3 (j := 2) (u := .string ⟨#[]⟩) rfl
    generalize (((w2.setCell ⟨w.heap.size + 1, 0, none⟩ (.int .i64 0)).setCell ⟨w.heap.size + 1, 1, none⟩ (.int .i64 0)).setCell ⟨w.heap.size + 1, 2, none⟩ (.string ⟨#[]⟩)) = w3 at hS3 hO3 x0 x1' x2' ⊢
    refine bodyPost_ret (by simp [results, Try.results47, go_sem, x0, x1', x2']; try rfl) rfl ?_
    exact ⟨rfl, hS3, hO3⟩
  · have HW := hS.unpin hX' t
    obtain ⟨rfl, e3, rfl⟩ : K2 = { K with pins := mdel t K.pins } ∧ (x1, x2, x3) = zSpn ∧ err = 0 := by
      have := hD
      unfold doK at this
      simpa using this
    cases e3
    clear hD hS hX' h
    go_enter Try.func47, Try.ntmps47
    go_wp2_with fail
    generalize ((w.alloc (.cells #[.int .i64 3, .int .i64 t, .string s] 100)).alloc (.cells #[.int .i64 0, .int .i64 0, .string ⟨#[]⟩] 89)) = w1 at hA hby hzz HW ⊢
    refine HW.mono ?_
    rintro e w2 ⟨rfl, hS2, hO2⟩
    clear HW
    have hby2 := hO2.heap hby (fun e => e.2 (.inr rfl))
    have g0 := cell_blk hby2 (j := 0) (u := .int .i64 0) rfl
    have g1 := cell_blk hby2 (j := 1) (u := .int .i64 0) rfl
    have g2 := cell_blk hby2 (j := 2) (u := .string ⟨#[]⟩) rfl
    have f0 := froz_blk hby2 0
    have f1 := froz_blk hby2 1
    have f2 := froz_blk hby2 2
    have hset : Only (· = w.heap.size + 1) w2 (((w2.setCell ⟨w.heap.size + 1, 0, none⟩ (.int .i64 0)).setCell ⟨w.heap.size + 1, 1, none⟩ (.int .i64 0)).setCell ⟨w.heap.size + 1, 2, none⟩ (.string ⟨#[]⟩)) :=
      (((Only.refl (· = w.heap.size + 1) _).setCell (p := ⟨w.heap.size + 1, 0, none⟩) (fun _ => rfl) _).setCell (p := ⟨w.heap.size + 1, 1, none⟩) (fun _ => rfl) _).setCell (p := ⟨w.heap.size + 1, 2, none⟩) (fun _ => rfl) _
    have hS3 := (hS2.only hset (fun b e => ⟨.inr e, by have := hbw.size; omega⟩)).turn (X' := X) (fun b _ e => .inl e)
    have hO3 : Only (fun b => w0.heap.size ≤ b ∧ ¬ X b) w _ := ((only_of_below hA _).trans (hO2.mono fun b _ e => ⟨e.1, fun h => e.2 (.inl h)⟩)).trans' hset (fun i hi e => by omega)
    have hr3 := res3 hby2 (.int .i64 0) (.int .i64 0) (.string ⟨#[]⟩)
    have HF := Lib.hid (And.intro hS3 (And.intro hO3 hr3))
    clear hset hS3 hO3 hr3 hby2 hS2 hO2 hby hA hzz hbw
    go_wp2
    obtain ⟨hS3, hO3, hr3⟩ := HF.out
    have x0 := cell_blk hr3 (j := 0) (u := .int .i64 0) rfl
    have x1' := cell_blk hr3 (j := 1) (u := .int .i64 0) rfl
    have x2' := cell_blk hr3 (j := 2) (u := .string ⟨#[]⟩) rfl
    generalize (((w2.setCell ⟨w.heap.size + 1, 0, none⟩ (.int .i64 0)).setCell ⟨w.heap.size + 1, 1, none⟩ (.int .i64 0)).setCell ⟨w.heap.size + 1, 2, none⟩ (.string ⟨#[]⟩)) = w3 at hS3 hO3 x0 x1' x2' ⊢
    refine bodyPost_ret (by simp [results, Try.results47, go_sem, x0, x1', x2']; try rfl) rfl ?_
    exact ⟨rfl, hS3, hO3⟩
  · have HW := hS.forget hX' t
    obtain ⟨rfl, e3, rfl⟩ : K2 = forgetK K t ∧ (x1, x2, x3) = zSpn ∧ err = 0 := by
      have := hD
      unfold doK at this
      simpa using this
    cases e3
    clear hD hS hX' h
    go_enter Try.func47, Try.ntmps47
    go_wp2_with fail
    generalize ((w.alloc (.cells #[.int .i64 4, .int .i64 t, .string s] 100)).alloc (.cells #[.int .i64 0, .int .i64 0, .string ⟨#[]⟩] 89)) = w1 at hA hby hzz HW ⊢
    refine HW.mono ?_
    rintro e w2 ⟨rfl, hS2, hO2⟩
    clear HW
    have hby2 := hO2.heap hby (fun e => e.2 (.inr rfl))
    have g0 := cell_blk hby2 (j := 0) (u := .int .i64 0) rfl
    have g1 := cell_blk hby2 (j := 1) (u := .int .i64 0) rfl
    have g2 := cell_blk hby2 (j := 2) (u := .string ⟨#[]⟩) rfl
    have f0 := froz_blk hby2 0
    have f1 := froz_blk hby2 1
    have f2 := froz_blk hby2 2
    have hset : Only (· = w.heap.size + 1) w2 (((w2.setCell ⟨w.heap.size + 1, 0, none⟩ (.int .i64 0)).setCell ⟨w.heap.size + 1, 1, none⟩ (.int .i64 0)).setCell ⟨w.heap.size + 1, 2, none⟩ (.string ⟨#[]⟩)) :=
      (((Only.refl (· = w.heap.size + 1) _).setCell (p := ⟨w.heap.size + 1, 0, none⟩) (fun _ => rfl) _).setCell (p := ⟨w.heap.size + 1, 1, none⟩) (fun _ => rfl) _).setCell (p := ⟨w.heap.size + 1, 2, none⟩) (fun _ => rfl) _
    have hS3 := (hS2.only hset (fun b e => ⟨.inr e, by have := hbw.size; omega⟩)).turn (X' := X) (fun b _ e => .inl e)
    have hO3 : Only (fun b => w0.heap.size ≤ b ∧ ¬ X b) w _ := ((only_of_below hA _).trans (hO2.mono fun b _ e => ⟨e.1, fun h => e.2 (.inl h)⟩)).trans' hset (fun i hi e => by omega)
    have hr3 := res3 hby2 (.int .i64 0) (.int .i64 0) (.string ⟨#[]⟩)
    have HF := Lib.hid (And.intro hS3 (And.intro hO3 hr3))
    clear hset hS3 hO3 hr3 hby2 hS2 hO2 hby hA hzz hbw
    go_wp2
    obtain ⟨hS3, hO3, hr3⟩ := HF.out
    have x0 := cell_blk hr3 (j := 0) (u := .int .i64 0) rfl
    have x1' := cell_blk hr3 (j := 1) (u := .int .i64 0) rfl
    have x2' := cell_blk hr3 (j := 2) (u := .string ⟨#[]⟩) rfl
    generalize (((w2.setCell ⟨w.heap.size + 1, 0, none⟩ (.int .i64 0)).setCell ⟨w.heap.size + 1, 1, none⟩ (.int .i64 0)).setCell ⟨w.heap.size + 1, 2, none⟩ (.string ⟨#[]⟩)) = w3 at hS3 hO3 x0 x1' x2' ⊢
    refine bodyPost_ret (by simp [results, Try.results47, go_sem, x0, x1', x2']; try rfl) rfl ?_
    exact ⟨rfl, hS3, hO3⟩
  · have b1 : (k == 1) = false := by simp [n1]
    have b2 : (k == 2) = false := by simp [n2]
    have b3 : (k == 3) = false := by simp [n3]
    have b4 : (k == 4) = false := by simp [n4]
    obtain ⟨rfl, e3, rfl⟩ : K2 = K ∧ (x1, x2, x3) = zSpn ∧ err = 0 := by
      have := hD
      unfold doK at this
      rw [if_neg n1, if_neg n2, if_neg n3, if_neg n4] at this
      simpa using this
    cases e3
    have hE0 := cell_blk hby (j := 0) (u := .int .i64 0) rfl
    have hE1 := cell_blk hby (j := 1) (u := .int .i64 0) rfl
    have hE2 := cell_blk hby (j := 2) (u := .string ⟨#[]⟩) rfl
    have f0 := froz_blk hby 0
    have f1 := froz_blk hby 1
    have f2 := froz_blk hby 2
    have HF := Lib.hid (And.intro (hS.turn (X' := X) (fun b _ e => .inl e)) (only_of_below hA (fun b => w0.heap.size ≤ b ∧ ¬ X b)))
    clear n1 n2 n3 n4 hD hS hX' h hby hA hzz
    go_enter Try.func47, Try.ntmps47
    go_wp2
    refine bodyPost_ret (by simp [results, Try.results47, go_sem, hE0, hE1, hE2]; try rfl) rfl ?_
    exact ⟨rfl, HF.out.1, HF.out.2⟩
end Go.Proofs.Ytniggacgkhkgiaa.Ev
