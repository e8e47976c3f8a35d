/- The answers that the document fixes for evict (awake of law 07). No condition. -/
import Derived.Test.YtniggacgkhkgiaaEv4
import Derived.Test.YtniggacgkhkgiaaHash2
namespace Go.Sp
open Go.RowKit
def kA0 : Kp := newK 1 5
def kA1 : Kp := ⟨1, 5, [(2, [(2, 1, ⟨#[120]⟩)])], [], [], []⟩
def kA2 : Kp := ⟨1, 5, [(1, [(1, 1, ⟨#[121]⟩)])], [], [(2, ())], [2]⟩
def kA3 : Kp := ⟨1, 5, [(1, [(1, 1, ⟨#[121]⟩)])], [(1, ())], [(2, ())], [2]⟩
def kA4 : Kp := ⟨1, 5, [(1, [(1, 1, ⟨#[121]⟩)])], [(1, ())], [(2, ()), (9, ())], [2]⟩
theorem aL : leastP 5 [1, 2] = 2 := by kernel_rfl
theorem a01 : writeK kA0 2 ⟨#[120]⟩ = (kA1, (2, 1, ⟨#[120]⟩), 0) := by kernel_rfl
theorem a12 : writeK kA1 1 ⟨#[121]⟩ = (kA2, (1, 1, ⟨#[121]⟩), 0) := by kernel_rfl
theorem a22 : writeK kA2 2 ⟨#[122]⟩ = (kA2, (0, 0, ⟨#[]⟩), 10) := by kernel_rfl
theorem a33 : writeK kA3 1 ⟨#[121]⟩ = (kA3, (0, 0, ⟨#[]⟩), 12) := by kernel_rfl
theorem a34 : writeK kA3 9 ⟨#[121]⟩ = (kA4, (0, 0, ⟨#[]⟩), 6) := by kernel_rfl
theorem numsA (N : Nat) (s : Int) (k : Int) (l : List Spn) (p q : List (Int × Unit)) (g : List Int) (h : 1 ≤ k ∧ k ≤ 65535) : Nums ⟨N, s, [(k, l)], p, q, g⟩ := fun x hx => by
  simp only [List.mem_singleton] at hx
  subst hx; exact h
theorem nums0 (N : Nat) (s : Int) (p q : List (Int × Unit)) (g : List Int) : Nums ⟨N, s, [], p, q, g⟩ := fun x hx => by simp at hx
end Go.Sp
namespace Go.Proofs.Ytniggacgkhkgiaa.Ev
open Go.RowKit Go.Sp Msg Pool Hash

/-- a keeper made since w0, none of its blocks in X -/
def Sk (w0 w : World) (X : Nat → Prop) (kb : Nat) (K : Kp) : Prop := ∃ R, KpR w R kb K ∧ (∀ b, R b → w0.heap.size ≤ b ∧ ¬ X b) ∧ Below w0.heap.size w0 w
section
variable {w0 w w' : World} {X X' : Nat → Prop} {kb : Nat} {K K' : Kp} {k : Int} {s : ByteArray}
theorem Sk.bel (h : Sk w0 w X kb K) : Below w0.heap.size w0 w := by
  obtain ⟨_, _, _, h⟩ := h
  exact h
theorem Sk.step (h : Sk w0 w X kb K) (o : Below w.heap.size w w') : Sk w0 w' X kb K := by
  obtain ⟨R, h, hR, hb⟩ := h
  exact ⟨R, h.below o, hR, hb.trans (o.mono hb.size)⟩
theorem Sk.only (h : Sk w0 w X kb K) {F : Nat → Prop} (o : Only F w w') (hF : ∀ b, F b → X b ∧ w0.heap.size ≤ b) : Sk w0 w' X kb K := by
  obtain ⟨R, h, hR, hb⟩ := h
  exact ⟨R, h.only o (fun b hb' hf => (hR b hb').2 (hF b hf).1), hR, hb.trans (o.below hb.size fun i hi e => by have := (hF i e).2; omega)⟩
theorem Sk.turn (h : Sk w0 w X kb K) (hX : ∀ b, b < w.heap.size → X' b → X b) : Sk w0 w X' kb K := by
  obtain ⟨R, h, hR, hb⟩ := h
  exact ⟨R, h, fun b hb => ⟨(hR b hb).1, fun e => (hR b hb).2 (hX b (h.lt b hb) e)⟩, hb⟩
theorem skOut {R : Nat → Prop} (hR : ∀ b, R b → w0.heap.size ≤ b ∧ ¬ X b) (hb : Below w0.heap.size w0 w) (hX : ∀ b, X b → b < w.heap.size) (h : KOut w R kb K' w') : Sk w0 w' X kb K' ∧ Only (fun b => w0.heap.size ≤ b ∧ ¬ X b) w w' := by
  obtain ⟨R', h1, hR', hO⟩ := h
  refine ⟨⟨R', h1, fun b hb' => ?_, hb.trans (hO.below hb.size fun i hi e => by have := (hR i e).1; omega)⟩, hO.mono fun b _ hb => hR b hb⟩
  rcases hR' b hb' with e | e
  · exact hR b e
  · exact ⟨Nat.le_trans hb.size e, fun h => by have := hX b h; omega⟩
theorem Sk.write {x : Spn} {err : Int} (h : Sk w0 w X kb K) (hX : ∀ b, X b → b < w.heap.size) (hn : Nums K) (hg : K.gone.length ≤ 500) (hw : writeK K k s = (K', x, err)) :
    Calls Try.prog 39 #[.pointer (some ⟨kb, 0, none⟩), .int .i64 k, .string s] w fun e w' => e = .returned (.tuple #[.agg #[.int .i64 x.1, .int .i64 x.2.1, .string x.2.2], .int .i64 err]) ∧ Sk w0 w' X kb K' ∧ Only (fun b => w0.heap.size ≤ b ∧ ¬ X b) w w' := by
  obtain ⟨R, h1, hR, hb⟩ := h
  have := write_any (k := k) (s := s) h1 hn hg
  rw [hw] at this
  exact this.mono fun e w' ⟨g1, g2⟩ => ⟨g1, skOut hR hb hX g2⟩
theorem Sk.pin (h : Sk w0 w X kb K) (hX : ∀ b, X b → b < w.heap.size) (hk : (Lit.int .i64 k).wf = true) : Calls Try.prog 40 #[.pointer (some ⟨kb, 0, none⟩), .int .i64 k] w fun e w' => e = .returned (.tuple #[]) ∧ Sk w0 w' X kb { K with pins := mput k () K.pins } ∧ Only (fun b => w0.heap.size ≤ b ∧ ¬ X b) w w' := by
  obtain ⟨R, h1, hR, hb⟩ := h
  exact (pin_any h1 hk).mono fun e w' ⟨g1, g2⟩ => ⟨g1, skOut hR hb hX g2⟩
theorem Sk.unpin (h : Sk w0 w X kb K) (hX : ∀ b, X b → b < w.heap.size) (k : Int) : Calls Try.prog 99 #[.pointer (some ⟨kb, 0, none⟩), .int .i64 k] w fun e w' => e = .returned (.tuple #[]) ∧ Sk w0 w' X kb { K with pins := mdel k K.pins } ∧ Only (fun b => w0.heap.size ≤ b ∧ ¬ X b) w w' := by
  obtain ⟨R, h1, hR, hb⟩ := h
  exact (unpin_any h1 k).mono fun e w' ⟨g1, g2⟩ => ⟨g1, skOut hR hb hX g2⟩
theorem Sk.forget (h : Sk w0 w X kb K) (hX : ∀ b, X b → b < w.heap.size) (k : Int) : Calls Try.prog 100 #[.pointer (some ⟨kb, 0, none⟩), .int .i64 k] w fun e w' => e = .returned (.tuple #[]) ∧ Sk w0 w' X kb (forgetK K k) ∧ Only (fun b => w0.heap.size ≤ b ∧ ¬ X b) w w' := by
  obtain ⟨R, h1, hR, hb⟩ := h
  exact (forget_any h1 k).mono fun e w' ⟨g1, g2⟩ => ⟨g1, skOut hR hb hX g2⟩
theorem Sk.pinned (h : Sk w0 w X kb K) (k : Int) : Calls Try.prog 52 #[.pointer (some ⟨kb, 0, none⟩), .int .i64 k] w fun e w' => e = .returned (.bool (hasK K.pins k)) ∧ w = w' := by
  obtain ⟨R, h1, hR, hb⟩ := h
  exact pinned_any h1 k
theorem Sk.lost (h : Sk w0 w X kb K) (k : Int) : Calls Try.prog 41 #[.pointer (some ⟨kb, 0, none⟩), .int .i64 k] w fun e w' => e = .returned (.bool (hasK K.lost k)) ∧ w = w' := by
  obtain ⟨R, h1, hR, hb⟩ := h
  exact lost_any h1 k
theorem Sk.spans (h : Sk w0 w X kb K) (k : Int) : Calls Try.prog 55 #[.pointer (some ⟨kb, 0, none⟩), .int .i64 k] w fun e w' => (∃ v, e = .returned v ∧ SL w'.heap 89 3 v (lgetA k K.M).length ((lgetA k K.M).flatMap eSpn) ∧ (∀ g, v.ownBlock = some g → w.heap.size ≤ g)) ∧ Below w.heap.size w w' := by
  obtain ⟨R, h1, hR, hb⟩ := h
  exact (spans_any h1 k).mono fun e w' ⟨v, g1, g2, g3, g4⟩ => ⟨⟨v, g1, g2, g3⟩, g4⟩
theorem Sk.traces (h : Sk w0 w X kb K) : Calls Try.prog 44 #[.pointer (some ⟨kb, 0, none⟩)] w fun e w' => (∃ v, e = .returned v ∧ RS w' 1 eInt v (K.M.map Prod.fst) ∧ (∀ g, v.ownBlock = some g → w.heap.size ≤ g)) ∧ Below w.heap.size w w' := by
  obtain ⟨R, h1, hR, hb⟩ := h
  exact (traces_any h1).mono fun e w' ⟨v, g1, g2, g3, g4⟩ => ⟨⟨v, g1, g2, g3⟩, g4⟩
theorem Sk.used (h : Sk w0 w X kb K) : Calls Try.prog 43 #[.pointer (some ⟨kb, 0, none⟩)] w fun e w' => e = .returned (.int .i64 (usedM K.M)) ∧ Below w.heap.size w w' := by
  obtain ⟨R, h1, hR, hb⟩ := h
  exact used_any h1
theorem Sk.evicted (h : Sk w0 w X kb K) (hl : K.gone.length ≤ 1000) : Calls Try.prog 42 #[.pointer (some ⟨kb, 0, none⟩)] w fun e w' => (∃ v, e = .returned v ∧ RS w' 1 eInt v K.gone ∧ (∀ g, v.ownBlock = some g → w.heap.size ≤ g)) ∧ Below w.heap.size w w' := by
  obtain ⟨R, h1, hR, hb⟩ := h
  exact (evicted_any h1 hl).mono fun e w' ⟨v, g1, g2, g3, g4⟩ => ⟨⟨v, g1, g2, g3⟩, g4⟩
theorem Sk.inv (h : Sk w0 w X kb K) : KS K.M ∧ (∀ p ∈ K.M, p.2 ≠ []) ∧ usedM K.M ≤ K.N ∧ (∀ k, (lgetA k K.M).length ≤ 48) ∧ 1 ≤ K.N ∧ K.N ≤ 16 ∧ K.M.length ≤ 16 := by
  obtain ⟨R, h1, hR, hb⟩ := h
  exact h1.inv
theorem Sk.new (w : World) {n : Nat} (sd : Int) (h1 : 1 ≤ n) (h16 : n ≤ 16) : Calls Try.prog 37 #[.int .i64 n, .int .u64 sd] w fun e w' => ∃ kb, e = .returned (.tuple #[.pointer (some ⟨kb, 0, none⟩), .int .i64 0]) ∧ Sk w w' (fun _ => False) kb (newK n sd) ∧ Below w.heap.size w w' :=
  (new_yes w sd h1 h16).mono fun e w' ⟨kb, R, g1, g2, g3, g4⟩ => ⟨kb, g1, ⟨R, g2, fun b hb => ⟨g3 b hb, fun h => h⟩, g4⟩, g4⟩
end

set_option maxRecDepth 100000 in
set_option maxHeartbeats 4000000 in
theorem awake_any (w : World) : Calls Try.prog 38 #[] w fun e w' => e = .returned (.bool true) ∧ Below w.heap.size w w' := by
  go_enter Try.func38, Try.ntmps38
  go_wp2_with fail
  refine (Sk.new w (n := 1) 5 (by omega) (by omega)).mono ?_
  rintro e w1 ⟨kb, rfl, hS1, _⟩
  change Sk w w1 _ kb kA0 at hS1
  go_wp2_with fail
  refine (new_no _ 5 (by omega)).mono ?_
  rintro e w2 ⟨rfl, rfl⟩
  have hA3 := below_alloc (Below.refl w1.heap.size w1) (.cells #[.int .i64 1, .int .i64 2] 3)
  have hrs := rs_lits (enc := eInt) (size := 1) (fun _ => rfl) w1 [1, 2] 3 (by unfold maxLen; simp) (b := w1.heap.size) (cap := 2) rfl
  have HL := refleast_any (s := 5) hrs (fun x hx => by simp at hx; omega)
  rw [aL] at HL
  have hS3 := hS1.step hA3
  clear hS1 hrs hA3
  go_wp2_with fail
  refine HL.mono ?_
  rintro e w4 ⟨rfl, hb4⟩
  have hS4 := hS3.step hb4
  clear HL hS3 hb4
  go_wp2_with fail
  refine (hS4.write (fun b h => h.elim) (nums0 _ _ _ _ _) (by simp [kA0, newK]) a01).mono ?_
  rintro e w5 ⟨rfl, hS5, _⟩
  have hS6 := hS5.step (below_alloc (Below.refl w5.heap.size w5) (.cells #[.int .i64 2, .int .i64 1, .string ⟨#[120]⟩] 89))
  clear hS4 hS5
  go_wp2_with fail
  generalize (w5.alloc (.cells #[.int .i64 2, .int .i64 1, .string ⟨#[120]⟩] 89)) = w6 at hS6 ⊢
  refine (hS6.write (fun b h => h.elim) (numsA _ _ _ _ _ _ _ (by omega)) (by simp [kA1]) a12).mono ?_
  rintro e w7 ⟨rfl, hS7, _⟩
  have hA8 := below_alloc (Below.refl w7.heap.size w7) (.cells #[.int .i64 1, .int .i64 1, .string ⟨#[121]⟩] 89)
  have hbx8 := heap_new w7 (.cells #[.int .i64 1, .int .i64 1, .string ⟨#[121]⟩] 89) rfl
  have hz8 : w7.heap.size < (w7.alloc (.cells #[.int .i64 1, .int .i64 1, .string ⟨#[121]⟩] 89)).heap.size := by simp
  have hS8 := (hS7.turn (X' := fun b => b = w7.heap.size) (fun b hb e => by omega)).step hA8
  clear hS6 hS7 hA8
  go_wp2_with fail
  generalize (w7.alloc (.cells #[.int .i64 1, .int .i64 1, .string ⟨#[121]⟩] 89)) = w8 at hS8 hbx8 hz8 ⊢
  generalize w7.heap.size = xb at hS8 hbx8 hz8 ⊢
  refine (hS8.write (fun b h => by rw [h]; exact hz8) (numsA _ _ _ _ _ _ _ (by omega)) (by simp [kA2]) a22).mono ?_
  rintro e w9 ⟨rfl, hS9, hO9⟩
  have hbx9 := hO9.heap hbx8 (fun e => e.2 rfl)
  have hA10 := below_alloc (Below.refl w9.heap.size w9) (.cells #[.int .i64 0, .int .i64 0, .string ⟨#[]⟩] 89)
  have hbx10 := (hA10.block _ (Array.getElem?_eq_some_iff.1 hbx9).1).trans hbx9
  have hS10 := hS9.step hA10
  clear hS8 hbx8 hz8 hS9 hO9 hbx9 hA10
  go_wp2_with fail
  generalize (w9.alloc (.cells #[.int .i64 0, .int .i64 0, .string ⟨#[]⟩] 89)) = w10 at hS10 hbx10 ⊢
  refine (hS10.pin (k := 1) (fun b h => by rw [h]; exact (Array.getElem?_eq_some_iff.1 hbx10).1) (by decide)).mono ?_
  rintro e w11 ⟨rfl, hS11, hO11⟩
  change Sk w w11 _ kb kA3 at hS11
  have hbx11 := hO11.heap hbx10 (fun e => e.2 rfl)
  clear hS10 hbx10 hO11
  go_wp2_with fail
  refine (hS11.write (fun b h => by rw [h]; exact (Array.getElem?_eq_some_iff.1 hbx11).1) (numsA _ _ _ _ _ _ _ (by omega)) (by simp [kA3]) a33).mono ?_
  rintro e w12 ⟨rfl, hS12, hO12⟩
  have hbx12 := hO12.heap hbx11 (fun e => e.2 rfl)
  have hA13 := below_alloc (Below.refl w12.heap.size w12) (.cells #[.int .i64 0, .int .i64 0, .string ⟨#[]⟩] 89)
  have hbx13 := (hA13.block _ (Array.getElem?_eq_some_iff.1 hbx12).1).trans hbx12
  have hS13 := hS12.step hA13
  clear hS11 hbx11 hO12 hS12 hbx12 hA13
  go_wp2_with fail
  generalize (w12.alloc (.cells #[.int .i64 0, .int .i64 0, .string ⟨#[]⟩] 89)) = w13 at hS13 hbx13 ⊢
  refine (hS13.write (fun b h => by rw [h]; exact (Array.getElem?_eq_some_iff.1 hbx13).1) (numsA _ _ _ _ _ _ _ (by omega)) (by simp [kA3]) a34).mono ?_
  rintro e w14 ⟨rfl, hS14, hO14⟩
  have hbx14 := hO14.heap hbx13 (fun e => e.2 rfl)
  have hA15 := below_alloc (Below.refl w14.heap.size w14) (.cells #[.int .i64 0, .int .i64 0, .string ⟨#[]⟩] 89)
  have hbx15 := (hA15.block _ (Array.getElem?_eq_some_iff.1 hbx14).1).trans hbx14
  have hS15 := hS14.step hA15
  clear hS13 hbx13 hO14 hS14 hbx14 hA15
  go_wp2_with fail
  generalize (w14.alloc (.cells #[.int .i64 0, .int .i64 0, .string ⟨#[]⟩] 89)) = w15 at hS15 hbx15 ⊢
  refine (hS15.evicted (by simp [kA4])).mono ?_
  rintro e w16 ⟨⟨v16, rfl, hr16, _⟩, hb16⟩
  change RS w16 1 eInt v16 [2] at hr16
  have hbx16 := (hb16.block _ (Array.getElem?_eq_some_iff.1 hbx15).1).trans hbx15
  have hS16 := hS15.step hb16
  have x0 := cell_blk hbx16 (j := 0) (u := .int .i64 1) rfl
  clear hS15 hbx15 hb16
  go_wp2_with fail
  refine (hS16.lost 9).mono ?_
  rintro e w' ⟨rfl, rfl⟩
  rw [show hasK kA4.lost 9 = true from rfl]
  go_wp2_with fail
  refine (hS16.lost 2).mono ?_
  rintro e w' ⟨rfl, rfl⟩
  rw [show hasK kA4.lost 2 = true from rfl]
  go_wp2_with fail
  refine (hS16.pinned 1).mono ?_
  rintro e w' ⟨rfl, rfl⟩
  rw [show hasK kA4.pins 1 = true from rfl]
  have hA17 := below_alloc (Below.refl w16.heap.size w16) (.cells #[.int .i64 2] 3)
  have hrs := rs_lits (enc := eInt) (size := 1) (fun _ => rfl) w16 [2] 3 (by unfold maxLen; simp) (b := w16.heap.size) (cap := 1) rfl
  have hr17 := hr16.only (only_of_below hA17 (fun _ => False)) (fun _ _ => id)
  have hS17 := hS16.step hA17
  clear hS16 hr16 hA17 hbx16 x0
  go_wp2_with fail
  refine (sameInts_any hr17 hrs).mono ?_
  rintro e w18 ⟨rfl, q18, rfl⟩
  rw [decide_eq_true rfl]
  generalize (w16.alloc (.cells #[.int .i64 2] 3)) = w17 at hS17 ⊢
  have hS18 := hS17.step (belowN (Below.refl w17.heap.size w17) q18)
  generalize w17.drewN q18 = w18 at hS18 ⊢
  clear hrs hr17 hS17
  go_wp2_with fail
  refine (hS18.used).mono ?_
  rintro e w19 ⟨rfl, hb19⟩
  rw [show usedM kA4.M = 1 from rfl]
  have hS19 := hS18.step hb19
  clear hS18 hb19
  go_wp2_with fail
  refine (hS19.spans 1).mono ?_
  rintro e w20 ⟨⟨v20, rfl, hs20, _⟩, hb20⟩
  rw [show (lgetA 1 kA4.M).length = 1 from rfl] at hs20
  obtain ⟨a20, c20, rfl⟩ := hs20.form
  have hS20 := hS19.step hb20
  clear hS19 hb20 hs20
  go_wp2_with fail
  refine (hS20.traces).mono ?_
  rintro e w21 ⟨⟨v21, rfl, hr21, _⟩, hb21⟩
  change RS w21 1 eInt v21 [1] at hr21
  obtain ⟨_, a21, c21, rfl, _⟩ := hr21
  rw [show ([1] : List Int).length = 1 from rfl]
  have hB := (hS20.step hb21).bel
  clear hS20 hb21
  go_wp2
  go_ret
  exact ⟨rfl, hB⟩
end Go.Proofs.Ytniggacgkhkgiaa.Ev
