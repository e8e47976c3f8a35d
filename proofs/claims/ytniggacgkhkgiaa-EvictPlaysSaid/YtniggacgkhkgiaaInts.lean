/- What the reference's SameInts says of two slices of ints that lie in memory. Conditions: each is as RS says. -/
import Derived.Test.YtniggacgkhkgiaaProg
import Derived.Test.YtniggacgkhkgiaaSlice
import Derived.WalkKit
import Derived.Lib.Hide
import Derived.WalkSpells
import Derived.WalkLawsBesides
namespace Go.Sp
open Go.RowKit
/-- v is a slice that reads as xs: size cells an element, by enc. -/
def RS {α : Type} (w : World) (size : Nat) (enc : α → List Value) (v : Value) (xs : List α) : Prop :=
  xs.length ≤ maxLen ∧ ∃ a cap, v = .slice a xs.length cap ∧ (0 < xs.length → ∃ b off, a = some ⟨b, off, none⟩ ∧ b < w.heap.size ∧ ∀ i x j u, xs[i]? = some x → (enc x)[j]? = some u → w.cell? ⟨b, off + (i * size + j), none⟩ = some u)

def eInt (x : Int) : List Value := [.int .i64 x]

theorem ret_bool {a b : Bool} (h : a = b) : Ending.returned (.bool a) = .returned (.bool b) := by rw [h]
theorem ret_i64 {a b : Int} (h : a = b) : Ending.returned (.int .i64 a) = .returned (.int .i64 b) := by rw [h]

theorem SL.rs {α : Type} {w : World} {e : TypeId} {size : Nat} {enc : α → List Value} (he : ∀ x, (enc x).length = size) {v : Value} {xs : List α} (h : SL w.heap e size v xs.length (xs.flatMap enc)) : RS w size enc v xs := by
  refine ⟨h.le, ?_⟩
  obtain ⟨a, cap, rfl⟩ := h.form
  refine ⟨a, cap, rfl, fun hn => ?_⟩
  obtain ⟨b, off, cap', hv, hb, _⟩ := h.form' hn
  simp only [Value.slice.injEq, true_and] at hv
  obtain ⟨rfl, rfl⟩ := hv
  exact ⟨b, off, rfl, hb, fun i x j u hx hu => h.elem he hx hu⟩

theorem flat_ints (xs : List Int) : xs.flatMap eInt = xs.map fun x => .int .i64 x := by
  induction xs with
  | nil => rfl
  | cons x r ih => simp [eInt, ih]

theorem SL.ints {w : World} {e : TypeId} {v : Value} {xs : List Int} (h : SL w.heap e 1 v xs.length (xs.map fun x => .int .i64 x)) : RS w 1 eInt v xs :=
  SL.rs (e := e) (size := 1) (enc := eInt) (fun _ => rfl) (by rw [flat_ints]; exact h)

theorem RS.only {α : Type} {w w' : World} {size : Nat} {enc : α → List Value} {v : Value} {xs : List α} (h : RS w size enc v xs) {F : Nat → Prop} (o : Only F w w') (hF : ∀ k, v.ownBlock = some k → ¬ F k) : RS w' size enc v xs := by
  obtain ⟨hl, a, cap, rfl, h2⟩ := h
  refine ⟨hl, a, cap, rfl, fun hn => ?_⟩
  obtain ⟨b, off, rfl, hb, h3⟩ := h2 hn
  refine ⟨b, off, rfl, Nat.lt_of_lt_of_le hb o.size, fun i x j u hx hu => ?_⟩
  rw [World.cell?_of_block (w := w) (o.block b hb (hF b rfl))]
  exact h3 i x j u hx hu

theorem RS.heap {α : Type} {w w' : World} {size : Nat} {enc : α → List Value} {v : Value} {xs : List α} (h : RS w size enc v xs) (e : w'.heap = w.heap) : RS w' size enc v xs := by
  obtain ⟨hl, a, cap, rfl, h2⟩ := h
  refine ⟨hl, a, cap, rfl, fun hn => ?_⟩
  obtain ⟨b, off, rfl, hb, h3⟩ := h2 hn
  refine ⟨b, off, rfl, by rw [e]; exact hb, fun i x j u hx hu => ?_⟩
  rw [World.cell?_of_block (w := w) (by rw [e])]
  exact h3 i x j u hx hu

theorem RS.nil {α : Type} (w : World) (size : Nat) (enc : α → List Value) : RS w size enc (.slice none 0 0) [] := ⟨by simp, none, 0, rfl, fun h => by simp at h⟩

theorem RS.int {w : World} {xs : List Int} {v : Value} (h : RS w 1 eInt v xs) (hn : 0 < xs.length) : ∃ b off cap, v = .slice (some ⟨b, off, none⟩) xs.length cap ∧ b < w.heap.size ∧ ∀ i x, xs[i]? = some x → w.cell? ⟨b, off + i, none⟩ = some (.int .i64 x) := by
  obtain ⟨hl, a, cap, rfl, h2⟩ := h
  obtain ⟨b, off, rfl, hb, h3⟩ := h2 hn
  exact ⟨b, off, cap, rfl, hb, fun i x hx => by have := h3 i x 0 _ hx rfl; simpa using this⟩

/-- a slice literal of ints -/
theorem RS.lit (w : World) (xs : List Int) (t : TypeId) (hl : xs.length ≤ maxLen) {b cap : Nat} (hb : b = w.heap.size) : RS (w.alloc (.cells (xs.map fun x => Value.int .i64 x).toArray t)) 1 eInt (.slice (some ⟨b, 0, none⟩) xs.length cap) xs := by
  refine ⟨hl, _, _, rfl, fun hn => ⟨b, 0, rfl, by simp; omega, fun i x j u hx hu => ?_⟩⟩
  have hu' : j = 0 ∧ u = .int .i64 x := by
    cases j with
    | zero => simp [eInt] at hu; exact ⟨rfl, hu.symm⟩
    | succ j => simp [eInt] at hu
  obtain ⟨rfl, rfl⟩ := hu'
  simp [World.cell?, heap_new w _ hb, hx]
end Go.Sp

namespace Go.Proofs.Ytniggacgkhkgiaa
open Go.RowKit Go.Sp

set_option maxHeartbeats 1000000 in
theorem sameInts_any {w : World} {u v : Value} {xs ys : List Int} (hu : RS w 1 eInt u xs) (hv : RS w 1 eInt v ys) :
    Calls Try.prog 27 #[u, v] w fun e w' => e = .returned (.bool (decide (xs = ys))) ∧ ∃ n, w' = w.drewN n := by
  have h1 := hu.1
  have h2 := hv.1
  unfold maxLen at h1 h2
  by_cases hne : xs.length = ys.length
  · by_cases hn : 0 < xs.length
    · obtain ⟨b1, o1, c1, rfl, _, hc1⟩ := hu.int hn
      obtain ⟨b2, o2, c2, rfl, _, hc2⟩ := hv.int (by omega)
      clear hu hv
      generalize hN : xs.length = N at *
      generalize hM : ys.length = M at *
      obtain rfl : N = M := hne
      have hb : ((N : Int) != (N : Int)) = false := by simp
      go_enter Try.func27, Try.ntmps27
      go_wp2
      go_loopw [5] (fun i wr => ∃ k : Nat, k ≤ N ∧ i = .int .i64 k ∧ (∀ j, j < k → xs[j]? = ys[j]?) ∧ ∃ n, wr = w.drewN n) (fun i _ => N - (intOf i).toNat)
      case atStart => exact ⟨0, by omega, rfl, fun j hj => by omega, 0, rfl⟩
      case round =>
        obtain ⟨k, hk, rfl, hj, n, rfl⟩ := hrel
        by_cases hlt : k < N
        · obtain ⟨x, hx⟩ : ∃ x, xs[k]? = some x := ⟨_, List.getElem?_eq_getElem (by omega)⟩
          obtain ⟨y, hy⟩ : ∃ y, ys[k]? = some y := ⟨_, List.getElem?_eq_getElem (by omega)⟩
          have g1 := hc1 k x hx
          have g2 := hc2 k y hy
          have HX := Lib.hid hx
          have HY := Lib.hid hy
          have HJ := Lib.hid hj
          have HN := Lib.hid hN
          have HE := Lib.hid hM
          clear hx hy hj hc1 hc2 hN hM
          by_cases hxy : x = y
          · subst hxy
            have ht : (x != x) = false := by simp
            go_wp2
            go_quiet (fail)
            go_wp2
            refine ⟨⟨k + 1, by omega, by go_num, fun j hj => ?_, _, rfl⟩, by simp [intOf]; omega⟩
            rcases Nat.lt_or_ge j k with h | h
            · exact HJ.out j h
            · obtain rfl : j = k := by omega
              rw [HX.out, HY.out]
          · have ht : (x != y) = true := by simpa using hxy
            go_wp2
            go_quiet (fail)
            go_wp2
            go_ret
            refine ⟨ret_bool ?_, n + nq, by simp⟩
            symm
            rw [decide_eq_false_iff_not]
            intro e
            have := HX.out
            rw [e, HY.out] at this
            exact hxy (by simpa using this.symm)
        · have hke : k = N := by omega
          have HN := Lib.hid hN
          have HE := Lib.hid hM
          have HJ := Lib.hid hj
          clear hN hM hj hc1 hc2
          go_wp2
          go_ret
          refine ⟨ret_bool ?_, n, rfl⟩
          symm
          rw [decide_eq_true_iff]
          refine List.ext_getElem? fun j => ?_
          rcases Nat.lt_or_ge j k with h | h
          · exact HJ.out j h
          · have e1 := HN.out
            have e2 := HE.out
            rw [List.getElem?_eq_none (by omega), List.getElem?_eq_none (by omega)]
    · have hx0 : xs = [] := List.eq_nil_of_length_eq_zero (by omega)
      have hy0 : ys = [] := List.eq_nil_of_length_eq_zero (by omega)
      subst hx0 hy0
      obtain ⟨_, a, c, rfl, _⟩ := hu
      obtain ⟨_, a', c', rfl, _⟩ := hv
      clear h1 h2 hne hn
      have hb : ((0 : Int) != (0 : Int)) = false := rfl
      simp only [List.length_nil]
      go_enter Try.func27, Try.ntmps27
      go_wp2
      refine wp_loop_rounds 1 ?_
      rw [rounds_succ]
      go_wp2
      go_ret
      exact ⟨rfl, 0, rfl⟩
  · obtain ⟨_, a, c, rfl, q1⟩ := hu
    obtain ⟨_, a', c', rfl, q2⟩ := hv
    clear q1 q2
    have hb : ((xs.length : Int) != (ys.length : Int)) = true := by rw [bne_iff_ne]; omega
    go_enter Try.func27, Try.ntmps27
    go_wp2
    go_ret
    exact ⟨ret_bool (by symm; rw [decide_eq_false_iff_not]; intro e; exact hne (by rw [e])), 0, rfl⟩

end Go.Proofs.Ytniggacgkhkgiaa
