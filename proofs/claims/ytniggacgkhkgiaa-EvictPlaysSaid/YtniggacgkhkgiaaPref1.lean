/- What the reference's Drop does to its pool. Conditions: the receiver lies in memory as Qrep says, its traces are rising. -/
import Derived.Test.YtniggacgkhkgiaaPref0
import Derived.Test.YtniggacgkhkgiaaEvCoh1
namespace Go.Sp
open Go.RowKit
def eVl (v : Value) : List Value := [v]
theorem mdel_at {α : Type} {k : Int} {l : α} {M : List (Int × α)} (hs : KS M) {j : Nat} (hj : M[j]? = some (k, l)) : mdel k M = M.take j ++ M.drop (j + 1) := by
  obtain ⟨hjl, hje⟩ := List.getElem?_eq_some_iff.1 hj
  have hM : M = M.take j ++ (k, l) :: M.drop (j + 1) := by
    rw [← hje, ← List.drop_eq_getElem_cons hjl, List.take_append_drop]
  have hs' := hs
  unfold KS at hs'
  rw [hM, List.pairwise_append] at hs'
  obtain ⟨_, h2, h3⟩ := hs'
  have h4 := (List.pairwise_cons.1 h2).1
  refine KS.ext hs.mdel ?_ fun x => ?_
  · unfold KS
    rw [List.pairwise_append]
    exact ⟨(List.Pairwise.sublist (List.take_sublist _ _) hs), (List.Pairwise.sublist (List.drop_sublist _ _) hs), fun a ha b hb => h3 a ha b (List.mem_cons_of_mem _ hb)⟩
  · rw [mget_mdel]
    by_cases hx : x = k
    · rw [if_pos hx]
      subst hx
      symm
      refine mget_none.2 fun p hp => ?_
      rcases List.mem_append.1 hp with hp | hp
      · have := h3 p hp (x, l) List.mem_cons_self
        simp at this; omega
      · have := h4 p hp
        simp at this; omega
    · rw [if_neg hx]
      cases e : mget x (M.take j ++ M.drop (j + 1)) with
      | none =>
        refine mget_none.2 fun p hp => ?_
        rw [hM] at hp
        have e' := mget_none.1 e
        rcases List.mem_append.1 hp with hp | hp
        · exact e' p (List.mem_append_left _ hp)
        · rcases List.mem_cons.1 hp with rfl | hp
          · exact fun h => hx h.symm
          · exact e' p (List.mem_append_right _ hp)
      | some v =>
        have hm := mget_mem e
        refine mget_of_mem hs ?_
        rw [hM]
        rcases List.mem_append.1 hm with hm | hm
        · exact List.mem_append_left _ hm
        · exact List.mem_append_right _ (List.mem_cons_of_mem _ hm)
theorem mdel_no {α : Type} {k : Int} : ∀ {M : List (Int × α)}, mget k M = none → mdel k M = M := fun {M} h => by
  rw [mdel_eq]
  exact List.filter_eq_self.2 fun p hp => by simpa using mget_none.1 h p hp
theorem cut_at {α : Type} (us : List α) {j i : Nat} (hj : j < us.length) : (us.take j ++ us.drop (j + 1))[i]? = if i < j then us[i]? else us[i + 1]? := by
  have hl : (us.take j).length = j := by simp; omega
  by_cases h : i < j
  · rw [if_pos h, List.getElem?_append_left (by omega), List.getElem?_take, if_pos h]
  · rw [if_neg h, List.getElem?_append_right (by omega), List.getElem?_drop, hl]
    congr 1; omega
end Go.Sp
namespace Go.Proofs.Ytniggacgkhkgiaa.Pref
open Go.RowKit Go.Sp Msg
section
variable {w w' w2 : World} {R : Nat → Prop} {pb N : Nat} {M M2 : List (Int × List Spn)} {tv av T A : Value} {us us2 : List Value}
def QOut (w : World) (R : Nat → Prop) (pb N : Nat) (M : List (Int × List Spn)) (w' : World) : Prop := ∃ R' tv' av' us', Qrep w' R' pb N M tv' av' us' ∧ (∀ b, R' b → R b ∨ w.heap.size ≤ b) ∧ Only R w w'
theorem Qrep.elA (h : Qrep w R pb N M tv av us) (hO : Only (· = pb) w w2) {i : Nat} {u : Value} {p : Int × List Spn} (hu : us[i]? = some u) (hp : M[i]? = some p) : SL w2.heap 89 3 u p.2.length (p.2.flatMap eSpn) :=
  (h.el i u p hu hp).only hO (fun g hg e => sl_not h.blk (h.el i u p hu hp) (by decide) (by rw [hg, e]))
/-- two new slices -/
theorem Qrep.next (h : Qrep w R pb N M tv av us) (hO : Only (· = pb) w w2) (hblk : w2.heap[pb]? = some (.cells #[.int .i64 N, T, A] 112 (0, 0)))
    (st : SL w2.heap 3 1 T M2.length (M2.map fun p => .int .i64 p.1)) (sa : SL w2.heap 35 1 A M2.length us2) (nt : ∀ g, T.ownBlock = some g → w.heap.size ≤ g) (na : ∀ g, A.ownBlock = some g → w.heap.size ≤ g)
    (el : ∀ (i : Nat) (u : Value) (p : Int × List Spn), us2[i]? = some u → M2[i]? = some p → SL w2.heap 89 3 u p.2.length (p.2.flatMap eSpn)) (re : ∀ (i : Nat) (u : Value), us2[i]? = some u → ∀ g, u.ownBlock = some g → (R g ∨ w.heap.size ≤ g)) : QOut w R pb N M2 w2 := by
  have hul : us2.length = M2.length := by have := sa.1; omega
  refine ⟨fun b => R b ∨ (w.heap.size ≤ b ∧ b < w2.heap.size), T, A, us2, ⟨hblk, st, sa, el, .inl h.rr, fun g hg => .inr ⟨nt g hg, st.lt g hg⟩, fun g hg => .inr ⟨na g hg, sa.lt g hg⟩, fun i u hu g hg => ?_, fun b hb => ?_⟩, fun b hb => hb.imp id And.left, hO.mono fun b _ e => by rw [e]; exact h.rr⟩
  · have hi := (List.getElem?_eq_some_iff.1 hu).1
    have he := el i u _ hu (List.getElem?_eq_getElem (by omega))
    exact (re i u hu g hg).imp id fun e => ⟨e, he.lt g hg⟩
  · rcases hb with hb | hb
    · exact Nat.lt_of_lt_of_le (h.rlt b hb) hO.size
    · exact hb.2
theorem sliceV_to (w : World) {b o N cap i : Nat} (h1 : i ≤ cap) : (Instr.sliceAt 110 (.slice (some ⟨b, o, none⟩) N cap) none (some (.int .i64 (i : Int))) none).run Try.prog w = .ok (.slice (some ⟨b, o, none⟩) i cap) w := by
  have hsz : (sizeOf (Try.prog.elem 110)).run Try.prog w = .ok 1 w := by kernel_rfl
  have hu : Try.prog.underlying 110 = some (.slice (Try.prog.elem 110)) := by kernel_rfl
  rw [run_sliceAt_slice w 110 _ _ _ _ hu, run_slice_h w 110 _ _ _ hu .i64 (i : Int) (by omega) (by omega), hsz]
  simp [sliced, Result.andThen, Addr.add]
theorem sliceV_tail {a : Option Addr} {N cap i : Nat} {xs : List Value} (hr : RS w 1 eVl (.slice a N cap) xs) (hN : xs.length = N) (h1 : i ≤ N) (h2 : N ≤ cap) : ∃ a' c', (∀ w1 : World, (Instr.sliceAt 110 (.slice a N cap) (some (.int .i64 (i : Int))) none none).run Try.prog w1 = .ok (.slice a' (N - i) c') w1) ∧ RS w 1 eVl (.slice a' (N - i) c') (xs.drop i) ∧ ∀ g, (Value.slice a' (N - i) c').ownBlock = some g → (Value.slice a N cap).ownBlock = some g := by
  have hu : Try.prog.underlying 110 = some (.slice (Try.prog.elem 110)) := by kernel_rfl
  have hsz : ∀ w, (sizeOf (Try.prog.elem 110)).run Try.prog w = .ok 1 w := fun w => by kernel_rfl
  have hl := hr.1
  have hdl : (xs.drop i).length = N - i := by simp; omega
  obtain ⟨_, a', c', hv, hcl⟩ := hr
  simp only [Value.slice.injEq] at hv
  obtain ⟨rfl, _, rfl⟩ := hv
  refine ⟨if cap = i then a else a.map (·.add i), cap - i, fun w1 => ?_, ?_, fun g hg => ?_⟩
  · rw [run_sliceAt_slice w1 110 _ _ _ _ hu, run_slice_l w1 110 _ _ _ hu .i64 (i : Int) (by omega) (by omega), hsz]
    simp [sliced, Result.andThen]
  · refine ⟨by omega, _, _, by rw [hdl], fun hn => ?_⟩
    obtain ⟨b, o, rfl, hb, hc⟩ := hcl (by omega)
    refine ⟨b, o + i, by rw [if_neg (by omega)]; simp [Addr.add], hb, fun k x j u hx hu' => ?_⟩
    rw [List.getElem?_drop] at hx
    have := hc (i + k) x j u hx hu'
    rw [show o + i + (k * 1 + j) = o + ((i + k) * 1 + j) by omega]
    exact this
  · by_cases e : cap = i
    · rw [if_pos e] at hg; cases a <;> exact hg
    · rw [if_neg e] at hg
      cases a with
      | none => exact hg
      | some p =>
        by_cases e0 : i = 0
        · subst e0; simpa [Value.ownBlock, Addr.add] using hg
        · simpa [Value.ownBlock, Addr.add, e0] using hg
theorem sliceI_tail {a : Option Addr} {N cap i : Nat} {xs : List Int} (hr : RS w 1 eInt (.slice a N cap) xs) (hN : xs.length = N) (h1 : i ≤ N) (h2 : N ≤ cap) : ∃ a' c', (∀ w1 : World, (Instr.sliceAt 31 (.slice a N cap) (some (.int .i64 (i : Int))) none none).run Try.prog w1 = .ok (.slice a' (N - i) c') w1) ∧ RS w 1 eInt (.slice a' (N - i) c') (xs.drop i) ∧ ∀ g, (Value.slice a' (N - i) c').ownBlock = some g → (Value.slice a N cap).ownBlock = some g := by
  have hu : Try.prog.underlying 31 = some (.slice (Try.prog.elem 31)) := by kernel_rfl
  have hsz : ∀ w, (sizeOf (Try.prog.elem 31)).run Try.prog w = .ok 1 w := fun w => by kernel_rfl
  have hl := hr.1
  have hdl : (xs.drop i).length = N - i := by simp; omega
  obtain ⟨_, a', c', hv, hcl⟩ := hr
  simp only [Value.slice.injEq] at hv
  obtain ⟨rfl, _, rfl⟩ := hv
  refine ⟨if cap = i then a else a.map (·.add i), cap - i, fun w1 => ?_, ?_, fun g hg => ?_⟩
  · rw [run_sliceAt_slice w1 31 _ _ _ _ hu, run_slice_l w1 31 _ _ _ hu .i64 (i : Int) (by omega) (by omega), hsz]
    simp [sliced, Result.andThen]
  · refine ⟨by omega, _, _, by rw [hdl], fun hn => ?_⟩
    obtain ⟨b, o, rfl, hb, hc⟩ := hcl (by omega)
    refine ⟨b, o + i, by rw [if_neg (by omega)]; simp [Addr.add], hb, fun k x j u hx hu' => ?_⟩
    rw [List.getElem?_drop] at hx
    have := hc (i + k) x j u hx hu'
    rw [show o + i + (k * 1 + j) = o + ((i + k) * 1 + j) by omega]
    exact this
  · by_cases e : cap = i
    · rw [if_pos e] at hg; cases a <;> exact hg
    · rw [if_neg e] at hg
      cases a with
      | none => exact hg
      | some p =>
        by_cases e0 : i = 0
        · subst e0; simpa [Value.ownBlock, Addr.add] using hg
        · simpa [Value.ownBlock, Addr.add, e0] using hg
end
end Go.Proofs.Ytniggacgkhkgiaa.Pref
