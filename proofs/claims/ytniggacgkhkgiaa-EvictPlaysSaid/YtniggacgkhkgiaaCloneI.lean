/- What slices.Clone at []int says of a slice that can be read. Conditions: the slice lies in memory. -/
import Derived.Test.YtniggacgkhkgiaaMsg4
import Derived.Test.YtniggacgkhkgiaaBase
namespace Go.Sp
open Go.RowKit
theorem eInt_len (x : Int) : (eInt x).length = 1 := rfl
end Go.Sp
namespace Go.Proofs.Ytniggacgkhkgiaa.Msg
open Go.RowKit Go.Sp

set_option maxRecDepth 100000 in
set_option maxHeartbeats 1000000 in
theorem cloneR_any {w : World} {v : Value} {xs : List Int} (h : RS w 1 eInt v xs) (hn : xs.length ≤ 1000000) :
    Calls Try.prog 82 #[v] w fun e w' => ∃ v', e = .returned v' ∧ RS w' 1 eInt v' xs ∧ (∀ g, v'.ownBlock = some g → w.heap.size ≤ g ∧ g < w'.heap.size) ∧ Below w.heap.size w w' := by
  obtain ⟨i0, z0, hi, hz, hz1, hz2, hz3⟩ := info_at (P := Try.prog) (e := 3) (f := (1, 8, 1)) (by kernel_rfl)
  obtain ⟨hm, a, c, rfl, hc⟩ := id h
  cases a with
  | none =>
    have h0 : xs = [] := by
      cases xs with
      | nil => rfl
      | cons x r => obtain ⟨b, o, e, _⟩ := hc (by simp); cases e
    subst h0
    have qn : ∀ (w : World) (c : Nat), (binOp .eql 31 (.slice none 0 c) (.slice none 0 0)).run Try.prog w = .ok (.bool true) w := fun w c => run_eql_nil_slice w _ _ none 0 0 0 c Try.underlying31
    go_enter Try.func82, Try.ntmps82
    go_wp2
    go_ret
    exact ⟨_, rfl, RS.nil _ _ _, fun g hg => by simp [Value.ownBlock] at hg, Below.refl _ _⟩
  | some ad =>
    have hnews : ∀ k u, (xs.flatMap eInt)[k]? = some u → w.cell? (ad.add k) = some u := by
      intro k u hk
      cases xs with
      | nil => simp at hk
      | cons x r =>
        obtain ⟨b, o, e, _, h3⟩ := hc (by simp)
        simp only [Option.some.injEq] at e
        subst e
        exact rs_news eInt_len h3 k u hk
    have h1 : ∀ u ∈ xs.flatMap eInt, u.oneCell' = true := by
      intro u hu
      obtain ⟨x, _, hx⟩ := List.mem_flatMap.1 hu
      simp [eInt] at hx
      subst hx
      rfl
    have qn : ∀ (w : World) (n c : Nat), (binOp .eql 31 (.slice (some ad) n c) (.slice none 0 0)).run Try.prog w = .ok (.bool false) w := fun w n c => Lib.run_eql_slice_nil w _ _ (some ad) n c 0 0 Try.underlying31
    go_enter Try.func82, Try.ntmps82
    go_wp2_with (at_builtin; refine halt ?_)
    refine Halt.go ?_
    refine wpList_appd (v := .slice (some ⟨w.heap.size, 0, none⟩) 0 0) rfl _ _ _ rfl Try.underlying31 hi hz hz1 hz2 hz3 rfl (sl_empty w _ 1) (m := xs.length) (news := xs.flatMap eInt) rfl (flat_length eInt_len xs) (fun k u hk => ?_) h1 (by unfold maxLen; omega) (by omega) ?_
    · have := hnews k u hk
      rw [World.cell?_alloc_lt _ _ _ (World.block_lt_of_cell? _ _ this)]; exact this
    rintro v7 w7 hs7 ho7 hv7
    have hb7 : Below w.heap.size w w7 := (below_alloc (Below.refl _ w) _).trans (ho7.below (by simp) (fun i hi e => by simp [Value.ownBlock] at e; omega))
    have hn7' : ∀ g, v7.ownBlock = some g → w.heap.size ≤ g := fun g hg => by
      rcases hv7 with e | e
      · rw [e] at hg; simp [Value.ownBlock] at hg; omega
      · rw [e] at hg; simp at hg; omega
    rw [Nat.zero_add, List.nil_append] at hs7
    have hn7 : ∀ g, v7.ownBlock = some g → w.heap.size ≤ g ∧ g < w7.heap.size := fun g hg => ⟨hn7' g hg, hs7.lt g hg⟩
    have hr7 := SL.rs eInt_len hs7
    go_wp2
    go_ret
    exact ⟨v7, rfl, hr7, hn7, hb7⟩

end Go.Proofs.Ytniggacgkhkgiaa.Msg
