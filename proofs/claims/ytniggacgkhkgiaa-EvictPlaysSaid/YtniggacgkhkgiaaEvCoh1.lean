/- What EvictCoherent asks besides: Evicted's slice with room behind it, its tail, a map's lookup that tells whether it is there. Conditions: the keeper lies in memory as Sk says. -/
import Derived.Test.YtniggacgkhkgiaaEvCoh0
import Derived.Test.YtniggacgkhkgiaaEvAll1
import Derived.Test.YtniggacgkhkgiaaHash2
import Derived.Test.YtniggacgkhkgiaaEvFull
namespace Go.Sp
open Go.RowKit
/-- a slice no longer than its room -/
def Wide7 (v : Value) (n : Nat) : Prop := ∃ a c, v = .slice a n c ∧ n ≤ c
end Go.Sp
namespace Go.Proofs.Ytniggacgkhkgiaa.Ev
open Go.RowKit Go.Sp Msg Pool Hash

set_option maxRecDepth 100000 in
set_option maxHeartbeats 1000000 in
theorem cloneL_any {w : World} {v : Value} {xs : List Int} (h : RS w 1 eInt v xs) (hn : xs.length ≤ 1000000) :
    Calls Try.prog 82 #[v] w fun e w' => ∃ v', e = .returned v' ∧ Wide7 v' xs.length ∧ RS w' 1 eInt v' xs ∧ (∀ g, v'.ownBlock = some g → w.heap.size ≤ g ∧ g < w'.heap.size) ∧ Below w.heap.size w w' := by
  obtain ⟨i0, z0, hi, hz, hz1, hz2, hz3⟩ := info_at (P := Try.prog) (e := 3) (f := (1, 8, 1)) (by kernel_rfl)
  obtain ⟨hm, a, c, rfl, hc⟩ := id h
  cases a with
  | none =>
    have h0 : xs = [] := by
      cases xs with
      | nil => rfl
      | cons x r => obtain ⟨b, o, e, _⟩ := hc (by simp); cases e
    subst h0
    have qn : ∀ (w : World) (c : Nat), (binOp .eql 31 (.slice none 0 c) (.slice none 0 0)).run Try.prog w = .ok (.bool true) w := fun w c => run_eql_nil_slice w _ _ none 0 0 0 c Try.underlying31
    go_enter Try.func82, Try.ntmps82
    go_wp2
    go_ret
    exact ⟨_, rfl, ⟨_, _, rfl, Nat.le_refl _⟩, RS.nil _ _ _, fun g hg => by simp [Value.ownBlock] at hg, Below.refl _ _⟩
  | some ad =>
    have hnews : ∀ k u, (xs.flatMap eInt)[k]? = some u → w.cell? (ad.add k) = some u := by
      intro k u hk
      cases xs with
      | nil => simp at hk
      | cons x r =>
        obtain ⟨b, o, e, _, h3⟩ := hc (by simp)
        simp only [Option.some.injEq] at e
        subst e
        exact rs_news eInt_len h3 k u hk
    have h1 : ∀ u ∈ xs.flatMap eInt, u.oneCell' = true := by
      intro u hu
      obtain ⟨x, _, hx⟩ := List.mem_flatMap.1 hu
      simp [eInt] at hx
      subst hx
      rfl
    have qn : ∀ (w : World) (n c : Nat), (binOp .eql 31 (.slice (some ad) n c) (.slice none 0 0)).run Try.prog w = .ok (.bool false) w := fun w n c => Lib.run_eql_slice_nil w _ _ (some ad) n c 0 0 Try.underlying31
    go_enter Try.func82, Try.ntmps82
    go_wp2_with (at_builtin; refine halt ?_)
    refine Halt.go ?_
    refine wpList_appd (v := .slice (some ⟨w.heap.size, 0, none⟩) 0 0) rfl _ _ _ rfl Try.underlying31 hi hz hz1 hz2 hz3 rfl (sl_empty w _ 1) (m := xs.length) (news := xs.flatMap eInt) rfl (flat_length eInt_len xs) (fun k u hk => ?_) h1 (by unfold maxLen; omega) (by omega) ?_
    · have := hnews k u hk
      rw [World.cell?_alloc_lt _ _ _ (World.block_lt_of_cell? _ _ this)]; exact this
    rintro v7 w7 hs7 ho7 hv7
    have hb7 : Below w.heap.size w w7 := (below_alloc (Below.refl _ w) _).trans (ho7.below (by simp) (fun i hi e => by simp [Value.ownBlock] at e; omega))
    have hn7' : ∀ g, v7.ownBlock = some g → w.heap.size ≤ g := fun g hg => by
      rcases hv7 with e | e
      · rw [e] at hg; simp [Value.ownBlock] at hg; omega
      · rw [e] at hg; simp at hg; omega
    rw [Nat.zero_add, List.nil_append] at hs7
    have hn7 : ∀ g, v7.ownBlock = some g → w.heap.size ≤ g ∧ g < w7.heap.size := fun g hg => ⟨hn7' g hg, hs7.lt g hg⟩
    have hr7 := SL.rs eInt_len hs7
    have hR : Wide7 v7 xs.length := by
      rcases hs7.2 with ⟨e, h0⟩ | ⟨b, off, cap, cur, e, h1, _⟩
      · exact ⟨_, _, by rw [e]; congr 1; have := hs7.1; rw [h0] at this; simp at this; omega, by have := hs7.1; rw [h0] at this; simp at this; omega⟩
      · exact ⟨_, _, e, h1⟩
    go_wp2
    go_ret
    exact ⟨v7, rfl, hR, hr7, hn7, hb7⟩

section
variable {w0 w w' : World} {X : Nat → Prop} {kb : Nat} {K : Kp}
set_option maxRecDepth 100000 in
theorem Sk.evictedL (h : Sk w0 w X kb K) (hl : K.gone.length ≤ 1000) : Calls Try.prog 42 #[.pointer (some ⟨kb, 0, none⟩)] w fun e w' => ∃ a c, e = .returned (.slice a K.gone.length c) ∧ K.gone.length ≤ c ∧ RS w' 1 eInt (.slice a K.gone.length c) K.gone ∧ Below w.heap.size w w' := by
  obtain ⟨R, ⟨Rp, pb, ib, lb, gv, h⟩, hR, hb⟩ := h
  have c4 := h.cell (j := 4) rfl
  have hs := SL.ints h.gone
  clear h
  go_enter Try.func42, Try.ntmps42
  go_wp2_with fail
  refine (cloneL_any hs (by omega)).mono ?_
  rintro e w1 ⟨v, rfl, ⟨a, c, rfl, hc⟩, hr, hn, hb⟩
  go_wp2
  go_ret
  exact ⟨_, _, rfl, hc, hr, hb⟩
theorem slice_tail {a : Option Addr} {N cap i : Nat} {xs : List Int} (hr : RS w 1 eInt (.slice a N cap) xs) (hN : xs.length = N) (h1 : i ≤ N) (h2 : N ≤ cap) : ∃ a' c', (∀ w1 : World, (Instr.sliceAt 31 (.slice a N cap) (some (.int .i64 (i : Int))) none none).run Try.prog w1 = .ok (.slice a' (N - i) c') w1) ∧ RS w 1 eInt (.slice a' (N - i) c') (xs.drop i) := by
  have hu : Try.prog.underlying 31 = some (.slice (Try.prog.elem 31)) := by kernel_rfl
  have hsz : ∀ w, (sizeOf (Try.prog.elem 31)).run Try.prog w = .ok 1 w := fun w => by kernel_rfl
  have hl := hr.1
  have hdl : (xs.drop i).length = N - i := by simp; omega
  obtain ⟨_, a', c', hv, hcl⟩ := hr
  simp only [Value.slice.injEq] at hv
  obtain ⟨rfl, _, rfl⟩ := hv
  refine ⟨if cap = i then a else a.map (·.add i), cap - i, fun w1 => ?_, ?_⟩
  · rw [run_sliceAt_slice w1 31 _ _ _ _ hu, run_slice_l w1 31 _ _ _ hu .i64 (i : Int) (by omega) (by omega), hsz]
    simp [sliced, Result.andThen]
  · refine ⟨by omega, _, _, by rw [hdl], fun hn => ?_⟩
    obtain ⟨b, o, rfl, hb, hc⟩ := hcl (by omega)
    refine ⟨b, o + i, by rw [if_neg (by omega)]; simp [Addr.add], hb, fun k x j u hx hu' => ?_⟩
    rw [List.getElem?_drop] at hx
    have := hc (i + k) x j u hx hu'
    rw [show o + i + (k * 1 + j) = o + ((i + k) * 1 + j) by omega]
    exact this
theorem Wm.tells {R : Nat → Prop} {wb : Nat} {m : SRows} (h : Wm w R wb m) (k : Int) : (Instr.lookup 114 (.map (some wb)) (.int .i64 k) true).run Try.prog w = .ok (.tuple #[((mget k m).map Prod.fst).getD (.slice none 0 0), .bool (mget k m).isSome]) w := by
  have := h.mp.lookup (P := Try.prog) true Try.underlying114 Try.underlying3 (zLS _) k
  simpa using this
end
/-- the law's map of what is pinned, of the first traces -/
def PinM (K : Kp) (ks : List Int) (m : SRows) : Prop := ∀ t, (hasK K.pins t = true ∧ t ∈ ks → mget t (wS m) = some (lgetA t K.M)) ∧ (¬ (hasK K.pins t = true ∧ t ∈ ks) → mget t m = none)
theorem PinM.nil (K : Kp) : PinM K [] [] := fun t => ⟨fun h => by simp at h, fun _ => rfl⟩
theorem PinM.skip {K : Kp} {ks : List Int} {m : SRows} {t : Int} (h : PinM K ks m) (ht : hasK K.pins t = false) : PinM K (ks ++ [t]) m := fun x => by
  have hx : (hasK K.pins x = true ∧ x ∈ ks ++ [t]) ↔ (hasK K.pins x = true ∧ x ∈ ks) := by
    constructor
    · rintro ⟨h1, h2⟩
      rcases List.mem_append.1 h2 with h2 | h2
      · exact ⟨h1, h2⟩
      · simp at h2; subst h2; rw [ht] at h1; cases h1
    · rintro ⟨h1, h2⟩; exact ⟨h1, List.mem_append_left _ h2⟩
  rw [hx]; exact h x
theorem PinM.put {K : Kp} {ks : List Int} {m : SRows} {t : Int} (h : PinM K ks m) (v : Value) (ht : hasK K.pins t = true) : PinM K (ks ++ [t]) (mput t (v, lgetA t K.M) m) := fun x => by
  by_cases hx : x = t
  · subst hx
    refine ⟨fun _ => ?_, fun h => absurd ⟨ht, by simp⟩ h⟩
    rw [mget_mmap, mget_mput, if_pos rfl]; rfl
  · have hx' : (hasK K.pins x = true ∧ x ∈ ks ++ [t]) ↔ (hasK K.pins x = true ∧ x ∈ ks) := by
      constructor
      · rintro ⟨h1, h2⟩
        rcases List.mem_append.1 h2 with h2 | h2
        · exact ⟨h1, h2⟩
        · simp at h2; exact absurd h2 hx
      · rintro ⟨h1, h2⟩; exact ⟨h1, List.mem_append_left _ h2⟩
    rw [hx', mget_mmap, mget_mput, if_neg hx, ← mget_mmap Prod.snd]; exact h x
theorem PinM.of {K : Kp} {ks : List Int} {m : SRows} {t : Int} {v : Value} {l : List Spn} (h : PinM K ks m) (e : mget t m = some (v, l)) : hasK K.pins t = true ∧ l = lgetA t K.M := by
  by_cases hc : hasK K.pins t = true ∧ t ∈ ks
  · have := (h t).1 hc
    rw [mget_mmap, e] at this
    simp at this
    exact ⟨hc.1, this⟩
  · rw [(h t).2 hc] at e; cases e
theorem PinM.free {K : Kp} {ks : List Int} {m : SRows} {t : Int} (h : PinM K ks m) (e : mget t m = none) : ¬ (hasK K.pins t = true ∧ t ∈ ks) := fun hc => by
  have := (h t).1 hc
  rw [mget_mmap, e] at this
  cases this
end Go.Proofs.Ytniggacgkhkgiaa.Ev
