/- The contracts of crumb's functions over what is named alone; and that the document's answers hold (awake). Condition: the receiver lies in memory. -/
import Derived.Test.YtcdjeblcmgghhaaCrumb1
import Derived.Test.YtcdjeblcmgghhaaReach
namespace Go.Proofs.Ytcdjeblcmgghhaa.Crumb
open Go.RowKit Go.Sp

/-- the object at block cb holds M; R: its own blocks -/
def Cr (w : World) (R : Nat → Prop) (cb : Nat) (n : Int) (M : List (Int × List Int)) : Prop := ∃ mb m, Crep w R cb mb n m ∧ mm m = M
/-- the same, all of it made since w0 -/
def St (w0 w : World) (cb : Nat) (n : Int) (M : List (Int × List Int)) : Prop := ∃ R, Cr w R cb n M ∧ (∀ b, R b → w0.heap.size ≤ b) ∧ Below w0.heap.size w0 w

section
variable {w w0 w' : World} {R : Nat → Prop} {cb : Nat} {n : Int} {M : List (Int × List Int)}

theorem rs_of {v : Value} {xs : List Int} (h : SL w.heap 3 1 v xs.length (xs.map Sp.zI)) : RS w 1 eInt v xs := SL.ints h

theorem Cr.only {F : Nat → Prop} (h : Cr w R cb n M) (o : Only F w w') (hF : ∀ b, R b → ¬ F b) : Cr w' R cb n M := by
  obtain ⟨mb, m, h, e⟩ := h
  exact ⟨mb, m, h.only o hF, e⟩
theorem Cr.lt (h : Cr w R cb n M) : ∀ b, R b → b < w.heap.size := by
  obtain ⟨mb, m, h, e⟩ := h
  exact h.rlt
theorem Cr.below (h : Cr w R cb n M) (o : Below w.heap.size w w') : Cr w' R cb n M := h.only (only_of_below o (fun _ => False)) (fun _ _ => id)
theorem Cr.ks (h : Cr w R cb n M) : KS M := by
  obtain ⟨mb, m, h, e⟩ := h
  subst e
  exact List.pairwise_map.2 (h.mp.ks.imp fun hlt => hlt)
theorem Cr.ok (h : Cr w R cb n M) : ∀ k l, mget k M = some l → l.Pairwise (· < ·) ∧ ∀ a ∈ l, 0 ≤ a ∧ a < n := by
  obtain ⟨mb, m, h, e⟩ := h
  subst e
  intro k l hk
  rw [mget_mm] at hk
  obtain ⟨⟨v, l'⟩, hv, rfl⟩ := Option.map_eq_some_iff.1 hk
  exact h.srt k v l' hv
theorem Cr.n4 (h : Cr w R cb n M) : 1 ≤ n ∧ n ≤ 4 := by
  obtain ⟨mb, m, h, e⟩ := h
  exact h.n4

theorem add_cr (h : Cr w R cb n M) {t a c : Int} {M' : List (Int × List Int)} (ht : (Lit.int .i64 t).wf = true) (e : addM n M t a = (c, M')) :
    Calls Try.prog 47 #[.pointer (some ⟨cb, 0, none⟩), .int .i64 t, .int .i64 a] w fun e w' => e = .returned (.int .i64 c) ∧ ∃ R', Cr w' R' cb n M' ∧ (∀ b, R' b → R b ∨ w.heap.size ≤ b) ∧ Only R w w' := by
  obtain ⟨mb, m, h, rfl⟩ := h
  refine (add_any h (a := a) ht).mono ?_
  rintro e1 w1 ⟨rfl, R', m', h1, h2, h3, h4⟩
  rw [e] at h2 ⊢
  exact ⟨rfl, R', ⟨mb, m', h1, h2⟩, h3, h4⟩

theorem of_cr (h : Cr w R cb n M) (k : Int) :
    Calls Try.prog 51 #[.pointer (some ⟨cb, 0, none⟩), .int .i64 k] w fun e w' => ∃ v, e = .returned v ∧ SL w'.heap 3 1 v (lget k M).length ((lget k M).map Sp.zI) ∧ (∀ g, v.ownBlock = some g → w.heap.size ≤ g) ∧ Below w.heap.size w w' := by
  obtain ⟨mb, m, h, rfl⟩ := h
  exact of_any h k

theorem drop_cr (h : Cr w R cb n M) (k : Int) :
    Calls Try.prog 49 #[.pointer (some ⟨cb, 0, none⟩), .int .i64 k] w fun e w' => e = .returned (.tuple #[]) ∧ Cr w' R cb n (mdel k M) ∧ Only R w w' := by
  obtain ⟨mb, m, h, rfl⟩ := h
  refine (drop_any h k).mono ?_
  rintro e1 w1 ⟨rfl, h1, h2⟩
  exact ⟨rfl, ⟨mb, _, h1, mm_del _ _⟩, h2⟩

theorem traces_cr (h : Cr w R cb n M) (hn : M.length ≤ 1000000) :
    Calls Try.prog 53 #[.pointer (some ⟨cb, 0, none⟩)] w fun e w' => ∃ v, e = .returned v ∧ SL w'.heap 3 1 v (M.map Prod.fst).length ((M.map Prod.fst).map Sp.zI) ∧ (∀ g, v.ownBlock = some g → w.heap.size ≤ g) ∧ Below w.heap.size w w' := by
  obtain ⟨mb, m, h, rfl⟩ := h
  rw [mm_length] at hn
  refine (traces_any h hn).mono ?_
  rintro e1 w1 ⟨v, rfl, h1, h2, h3⟩
  refine ⟨v, rfl, ?_, h2, h3⟩
  have e2 : ((mm m).map Prod.fst).map Sp.zI = m.map fun p => Value.int .i64 p.1 := by simp [mm, Sp.zI]
  rw [e2, List.length_map, mm_length]
  exact h1

theorem new_cr (h1 : 1 ≤ n) (h2 : n ≤ 4) :
    Calls Try.prog 46 #[.int .i64 n] w fun e w' => ∃ R cb, e = .returned (.pointer (some ⟨cb, 0, none⟩)) ∧ Cr w' R cb n [] ∧ (∀ b, R b → w.heap.size ≤ b) ∧ Below w.heap.size w w' := by
  refine (new_yes h1 h2).mono ?_
  rintro e1 w1 ⟨R, cb, mb, rfl, h3, h4, h5⟩
  exact ⟨R, cb, rfl, ⟨mb, [], h3, rfl⟩, h4, h5⟩

theorem St.add {c : Int} {M' : List (Int × List Int)} (h : St w0 w cb n M) {t a : Int} (ht : (Lit.int .i64 t).wf = true) (e : addM n M t a = (c, M')) :
    Calls Try.prog 47 #[.pointer (some ⟨cb, 0, none⟩), .int .i64 t, .int .i64 a] w fun e w' => e = .returned (.int .i64 c) ∧ St w0 w' cb n M' := by
  obtain ⟨R, h, hR, hb⟩ := h
  refine (add_cr h ht e).mono ?_
  rintro e1 w1 ⟨rfl, R', h1, h2, h3⟩
  have := hb.size
  exact ⟨rfl, R', h1, fun b hb' => by rcases h2 b hb' with h | h; exact hR b h; omega, hb.trans (h3.below (by omega) fun i hi hRi => by have := hR i hRi; omega)⟩

theorem St.step (h : St w0 w cb n M) (o : Below w.heap.size w w') : St w0 w' cb n M := by
  obtain ⟨R, h, hR, hb⟩ := h
  exact ⟨R, h.below o, hR, hb.trans (o.mono hb.size)⟩

theorem St.drewN (h : St w0 w cb n M) (q : Nat) : St w0 (w.drewN q) cb n M := by
  obtain ⟨R, h, hR, hb⟩ := h
  exact ⟨R, h.only ((Only.refl (fun _ => False) w).drewN q) (fun _ _ => id), hR, hb.trans (((Only.refl (fun _ => False) w).drewN q).below hb.size (fun _ _ => id))⟩

theorem St.alloc (h : St w0 w cb n M) (o : Obj) : St w0 (w.alloc o) cb n M := h.step ((Below.refl _ w).alloc (Nat.le_refl _) o)

theorem St.drop (h : St w0 w cb n M) (k : Int) :
    Calls Try.prog 49 #[.pointer (some ⟨cb, 0, none⟩), .int .i64 k] w fun e w' => e = .returned (.tuple #[]) ∧ St w0 w' cb n (mdel k M) := by
  obtain ⟨R, h, hR, hb⟩ := h
  refine (drop_cr h k).mono ?_
  rintro e1 w1 ⟨rfl, h1, h2⟩
  exact ⟨rfl, R, h1, hR, hb.trans (h2.below hb.size fun i hi hRi => by have := hR i hRi; omega)⟩

theorem St.of (h : St w0 w cb n M) (k : Int) :
    Calls Try.prog 51 #[.pointer (some ⟨cb, 0, none⟩), .int .i64 k] w fun e w' => ∃ v, e = .returned v ∧ RS w' 1 eInt v (lget k M) ∧ (∀ g, v.ownBlock = some g → w.heap.size ≤ g) ∧ Below w.heap.size w w' ∧ St w0 w' cb n M := by
  obtain ⟨R, h1, hR, hb⟩ := h
  refine (of_cr h1 k).mono ?_
  rintro e1 w1 ⟨v, rfl, h2, h3, h4⟩
  exact ⟨v, rfl, SL.ints h2, h3, h4, St.step ⟨R, h1, hR, hb⟩ h4⟩

theorem St.traces (h : St w0 w cb n M) (hn : M.length ≤ 1000000) :
    Calls Try.prog 53 #[.pointer (some ⟨cb, 0, none⟩)] w fun e w' => ∃ v, e = .returned v ∧ RS w' 1 eInt v (M.map Prod.fst) ∧ (∀ g, v.ownBlock = some g → w.heap.size ≤ g) ∧ Below w.heap.size w w' ∧ St w0 w' cb n M := by
  obtain ⟨R, h1, hR, hb⟩ := h
  refine (traces_cr h1 hn).mono ?_
  rintro e1 w1 ⟨v, rfl, h2, h3, h4⟩
  exact ⟨v, rfl, SL.ints h2, h3, h4, St.step ⟨R, h1, hR, hb⟩ h4⟩
end

theorem NM.only {w w' : World} {v : Value} {N : List (List Int)} (h : NM w v N) {F : Nat → Prop} (o : Only F w w') (hF : ∀ k, k < w.heap.size → ¬ F k) : NM w' v N := by
  obtain ⟨vs, h1, h2, h3⟩ := h
  have key : ∀ {α : Type} {s : Nat} {enc : α → List Value} {u : Value} {xs : List α}, RS w s enc u xs → RS w' s enc u xs := by
    intro α s enc u xs hr
    obtain ⟨hl, a, cap, rfl, h2⟩ := hr
    refine ⟨hl, a, cap, rfl, fun hn => ?_⟩
    obtain ⟨b, off, rfl, hb, h4⟩ := h2 hn
    refine ⟨b, off, rfl, Nat.lt_of_lt_of_le hb o.size, fun i x j u hx hu => ?_⟩
    rw [World.cell?_of_block (w := w) (o.block b hb (hF b hb))]
    exact h4 i x j u hx hu
  exact ⟨vs, h1, key h2, fun i u l hu hl => key (h3 i u l hu hl)⟩
theorem NM.below {w w' : World} {v : Value} {N : List (List Int)} (h : NM w v N) (o : Below w.heap.size w w') : NM w' v N := NM.only h (only_of_below o (fun _ => False)) (fun _ _ => id)

theorem reach_any {w : World} {v : Value} {N : List (List Int)} (hN : NM w v N) (hn : N.length ≤ 1000) (hN1 : ∀ l ∈ N, l.length ≤ 1000) (a : Int) :
    Calls Try.prog 44 #[.int .i64 a, v] w fun e w' => ∃ u L, e = .returned u ∧ SL w'.heap 3 1 u L.length (L.map Sp.zI) ∧ IsReach N a L ∧ (∀ g, u.ownBlock = some g → w.heap.size ≤ g) ∧ Below w.heap.size w w' := by
  by_cases h : 0 ≤ a ∧ a < N.length
  · exact reach_yes hN h.1 h.2 hn hN1
  · refine (reach_no hN h).mono ?_
    rintro e w' ⟨rfl, rfl⟩
    exact ⟨_, [], rfl, SL.nil _ _ _, IsReach.nil h, fun g hg => by simp [Value.ownBlock] at hg, Below.refl _ _⟩

theorem add_nil (w : World) (t a : Int) :
    Calls Try.prog 47 #[.pointer none, .int .i64 t, .int .i64 a] w fun e w' => e = .returned (.int .i64 9) ∧ w = w' := by
  go_enter Try.func47, Try.ntmps47
  go_wp2
  go_ret
  exact ⟨rfl, rfl⟩
theorem of_nil (w : World) (t : Int) :
    Calls Try.prog 51 #[.pointer none, .int .i64 t] w fun e w' => e = .returned (.slice none 0 0) ∧ w = w' := by
  go_enter Try.func51, Try.ntmps51
  go_wp2
  go_ret
  exact ⟨rfl, rfl⟩
theorem drop_nil (w : World) (t : Int) :
    Calls Try.prog 49 #[.pointer none, .int .i64 t] w fun e w' => e = .returned (.tuple #[]) ∧ w = w' := by
  go_enter Try.func49, Try.ntmps49
  go_wp2
  go_end0
  exact ⟨rfl, rfl⟩
theorem traces_nil (w : World) :
    Calls Try.prog 53 #[.pointer none] w fun e w' => e = .returned (.slice none 0 0) ∧ w = w' := by
  go_enter Try.func53, Try.ntmps53
  go_wp2
  go_ret
  exact ⟨rfl, rfl⟩
theorem reach_nil (w : World) (a : Int) :
    Calls Try.prog 44 #[.int .i64 a, .slice none 0 0] w fun e w' => e = .returned (.slice none 0 0) ∧ w = w' :=
  reach_no (N := []) ⟨[], rfl, RS.nil _ _ _, fun i u l h => by simp at h⟩ (by simp)
end Go.Proofs.Ytcdjeblcmgghhaa.Crumb
