/- The collector's crumbs and the reference's crumbs side by side in memory: what each call does to them. Conditions: both lie in memory as Pr says. -/
import Derived.Test.YtcdjeblcmgghhaaCrumbRef6
import Derived.Test.YtcdjeblcmgghhaaCrumbAwake
namespace Go.Proofs.Ytcdjeblcmgghhaa.Crumb
open Go.RowKit Go.Sp

/-- both objects, all of their blocks made since s, none of them in K -/
def Pr (s : Nat) (K : Nat → Prop) (w : World) (cb rb : Nat) (n : Int) (M1 M2 : PL) : Prop :=
  ∃ R1 R2 tv av us, Cr w R1 cb n M1 ∧ Frep w R2 rb n M2 tv av us ∧ (∀ b, R1 b → ¬ R2 b) ∧ (∀ b, R1 b ∨ R2 b → s ≤ b ∧ ¬ K b)

section
variable {w w' : World} {R : Nat → Prop} {s cb rb : Nat} {K : Nat → Prop} {n t : Int} {M M1 M2 : PL} {tv av : Value} {us : List Value}

theorem refAdd_any (h : Frep w R rb n M tv av us) (hn : M.length ≤ 50000) (hok : (lget t M).length ≤ 1000) (hk : KS M) {a c : Int} {M' : PL} (hc : addM n M t a = (c, M')) :
    Calls Try.prog 48 #[.pointer (some ⟨rb, 0, none⟩), .int .i64 t, .int .i64 a] w fun e w' => e = .returned (.int .i64 c) ∧ RefOut w R rb n M M' w' := by
  by_cases h1 : t < 1 ∨ 65535 < t
  · have e := hc; rw [addM_arg h1] at e; cases e
    exact refAdd_no h hok hc (by decide)
  by_cases h2 : a < 0 ∨ n ≤ a
  · have e := hc; rw [addM_range h1 h2] at e; cases e
    exact refAdd_no h hok hc (by decide)
  cases h3 : (lget t M).contains a with
  | true =>
    have e := hc; rw [addM_once h1 h2 h3] at e; cases e
    exact refAdd_no h hok hc (by decide)
  | false =>
    have e := hc; rw [addM_ok h1 h2 h3] at e; cases e
    exact refAdd_yes h hn hok hc hk

theorem Pr.facts (h : Pr s K w cb rb n M1 M2) : KS M1 ∧ ∀ k, (lget k M1).length ≤ 4 := by
  obtain ⟨R1, R2, tv, av, us, h1, _⟩ := h
  refine ⟨h1.ks, fun k => ?_⟩
  cases hk : mget k M1 with
  | none => simp [lget, hk]
  | some l =>
    obtain ⟨hs, hb⟩ := h1.ok k l hk
    have := h1.n4
    have := rising_len hs hb (by omega)
    simp [lget, hk]; omega

theorem Pr.only {F : Nat → Prop} (h : Pr s K w cb rb n M1 M2) (o : Only F w w') (hF : ∀ b, s ≤ b → ¬ K b → ¬ F b) : Pr s K w' cb rb n M1 M2 := by
  obtain ⟨R1, R2, tv, av, us, h1, h2, h3, h4⟩ := h
  exact ⟨R1, R2, tv, av, us, h1.only o (fun b hb => hF b (h4 b (.inl hb)).1 (h4 b (.inl hb)).2), h2.only o (fun b hb => hF b (h4 b (.inr hb)).1 (h4 b (.inr hb)).2), h3, h4⟩

theorem Pr.below (h : Pr s K w cb rb n M1 M2) (o : Below w.heap.size w w') : Pr s K w' cb rb n M1 M2 := h.only (only_of_below o (fun _ => False)) (fun _ _ _ => id)

theorem Cr.heap {w w' : World} {R : Nat → Prop} {cb : Nat} {n : Int} {M : PL} (h : Cr w R cb n M) (e : w'.heap = w.heap) : Cr w' R cb n M := by
  obtain ⟨mb, m, h, e2⟩ := h
  exact ⟨mb, m, h.heap e, e2⟩
theorem Frep.heap (h : Frep w R rb n M tv av us) (e : w'.heap = w.heap) : Frep w' R rb n M tv av us :=
  ⟨by rw [e]; exact h.blk, by rw [e]; exact h.st, by rw [e]; exact h.sa, by rw [e]; exact h.el, h.rr, h.rt, h.ra, h.re, by rw [e]; exact h.rlt⟩
theorem Pr.heap (h : Pr s K w cb rb n M1 M2) (e : w'.heap = w.heap) : Pr s K w' cb rb n M1 M2 := by
  obtain ⟨R1, R2, tv, av, us, h1, h2, h3, h4⟩ := h
  exact ⟨R1, R2, tv, av, us, h1.heap e, h2.heap e, h3, h4⟩

theorem Pr.turn {K' : Nat → Prop} (h : Pr s K w cb rb n M1 M2) (hK : ∀ b, b < w.heap.size → K' b → K b) : Pr s K' w cb rb n M1 M2 := by
  obtain ⟨R1, R2, tv, av, us, h1, h2, h3, h4⟩ := h
  refine ⟨R1, R2, tv, av, us, h1, h2, h3, fun b hb => ⟨(h4 b hb).1, fun e => (h4 b hb).2 (hK b ?_ e)⟩⟩
  exact hb.elim (h1.lt b) (h2.rlt b)

theorem Pr.add1 (h : Pr s K w cb rb n M1 M2) (hs : s ≤ w.heap.size) (hK : ∀ b, K b → b < w.heap.size) {a c : Int} {M' : PL} (ht : (Lit.int .i64 t).wf = true) (e : addM n M1 t a = (c, M')) :
    Calls Try.prog 47 #[.pointer (some ⟨cb, 0, none⟩), .int .i64 t, .int .i64 a] w fun e w' => e = .returned (.int .i64 c) ∧ Pr s K w' cb rb n M' M2 ∧ Only (fun b => s ≤ b ∧ ¬ K b) w w' := by
  obtain ⟨R1, R2, tv, av, us, h1, h2, h3, h4⟩ := h
  refine (add_cr h1 ht e).mono ?_
  rintro e w' ⟨rfl, R', hC, hR', hO⟩
  refine ⟨rfl, ⟨R', R2, tv, av, us, hC, h2.only hO (fun b hb hb1 => h3 b hb1 hb), fun b hb hb2 => ?_, fun b hb => ?_⟩, hO.mono fun b _ hb => h4 b (.inl hb)⟩
  · rcases hR' b hb with h | h
    · exact h3 b h hb2
    · have := h2.rlt b hb2; omega
  · rcases hb with hb | hb
    · rcases hR' b hb with h | h
      · exact h4 b (.inl h)
      · exact ⟨Nat.le_trans hs h, fun e => by have := hK b e; omega⟩
    · exact h4 b (.inr hb)

theorem Pr.drop1 (h : Pr s K w cb rb n M1 M2) (k : Int) :
    Calls Try.prog 49 #[.pointer (some ⟨cb, 0, none⟩), .int .i64 k] w fun e w' => e = .returned (.tuple #[]) ∧ Pr s K w' cb rb n (mdel k M1) M2 ∧ Only (fun b => s ≤ b ∧ ¬ K b) w w' := by
  obtain ⟨R1, R2, tv, av, us, h1, h2, h3, h4⟩ := h
  refine (drop_cr h1 k).mono ?_
  rintro e w' ⟨rfl, hC, hO⟩
  exact ⟨rfl, ⟨R1, R2, tv, av, us, hC, h2.only hO (fun b hb hb1 => h3 b hb1 hb), h3, h4⟩, hO.mono fun b _ hb => h4 b (.inl hb)⟩

theorem Pr.out2 {R1 R2 : Nat → Prop} {M' : PL} (h1 : Cr w R1 cb n M1) (h3 : ∀ b, R1 b → ¬ R2 b) (h4 : ∀ b, R1 b ∨ R2 b → s ≤ b ∧ ¬ K b) (hs : s ≤ w.heap.size) (hK : ∀ b, K b → b < w.heap.size)
    (H : RefOut w R2 rb n M2 M' w') : Pr s K w' cb rb n M1 M' ∧ Only (fun b => s ≤ b ∧ ¬ K b) w w' := by
  obtain ⟨R', tv', av', us', hF, hR', hO⟩ := H
  refine ⟨⟨R1, R', tv', av', us', h1.only hO h3, hF, fun b hb hb2 => ?_, fun b hb => ?_⟩, hO.mono fun b _ hb => h4 b (.inr hb)⟩
  · rcases hR' b hb2 with h | h
    · exact h3 b hb h
    · have := h1.lt b hb; omega
  · rcases hb with hb | hb
    · exact h4 b (.inl hb)
    · rcases hR' b hb with h | h
      · exact h4 b (.inr h)
      · exact ⟨Nat.le_trans hs h, fun e => by have := hK b e; omega⟩

theorem Pr.add2 (h : Pr s K w cb rb n M1 M2) (hs : s ≤ w.heap.size) (hK : ∀ b, K b → b < w.heap.size) (hn : M2.length ≤ 50000) (hok : (lget t M2).length ≤ 1000) (hk : KS M2) {a c : Int} {M' : PL} (e : addM n M2 t a = (c, M')) :
    Calls Try.prog 48 #[.pointer (some ⟨rb, 0, none⟩), .int .i64 t, .int .i64 a] w fun e w' => e = .returned (.int .i64 c) ∧ Pr s K w' cb rb n M1 M' ∧ Only (fun b => s ≤ b ∧ ¬ K b) w w' := by
  obtain ⟨R1, R2, tv, av, us, h1, h2, h3, h4⟩ := h
  refine (refAdd_any h2 hn hok hk e).mono ?_
  rintro e w' ⟨rfl, H⟩
  exact ⟨rfl, Pr.out2 h1 h3 h4 hs hK H⟩

theorem Pr.drop2 (h : Pr s K w cb rb n M1 M2) (hs : s ≤ w.heap.size) (hK : ∀ b, K b → b < w.heap.size) (hn : M2.length ≤ 50000) (k : Int) :
    Calls Try.prog 50 #[.pointer (some ⟨rb, 0, none⟩), .int .i64 k] w fun e w' => e = .returned (.tuple #[]) ∧ Pr s K w' cb rb n M1 (mdel k M2) ∧ Only (fun b => s ≤ b ∧ ¬ K b) w w' := by
  obtain ⟨R1, R2, tv, av, us, h1, h2, h3, h4⟩ := h
  refine (refDrop_any h2 (by omega) k).mono ?_
  rintro e w' ⟨rfl, H⟩
  exact ⟨rfl, Pr.out2 (M2 := M2) h1 h3 h4 hs hK H⟩

theorem Pr.of1 (h : Pr s K w cb rb n M1 M2) (k : Int) :
    Calls Try.prog 51 #[.pointer (some ⟨cb, 0, none⟩), .int .i64 k] w fun e w' => ∃ v, e = .returned v ∧ SL w'.heap 3 1 v (lget k M1).length ((lget k M1).map Sp.zI) ∧ (∀ g, v.ownBlock = some g → w.heap.size ≤ g) ∧ Below w.heap.size w w' := by
  obtain ⟨R1, R2, tv, av, us, h1, _⟩ := h
  exact of_cr h1 k

theorem Pr.of2 (h : Pr s K w cb rb n M1 M2) (k : Int) :
    Calls Try.prog 52 #[.pointer (some ⟨rb, 0, none⟩), .int .i64 k] w fun e w' => ∃ v, e = .returned v ∧ RS w 1 eInt v (lget k M2) ∧ (∀ g, v.ownBlock = some g → g < w.heap.size) ∧ w = w' := by
  obtain ⟨R1, R2, tv, av, us, h1, h2, _⟩ := h
  refine (refOf_any h2 k).mono ?_
  rintro e w' ⟨u, rfl, h3, _, h4⟩
  exact ⟨u, rfl, SL.ints h3, h3.lt, h4⟩

theorem Pr.traces1 (h : Pr s K w cb rb n M1 M2) (hn : M1.length ≤ 1000000) :
    Calls Try.prog 53 #[.pointer (some ⟨cb, 0, none⟩)] w fun e w' => ∃ v, e = .returned v ∧ RS w' 1 eInt v (M1.map Prod.fst) ∧ Below w.heap.size w w' := by
  obtain ⟨R1, R2, tv, av, us, h1, _⟩ := h
  refine (traces_cr h1 hn).mono ?_
  rintro e w' ⟨v, rfl, h3, _, h4⟩
  exact ⟨v, rfl, rs_of h3, h4⟩

theorem Pr.traces2 (h : Pr s K w cb rb n M1 M2) : ∃ v, w.cell? ⟨rb, 1, none⟩ = some v ∧ RS w 1 eInt v (M2.map Prod.fst) ∧ ∀ g, v.ownBlock = some g → g < w.heap.size := by
  obtain ⟨R1, R2, tv, av, us, h1, h2, _⟩ := h
  have hst : SL w.heap 3 1 tv (M2.map Prod.fst).length ((M2.map Prod.fst).map Sp.zI) := by
    rw [List.length_map, List.map_map]; exact h2.st
  exact ⟨tv, h2.c1, SL.ints hst, h2.st.lt⟩
end
end Go.Proofs.Ytcdjeblcmgghhaa.Crumb
