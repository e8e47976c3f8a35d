/- JobEnds, the plain part: a job that is told all that it asks for is over behind as many rounds as there are agents, and two. No condition beyond those each lemma names. -/
import Derived.Test.YtniggacgkhkgiaaTwice0
namespace Go.Sp
open Go.RowKit Go.Proofs.Ytniggacgkhkgiaa.Job

theorem countP_lt {α : Type} {p q : α → Bool} : ∀ {l : List α}, (∀ x ∈ l, p x = true → q x = true) → (∃ x ∈ l, q x = true ∧ p x = false) → l.countP p < l.countP q
  | [], _, ⟨_, h, _⟩ => by simp at h
  | a :: r, h, ⟨x, hx, hq, hp⟩ => by
    have hr := fun y hy => h y (List.mem_cons_of_mem _ hy)
    rw [List.countP_cons, List.countP_cons]
    rcases List.mem_cons.1 hx with rfl | hx
    · have := List.countP_mono_left hr
      simp [hq, hp]; omega
    · have h1 := countP_lt hr ⟨x, hx, hq, hp⟩
      have h2 := h a List.mem_cons_self
      cases e1 : p a with
      | false => simp; split <;> omega
      | true => simp [h2 e1]; omega

/-- how many of the first A agents are visited -/
def cnt (A : Nat) (vs : List (Int × Vis)) : Nat := (List.range A).countP fun a : Nat => (mget (a : Int) vs).isSome
theorem cnt_le (A : Nat) (vs : List (Int × Vis)) : cnt A vs ≤ A := by
  have := List.countP_le_length (p := fun a : Nat => (mget (a : Int) vs).isSome) (l := List.range A)
  simpa [cnt] using this

theorem addCs_all {P : Int × Vis → Prop} {ag : Int} : ∀ {cs : List Int} {vs : List (Int × Vis)}, (∀ p ∈ vs, P p) → (∀ c ∈ cs, c < ag → P (c, zVis)) → ∀ p ∈ addCs ag vs cs, P p
  | [], _, h, _ => h
  | c :: r, vs, h, hc => by
    refine addCs_all (cs := r) (vs := addC ag vs c) (fun p hp => ?_) (fun c' h' => hc c' (List.mem_cons_of_mem _ h'))
    unfold addC at hp
    cases hb : decide (c < ag) && (mget c vs).isNone with
    | false => rw [hb] at hp; exact h p hp
    | true =>
      rw [hb] at hp
      rcases mem_mput hp with rfl | hp
      · exact hc c List.mem_cons_self (by simp at hb; exact hb.1)
      · exact h p hp
theorem addCs_ks {ag : Int} : ∀ {cs : List Int} {vs : List (Int × Vis)}, KS vs → KS (addCs ag vs cs)
  | [], _, h => h
  | c :: r, vs, h => by
    refine addCs_ks (cs := r) (vs := addC ag vs c) ?_
    unfold addC
    cases decide (c < ag) && (mget c vs).isNone with
    | false => exact h
    | true => exact h.mput

/-- the answer to what is said to an agent -/
def ansJ (tr : Int) (tell : Int → List Int) (J : Jb) (x : Int × Mg) : Jb := match x.2 with
  | .pin _ _ => hearJ J (.pinned ⟨x.1, tr, 1, 0, .slice none 0 0, tell x.1, false⟩)
  | .mani _ _ _ _ _ => hearJ J (.stor tr 1)
  | .unp _ _ => hearJ J (.unpd x.1 tr 1)
  | _ => J
theorem hearJ_cv (J : Jb) (a t j n : Int) (cv cv' : Value) (cl : List Int) (l : Bool) : hearJ J (.pinned ⟨a, t, j, n, cv, cl, l⟩) = hearJ J (.pinned ⟨a, t, j, n, cv', cl, l⟩) := rfl

structure IV (A : Nat) (tr : Int) (J : Jb) : Prop where
  ks : KS J.vs
  tr : J.tr = tr
  id : J.id = 1
  ag : J.ag = A
  rg : ∀ p ∈ J.vs, 0 ≤ p.1 ∧ p.1 < A
  ne : J.vs ≠ []
  uf : ∀ p ∈ J.vs, p.2.free = false
structure Tells (A : Nat) (tell : Int → List Int) : Prop where
  ok : ∀ k, agOk (-1) (tell k) = true
  rg : ∀ k, ∀ c ∈ tell k, 0 ≤ c
def Q1 (A : Nat) (tr : Int) (J : Jb) : Prop := IV A tr J ∧ ((J.ph = 1 ∧ allV (fun v => v.pin) J.vs = false) ∨ (J.ph = 2 ∧ J.full = true))
def Keep (J J' : Jb) : Prop := ∀ k v, mget k J.vs = some v → ∃ v', mget k J'.vs = some v' ∧ (v.pin = true → v'.pin = true)
theorem Keep.refl (J : Jb) : Keep J J := fun _ v h => ⟨v, h, id⟩
theorem Keep.trans {J J' J'' : Jb} (h : Keep J J') (h' : Keep J' J'') : Keep J J'' := fun k v e => by
  obtain ⟨v', e', i⟩ := h k v e
  obtain ⟨v'', e'', i'⟩ := h' k v' e'
  exact ⟨v'', e'', fun x => i' (i x)⟩

section
variable {A : Nat} {tr : Int} {tell : Int → List Int} {J : Jb}
theorem ans_pin (hA : A ≤ 4) (ht : 1 ≤ tr ∧ tr ≤ 65535) (T : Tells A tell) (iv : IV A tr J) {k : Int} {v : Vis} (hk : mget k J.vs = some v) (t j : Int) :
    ansJ tr tell J (k, .pin t j) = pinJ J k v ⟨k, tr, 1, 0, .slice none 0 0, tell k, false⟩ := by
  have hr := iv.rg _ (mget_mem hk)
  simp only at hr
  have hok : jobOk J (.pinned ⟨k, tr, 1, 0, .slice none 0 0, tell k, false⟩) = true := by
    simp only [jobOk, rightM, rightP, mT, mJ, T.ok k, Bool.and_eq_true, wi_true, decide_eq_true_eq, iv.tr, iv.id, and_true]
    omega
  show hearJ J _ = _
  unfold hearJ
  rw [hok]
  simp only [cond_true, hearK, hk]
theorem pin_step (hA : A ≤ 4) (ht : 1 ≤ tr ∧ tr ≤ 65535) (T : Tells A tell) (h : Q1 A tr J) {k : Int} {v : Vis} (hk : mget k J.vs = some v) (t j : Int) :
    Q1 A tr (ansJ tr tell J (k, .pin t j)) ∧ Keep J (ansJ tr tell J (k, .pin t j)) ∧ (J.ph = 2 → ansJ tr tell J (k, .pin t j) = J) ∧ ((ansJ tr tell J (k, .pin t j)).ph = 1 → ∃ v', mget k (ansJ tr tell J (k, .pin t j)).vs = some v' ∧ v'.pin = true) := by
  obtain ⟨iv, hp⟩ := h
  have hr := iv.rg _ (mget_mem hk)
  simp only at hr
  rw [ans_pin hA ht T iv hk]
  generalize hP : (⟨k, tr, 1, 0, .slice none 0 0, tell k, false⟩ : Pt) = p
  have hcl : p.cl = tell k := by rw [← hP]
  clear hP
  cases h1 : decide (J.ph ≠ 1) || v.pin with
  | true =>
    have e : pinJ J k v p = J := by unfold pinJ; rw [h1]; rfl
    rw [e]
    refine ⟨⟨iv, hp⟩, Keep.refl J, fun _ => rfl, fun e1 => ⟨v, hk, ?_⟩⟩
    simpa [e1] using h1
  | false =>
    simp only [Bool.or_eq_false_iff, decide_eq_false_iff_not, ne_eq, Decidable.not_not] at h1
    obtain ⟨h1, hvp⟩ := h1
    have hg : mget k (pinVs J k v p) = some (toldV v p) := addCs_get (by rw [mget_mput, if_pos rfl])
    have hkeep : ∀ J' : Jb, J'.vs = pinVs J k v p → Keep J J' := fun J' e k' v' h' => by
      by_cases ek : k' = k
      · subst ek
        exact ⟨_, by rw [e]; exact hg, fun _ => rfl⟩
      · exact ⟨v', by rw [e]; exact addCs_get (by rw [mget_mput, if_neg ek]; exact h'), id⟩
    have hiv : ∀ J' : Jb, J'.vs = pinVs J k v p → J'.tr = J.tr → J'.id = J.id → J'.ag = J.ag → IV A tr J' := fun J' e e1 e2 e3 => by
      have hvf := iv.uf _ (mget_mem hk)
      refine ⟨by rw [e]; exact addCs_ks iv.ks.mput, e1.trans iv.tr, e2.trans iv.id, e3.trans iv.ag, ?_, fun e0 => ?_, ?_⟩
      · rw [e]
        refine addCs_all (P := fun p => 0 ≤ p.1 ∧ p.1 < A) (fun q hq => ?_) (fun c hc hlt => ⟨T.rg k c (by rw [← hcl]; exact hc), by rw [iv.ag] at hlt; exact hlt⟩)
        rcases mem_mput hq with rfl | hq
        · exact hr
        · exact iv.rg q hq
      · rw [e] at e0; rw [e0] at hg; simp [mget] at hg
      · rw [e]
        refine addCs_all (P := fun p => p.2.free = false) (fun q hq => ?_) (fun c hc _ => rfl)
        rcases mem_mput hq with rfl | hq
        · exact hvf
        · exact iv.uf q hq
    cases ha : allV (fun v => v.pin) (pinVs J k v p) with
    | true =>
      have e : pinJ J k v p = { J with vs := pinVs J k v p, ph := 2, full := true } := by unfold pinJ; simp [h1, hvp, ha]
      rw [e]
      exact ⟨⟨hiv _ rfl rfl rfl rfl, .inr ⟨rfl, rfl⟩⟩, hkeep _ rfl, fun e2 => by omega, fun e1 => by simp at e1⟩
    | false =>
      have e : pinJ J k v p = { J with vs := pinVs J k v p } := by unfold pinJ; simp [h1, hvp, ha]
      rw [e]
      exact ⟨⟨hiv _ rfl rfl rfl rfl, .inl ⟨h1, ha⟩⟩, hkeep _ rfl, fun e2 => by omega, fun e1 => ⟨_, hg, rfl⟩⟩
theorem pin_fold (hA : A ≤ 4) (ht : 1 ≤ tr ∧ tr ≤ 65535) (T : Tells A tell) : ∀ (L : List (Int × Mg)) (J : Jb), Q1 A tr J → (∀ x ∈ L, ∃ t j v, x.2 = .pin t j ∧ mget x.1 J.vs = some v) →
    Q1 A tr (L.foldl (ansJ tr tell) J) ∧ Keep J (L.foldl (ansJ tr tell) J) ∧ (J.ph = 2 → L.foldl (ansJ tr tell) J = J) ∧ ((L.foldl (ansJ tr tell) J).ph = 1 → ∀ x ∈ L, ∃ v', mget x.1 (L.foldl (ansJ tr tell) J).vs = some v' ∧ v'.pin = true)
  | [], J, h, _ => ⟨h, Keep.refl J, fun _ => rfl, fun _ x hx => by simp at hx⟩
  | x :: r, J, h, hL => by
    obtain ⟨k, m⟩ := x
    obtain ⟨t, j, v, rfl, hk⟩ := hL _ List.mem_cons_self
    obtain ⟨g1, g2, g3, g4⟩ := pin_step hA ht T h hk t j
    obtain ⟨f1, f2, f3, f4⟩ := pin_fold hA ht T r (ansJ tr tell J (k, .pin t j)) g1 (fun x hx => by
      obtain ⟨t', j', v', e, e'⟩ := hL x (List.mem_cons_of_mem _ hx)
      obtain ⟨v'', e'', _⟩ := g2 _ _ e'
      exact ⟨t', j', v'', e, e''⟩)
    rw [List.foldl_cons]
    refine ⟨f1, g2.trans f2, fun e => ?_, fun e1 x hx => ?_⟩
    · have := g3 e
      rw [this] at f3 ⊢
      exact f3 e
    · rcases List.mem_cons.1 hx with rfl | hx
      · have e2 : (ansJ tr tell J (k, .pin t j)).ph = 1 := by
          rcases g1.2 with h | h
          · exact h.1
          · rw [f3 h.1] at e1; exact e1
        obtain ⟨v', h1, h2⟩ := g4 e2
        obtain ⟨v'', h3, h4⟩ := f2 _ _ h1
        exact ⟨v'', h3, h4 h2⟩
      · exact f4 e1 x hx
theorem outs_pin (h1 : J.ph = 1) {x : Int × Mg} (hs : KS J.vs) (hx : x ∈ outsT J) : ∃ t j v, x.2 = .pin t j ∧ mget x.1 J.vs = some v := by
  unfold outsT at hx
  obtain ⟨p, hp, hx⟩ := List.mem_flatMap.1 hx
  unfold outV at hx
  cases hb : p.2.pin with
  | true => simp [h1, hb] at hx
  | false =>
    simp [h1, hb] at hx
    subst hx
    exact ⟨_, _, p.2, rfl, mget_of_mem hs hp⟩
theorem outs_all (h1 : J.ph = 1) {k : Int} {v : Vis} (hk : mget k J.vs = some v) (hv : v.pin = false) : (k, .pin J.tr J.id) ∈ outsT J := by
  unfold outsT
  exact List.mem_flatMap.2 ⟨_, mget_mem hk, by simp [outV, h1, hv]⟩
/-- a round of phase 1 -/
theorem round1 (hA : A ≤ 4) (ht : 1 ≤ tr ∧ tr ≤ 65535) (T : Tells A tell) (h : Q1 A tr J) (h1 : J.ph = 1) :
    Q1 A tr ((outsT J).foldl (ansJ tr tell) J) ∧ (((outsT J).foldl (ansJ tr tell) J).ph = 1 → cnt A J.vs < cnt A ((outsT J).foldl (ansJ tr tell) J).vs) := by
  obtain ⟨f1, f2, f3, f4⟩ := pin_fold hA ht T (outsT J) J h (fun x hx => outs_pin h1 h.1.ks hx)
  refine ⟨f1, fun e => ?_⟩
  generalize (outsT J).foldl (ansJ tr tell) J = J' at f1 f2 f3 f4 e
  have hn : allV (fun v => v.pin) J'.vs = false := by
    rcases f1.2 with h | h
    · exact h.2
    · omega
  unfold allV at hn
  rw [List.all_eq_false] at hn
  obtain ⟨⟨k, v⟩, hm, hv⟩ := hn
  have hg := mget_of_mem f1.1.ks hm
  have hv : v.pin = false := by simpa using hv
  have hr := f1.1.rg _ hm
  simp only at hr
  unfold cnt
  refine countP_lt (fun a _ ha => ?_) ⟨k.toNat, List.mem_range.2 (by omega), by rw [show ((k.toNat : Nat) : Int) = k by omega, hg]; rfl, ?_⟩
  · obtain ⟨v0, h0⟩ := Option.isSome_iff_exists.1 ha
    obtain ⟨v1, h1, _⟩ := f2 _ _ h0
    rw [h1]; rfl
  · rw [show ((k.toNat : Nat) : Int) = k by omega]
    cases h0 : mget k J.vs with
    | none => rfl
    | some v0 =>
      exfalso
      cases hv0 : v0.pin with
      | true =>
        obtain ⟨v1, g1, g2⟩ := f2 _ _ h0
        rw [hg] at g1
        cases g1
        rw [g2 hv0] at hv; cases hv
      | false =>
        obtain ⟨v1, g1, g2⟩ := f4 e _ (outs_all h1 h0 hv0)
        simp only at g1
        rw [hg] at g1
        cases g1
        rw [g2] at hv; cases hv

/-! ### the later rounds -/
def HeadL (J : Jb) (hd : List (Int × Mg)) : Prop := (manOut J = false ∧ hd = []) ∨ (manOut J = true ∧ ∃ t j c pv ps, hd = [(-1, .mani t j c pv ps)])
theorem fold_coll : ∀ {L : List (Int × Mg)}, (∀ x ∈ L, ∃ t j, x.2 = .coll t j) → L.foldl (ansJ tr tell) J = J
  | [], _ => rfl
  | x :: r, h => by
    obtain ⟨k, m⟩ := x
    obtain ⟨t, j, rfl⟩ := h _ List.mem_cons_self
    rw [List.foldl_cons]
    exact fold_coll (fun y hy => h y (List.mem_cons_of_mem _ hy))
theorem round2 (ht : 1 ≤ tr ∧ tr ≤ 65535) (iv : IV A tr J) (h2 : J.ph = 2) (t j c : Int) (pv : Value) (ps : List Pt) : ((-1, .mani t j c pv ps) :: outsT J).foldl (ansJ tr tell) J = { J with kept := true, ph := 3 } := by
  have e : ansJ tr tell J (-1, .mani t j c pv ps) = { J with kept := true, ph := 3 } := by
    show hearJ J _ = _
    have hok : jobOk J (.stor tr 1) = true := by
      simp only [jobOk, rightM, mT, mJ, Bool.and_eq_true, wi_true, decide_eq_true_eq, iv.tr, iv.id, and_true]
      omega
    unfold hearJ
    rw [hok]
    simp [hearK, h2]
  rw [List.foldl_cons, e]
  refine fold_coll (fun x hx => ?_)
  unfold outsT at hx
  obtain ⟨p, hp, hx⟩ := List.mem_flatMap.1 hx
  simp [outV, h2] at hx
  subst hx
  exact ⟨_, _, rfl⟩
structure R3 (A : Nat) (tr : Int) (J : Jb) : Prop where
  ks : KS J.vs
  tr : J.tr = tr
  id : J.id = 1
  rg : ∀ p ∈ J.vs, 0 ≤ p.1 ∧ p.1 < A
  kept : J.kept = true
  ph : (J.ph = 3 ∧ allV (fun v => v.free) J.vs = false) ∨ J.ph = 4
def KeepF (J J' : Jb) : Prop := (∀ k v, mget k J.vs = some v → ∃ v', mget k J'.vs = some v' ∧ (v.free = true → v'.free = true)) ∧ ∀ k, mget k J.vs = none → mget k J'.vs = none
theorem KeepF.refl (J : Jb) : KeepF J J := ⟨fun _ v h => ⟨v, h, fun e => e⟩, fun _ h => h⟩
theorem KeepF.trans {J J' J'' : Jb} (h : KeepF J J') (h' : KeepF J' J'') : KeepF J J'' := ⟨fun k v e => by
  obtain ⟨v', e', i⟩ := h.1 k v e
  obtain ⟨v'', e'', i'⟩ := h'.1 k v' e'
  exact ⟨v'', e'', fun x => i' (i x)⟩, fun k e => h'.2 k (h.2 k e)⟩
theorem unp_step (hA : A ≤ 4) (ht : 1 ≤ tr ∧ tr ≤ 65535) (h : R3 A tr J) {k : Int} {v : Vis} (hk : mget k J.vs = some v) (t j : Int) :
    R3 A tr (ansJ tr tell J (k, .unp t j)) ∧ KeepF J (ansJ tr tell J (k, .unp t j)) ∧ (J.ph = 4 → ansJ tr tell J (k, .unp t j) = J) ∧ ((ansJ tr tell J (k, .unp t j)).ph = 3 → ∃ v', mget k (ansJ tr tell J (k, .unp t j)).vs = some v' ∧ v'.free = true) := by
  have hr := h.rg _ (mget_mem hk)
  simp only at hr
  have hok : jobOk J (.unpd k tr 1) = true := by
    simp only [jobOk, rightM, mT, mJ, Bool.and_eq_true, wi_true, decide_eq_true_eq, h.tr, h.id, and_true]
    omega
  have e : ansJ tr tell J (k, .unp t j) = freeJ J k v := by
    show hearJ J _ = _
    unfold hearJ
    rw [hok]
    simp only [cond_true, hearK, hk]
  rw [e]
  clear e hok
  rcases h.ph with ⟨h3, hn⟩ | h4
  · have hg : mget k (freeVs J k v) = some { v with free := true } := by unfold freeVs; rw [mget_mput, if_pos rfl]
    have hK : ∀ J' : Jb, J'.vs = freeVs J k v → KeepF J J' := fun J' e => ⟨fun k' v' h' => by
      by_cases ek : k' = k
      · subst ek
        exact ⟨_, by rw [e]; exact hg, fun _ => rfl⟩
      · exact ⟨v', by rw [e]; unfold freeVs; rw [mget_mput, if_neg ek]; exact h', fun x => x⟩, fun k' h' => by
      have ek : k' ≠ k := fun ek => by subst ek; rw [hk] at h'; cases h'
      rw [e]; unfold freeVs; rw [mget_mput, if_neg ek]; exact h'⟩
    have hrg : ∀ p ∈ freeVs J k v, 0 ≤ p.1 ∧ p.1 < A := fun q hq => by
      unfold freeVs at hq
      rcases mem_mput hq with rfl | hq
      · exact hr
      · exact h.rg q hq
    have hks : KS (freeVs J k v) := by unfold freeVs; exact h.ks.mput
    cases ha : allV (fun v => v.free) (freeVs J k v) with
    | true =>
      have e : freeJ J k v = { J with vs := freeVs J k v, ph := 4 } := by unfold freeJ; simp [h3, ha]
      rw [e]
      exact ⟨⟨hks, h.tr, h.id, hrg, h.kept, .inr rfl⟩, hK _ rfl, fun e4 => by omega, fun e3 => by simp at e3⟩
    | false =>
      have e : freeJ J k v = { J with vs := freeVs J k v } := by unfold freeJ; simp [h3, ha]
      rw [e]
      exact ⟨⟨hks, h.tr, h.id, hrg, h.kept, .inl ⟨h3, ha⟩⟩, hK _ rfl, fun e4 => by omega, fun _ => ⟨_, hg, rfl⟩⟩
  · have e : freeJ J k v = J := by unfold freeJ; simp [h4]
    rw [e]
    exact ⟨h, KeepF.refl J, fun _ => rfl, fun e3 => by omega⟩
theorem unp_fold (hA : A ≤ 4) (ht : 1 ≤ tr ∧ tr ≤ 65535) : ∀ (L : List (Int × Mg)) (J : Jb), R3 A tr J → (∀ x ∈ L, ∃ t j v, x.2 = .unp t j ∧ mget x.1 J.vs = some v) →
    R3 A tr (L.foldl (ansJ tr tell) J) ∧ KeepF J (L.foldl (ansJ tr tell) J) ∧ (J.ph = 4 → L.foldl (ansJ tr tell) J = J) ∧ ((L.foldl (ansJ tr tell) J).ph = 3 → ∀ x ∈ L, ∃ v', mget x.1 (L.foldl (ansJ tr tell) J).vs = some v' ∧ v'.free = true)
  | [], J, h, _ => ⟨h, KeepF.refl J, fun _ => rfl, fun _ x hx => by simp at hx⟩
  | x :: r, J, h, hL => by
    obtain ⟨k, m⟩ := x
    obtain ⟨t, j, v, rfl, hk⟩ := hL _ List.mem_cons_self
    obtain ⟨g1, g2, g3, g4⟩ := unp_step (tell := tell) hA ht h hk t j
    obtain ⟨f1, f2, f3, f4⟩ := unp_fold hA ht r (ansJ tr tell J (k, .unp t j)) g1 (fun x hx => by
      obtain ⟨t', j', v', e, e'⟩ := hL x (List.mem_cons_of_mem _ hx)
      obtain ⟨v'', e'', _⟩ := g2.1 _ _ e'
      exact ⟨t', j', v'', e, e''⟩)
    rw [List.foldl_cons]
    refine ⟨f1, g2.trans f2, fun e => ?_, fun e1 x hx => ?_⟩
    · have := g3 e
      rw [this] at f3 ⊢
      exact f3 e
    · rcases List.mem_cons.1 hx with rfl | hx
      · have e2 : (ansJ tr tell J (k, .unp t j)).ph = 3 := by
          rcases g1.ph with h | h
          · exact h.1
          · rw [f3 h] at e1; omega
        obtain ⟨v', h1, h2⟩ := g4 e2
        obtain ⟨v'', h3, h4⟩ := f2.1 _ _ h1
        exact ⟨v'', h3, h4 h2⟩
      · exact f4 e1 x hx
theorem round3 (hA : A ≤ 4) (ht : 1 ≤ tr ∧ tr ≤ 65535) (iv : IV A tr J) (h3 : J.ph = 3) (hk : J.kept = true) : ((outsT J).foldl (ansJ tr tell) J).ph = 4 ∧ ((outsT J).foldl (ansJ tr tell) J).kept = true := by
  have hn : allV (fun v => v.free) J.vs = false := by
    obtain ⟨p, r, e⟩ := List.exists_cons_of_ne_nil iv.ne
    unfold allV
    rw [List.all_eq_false]
    exact ⟨p, by rw [e]; exact List.mem_cons_self, by simp [iv.uf p (by rw [e]; exact List.mem_cons_self)]⟩
  have hv : ∀ p ∈ J.vs, outV J p = [(p.1, .unp J.tr J.id)] := fun p hp => by simp [outV, h3, iv.uf p hp]
  obtain ⟨f1, f2, _, f4⟩ := unp_fold (tell := tell) hA ht (outsT J) J ⟨iv.ks, iv.tr, iv.id, iv.rg, hk, .inl ⟨h3, hn⟩⟩ (fun x hx => by
    unfold outsT at hx
    obtain ⟨p, hp, hx⟩ := List.mem_flatMap.1 hx
    rw [hv p hp] at hx
    rw [List.mem_singleton.1 hx]
    exact ⟨_, _, p.2, rfl, mget_of_mem iv.ks hp⟩)
  have hall : ∀ p ∈ J.vs, (p.1, .unp J.tr J.id) ∈ outsT J := fun p hp => by
    unfold outsT
    exact List.mem_flatMap.2 ⟨p, hp, by rw [hv p hp]; exact List.mem_singleton.2 rfl⟩
  generalize (outsT J).foldl (ansJ tr tell) J = J' at f1 f2 f4
  refine ⟨?_, f1.kept⟩
  rcases f1.ph with ⟨e, hn'⟩ | e
  · exfalso
    unfold allV at hn'
    rw [List.all_eq_false] at hn'
    obtain ⟨⟨k, v⟩, hm, hvf⟩ := hn'
    have hg := mget_of_mem f1.ks hm
    cases h0 : mget k J.vs with
    | none => rw [f2.2 k h0] at hg; cases hg
    | some v0 =>
      obtain ⟨v1, g1, g2⟩ := f4 e _ (hall _ (mget_mem h0))
      simp only at g1
      rw [hg] at g1
      cases g1
      exact hvf g2
  · exact e

/-- how far a job is behind n rounds -/
def Prog (A : Nat) (tr : Int) (n : Nat) (J : Jb) : Prop :=
  (Q1 A tr J ∧ J.ph = 1 ∧ n < cnt A J.vs) ∨ (Q1 A tr J ∧ J.ph = 2 ∧ n ≤ A) ∨ (IV A tr J ∧ J.ph = 3 ∧ J.kept = true ∧ n ≤ A + 1) ∨ (J.ph = 4 ∧ J.kept = true)
theorem prog_step (hA : A ≤ 4) (ht : 1 ≤ tr ∧ tr ≤ 65535) (T : Tells A tell) {n : Nat} (h : Prog A tr n J) {hd : List (Int × Mg)} (hh : HeadL J hd) : Prog A tr (n + 1) ((hd ++ outsT J).foldl (ansJ tr tell) J) := by
  have hno : J.ph ≠ 2 → hd = [] := fun e => by
    rcases hh with ⟨_, h⟩ | ⟨h, _⟩
    · exact h
    · simp [manOut, e] at h
  rcases h with ⟨h, h1, hn⟩ | ⟨h, h2, hn⟩ | ⟨h, h3, hk, hn⟩ | ⟨h4, hk⟩
  · rw [hno (by omega), List.nil_append]
    obtain ⟨g1, g2⟩ := round1 hA ht T h h1
    rcases g1.2 with e | e
    · have := g2 e.1
      exact .inl ⟨g1, e.1, by omega⟩
    · exact .inr (.inl ⟨g1, e.1, by have := cnt_le A J.vs; omega⟩)
  · have hf : J.full = true := by
      rcases h.2 with e | e
      · omega
      · exact e.2
    rcases hh with ⟨e, _⟩ | ⟨_, t, j, c, pv, ps, rfl⟩
    · simp [manOut, hf, h2] at e
    · rw [List.singleton_append, round2 ht h.1 h2]
      have iv := h.1
      exact .inr (.inr (.inl ⟨⟨iv.ks, iv.tr, iv.id, iv.ag, iv.rg, iv.ne, iv.uf⟩, rfl, rfl, by omega⟩))
  · rw [hno (by omega), List.nil_append]
    exact .inr (.inr (.inr (round3 hA ht h h3 hk)))
  · have he : outsT J = [] := by
      unfold outsT
      rw [List.flatMap_eq_nil_iff]
      intro p _
      simp [outV, h4]
    rw [hno (by omega), he]
    exact .inr (.inr (.inr ⟨h4, hk⟩))
theorem prog_end {n : Nat} (h : Prog A tr n J) (hn : A + 2 ≤ n) : J.ph = 4 ∧ J.kept = true := by
  rcases h with ⟨_, _, h⟩ | ⟨_, _, h⟩ | ⟨_, _, _, h⟩ | h
  · have := cnt_le A J.vs; omega
  · omega
  · omega
  · exact h
theorem prog_new {a c : Int} (h : newOk 1 A a tr c = true) : Prog A tr 0 (newJ 1 A a tr c) ∧ A ≤ 4 ∧ 1 ≤ tr ∧ tr ≤ 65535 := by
  simp only [newOk, rightM, Bool.and_eq_true, wi_true, decide_eq_true_eq] at h
  obtain ⟨⟨h1, h2, h3⟩, h4, h5, h6, h7, h8⟩ := h
  refine ⟨.inl ⟨⟨⟨?_, rfl, rfl, rfl, ?_, ?_, ?_⟩, .inl ⟨rfl, rfl⟩⟩, rfl, ?_⟩, by omega, h1.1, h1.2⟩
  · simp [newJ, KS]
  · intro p hp
    simp [newJ] at hp
    subst hp
    exact ⟨by omega, by omega⟩
  · simp [newJ]
  · intro p hp
    simp [newJ] at hp
    subst hp
    rfl
  · unfold cnt
    rw [List.countP_pos_iff]
    exact ⟨a.toNat, List.mem_range.2 (by omega), by rw [show ((a.toNat : Nat) : Int) = a by omega]; simp [newJ, mget]⟩
end
/-- what an agent tells: those of the first A whom its names name, rising -/
def tellL (A : Nat) (ns : List Int) : List Int := ((List.range A).map fun (a : Nat) => (a : Int)).filter fun a => decide (a ∈ ns)
def atL (a : Nat) (ns : List Int) : List Int := bif decide ((a : Int) ∈ ns) then [(a : Int)] else []
theorem tellL_succ (a : Nat) (ns : List Int) : tellL (a + 1) ns = tellL a ns ++ atL a ns := by
  unfold tellL atL
  rw [List.range_succ, List.map_append, List.filter_append]
  cases h : decide ((a : Int) ∈ ns) <;> simp [h]
theorem tellL_rg {a : Nat} {ns : List Int} : ∀ x ∈ tellL a ns, 0 ≤ x ∧ x < a := fun x hx => by
  unfold tellL at hx
  have := (List.mem_filter.1 hx).1
  simp at this
  obtain ⟨y, hy, rfl⟩ := this
  omega
theorem tellL_rise (a : Nat) (ns : List Int) : (tellL a ns).Pairwise (· < ·) := by
  unfold tellL
  refine List.Pairwise.filter _ (List.pairwise_map.2 ?_)
  exact List.pairwise_lt_range.imp (fun h => by omega)
theorem tellL_len (a : Nat) (ns : List Int) : (tellL a ns).length ≤ a := by
  unfold tellL
  refine Nat.le_trans (List.length_filter_le _ _) ?_
  simp
theorem agOk_of : ∀ {l : List Int} {x : Int}, l.Pairwise (· < ·) → (∀ c ∈ l, x < c ∧ c < 4) → agOk x l = true
  | [], _, _, _ => rfl
  | a :: r, x, h, hc => by
    have h' := List.pairwise_cons.1 h
    have ha := hc a List.mem_cons_self
    rw [agOk_cons, decide_eq_true ha.1, decide_eq_true ha.2]
    exact agOk_of h'.2 (fun c hm => ⟨h'.1 c hm, (hc c (List.mem_cons_of_mem _ hm)).2⟩)
def tellN (A : Nat) (N : List (List Int)) (k : Int) : List Int := tellL A (N.getD k.toNat [])
theorem tells {A : Nat} (hA : A ≤ 4) (N : List (List Int)) : Tells A (tellN A N) :=
  ⟨fun k => agOk_of (tellL_rise _ _) (fun c hc => by have := tellL_rg c hc; omega), fun k c hc => (tellL_rg c hc).1⟩

section
variable {A : Nat} {tr : Int} {J : Jb}
/-- what a job says on its way -/
theorem prog_out {n : Nat} (h : Prog A tr n J) {hd : List (Int × Mg)} (hh : HeadL J hd) {x : Int × Mg} (hx : x ∈ hd ++ outsT J) :
    (∃ t j, x.2 = .pin t j ∧ 0 ≤ x.1 ∧ x.1 < A) ∨ (∃ t j c pv ps, x.2 = .mani t j c pv ps) ∨ (∃ t j, x.2 = .unp t j) ∨ (∃ t j, x.2 = .coll t j) := by
  rcases List.mem_append.1 hx with hx | hx
  · rcases hh with ⟨_, rfl⟩ | ⟨_, t, j, c, pv, ps, rfl⟩
    · simp at hx
    · rw [List.mem_singleton.1 hx]; exact .inr (.inl ⟨t, j, c, pv, ps, rfl⟩)
  · unfold outsT at hx
    obtain ⟨p, hp, hx⟩ := List.mem_flatMap.1 hx
    unfold outV at hx
    cases h1 : decide (J.ph = 1) && !p.2.pin with
    | true =>
      rw [h1] at hx
      rw [List.mem_singleton.1 hx]
      simp at h1
      have hr : 0 ≤ p.1 ∧ p.1 < A := by
        rcases h with h | h | h | h
        · exact h.1.1.rg p hp
        · exact h.1.1.rg p hp
        · exact h.1.rg p hp
        · omega
      exact .inl ⟨_, _, rfl, hr⟩
    | false =>
      rw [h1] at hx
      cases h2 : decide (J.ph = 2) with
      | true =>
        rw [h2] at hx
        rw [List.mem_singleton.1 hx]
        exact .inr (.inr (.inr ⟨_, _, rfl⟩))
      | false =>
        rw [h2] at hx
        cases h3 : decide (J.ph = 3) && !p.2.free with
        | true =>
          rw [h3] at hx
          rw [List.mem_singleton.1 hx]
          exact .inr (.inr (.inl ⟨_, _, rfl⟩))
        | false => rw [h3] at hx; simp at hx
end
end Go.Sp
