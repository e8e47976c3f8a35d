/- JobReaches, the plain part: behind as many rounds as there are agents the visited are all whom the first one comes to, as they told. No condition beyond those each lemma names. -/
import Derived.Test.YtniggacgkhkgiaaEnds0
import Derived.Test.YtniggacgkhkgiaaRch
namespace Go.Sp
open Go.RowKit Go.Proofs.Ytniggacgkhkgiaa.Job

theorem addC_some {ag c k : Int} {vs : List (Int × Vis)} {x : Vis} (h : mget k (addC ag vs c) = some x) : mget k vs = some x ∨ (k = c ∧ c < ag ∧ x = zVis) := by
  unfold addC at h
  cases hb : decide (c < ag) && (mget c vs).isNone with
  | false => rw [hb] at h; exact .inl h
  | true =>
    rw [hb] at h
    simp only [cond_true] at h
    rw [mget_mput] at h
    simp at hb
    by_cases e : k = c
    · subst e; rw [if_pos rfl] at h; cases h; exact .inr ⟨rfl, hb.1, rfl⟩
    · rw [if_neg e] at h; exact .inl h
theorem addCs_some {ag k : Int} {x : Vis} : ∀ {cs : List Int} {vs : List (Int × Vis)}, mget k (addCs ag vs cs) = some x → mget k vs = some x ∨ (k ∈ cs ∧ k < ag ∧ x = zVis)
  | [], _, h => .inl h
  | c :: r, vs, h => by
    rcases addCs_some (cs := r) (vs := addC ag vs c) h with h | ⟨h1, h2, h3⟩
    · rcases addC_some h with h | ⟨rfl, h2, h3⟩
      · exact .inl h
      · exact .inr ⟨List.mem_cons_self, h2, h3⟩
    · exact .inr ⟨List.mem_cons_of_mem _ h1, h2, h3⟩
theorem addCs_in {ag c : Int} : ∀ {cs : List Int} {vs : List (Int × Vis)}, c ∈ cs → c < ag → mget c (addCs ag vs cs) ≠ none
  | c' :: r, vs, h, hc => by
    show mget c (addCs ag (addC ag vs c') r) ≠ none
    rcases List.mem_cons.1 h with rfl | h
    · have : ∃ x, mget c (addC ag vs c) = some x := by
        unfold addC
        cases e : mget c vs with
        | none => exact ⟨zVis, by simp [hc, mget_mput]⟩
        | some x => exact ⟨x, by simp [e]⟩
      obtain ⟨x, hx⟩ := this
      rw [addCs_get hx]; simp
    · exact addCs_in h hc

def tellT (T : List (List Int)) (k : Int) : List Int := T.getD k.toNat []
/-- all that are visited are reached; who is pinned has told, and those whom it told are visited -/
structure VI (A : Nat) (tr : Int) (T : List (List Int)) (a : Int) (vs : List (Int × Vis)) : Prop where
  snd : ∀ p ∈ vs, Rch T a p.1
  hd : mget a vs ≠ none
  cl : ∀ k v, mget k vs = some v → v.pin = true → (∀ c ∈ tellT T k, 0 ≤ c → c < A → mget c vs ≠ none) ∧ tld v = (k, tr, 1, 0, tellT T k, false)

section
variable {A : Nat} {tr a tc : Int} {T : List (List Int)} {J : Jb}
theorem vi_put (hT : T.length = A) (iv : IV A tr J) (hT0 : Tells A (tellT T)) (h : VI A tr T a J.vs) {k : Int} {v : Vis} (hk : mget k J.vs = some v) :
    VI A tr T a (pinVs J k v ⟨k, tr, 1, 0, .slice none 0 0, tellT T k, false⟩) := by
  have hr := iv.rg _ (mget_mem hk)
  simp only at hr
  have hsk := h.snd _ (mget_mem hk)
  simp only at hsk
  have hl : T[k.toNat]? = some (tellT T k) := by
    unfold tellT
    rw [List.getD_eq_getElem?_getD, List.getElem?_eq_getElem (by omega)]; rfl
  have hstay : ∀ c, mget c J.vs ≠ none → mget c (pinVs J k v ⟨k, tr, 1, 0, .slice none 0 0, tellT T k, false⟩) ≠ none := fun c hc => by
    obtain ⟨x, hx⟩ := Option.ne_none_iff_exists'.1 hc
    by_cases e : c = k
    · subst e
      unfold pinVs
      rw [addCs_get (v := toldV v ⟨c, tr, 1, 0, .slice none 0 0, tellT T c, false⟩) (by rw [mget_mput, if_pos rfl])]; simp
    · unfold pinVs
      rw [addCs_get (v := x) (by rw [mget_mput, if_neg e]; exact hx)]; simp
  refine ⟨?_, hstay _ h.hd, fun k' v' hk' hp => ?_⟩
  · unfold pinVs
    refine addCs_all (P := fun p => Rch T a p.1) (fun q hq => ?_) (fun c hc hlt => ?_)
    · rcases mem_mput hq with rfl | hq
      · exact hsk
      · exact h.snd q hq
    · exact .step hsk hl hc (hT0.rg k c hc) (by rw [iv.ag] at hlt; omega)
  · unfold pinVs at hk'
    rcases addCs_some hk' with hk' | ⟨_, _, rfl⟩
    · rw [mget_mput] at hk'
      by_cases e : k' = k
      · subst e
        rw [if_pos rfl] at hk'
        cases hk'
        exact ⟨fun c hc h0 h1 => by unfold pinVs; exact addCs_in hc (by rw [iv.ag]; omega), rfl⟩
      · rw [if_neg e] at hk'
        obtain ⟨g1, g2⟩ := h.cl k' v' hk' hp
        exact ⟨fun c hc h0 h1 => hstay _ (g1 c hc h0 h1), g2⟩
    · cases hp
/-- what holds on the way -/
structure Mt (A : Nat) (tr tc : Int) (T : List (List Int)) (a : Int) (J : Jb) : Prop where
  q : Q1 A tr J
  vi : VI A tr T a J.vs
  all : J.ph = 2 → allV (fun v => v.pin) J.vs = true
  cl : J.cl = tc
theorem mt_pin (hA : A ≤ 4) (ht : 1 ≤ tr ∧ tr ≤ 65535) (hT : T.length = A) (hT0 : Tells A (tellT T)) (h : Mt A tr tc T a J) {k : Int} {v : Vis} (hk : mget k J.vs = some v) (t j : Int) :
    Mt A tr tc T a (ansJ tr (tellT T) J (k, .pin t j)) := by
  have hq := (pin_step hA ht hT0 h.q hk t j).1
  have hv := vi_put hT h.q.1 hT0 h.vi hk
  rw [ans_pin hA ht hT0 h.q.1 hk] at hq ⊢
  unfold pinJ at hq ⊢
  cases h1 : decide (J.ph ≠ 1) || v.pin with
  | true => exact h
  | false =>
    rw [h1] at hq
    have h2 : J.ph = 1 := by simp at h1; exact h1.1
    cases ha : allV (fun v => v.pin) (pinVs J k v ⟨k, tr, 1, 0, .slice none 0 0, tellT T k, false⟩) with
    | true => rw [ha] at hq; exact ⟨hq, hv, fun _ => ha, h.cl⟩
    | false => rw [ha] at hq; exact ⟨hq, hv, fun e => by simp only [cond_false] at e; omega, h.cl⟩
theorem mt_fold (hA : A ≤ 4) (ht : 1 ≤ tr ∧ tr ≤ 65535) (hT : T.length = A) (hT0 : Tells A (tellT T)) : ∀ (L : List (Int × Mg)) (J : Jb), Mt A tr tc T a J → (∀ x ∈ L, ∃ t j v, x.2 = .pin t j ∧ mget x.1 J.vs = some v) →
    Mt A tr tc T a (L.foldl (ansJ tr (tellT T)) J)
  | [], _, h, _ => h
  | x :: r, J, h, hL => by
    obtain ⟨k, m⟩ := x
    obtain ⟨t, j, v, rfl, hk⟩ := hL _ List.mem_cons_self
    obtain ⟨_, g2, _, _⟩ := pin_step hA ht hT0 h.q hk t j
    rw [List.foldl_cons]
    exact mt_fold hA ht hT hT0 r _ (mt_pin hA ht hT hT0 h hk t j) (fun x hx => by
      obtain ⟨t', j', v', e, e'⟩ := hL x (List.mem_cons_of_mem _ hx)
      obtain ⟨v'', e'', _⟩ := g2 _ _ e'
      exact ⟨t', j', v'', e, e''⟩)
/-- only who is asked to pin is answered -/
def ansP (tr : Int) (tell : Int → List Int) (J : Jb) (x : Int × Mg) : Jb := match x.2 with
  | .pin _ _ => ansJ tr tell J x
  | _ => J
theorem ansP_pins {tell : Int → List Int} : ∀ {L : List (Int × Mg)} {J : Jb}, (∀ x ∈ L, ∃ t j, x.2 = .pin t j) → L.foldl (ansP tr tell) J = L.foldl (ansJ tr tell) J
  | [], _, _ => rfl
  | x :: r, J, h => by
    obtain ⟨k, m⟩ := x
    obtain ⟨t, j, e⟩ := h _ List.mem_cons_self
    subst e
    rw [List.foldl_cons, List.foldl_cons]
    exact ansP_pins (fun y hy => h y (List.mem_cons_of_mem _ hy))
theorem ansP_none {tell : Int → List Int} : ∀ {L : List (Int × Mg)} {J : Jb}, (∀ x ∈ L, ∀ t j, x.2 ≠ .pin t j) → L.foldl (ansP tr tell) J = J
  | [], _, _ => rfl
  | x :: r, J, h => by
    obtain ⟨k, m⟩ := x
    have h0 := h _ List.mem_cons_self
    have e : ansP tr tell J (k, m) = J := by
      unfold ansP
      cases m <;> first | rfl | exact absurd rfl (h0 _ _)
    rw [List.foldl_cons, e]
    exact ansP_none (fun y hy => h y (List.mem_cons_of_mem _ hy))

/-- how far it is behind n rounds -/
def Pm (A : Nat) (tr tc : Int) (T : List (List Int)) (a : Int) (n : Nat) (J : Jb) : Prop := Mt A tr tc T a J ∧ (J.ph = 1 → n < cnt A J.vs)
theorem pm_step (hA : A ≤ 4) (ht : 1 ≤ tr ∧ tr ≤ 65535) (hT : T.length = A) (hT0 : Tells A (tellT T)) {n : Nat} (h : Pm A tr tc T a n J) {hd : List (Int × Mg)} (hh : HeadL J hd) : Pm A tr tc T a (n + 1) ((hd ++ outsT J).foldl (ansP tr (tellT T)) J) := by
  obtain ⟨h, hn⟩ := h
  rcases h.q.2 with ⟨h1, h2⟩ | ⟨h1, h2⟩
  · have e : hd = [] := by
      rcases hh with ⟨_, h⟩ | ⟨h, _⟩
      · exact h
      · simp [manOut, h1] at h
    have hp := fun x (hx : x ∈ outsT J) => outs_pin h1 h.q.1.ks hx
    rw [e, List.nil_append, ansP_pins (fun x hx => by obtain ⟨t, j, _, e, _⟩ := hp x hx; exact ⟨t, j, e⟩)]
    exact ⟨mt_fold hA ht hT hT0 _ _ h hp, fun e => by have := (round1 hA ht hT0 h.q h1).2 e; have := hn h1; omega⟩
  · rw [ansP_none (fun x hx t j e => ?_)]
    · exact ⟨h, fun e => by omega⟩
    · rcases List.mem_append.1 hx with hx | hx
      · rcases hh with ⟨_, rfl⟩ | ⟨_, t', j', c, pv, ps, rfl⟩
        · simp at hx
        · rw [List.mem_singleton.1 hx] at e; cases e
      · unfold outsT at hx
        obtain ⟨p, hp, hx⟩ := List.mem_flatMap.1 hx
        simp [outV, h1] at hx
        rw [hx] at e; cases e
/-- what a job says on its way -/
theorem pm_out {n : Nat} (h : Pm A tr tc T a n J) {hd : List (Int × Mg)} (hh : HeadL J hd) {x : Int × Mg} (hx : x ∈ hd ++ outsT J) :
    (∃ t j, x.2 = .pin t j ∧ 0 ≤ x.1 ∧ x.1 < A) ∨ (∃ t j c pv ps, x.2 = .mani t j c pv ps) ∨ (∃ t j, x.2 = .unp t j) ∨ (∃ t j, x.2 = .coll t j) := by
  rcases h.1.q.2 with ⟨h1, h2⟩ | ⟨h1, h2⟩
  · exact prog_out (n := n) (.inl ⟨h.1.q, h1, h.2 h1⟩) hh hx
  · exact prog_out (n := 0) (.inr (.inl ⟨h.1.q, h1, by omega⟩)) hh hx
theorem pm_new {c : Int} (h : newOk 1 A a tr c = true) (hT : T.length = A) : Pm A tr c T a 0 (newJ 1 A a tr c) := by
  obtain ⟨h1, _⟩ := prog_new h
  rcases h1 with ⟨hq, h1, h2⟩ | ⟨_, h, _⟩ | ⟨_, h, _⟩ | ⟨h, _⟩
  · refine ⟨⟨hq, ⟨?_, by simp [newJ, mget], ?_⟩, fun e => (by simp [newJ] at e), rfl⟩, fun _ => h2⟩
    · intro p hp
      have := hq.1.rg p hp
      simp [newJ] at hp
      subst hp
      simp only at this ⊢
      exact .base this.1 (by omega)
    · intro k v hk hp
      simp only [newJ, mget] at hk
      split at hk
      · cases hk; cases hp
      · cases hk
  · cases h
  · cases h
  · cases h
theorem newOk_c {c : Int} (h : newOk 1 A a tr c = true) : 0 ≤ c ∧ c ≤ 3 := by
  simp only [newOk, rightM, Bool.and_eq_true, wi_true, decide_eq_true_eq] at h
  exact h.1.2.2
/-- behind the rounds -/
theorem pm_end {n : Nat} (h : Pm A tr tc T a n J) (hT : T.length = A) (hn : A ≤ n) : J.ph = 2 ∧ J.full = true ∧ IsReach T a (J.vs.map Prod.fst) := by
  obtain ⟨h, hc⟩ := h
  have h2 : J.ph = 2 ∧ J.full = true := by
    rcases h.q.2 with ⟨h1, _⟩ | h
    · have := hc h1
      have := cnt_le A J.vs
      omega
    · exact h
  refine ⟨h2.1, h2.2, List.pairwise_map.2 h.q.1.ks, fun x => ⟨fun hx => ?_, fun hx => ?_⟩⟩
  · obtain ⟨p, hp, rfl⟩ := List.mem_map.1 hx
    exact h.vi.snd p hp
  · have key : ∀ x, Rch T a x → ∃ v, mget x J.vs = some v := by
      intro x hx
      induction hx with
      | base _ _ => exact Option.ne_none_iff_exists'.1 h.vi.hd
      | @step x y l hr hl hy h0 h1 ih =>
        obtain ⟨v, hv⟩ := ih
        have ha := h.all h2.1
        unfold allV at ha
        rw [List.all_eq_true] at ha
        have hp := ha _ (mget_mem hv)
        have he : tellT T x = l := by unfold tellT; rw [List.getD_eq_getElem?_getD, hl]; rfl
        exact Option.ne_none_iff_exists'.1 ((h.vi.cl x v hv hp).1 y (by rw [he]; exact hy) h0 (by omega))
    obtain ⟨v, hv⟩ := key x hx
    exact List.mem_map.2 ⟨_, mget_mem hv, rfl⟩
/-- its manifest may be -/
theorem pm_right {n : Nat} (h : Pm A tr tc T a n J) (hT0 : Tells A (tellT T)) (hA : A ≤ 4) (ht : 1 ≤ tr ∧ tr ≤ 65535) (hc : 0 ≤ tc ∧ tc ≤ 3) (h2 : J.ph = 2) {pv : Value} {ps : List Pt} (hs : ps.map strip = partsJ J) :
    rightM (.mani J.tr J.id J.cl pv ps) = true := by
  obtain ⟨h, _⟩ := h
  have iv := h.q.1
  have hm : ps.map (fun p => p.a) = J.vs.map Prod.fst := by
    have e := congrArg (List.map (fun x : Tld => x.1)) hs
    rw [List.map_map] at e
    rw [show ps.map (fun p => p.a) = ps.map ((fun x : Tld => x.1) ∘ strip) from rfl, e]
    unfold partsJ
    rw [List.map_map]
    refine List.map_congr_left (fun p hp => ?_)
    have ha := h.all h2
    unfold allV at ha
    rw [List.all_eq_true] at ha
    have := (h.vi.cl p.1 p.2 (mget_of_mem iv.ks hp) (ha _ hp)).2
    show (tld p.2).1 = p.1
    rw [this]
  have hall : ∀ p ∈ ps, ∃ q ∈ J.vs, strip p = (q.1, tr, 1, 0, tellT T q.1, false) := fun p hp => by
    have : strip p ∈ partsJ J := by rw [← hs]; exact List.mem_map.2 ⟨p, hp, rfl⟩
    unfold partsJ at this
    obtain ⟨q, hq, e⟩ := List.mem_map.1 this
    have ha := h.all h2
    unfold allV at ha
    rw [List.all_eq_true] at ha
    exact ⟨q, hq, by rw [← e]; exact (h.vi.cl q.1 q.2 (mget_of_mem iv.ks hq) (ha _ hq)).2⟩
  have hlen : 0 < ps.length := by
    have e := congrArg List.length hm
    simp at e
    rw [e]
    exact List.length_pos_iff.2 iv.ne
  have hag : agOk (-1) (ps.map fun p => p.a) = true := by
    rw [hm]
    refine agOk_of (List.pairwise_map.2 iv.ks) (fun c hc => ?_)
    obtain ⟨q, hq, rfl⟩ := List.mem_map.1 hc
    have := iv.rg q hq
    omega
  have hps : (ps.all fun p => rightP p && (decide (p.t = J.tr) && decide (p.j = J.id))) = true := by
    rw [List.all_eq_true]
    intro p hp
    obtain ⟨q, hq, e⟩ := hall p hp
    have hr := iv.rg q hq
    have hok := hT0.ok q.1
    simp only [strip, Prod.mk.injEq] at e
    obtain ⟨e1, e2, e3, e4, e5, e6⟩ := e
    simp only [rightP, e1, e2, e3, e4, e5, hok, iv.tr, iv.id, Bool.and_eq_true, wi_true, decide_eq_true_eq, and_true]
    omega
  show (wi J.tr 1 65535 && (wi J.id 1 1073741824 && (wi J.cl 0 3 && partsOk J.tr J.id ps))) = true
  unfold partsOk
  rw [hag, hps]
  simp only [Bool.and_eq_true, wi_true, decide_eq_true_eq, and_true, true_and, h.cl, iv.tr, iv.id]
  omega
end
/-- what the agents tell -/
def tellAll (N : List (List Int)) : List (List Int) := N.map (tellL 4)
theorem tells4 (A : Nat) (N : List (List Int)) : Tells A (tellT (tellAll N)) := by
  have : ∀ k, tellT (tellAll N) k = [] ∨ ∃ ns, tellT (tellAll N) k = tellL 4 ns := fun k => by
    unfold tellT tellAll
    rw [List.getD_eq_getElem?_getD, List.getElem?_map]
    cases N[k.toNat]? with
    | none => exact .inl rfl
    | some ns => exact .inr ⟨ns, rfl⟩
  refine ⟨fun k => ?_, fun k c hc => ?_⟩
  · rcases this k with e | ⟨ns, e⟩
    · rw [e]; rfl
    · rw [e]; exact agOk_of (tellL_rise _ _) (fun c hc => by have := tellL_rg c hc; omega)
  · rcases this k with e | ⟨ns, e⟩
    · rw [e] at hc; simp at hc
    · rw [e] at hc; exact (tellL_rg c hc).1
end Go.Sp
