/- Whom one comes to, from name to name: plain. No condition beyond those each lemma names. -/
import Derived.Test.YtniggacgkhkgiaaPkJobPlays17
import Derived.Test.YtniggacgkhkgiaaPkJobPlays6
import Derived.Lib.Hide
import Derived.Deep.LoopGhost
import Derived.Test.YtniggacgkhkgiaaPkJobPlays12
namespace Go.Sp
open Go.RowKit

def eB (b : Bool) : Value := .bool b

/-- whom one comes to -/
inductive Rch (N : List (List Int)) (a : Int) : Int → Prop
  | base : 0 ≤ a → a < N.length → Rch N a a
  | step {x y : Int} {l : List Int} : Rch N a x → N[x.toNat]? = some l → y ∈ l → 0 ≤ y → y < N.length → Rch N a y

theorem Rch.rng {N : List (List Int)} {a x : Int} (h : Rch N a x) : 0 ≤ x ∧ x < N.length := by
  cases h with
  | base h1 h2 => exact ⟨h1, h2⟩
  | step _ _ _ h1 h2 => exact ⟨h1, h2⟩

theorem Rch.trans {N : List (List Int)} {a x y : Int} (h : Rch N a x) (k : Rch N x y) : Rch N a y := by
  induction k with
  | base _ _ => exact h
  | step _ h1 h2 h3 h4 ih => exact .step ih h1 h2 h3 h4

/-- two rising lists of the same numbers are one -/
theorem rising_ext : ∀ {l l' : List Int}, l.Pairwise (· < ·) → l'.Pairwise (· < ·) → (∀ x, x ∈ l ↔ x ∈ l') → l = l'
  | [], [], _, _, _ => rfl
  | [], y :: r, _, _, h => by have := (h y).2 List.mem_cons_self; simp at this
  | x :: r, [], _, _, h => by have := (h x).1 List.mem_cons_self; simp at this
  | x :: r, y :: s, h1, h2, h => by
    have a1 := List.pairwise_cons.1 h1
    have a2 := List.pairwise_cons.1 h2
    have e : x = y := by
      have b1 := (h x).1 List.mem_cons_self
      have b2 := (h y).2 List.mem_cons_self
      rcases List.mem_cons.1 b1 with e | b1
      · exact e
      · rcases List.mem_cons.1 b2 with e | b2
        · exact e.symm
        · have := a2.1 x b1; have := a1.1 y b2; omega
    subst e
    rw [rising_ext a1.2 a2.2 fun z => ?_]
    constructor
    · intro hz
      rcases List.mem_cons.1 ((h z).1 (List.mem_cons_of_mem _ hz)) with e | hz'
      · subst e; have := a1.1 z hz; omega
      · exact hz'
    · intro hz
      rcases List.mem_cons.1 ((h z).2 (List.mem_cons_of_mem _ hz)) with e | hz'
      · subst e; have := a2.1 z hz; omega
      · exact hz'

/-- the answer's list -/
def IsReach (N : List (List Int)) (a : Int) (L : List Int) : Prop := L.Pairwise (· < ·) ∧ ∀ x, x ∈ L ↔ Rch N a x

theorem IsReach.ext {N : List (List Int)} {a : Int} {L L' : List Int} (h : IsReach N a L) (h' : IsReach N a L') : L = L' :=
  rising_ext h.1 h'.1 fun x => (h.2 x).trans (h'.2 x).symm

theorem IsReach.nil {N : List (List Int)} {a : Int} (h : ¬ (0 ≤ a ∧ a < N.length)) : IsReach N a [] := by
  refine ⟨List.Pairwise.nil, fun x => ⟨fun e => by simp at e, fun e => ?_⟩⟩
  induction e with
  | base h1 h2 => exact absurd ⟨h1, h2⟩ h
  | step _ _ _ _ _ ih => simp at ih

/-- what has been met: Q in the order met, p of them done -/
structure QI (N : List (List Int)) (a : Int) (Q : List Int) (p : Nat) (M : List (Int × Bool)) : Prop where
  ks : KS M
  mg : ∀ k, mget k M = if k ∈ Q then some true else none
  ml : M.length = Q.length
  snd : ∀ x ∈ Q, Rch N a x
  hd : a ∈ Q
  cl : ∀ i, i < p → ∀ x, Q[i]? = some x → ∀ l, N[x.toNat]? = some l → ∀ y ∈ l, 0 ≤ y → y < N.length → y ∈ Q
  ple : p ≤ Q.length

theorem QI.len {N : List (List Int)} {a : Int} {Q : List Int} {p : Nat} {M : List (Int × Bool)} (h : QI N a Q p M) : Q.length ≤ N.length := by
  have hs : (M.map Prod.fst).Pairwise (· < ·) := List.pairwise_map.2 h.ks
  have := rising_len (lo := 0) (hi := N.length) hs (fun x hx => by
    obtain ⟨q, hq, rfl⟩ := List.mem_map.1 hx
    have hm := mget_of_mem h.ks hq
    rw [h.mg] at hm
    split at hm
    · rename_i hin; exact (h.snd _ hin).rng
    · cases hm) (by omega)
  rw [List.length_map, h.ml] at this
  omega

theorem QI.start {N : List (List Int)} {a : Int} (h0 : 0 ≤ a) (h1 : a < N.length) : QI N a [a] 0 [(a, true)] :=
  ⟨by simp [KS], fun k => by by_cases e : k = a <;> simp [mget, e, Ne.symm], rfl, fun x hx => by simp at hx; subst hx; exact .base h0 h1, by simp, fun i hi => by omega, by simp⟩

/-- one more is met -/
theorem QI.add {N : List (List Int)} {a : Int} {Q : List Int} {p : Nat} {M : List (Int × Bool)} (h : QI N a Q p M) {y : Int} (hy : y ∉ Q) (hr : Rch N a y) : QI N a (Q ++ [y]) p (mput y true M) := by
  refine ⟨h.ks.mput, fun k => ?_, ?_, fun x hx => ?_, by simp [h.hd], fun i hi x hx l hl z hz z0 z1 => ?_, by have := h.ple; simp; omega⟩
  · rw [mget_mput, h.mg]
    by_cases e : k = y <;> simp [e]
  · have hn : mget y M = none := by rw [h.mg, if_neg hy]
    have := (mput_perm (k := y) (v := true) h.ks).length_eq
    rw [mdel_none hn] at this
    simp [this, h.ml]
  · rcases List.mem_append.1 hx with hx | hx
    · exact h.snd x hx
    · simp at hx; subst hx; exact hr
  · have hlt : i < Q.length := by have := h.ple; omega
    rw [List.getElem?_append_left hlt] at hx
    exact List.mem_append_left _ (h.cl i hi x hx l hl z hz z0 z1)

theorem QI.done {N : List (List Int)} {a : Int} {Q : List Int} {M : List (Int × Bool)} (h : QI N a Q Q.length M) : IsReach N a (M.map Prod.fst) := by
  have hm : ∀ x, x ∈ M.map Prod.fst ↔ x ∈ Q := fun x => by
    constructor
    · intro hx
      obtain ⟨q, hq, rfl⟩ := List.mem_map.1 hx
      have hg := mget_of_mem h.ks hq
      rw [h.mg] at hg
      split at hg
      · assumption
      · cases hg
    · intro hx
      have hg := h.mg x
      rw [if_pos hx] at hg
      exact List.mem_map.2 ⟨_, mget_mem hg, rfl⟩
  refine ⟨List.pairwise_map.2 h.ks, fun x => (hm x).trans ⟨h.snd x, fun hr => ?_⟩⟩
  induction hr with
  | base _ _ => exact h.hd
  | step _ h1 h2 h3 h4 ih =>
    obtain ⟨i, hi, hx⟩ := List.mem_iff_getElem.1 ih
    exact h.cl i hi _ (by rw [List.getElem?_eq_getElem hi, hx]) _ h1 _ h2 h3 h4

theorem QI.next {N : List (List Int)} {a : Int} {Q : List Int} {p : Nat} {M : List (Int × Bool)} (h : QI N a Q p M) {x : Int} {l : List Int} (hp : Q[p]? = some x) (hl : N[x.toNat]? = some l) (hc : ∀ y ∈ l, 0 ≤ y → y < N.length → y ∈ Q) : QI N a Q (p + 1) M :=
  ⟨h.ks, h.mg, h.ml, h.snd, h.hd, fun i hi z hz l' hl' => by
    by_cases e : i = p
    · subst e; rw [hp] at hz; cases hz; rw [hl] at hl'; cases hl'; exact hc
    · exact h.cl i (by omega) z hz l' hl', by have := (List.getElem?_eq_some_iff.1 hp).1; omega⟩

/-- a slice without its head: Go keeps the address where the capacity is used up -/
theorem SL.tail {h : Array Obj} {e : TypeId} {b off n cap : Nat} {c : Value} {cs : List Value} (x : SL h e 1 (.slice (some ⟨b, off, none⟩) (n + 1) cap) (n + 1) (c :: cs)) (a : Addr) (ha : a = ⟨b, off + 1, none⟩ ∨ (cap = 1 ∧ a = ⟨b, off, none⟩)) : SL h e 1 (.slice (some a) n (cap - 1)) n cs := by
  rcases x.2 with ⟨hv, _⟩ | ⟨b', off', cap', cur, hv, h1, h2, hb, h3, h4⟩
  · simp at hv
  · simp at hv
    obtain ⟨⟨rfl, rfl⟩, rfl⟩ := hv
    have hl : cs.length = n * 1 := by have := x.1; simp at this; omega
    rcases ha with rfl | ⟨rfl, rfl⟩
    · refine ⟨hl, .inr ⟨b, off + 1, cap - 1, cur, rfl, by omega, by omega, hb, by omega, fun j u hu => ?_⟩⟩
      have := h4 (j + 1) u (by simpa using hu)
      rw [show off + 1 + j = off + (j + 1) from by omega]
      exact this
    · have hn : n = 0 := by omega
      subst hn
      have hc : cs = [] := List.eq_nil_of_length_eq_zero (by omega)
      subst hc
      exact ⟨rfl, .inr ⟨b, off, 0, cur, rfl, by omega, by omega, hb, by omega, fun j u hu => by simp at hu⟩⟩

end Go.Sp
namespace Go.Proofs.Ytniggacgkhkgiaa.Crumb
open Go.RowKit Go.Sp
theorem below_cell {w wr : World} {b o : Nat} (h : Below w.heap.size w wr) (hb : b < w.heap.size) {u : Value} (e : w.cell? ⟨b, o, none⟩ = some u) : wr.cell? ⟨b, o, none⟩ = some u := by
  rw [World.cell?_of_block (w := w) ((only_of_below h (fun _ => False)).block b hb id)]; exact e

end Go.Proofs.Ytniggacgkhkgiaa.Crumb
/- JobReaches, the plain part: behind as many rounds as there are agents the visited are all whom the first one comes to, as they told. No condition beyond those each lemma names. -/
namespace Go.Sp
open Go.RowKit Go.Proofs.Ytniggacgkhkgiaa.Job

theorem addC_some {ag c k : Int} {vs : List (Int × Vis)} {x : Vis} (h : mget k (addC ag vs c) = some x) : mget k vs = some x ∨ (k = c ∧ c < ag ∧ x = zVis) := by
  unfold addC at h
  cases hb : decide (c < ag) && (mget c vs).isNone with
  | false => rw [hb] at h; exact .inl h
  | true =>
    rw [hb] at h
    simp only [cond_true] at h
    rw [mget_mput] at h
    simp at hb
    by_cases e : k = c
    · subst e; rw [if_pos rfl] at h; cases h; exact .inr ⟨rfl, hb.1, rfl⟩
    · rw [if_neg e] at h; exact .inl h
theorem addCs_some {ag k : Int} {x : Vis} : ∀ {cs : List Int} {vs : List (Int × Vis)}, mget k (addCs ag vs cs) = some x → mget k vs = some x ∨ (k ∈ cs ∧ k < ag ∧ x = zVis)
  | [], _, h => .inl h
  | c :: r, vs, h => by
    rcases addCs_some (cs := r) (vs := addC ag vs c) h with h | ⟨h1, h2, h3⟩
    · rcases addC_some h with h | ⟨rfl, h2, h3⟩
      · exact .inl h
      · exact .inr ⟨List.mem_cons_self, h2, h3⟩
    · exact .inr ⟨List.mem_cons_of_mem _ h1, h2, h3⟩
theorem addCs_in {ag c : Int} : ∀ {cs : List Int} {vs : List (Int × Vis)}, c ∈ cs → c < ag → mget c (addCs ag vs cs) ≠ none
  | c' :: r, vs, h, hc => by
    show mget c (addCs ag (addC ag vs c') r) ≠ none
    rcases List.mem_cons.1 h with rfl | h
    · have : ∃ x, mget c (addC ag vs c) = some x := by
        unfold addC
        cases e : mget c vs with
        | none => exact ⟨zVis, by simp [hc, mget_mput]⟩
        | some x => exact ⟨x, by simp [e]⟩
      obtain ⟨x, hx⟩ := this
      rw [addCs_get hx]; simp
    · exact addCs_in h hc

def tellT (T : List (List Int)) (k : Int) : List Int := T.getD k.toNat []
/-- all that are visited are reached; who is pinned has told, and those whom it told are visited -/
structure VI (A : Nat) (tr : Int) (T : List (List Int)) (a : Int) (vs : List (Int × Vis)) : Prop where
  snd : ∀ p ∈ vs, Rch T a p.1
  hd : mget a vs ≠ none
  cl : ∀ k v, mget k vs = some v → v.pin = true → (∀ c ∈ tellT T k, 0 ≤ c → c < A → mget c vs ≠ none) ∧ tld v = (k, tr, 1, 0, tellT T k, false)

section
variable {A : Nat} {tr a tc : Int} {T : List (List Int)} {J : Jb}
theorem vi_put (hT : T.length = A) (iv : IV A tr J) (hT0 : Tells A (tellT T)) (h : VI A tr T a J.vs) {k : Int} {v : Vis} (hk : mget k J.vs = some v) :
    VI A tr T a (pinVs J k v ⟨k, tr, 1, 0, .slice none 0 0, tellT T k, false⟩) := by
  have hr := iv.rg _ (mget_mem hk)
  simp only at hr
  have hsk := h.snd _ (mget_mem hk)
  simp only at hsk
  have hl : T[k.toNat]? = some (tellT T k) := by
    unfold tellT
    rw [List.getD_eq_getElem?_getD, List.getElem?_eq_getElem (by omega)]; rfl
  have hstay : ∀ c, mget c J.vs ≠ none → mget c (pinVs J k v ⟨k, tr, 1, 0, .slice none 0 0, tellT T k, false⟩) ≠ none := fun c hc => by
    obtain ⟨x, hx⟩ := Option.ne_none_iff_exists'.1 hc
    by_cases e : c = k
    · subst e
      unfold pinVs
      rw [addCs_get (v := toldV v ⟨c, tr, 1, 0, .slice none 0 0, tellT T c, false⟩) (by rw [mget_mput, if_pos rfl])]; simp
    · unfold pinVs
      rw [addCs_get (v := x) (by rw [mget_mput, if_neg e]; exact hx)]; simp
  refine ⟨?_, hstay _ h.hd, fun k' v' hk' hp => ?_⟩
  · unfold pinVs
    refine addCs_all (P := fun p => Rch T a p.1) (fun q hq => ?_) (fun c hc hlt => ?_)
    · rcases mem_mput hq with rfl | hq
      · exact hsk
      · exact h.snd q hq
    · exact .step hsk hl hc (hT0.rg k c hc) (by rw [iv.ag] at hlt; omega)
  · unfold pinVs at hk'
    rcases addCs_some hk' with hk' | ⟨_, _, rfl⟩
    · rw [mget_mput] at hk'
      by_cases e : k' = k
      · subst e
        rw [if_pos rfl] at hk'
        cases hk'
        exact ⟨fun c hc h0 h1 => by unfold pinVs; exact addCs_in hc (by rw [iv.ag]; omega), rfl⟩
      · rw [if_neg e] at hk'
        obtain ⟨g1, g2⟩ := h.cl k' v' hk' hp
        exact ⟨fun c hc h0 h1 => hstay _ (g1 c hc h0 h1), g2⟩
    · cases hp
/-- what holds on the way -/
structure Mt (A : Nat) (tr tc : Int) (T : List (List Int)) (a : Int) (J : Jb) : Prop where
  q : Q1 A tr J
  vi : VI A tr T a J.vs
  all : J.ph = 2 → allV (fun v => v.pin) J.vs = true
  cl : J.cl = tc
theorem mt_pin (hA : A ≤ 4) (ht : 1 ≤ tr ∧ tr ≤ 65535) (hT : T.length = A) (hT0 : Tells A (tellT T)) (h : Mt A tr tc T a J) {k : Int} {v : Vis} (hk : mget k J.vs = some v) (t j : Int) :
    Mt A tr tc T a (ansJ tr (tellT T) J (k, .pin t j)) := by
  have hq := (pin_step hA ht hT0 h.q hk t j).1
  have hv := vi_put hT h.q.1 hT0 h.vi hk
  rw [ans_pin hA ht hT0 h.q.1 hk] at hq ⊢
  unfold pinJ at hq ⊢
  cases h1 : decide (J.ph ≠ 1) || v.pin with
  | true => exact h
  | false =>
    rw [h1] at hq
    have h2 : J.ph = 1 := by simp at h1; exact h1.1
    cases ha : allV (fun v => v.pin) (pinVs J k v ⟨k, tr, 1, 0, .slice none 0 0, tellT T k, false⟩) with
    | true => rw [ha] at hq; exact ⟨hq, hv, fun _ => ha, h.cl⟩
    | false => rw [ha] at hq; exact ⟨hq, hv, fun e => by simp only [cond_false] at e; omega, h.cl⟩
theorem mt_fold (hA : A ≤ 4) (ht : 1 ≤ tr ∧ tr ≤ 65535) (hT : T.length = A) (hT0 : Tells A (tellT T)) : ∀ (L : List (Int × Mg)) (J : Jb), Mt A tr tc T a J → (∀ x ∈ L, ∃ t j v, x.2 = .pin t j ∧ mget x.1 J.vs = some v) →
    Mt A tr tc T a (L.foldl (ansJ tr (tellT T)) J)
  | [], _, h, _ => h
  | x :: r, J, h, hL => by
    obtain ⟨k, m⟩ := x
    obtain ⟨t, j, v, rfl, hk⟩ := hL _ List.mem_cons_self
    obtain ⟨_, g2, _, _⟩ := pin_step hA ht hT0 h.q hk t j
    rw [List.foldl_cons]
    exact mt_fold hA ht hT hT0 r _ (mt_pin hA ht hT hT0 h hk t j) (fun x hx => by
      obtain ⟨t', j', v', e, e'⟩ := hL x (List.mem_cons_of_mem _ hx)
      obtain ⟨v'', e'', _⟩ := g2 _ _ e'
      exact ⟨t', j', v'', e, e''⟩)
/-- only who is asked to pin is answered -/
def ansP (tr : Int) (tell : Int → List Int) (J : Jb) (x : Int × Mg) : Jb := match x.2 with
  | .pin _ _ => ansJ tr tell J x
  | _ => J
theorem ansP_pins {tell : Int → List Int} : ∀ {L : List (Int × Mg)} {J : Jb}, (∀ x ∈ L, ∃ t j, x.2 = .pin t j) → L.foldl (ansP tr tell) J = L.foldl (ansJ tr tell) J
  | [], _, _ => rfl
  | x :: r, J, h => by
    obtain ⟨k, m⟩ := x
    obtain ⟨t, j, e⟩ := h _ List.mem_cons_self
    subst e
    rw [List.foldl_cons, List.foldl_cons]
    exact ansP_pins (fun y hy => h y (List.mem_cons_of_mem _ hy))
theorem ansP_none {tell : Int → List Int} : ∀ {L : List (Int × Mg)} {J : Jb}, (∀ x ∈ L, ∀ t j, x.2 ≠ .pin t j) → L.foldl (ansP tr tell) J = J
  | [], _, _ => rfl
  | x :: r, J, h => by
    obtain ⟨k, m⟩ := x
    have h0 := h _ List.mem_cons_self
    have e : ansP tr tell J (k, m) = J := by
      unfold ansP
      cases m <;> first | rfl | exact absurd rfl (h0 _ _)
    rw [List.foldl_cons, e]
    exact ansP_none (fun y hy => h y (List.mem_cons_of_mem _ hy))

/-- how far it is behind n rounds -/
def Pm (A : Nat) (tr tc : Int) (T : List (List Int)) (a : Int) (n : Nat) (J : Jb) : Prop := Mt A tr tc T a J ∧ (J.ph = 1 → n < cnt A J.vs)
theorem pm_step (hA : A ≤ 4) (ht : 1 ≤ tr ∧ tr ≤ 65535) (hT : T.length = A) (hT0 : Tells A (tellT T)) {n : Nat} (h : Pm A tr tc T a n J) {hd : List (Int × Mg)} (hh : HeadL J hd) : Pm A tr tc T a (n + 1) ((hd ++ outsT J).foldl (ansP tr (tellT T)) J) := by
  obtain ⟨h, hn⟩ := h
  rcases h.q.2 with ⟨h1, h2⟩ | ⟨h1, h2⟩
  · have e : hd = [] := by
      rcases hh with ⟨_, h⟩ | ⟨h, _⟩
      · exact h
      · simp [manOut, h1] at h
    have hp := fun x (hx : x ∈ outsT J) => outs_pin h1 h.q.1.ks hx
    rw [e, List.nil_append, ansP_pins (fun x hx => by obtain ⟨t, j, _, e, _⟩ := hp x hx; exact ⟨t, j, e⟩)]
    exact ⟨mt_fold hA ht hT hT0 _ _ h hp, fun e => by have := (round1 hA ht hT0 h.q h1).2 e; have := hn h1; omega⟩
  · rw [ansP_none (fun x hx t j e => ?_)]
    · exact ⟨h, fun e => by omega⟩
    · rcases List.mem_append.1 hx with hx | hx
      · rcases hh with ⟨_, rfl⟩ | ⟨_, t', j', c, pv, ps, rfl⟩
        · simp at hx
        · rw [List.mem_singleton.1 hx] at e; cases e
      · unfold outsT at hx
        obtain ⟨p, hp, hx⟩ := List.mem_flatMap.1 hx
        simp [outV, h1] at hx
        rw [hx] at e; cases e
/-- what a job says on its way -/
theorem pm_out {n : Nat} (h : Pm A tr tc T a n J) {hd : List (Int × Mg)} (hh : HeadL J hd) {x : Int × Mg} (hx : x ∈ hd ++ outsT J) :
    (∃ t j, x.2 = .pin t j ∧ 0 ≤ x.1 ∧ x.1 < A) ∨ (∃ t j c pv ps, x.2 = .mani t j c pv ps) ∨ (∃ t j, x.2 = .unp t j) ∨ (∃ t j, x.2 = .coll t j) := by
  rcases h.1.q.2 with ⟨h1, h2⟩ | ⟨h1, h2⟩
  · exact prog_out (n := n) (.inl ⟨h.1.q, h1, h.2 h1⟩) hh hx
  · exact prog_out (n := 0) (.inr (.inl ⟨h.1.q, h1, by omega⟩)) hh hx
theorem pm_new {c : Int} (h : newOk 1 A a tr c = true) (hT : T.length = A) : Pm A tr c T a 0 (newJ 1 A a tr c) := by
  obtain ⟨h1, _⟩ := prog_new h
  rcases h1 with ⟨hq, h1, h2⟩ | ⟨_, h, _⟩ | ⟨_, h, _⟩ | ⟨h, _⟩
  · refine ⟨⟨hq, ⟨?_, by simp [newJ, mget], ?_⟩, fun e => (by simp [newJ] at e), rfl⟩, fun _ => h2⟩
    · intro p hp
      have := hq.1.rg p hp
      simp [newJ] at hp
      subst hp
      simp only at this ⊢
      exact .base this.1 (by omega)
    · intro k v hk hp
      simp only [newJ, mget] at hk
      split at hk
      · cases hk; cases hp
      · cases hk
  · cases h
  · cases h
  · cases h
theorem newOk_c {c : Int} (h : newOk 1 A a tr c = true) : 0 ≤ c ∧ c ≤ 3 := by
  simp only [newOk, rightM, Bool.and_eq_true, wi_true, decide_eq_true_eq] at h
  exact h.1.2.2
/-- behind the rounds -/
theorem pm_end {n : Nat} (h : Pm A tr tc T a n J) (hT : T.length = A) (hn : A ≤ n) : J.ph = 2 ∧ J.full = true ∧ IsReach T a (J.vs.map Prod.fst) := by
  obtain ⟨h, hc⟩ := h
  have h2 : J.ph = 2 ∧ J.full = true := by
    rcases h.q.2 with ⟨h1, _⟩ | h
    · have := hc h1
      have := cnt_le A J.vs
      omega
    · exact h
  refine ⟨h2.1, h2.2, List.pairwise_map.2 h.q.1.ks, fun x => ⟨fun hx => ?_, fun hx => ?_⟩⟩
  · obtain ⟨p, hp, rfl⟩ := List.mem_map.1 hx
    exact h.vi.snd p hp
  · have key : ∀ x, Rch T a x → ∃ v, mget x J.vs = some v := by
      intro x hx
      induction hx with
      | base _ _ => exact Option.ne_none_iff_exists'.1 h.vi.hd
      | @step x y l hr hl hy h0 h1 ih =>
        obtain ⟨v, hv⟩ := ih
        have ha := h.all h2.1
        unfold allV at ha
        rw [List.all_eq_true] at ha
        have hp := ha _ (mget_mem hv)
        have he : tellT T x = l := by unfold tellT; rw [List.getD_eq_getElem?_getD, hl]; rfl
        exact Option.ne_none_iff_exists'.1 ((h.vi.cl x v hv hp).1 y (by rw [he]; exact hy) h0 (by omega))
    obtain ⟨v, hv⟩ := key x hx
    exact List.mem_map.2 ⟨_, mget_mem hv, rfl⟩
/-- its manifest may be -/
theorem pm_right {n : Nat} (h : Pm A tr tc T a n J) (hT0 : Tells A (tellT T)) (hA : A ≤ 4) (ht : 1 ≤ tr ∧ tr ≤ 65535) (hc : 0 ≤ tc ∧ tc ≤ 3) (h2 : J.ph = 2) {pv : Value} {ps : List Pt} (hs : ps.map strip = partsJ J) :
    rightM (.mani J.tr J.id J.cl pv ps) = true := by
  obtain ⟨h, _⟩ := h
  have iv := h.q.1
  have hm : ps.map (fun p => p.a) = J.vs.map Prod.fst := by
    have e := congrArg (List.map (fun x : Tld => x.1)) hs
    rw [List.map_map] at e
    rw [show ps.map (fun p => p.a) = ps.map ((fun x : Tld => x.1) ∘ strip) from rfl, e]
    unfold partsJ
    rw [List.map_map]
    refine List.map_congr_left (fun p hp => ?_)
    have ha := h.all h2
    unfold allV at ha
    rw [List.all_eq_true] at ha
    have := (h.vi.cl p.1 p.2 (mget_of_mem iv.ks hp) (ha _ hp)).2
    show (tld p.2).1 = p.1
    rw [this]
  have hall : ∀ p ∈ ps, ∃ q ∈ J.vs, strip p = (q.1, tr, 1, 0, tellT T q.1, false) := fun p hp => by
    have : strip p ∈ partsJ J := by rw [← hs]; exact List.mem_map.2 ⟨p, hp, rfl⟩
    unfold partsJ at this
    obtain ⟨q, hq, e⟩ := List.mem_map.1 this
    have ha := h.all h2
    unfold allV at ha
    rw [List.all_eq_true] at ha
    exact ⟨q, hq, by rw [← e]; exact (h.vi.cl q.1 q.2 (mget_of_mem iv.ks hq) (ha _ hq)).2⟩
  have hlen : 0 < ps.length := by
    have e := congrArg List.length hm
    simp at e
    rw [e]
    exact List.length_pos_iff.2 iv.ne
  have hag : agOk (-1) (ps.map fun p => p.a) = true := by
    rw [hm]
    refine agOk_of (List.pairwise_map.2 iv.ks) (fun c hc => ?_)
    obtain ⟨q, hq, rfl⟩ := List.mem_map.1 hc
    have := iv.rg q hq
    omega
  have hps : (ps.all fun p => rightP p && (decide (p.t = J.tr) && decide (p.j = J.id))) = true := by
    rw [List.all_eq_true]
    intro p hp
    obtain ⟨q, hq, e⟩ := hall p hp
    have hr := iv.rg q hq
    have hok := hT0.ok q.1
    simp only [strip, Prod.mk.injEq] at e
    obtain ⟨e1, e2, e3, e4, e5, e6⟩ := e
    simp only [rightP, e1, e2, e3, e4, e5, hok, iv.tr, iv.id, Bool.and_eq_true, wi_true, decide_eq_true_eq, and_true]
    omega
  show (wi J.tr 1 65535 && (wi J.id 1 1073741824 && (wi J.cl 0 3 && partsOk J.tr J.id ps))) = true
  unfold partsOk
  rw [hag, hps]
  simp only [Bool.and_eq_true, wi_true, decide_eq_true_eq, and_true, true_and, h.cl, iv.tr, iv.id]
  omega
end
/-- what the agents tell -/
def tellAll (N : List (List Int)) : List (List Int) := N.map (tellL 4)
theorem tells4 (A : Nat) (N : List (List Int)) : Tells A (tellT (tellAll N)) := by
  have : ∀ k, tellT (tellAll N) k = [] ∨ ∃ ns, tellT (tellAll N) k = tellL 4 ns := fun k => by
    unfold tellT tellAll
    rw [List.getD_eq_getElem?_getD, List.getElem?_map]
    cases N[k.toNat]? with
    | none => exact .inl rfl
    | some ns => exact .inr ⟨ns, rfl⟩
  refine ⟨fun k => ?_, fun k c hc => ?_⟩
  · rcases this k with e | ⟨ns, e⟩
    · rw [e]; rfl
    · rw [e]; exact agOk_of (tellL_rise _ _) (fun c hc => by have := tellL_rg c hc; omega)
  · rcases this k with e | ⟨ns, e⟩
    · rw [e] at hc; simp at hc
    · rw [e] at hc; exact (tellL_rg c hc).1
end Go.Sp
/- The reference's job in plain words: what it hears, and that it goes as the job goes. No condition beyond those each lemma names. -/
namespace Go.Sp
open Go.RowKit
def rPin1 (st : List Int) (c : Int) : List Int := bif decide (c < (st.length : Int)) && decide (st.getD c.toNat 0 = 0) then st.set c.toNat 1 else st
def rPinSt (st : List Int) (cs : List Int) : List Int := cs.foldl rPin1 st
def rPin2 (r : Rs) (p : Pt) : Rs := { r with st := rPinSt (r.st.set p.a.toNat 2) p.cl, pt := r.pt.set p.a.toNat p }
def rPin (r : Rs) (p : Pt) : Rs := bif decide (r.ph = 1) && (rvis r p.a && decide (r.st.getD p.a.toNat 0 = 1)) then (bif (rPin2 r p).st.all (fun x => decide (x ≠ 1)) then { rPin2 r p with ph := 2, full := true } else rPin2 r p) else r
def rFree2 (r : Rs) (a : Int) : Rs := { r with fr := r.fr.set a.toNat true }
def rAll (r : Rs) : Bool := (List.range r.st.length).all fun i => decide (r.st.getD i 0 = 0) || r.fr.getD i false
def rFree (r : Rs) (a : Int) : Rs := bif decide (r.ph = 3) && rvis r a then (bif rAll (rFree2 r a) then { rFree2 r a with ph := 4 } else rFree2 r a) else r
def rHearK (r : Rs) : Mg → Rs
  | .pinned p => rPin r p
  | .gone a _ _ => bif decide (r.ph ≤ 2) && rvis r a then { r with ph := 3 } else r
  | .stor _ _ => bif decide (r.ph = 2) || decide (r.ph = 3) then { r with kept := true, ph := 3 } else r
  | .unpd a _ _ => rFree r a
  | _ => r
/-- the reference's job, behind a message -/
def rHear (r : Rs) (m : Mg) : Rs := bif rightM m && (decide (mT m = r.tr) && decide (mJ m = r.id)) then rHearK r m else r

def stt : Option Vis → Int
  | none => 0
  | some v => bif v.pin then 2 else 1
def frr : Option Vis → Bool
  | none => false
  | some v => v.free
/-- states as the visits have them -/
def RelV (A : Nat) (vs : List (Int × Vis)) (st : List Int) : Prop := st.length = A ∧ ∀ i : Nat, i < A → st[i]? = some (stt (mget (i : Int) vs))
theorem stt_zero {o : Option Vis} : stt o = 0 ↔ o = none := by
  cases o with
  | none => simp [stt]
  | some v => cases h : v.pin <;> simp [stt, h]
theorem stt_one {v : Vis} : stt (some v) = 1 ↔ v.pin = false := by cases h : v.pin <;> simp [stt, h]
theorem RelV.getD {A : Nat} {vs : List (Int × Vis)} {st : List Int} (h : RelV A vs st) {i : Nat} (hi : i < A) : st.getD i 0 = stt (mget (i : Int) vs) := by rw [List.getD_eq_getElem?_getD, h.2 i hi]; rfl
theorem RelV.put {A : Nat} {vs : List (Int × Vis)} {st : List Int} (h : RelV A vs st) {k : Nat} (hk : k < A) (v : Vis) : RelV A (mput (k : Int) v vs) (st.set k (stt (some v))) := by
  refine ⟨by rw [List.length_set]; exact h.1, fun i hi => ?_⟩
  rw [mget_mput]
  by_cases e : i = k
  · subst e; rw [List.getElem?_set_self (by rw [h.1]; exact hk), if_pos rfl]
  · rw [List.getElem?_set_ne (Ne.symm e), if_neg (by omega)]; exact h.2 i hi
theorem RelV.addC {A : Nat} {vs : List (Int × Vis)} {st : List Int} (h : RelV A vs st) {c : Int} (hc : 0 ≤ c) : RelV A (Sp.addC A vs c) (rPin1 st c) := by
  obtain ⟨n, rfl⟩ : ∃ n : Nat, c = n := ⟨c.toNat, by omega⟩
  unfold Sp.addC rPin1
  rw [h.1, Int.toNat_natCast]
  by_cases hn : (n : Int) < A
  · rw [decide_eq_true hn, Bool.true_and, Bool.true_and]
    have hg := h.getD (i := n) (by omega)
    cases e : mget (n : Int) vs with
    | none =>
      rw [e] at hg
      rw [hg, decide_eq_true (stt_zero.2 rfl)]
      exact h.put (by omega) zVis
    | some v =>
      rw [e] at hg
      have : stt (some v) ≠ 0 := fun e => by have := stt_zero.1 e; cases this
      rw [hg, decide_eq_false this]
      exact h
  · rw [decide_eq_false hn, Bool.false_and, Bool.false_and]; exact h
theorem RelV.addCs {A : Nat} : ∀ {cs : List Int} {vs : List (Int × Vis)} {st : List Int}, RelV A vs st → (∀ c ∈ cs, 0 ≤ c) → RelV A (Sp.addCs A vs cs) (rPinSt st cs)
  | [], _, _, h, _ => h
  | c :: r, vs, st, h, hc => RelV.addCs (cs := r) (h.addC (hc c List.mem_cons_self)) (fun d hd => hc d (List.mem_cons_of_mem _ hd))
theorem RelV.all {A : Nat} {vs : List (Int × Vis)} {st : List Int} (h : RelV A vs st) (hs : KS vs) (hr : ∀ p ∈ vs, 0 ≤ p.1 ∧ p.1 < A) : st.all (fun x => decide (x ≠ 1)) = allV (fun v => v.pin) vs := by
  rw [Bool.eq_iff_iff, List.all_eq_true]
  unfold allV
  rw [List.all_eq_true]
  constructor
  · intro g p hp
    have hrp := hr p hp
    have hm := mget_of_mem hs hp
    have hi := h.2 p.1.toNat (by omega)
    rw [show ((p.1.toNat : Nat) : Int) = p.1 by omega, hm] at hi
    have := g _ (List.mem_of_getElem? hi)
    simp only [decide_eq_true_eq] at this
    cases e : p.2.pin with
    | true => exact e
    | false => exact absurd (stt_one.2 e) this
  · intro g x hx
    obtain ⟨i, hi, e⟩ := List.mem_iff_getElem.1 hx
    rw [h.1] at hi
    have h2 := h.2 i hi
    rw [List.getElem?_eq_getElem (by rw [h.1]; exact hi), e] at h2
    cases em : mget (i : Int) vs with
    | none => rw [em] at h2; simp [stt] at h2; subst h2; simp
    | some v =>
      have := g _ (mget_mem em)
      simp only at this
      rw [em] at h2
      simp [stt, this] at h2
      subst h2; simp

/-- the job, as the reference has it -/
structure Rel (J : Jb) (r : Rs) : Prop where
  id : r.id = J.id
  tr : r.tr = J.tr
  cl : r.cl = J.cl
  ph : r.ph = J.ph
  full : r.full = J.full
  kept : r.kept = J.kept
  ag : J.ag = (r.st.length : Int)
  st : RelV r.st.length J.vs r.st
  ks : KS J.vs
  rg : ∀ p ∈ J.vs, 0 ≤ p.1 ∧ p.1 < (r.st.length : Int)
  lf : r.fr.length = r.st.length
  lp : r.pt.length = r.st.length
  fr : ∀ i : Nat, i < r.st.length → r.fr[i]? = some (frr (mget (i : Int) J.vs))
  pt : ∀ (i : Nat) (v : Vis), mget (i : Int) J.vs = some v → v.pin = true → ∃ p, r.pt[i]? = some p ∧ strip p = tld v
section
variable {J : Jb} {r : Rs}
theorem Rel.vis (h : Rel J r) (a : Int) : rvis r a = (mget a J.vs).isSome := by
  unfold rvis
  by_cases h0 : 0 ≤ a ∧ a < (r.st.length : Int)
  · have hg := h.st.getD (i := a.toNat) (by omega)
    rw [show ((a.toNat : Nat) : Int) = a by omega] at hg
    rw [decide_eq_true h0.1, decide_eq_true h0.2, hg]
    cases e : mget a J.vs with
    | none => simp [stt]
    | some v => cases hp : v.pin <;> simp [stt, hp]
  · have hn : mget a J.vs = none := by
      cases e : mget a J.vs with
      | none => rfl
      | some v => exact absurd (h.rg _ (mget_mem e)) h0
    rw [hn]
    by_cases h1 : 0 ≤ a
    · rw [decide_eq_false (show ¬ a < (r.st.length : Int) from fun e => h0 ⟨h1, e⟩)]; simp
    · rw [decide_eq_false h1]; rfl
theorem rPinSt_len : ∀ {cs : List Int} {st : List Int}, (rPinSt st cs).length = st.length
  | [], _ => rfl
  | c :: r, st => by
    show (rPinSt (rPin1 st c) r).length = st.length
    rw [rPinSt_len]
    unfold rPin1
    cases decide (c < (st.length : Int)) && decide (st.getD c.toNat 0 = 0) <;> simp
theorem rightP_cl {p : Pt} (h : rightP p = true) : 0 ≤ p.a ∧ ∀ c ∈ p.cl, 0 ≤ c := by
  simp only [rightP, Bool.and_eq_true, wi_true] at h
  exact ⟨h.2.1.1, fun c hc => by have := (agOk_iff.1 h.2.2.2.2).2 c hc; omega⟩
/-- a Pinned is heard -/
theorem Rel.pin (h : Rel J r) {p : Pt} (hp : rightP p = true) {v : Vis} (hv : mget p.a J.vs = some v) : Rel (pinJ J p.a v p) (rPin r p) := by
  obtain ⟨ha, hcs⟩ := rightP_cl hp
  have hr := h.rg _ (mget_mem hv)
  simp only at hr
  obtain ⟨n, hn⟩ : ∃ n : Nat, p.a = n := ⟨p.a.toNat, by omega⟩
  have hnl : n < r.st.length := by omega
  have hst := h.st.getD hnl
  rw [← hn, hv] at hst
  have hcond : (decide (r.ph = 1) && (rvis r p.a && decide (r.st.getD p.a.toNat 0 = 1))) = !(decide (J.ph ≠ 1) || v.pin) := by
    rw [h.vis, hv, hn, Int.toNat_natCast, hst, h.ph]
    cases e : v.pin with
    | true =>
      have : stt (some v) ≠ 1 := fun e2 => by have := stt_one.1 e2; rw [e] at this; cases this
      rw [decide_eq_false this]; simp
    | false => rw [decide_eq_true (stt_one.2 e)]; simp
  unfold rPin pinJ
  rw [hcond]
  cases hc : decide (J.ph ≠ 1) || v.pin with
  | true => exact h
  | false =>
    simp only [Bool.not_false, cond_true, cond_false]
    have hV : RelV r.st.length (pinVs J p.a v p) (rPin2 r p).st := by
      unfold pinVs rPin2
      rw [h.ag, hn, Int.toNat_natCast]
      have h1 := h.st.put hnl (toldV v p)
      rw [show stt (some (toldV v p)) = 2 from rfl] at h1
      exact h1.addCs hcs
    have hks : KS (pinVs J p.a v p) := by unfold pinVs; exact addCs_ks h.ks.mput
    have hrg : ∀ q ∈ pinVs J p.a v p, 0 ≤ q.1 ∧ q.1 < (r.st.length : Int) := by
      unfold pinVs
      refine addCs_all (P := fun q => 0 ≤ q.1 ∧ q.1 < (r.st.length : Int)) (fun q hq => ?_) (fun c hc hlt => ⟨hcs c hc, by rw [h.ag] at hlt; exact hlt⟩)
      rcases mem_mput hq with rfl | hq
      · exact hr
      · exact h.rg q hq
    have hl : (rPin2 r p).st.length = r.st.length := by unfold rPin2; simp [rPinSt_len]
    have hall := hV.all hks hrg
    have hget : ∀ k x, mget k (pinVs J p.a v p) = some x → x = zVis ∨ (k = p.a ∧ x = toldV v p) ∨ (k ≠ p.a ∧ mget k J.vs = some x) := fun k x hx => by
      unfold pinVs at hx
      rcases addCs_some hx with hx | ⟨_, _, rfl⟩
      · rw [mget_mput] at hx
        by_cases e : k = p.a
        · rw [if_pos e] at hx; cases hx; exact .inr (.inl ⟨e, rfl⟩)
        · rw [if_neg e] at hx; exact .inr (.inr ⟨e, hx⟩)
      · exact .inl rfl
    have hfr : ∀ i : Nat, i < r.st.length → r.fr[i]? = some (frr (mget (i : Int) (pinVs J p.a v p))) := fun i hi => by
      rw [h.fr i hi]
      congr 1
      cases e : mget (i : Int) (pinVs J p.a v p) with
      | none =>
        cases e2 : mget (i : Int) J.vs with
        | none => rfl
        | some y =>
          have : mget (i : Int) (pinVs J p.a v p) ≠ none := by
            unfold pinVs
            by_cases ek : (i : Int) = p.a
            · rw [addCs_get (v := toldV v p) (by rw [mget_mput, if_pos ek])]; simp
            · rw [addCs_get (v := y) (by rw [mget_mput, if_neg ek]; exact e2)]; simp
          exact absurd e this
      | some x =>
        rcases hget _ _ e with rfl | ⟨e1, rfl⟩ | ⟨_, e2⟩
        · cases e2 : mget (i : Int) J.vs with
          | none => rfl
          | some y =>
            have : mget (i : Int) (pinVs J p.a v p) = some (if (i : Int) = p.a then toldV v p else y) := by
              unfold pinVs
              exact addCs_get (by rw [mget_mput]; by_cases ek : (i : Int) = p.a <;> simp [ek, ← e2])
            rw [e] at this
            by_cases ek : (i : Int) = p.a
            · rw [if_pos ek] at this; simp [zVis, toldV] at this
            · rw [if_neg ek] at this; cases this; rfl
        · rw [e1, hv]; rfl
        · rw [e2]
    have hpt : ∀ (i : Nat) (x : Vis), mget (i : Int) (pinVs J p.a v p) = some x → x.pin = true → ∃ q, (rPin2 r p).pt[i]? = some q ∧ strip q = tld x := fun i x hx hpx => by
      rcases hget _ _ hx with rfl | ⟨e1, rfl⟩ | ⟨e1, e2⟩
      · cases hpx
      · refine ⟨p, ?_, rfl⟩
        have : i = p.a.toNat := by omega
        show (r.pt.set p.a.toNat p)[i]? = some p
        rw [this, List.getElem?_set_self (by rw [h.lp]; omega)]
      · obtain ⟨q, hq, hs⟩ := h.pt i x e2 hpx
        refine ⟨q, ?_, hs⟩
        show (r.pt.set p.a.toNat p)[i]? = some q
        rw [List.getElem?_set_ne (by omega)]; exact hq
    have hb : ∀ (J' : Jb) (r' : Rs), J'.vs = pinVs J p.a v p → r'.st = (rPin2 r p).st → r'.pt = (rPin2 r p).pt → r'.fr = r.fr → r'.id = J'.id → r'.tr = J'.tr → r'.cl = J'.cl → r'.ph = J'.ph → r'.full = J'.full → r'.kept = J'.kept → J'.ag = J.ag → Rel J' r' := fun J' r' e1 e2 e3 e4 e5 e6 e7 e8 e9 e10 e11 =>
      ⟨e5, e6, e7, e8, e9, e10, by rw [e11, e2, hl]; exact h.ag, by rw [e1, e2, hl]; exact hV, by rw [e1]; exact hks, by rw [e1, e2, hl]; exact hrg, by rw [e4, e2, hl]; exact h.lf, by rw [e3, e2, hl]; unfold rPin2; simp [h.lp], by rw [e1, e2, e4, hl]; exact hfr, by rw [e1, e3]; exact hpt⟩
    rw [hall]
    cases allV (fun v => v.pin) (pinVs J p.a v p) with
    | true => exact hb _ _ rfl rfl rfl rfl h.id h.tr h.cl rfl rfl h.kept rfl
    | false => exact hb _ _ rfl rfl rfl rfl h.id h.tr h.cl h.ph h.full h.kept rfl
/-- an Unpinned is heard -/
theorem Rel.unpin (h : Rel J r) {a : Int} {v : Vis} (hv : mget a J.vs = some v) : Rel (freeJ J a v) (rFree r a) := by
  have hr := h.rg _ (mget_mem hv)
  simp only at hr
  obtain ⟨n, rfl⟩ : ∃ n : Nat, a = n := ⟨a.toNat, by omega⟩
  have hnl : n < r.st.length := by omega
  have hcond : (decide (r.ph = 3) && rvis r n) = !decide (J.ph ≠ 3) := by
    rw [h.vis, hv, h.ph]
    by_cases e : J.ph = 3 <;> simp [e]
  unfold rFree freeJ
  rw [hcond]
  cases hc : decide (J.ph ≠ 3) with
  | true => exact h
  | false =>
    simp only [Bool.not_false, cond_true, cond_false]
    have hks : KS (freeVs J n v) := by unfold freeVs; exact h.ks.mput
    have hrg : ∀ q ∈ freeVs J n v, 0 ≤ q.1 ∧ q.1 < (r.st.length : Int) := fun q hq => by
      unfold freeVs at hq
      rcases mem_mput hq with rfl | hq
      · exact hr
      · exact h.rg q hq
    have hg : ∀ i : Nat, mget (i : Int) (freeVs J n v) = if i = n then some { v with free := true } else mget (i : Int) J.vs := fun i => by
      unfold freeVs
      rw [mget_mput]
      by_cases e : i = n
      · subst e; simp
      · rw [if_neg e, if_neg (by omega)]
    have hst : ∀ i : Nat, stt (mget (i : Int) (freeVs J n v)) = stt (mget (i : Int) J.vs) := fun i => by
      rw [hg i]
      by_cases e : i = n
      · subst e; rw [if_pos rfl, hv]; rfl
      · rw [if_neg e]
    have hV : RelV r.st.length (freeVs J n v) r.st := ⟨rfl, fun i hi => by rw [hst]; exact h.st.2 i hi⟩
    have hfr : ∀ i : Nat, i < r.st.length → (rFree2 r n).fr[i]? = some (frr (mget (i : Int) (freeVs J n v))) := fun i hi => by
      show (r.fr.set (n : Int).toNat true)[i]? = _
      rw [Int.toNat_natCast, hg i]
      by_cases e : i = n
      · subst e; rw [List.getElem?_set_self (by rw [h.lf]; exact hnl), if_pos rfl]; rfl
      · rw [List.getElem?_set_ne (Ne.symm e), if_neg e]; exact h.fr i hi
    have hpt : ∀ (i : Nat) (x : Vis), mget (i : Int) (freeVs J n v) = some x → x.pin = true → ∃ q, r.pt[i]? = some q ∧ strip q = tld x := fun i x hx hpx => by
      rw [hg i] at hx
      by_cases e : i = n
      · subst e
        rw [if_pos rfl] at hx
        cases hx
        exact h.pt i v hv hpx
      · rw [if_neg e] at hx; exact h.pt i x hx hpx
    have hall : rAll (rFree2 r n) = allV (fun v => v.free) (freeVs J n v) := by
      rw [Bool.eq_iff_iff]
      unfold rAll allV
      rw [List.all_eq_true, List.all_eq_true]
      constructor
      · intro g p hp
        have hrp := hrg p hp
        have hm := mget_of_mem hks hp
        have hi := hfr p.1.toNat (by omega)
        have hs := hV.getD (i := p.1.toNat) (by omega)
        rw [show ((p.1.toNat : Nat) : Int) = p.1 by omega, hm] at hi hs
        have h2 := g p.1.toNat (List.mem_range.2 (show p.1.toNat < r.st.length by omega))
        have hs' : (rFree2 r n).st.getD p.1.toNat 0 = stt (some p.2) := hs
        rw [hs', List.getD_eq_getElem?_getD, hi, decide_eq_false (fun e => by have := stt_zero.1 e; cases this)] at h2
        simpa [frr] using h2
      · intro g i hi
        have hil : i < r.st.length := List.mem_range.1 hi
        have hs' : (rFree2 r n).st.getD i 0 = stt (mget (i : Int) (freeVs J n v)) := hV.getD hil
        rw [hs', List.getD_eq_getElem?_getD, hfr i hil]
        cases e : mget (i : Int) (freeVs J n v) with
        | none => simp [stt]
        | some x => have := g _ (mget_mem e); simp only at this; simp [frr, this]
    have hb : ∀ (J' : Jb) (r' : Rs), J'.vs = freeVs J n v → r'.st = r.st → r'.pt = r.pt → r'.fr = (rFree2 r n).fr → r'.id = J'.id → r'.tr = J'.tr → r'.cl = J'.cl → r'.ph = J'.ph → r'.full = J'.full → r'.kept = J'.kept → J'.ag = J.ag → Rel J' r' := fun J' r' e1 e2 e3 e4 e5 e6 e7 e8 e9 e10 e11 =>
      ⟨e5, e6, e7, e8, e9, e10, by rw [e11, e2]; exact h.ag, by rw [e1, e2]; exact hV, by rw [e1]; exact hks, by rw [e1, e2]; exact hrg, by rw [e4, e2]; unfold rFree2; simp [h.lf], by rw [e3, e2]; exact h.lp, by rw [e1, e2, e4]; exact hfr, by rw [e1, e3]; exact hpt⟩
    rw [hall]
    cases allV (fun v => v.free) (freeVs J n v) with
    | true => exact hb _ _ rfl rfl rfl rfl h.id h.tr h.cl rfl h.full h.kept rfl
    | false => exact hb _ _ rfl rfl rfl rfl h.id h.tr h.cl h.ph h.full h.kept rfl
theorem Rel.turn (h : Rel J r) {J' : Jb} {r' : Rs} (e1 : J'.vs = J.vs) (e2 : r'.st = r.st) (e3 : r'.pt = r.pt) (e4 : r'.fr = r.fr) (e5 : r'.id = J'.id) (e6 : r'.tr = J'.tr) (e7 : r'.cl = J'.cl) (e8 : r'.ph = J'.ph) (e9 : r'.full = J'.full) (e10 : r'.kept = J'.kept) (e11 : J'.ag = J.ag) : Rel J' r' :=
  ⟨e5, e6, e7, e8, e9, e10, by rw [e11, e2]; exact h.ag, by rw [e1, e2]; exact h.st, by rw [e1]; exact h.ks, by rw [e1, e2]; exact h.rg, by rw [e4, e2]; exact h.lf, by rw [e3, e2]; exact h.lp, by rw [e1, e2, e4]; exact h.fr, by rw [e1, e3]; exact h.pt⟩
/-- both hear -/
theorem Rel.hear (h : Rel J r) (m : Mg) : Rel (hearJ J m) (rHear r m) := by
  unfold hearJ rHear jobOk
  rw [h.tr, h.id]
  cases hok : rightM m && (decide (mT m = J.tr) && decide (mJ m = J.id)) with
  | false => exact h
  | true =>
    simp only [cond_true]
    cases m with
    | pinned p =>
      have hp : rightP p = true := by simp only [rightM, Bool.and_eq_true] at hok; exact hok.1
      show Rel (match mget p.a J.vs with | none => J | some v => pinJ J p.a v p) (rPin r p)
      cases e : mget p.a J.vs with
      | some v => exact h.pin hp e
      | none =>
        have : rPin r p = r := by unfold rPin; rw [h.vis, e]; simp
        rw [this]; exact h
    | gone a t j =>
      show Rel (match mget a J.vs with | none => J | some _ => bif decide (J.ph ≤ 2) then { J with ph := 3 } else J) (bif decide (r.ph ≤ 2) && rvis r a then { r with ph := 3 } else r)
      rw [h.vis, h.ph]
      cases e : mget a J.vs with
      | none => simp only [Option.isSome_none, Bool.and_false, cond_false]; exact h
      | some v =>
        simp only [Option.isSome_some, Bool.and_true]
        cases decide (J.ph ≤ 2) with
        | true => exact h.turn rfl rfl rfl rfl h.id h.tr h.cl rfl h.full h.kept rfl
        | false => exact h
    | stor t j =>
      show Rel (bif decide (J.ph = 2) || decide (J.ph = 3) then { J with kept := true, ph := 3 } else J) (bif decide (r.ph = 2) || decide (r.ph = 3) then { r with kept := true, ph := 3 } else r)
      rw [h.ph]
      cases decide (J.ph = 2) || decide (J.ph = 3) with
      | true => exact h.turn rfl rfl rfl rfl h.id h.tr h.cl rfl h.full rfl rfl
      | false => exact h
    | unpd a t j =>
      show Rel (match mget a J.vs with | none => J | some v => freeJ J a v) (rFree r a)
      cases e : mget a J.vs with
      | some v => exact h.unpin e
      | none =>
        have : rFree r a = r := by unfold rFree; rw [h.vis, e]; simp
        rw [this]; exact h
    | _ => exact h
end
end Go.Sp
