/- JobTwice, the plain part: a message that is heard twice changes nothing more; two messages of one call do the same. No condition beyond those each lemma names. -/
import Derived.Test.YtniggacgkhkgiaaJobAwake
import Derived.Test.YtniggacgkhkgiaaJobMsg
namespace Go.Sp
open Go.RowKit

theorem addC_get {ag c k : Int} {vs : List (Int × Vis)} {v : Vis} (h : mget k vs = some v) : mget k (addC ag vs c) = some v := by
  unfold addC
  cases hb : decide (c < ag) && (mget c vs).isNone with
  | false => exact h
  | true =>
    simp only [Bool.and_eq_true] at hb
    simp only [cond_true, mget_mput]
    by_cases e : k = c
    · subst e; rw [h] at hb; simp at hb
    · rw [if_neg e]; exact h
theorem addCs_get {ag k : Int} {v : Vis} : ∀ {cs : List Int} {vs : List (Int × Vis)}, mget k vs = some v → mget k (addCs ag vs cs) = some v
  | [], _, h => h
  | c :: r, vs, h => addCs_get (cs := r) (addC_get (c := c) h)
theorem pinJ_twice {J : Jb} {k : Int} {v : Vis} {p p' : Pt} (h : mget k J.vs = some v) : ∃ v', mget k (pinJ J k v p).vs = some v' ∧ pinJ (pinJ J k v p) k v' p' = pinJ J k v p := by
  cases h1 : decide (J.ph ≠ 1) || v.pin with
  | true =>
    have e : ∀ q, pinJ J k v q = J := fun q => by unfold pinJ; rw [h1]; rfl
    exact ⟨v, by rw [e]; exact h, by rw [e, e]⟩
  | false =>
    have hk : mget k (pinVs J k v p) = some (toldV v p) := addCs_get (by rw [mget_mput, if_pos rfl])
    have e : pinJ J k v p = bif allV (fun v => v.pin) (pinVs J k v p) then { J with vs := pinVs J k v p, ph := 2, full := true } else { J with vs := pinVs J k v p } := by unfold pinJ; rw [h1]; rfl
    have e2 : (pinJ J k v p).vs = pinVs J k v p := by rw [e]; cases allV (fun v => v.pin) (pinVs J k v p) <;> rfl
    refine ⟨toldV v p, by rw [e2]; exact hk, ?_⟩
    generalize pinJ J k v p = J'
    unfold pinJ
    simp [toldV]
theorem freeJ_twice {J : Jb} {k : Int} {v : Vis} (hs : KS J.vs) (h : mget k J.vs = some v) : ∃ v', mget k (freeJ J k v).vs = some v' ∧ freeJ (freeJ J k v) k v' = freeJ J k v := by
  cases h1 : decide (J.ph ≠ 3) with
  | true =>
    have e : freeJ J k v = J := by unfold freeJ; rw [h1]; rfl
    exact ⟨v, by rw [e]; exact h, by rw [e, e]⟩
  | false =>
    have h3 : J.ph = 3 := by simpa using h1
    have hk : mget k (freeVs J k v) = some { v with free := true } := by unfold freeVs; rw [mget_mput, if_pos rfl]
    have hks : KS (freeVs J k v) := by unfold freeVs; exact hs.mput
    cases ha : allV (fun v => v.free) (freeVs J k v) with
    | true =>
      have e : freeJ J k v = { J with vs := freeVs J k v, ph := 4 } := by unfold freeJ; rw [h1, ha]; rfl
      refine ⟨_, by rw [e]; exact hk, ?_⟩
      rw [e]
      unfold freeJ
      simp
    | false =>
      have e : freeJ J k v = { J with vs := freeVs J k v } := by unfold freeJ; rw [h1, ha]; rfl
      refine ⟨_, by rw [e]; exact hk, ?_⟩
      rw [e]
      have e2 : freeVs { J with vs := freeVs J k v } k { v with free := true } = freeVs J k v := by
        show mput k _ (freeVs J k v) = _
        exact mput_self hks hk
      unfold freeJ
      simp only [e2, ha]
      simp
theorem pinJ_same (J : Jb) (k : Int) (v : Vis) (p : Pt) : (pinJ J k v p).tr = J.tr ∧ (pinJ J k v p).id = J.id := by
  unfold pinJ
  cases decide (J.ph ≠ 1) || v.pin <;> cases allV (fun v => v.pin) (pinVs J k v p) <;> exact ⟨rfl, rfl⟩
theorem freeJ_same (J : Jb) (k : Int) (v : Vis) : (freeJ J k v).tr = J.tr ∧ (freeJ J k v).id = J.id := by
  unfold freeJ
  cases decide (J.ph ≠ 3) <;> cases allV (fun v => v.free) (freeVs J k v) <;> exact ⟨rfl, rfl⟩
theorem hearK_same (J : Jb) (m : Mg) : (hearK J m).tr = J.tr ∧ (hearK J m).id = J.id := by
  cases m with
  | stor t j => unfold hearK; cases decide (J.ph = 2) || decide (J.ph = 3) <;> exact ⟨rfl, rfl⟩
  | pinned p =>
    cases hv : mget p.a J.vs with
    | none => simp only [hearK, hv]; exact ⟨trivial, trivial⟩
    | some v => simp only [hearK, hv]; exact pinJ_same _ _ _ _
  | gone a t j =>
    cases hv : mget a J.vs with
    | none => simp only [hearK, hv]; exact ⟨trivial, trivial⟩
    | some v => simp only [hearK, hv]; cases decide (J.ph ≤ 2) <;> exact ⟨rfl, rfl⟩
  | unpd a t j =>
    cases hv : mget a J.vs with
    | none => simp only [hearK, hv]; exact ⟨trivial, trivial⟩
    | some v => simp only [hearK, hv]; exact freeJ_same _ _ _
  | _ => exact ⟨rfl, rfl⟩
theorem hearK_twice {J : Jb} (hs : KS J.vs) (m : Mg) : hearK (hearK J m) m = hearK J m := by
  cases m with
  | stor t j =>
    by_cases h2 : J.ph = 2
    · simp [hearK, h2]
    · by_cases h3 : J.ph = 3
      · simp [hearK, h3]
      · simp [hearK, h2, h3]
  | pinned p =>
    cases hv : mget p.a J.vs with
    | none => simp only [hearK, hv]
    | some v =>
      obtain ⟨v', h1, h2⟩ := pinJ_twice (p := p) (p' := p) hv
      simp only [hearK, hv, h1, h2]
  | gone a t j =>
    cases hv : mget a J.vs with
    | none => simp only [hearK, hv]
    | some v =>
      by_cases h2 : J.ph ≤ 2
      · simp [hearK, hv, h2]
      · simp [hearK, hv, h2]
  | unpd a t j =>
    cases hv : mget a J.vs with
    | none => simp only [hearK, hv]
    | some v =>
      obtain ⟨v', h1, h2⟩ := freeJ_twice hs hv
      simp only [hearK, hv, h1, h2]
  | _ => rfl
theorem hearJ_twice {J : Jb} (hs : KS J.vs) (m : Mg) : hearJ (hearJ J m) m = hearJ J m := by
  cases hok : jobOk J m with
  | false =>
    have e : hearJ J m = J := by unfold hearJ; rw [hok]; rfl
    rw [e, e]
  | true =>
    have e : hearJ J m = hearK J m := by unfold hearJ; rw [hok]; rfl
    have h := hearK_same J m
    have hok2 : jobOk (hearK J m) m = true := by unfold jobOk at hok ⊢; rw [h.1, h.2]; exact hok
    rw [e]
    unfold hearJ
    rw [hok2]
    exact hearK_twice hs m
/-- two messages of one call -/
theorem msgJ_same {o : OpJ} {m m' : Mg} (h : MsgJ o m) (h' : MsgJ o m') (J : Jb) : hearJ J m = hearJ J m' := by
  rcases h with ⟨h1, rfl⟩ | ⟨h1, pv, rfl⟩ <;> rcases h' with ⟨h2, rfl⟩ | ⟨h2, pv', rfl⟩
  · rfl
  · exact absurd h2 h1
  · exact absurd h1 h2
  · rfl
end Go.Sp
