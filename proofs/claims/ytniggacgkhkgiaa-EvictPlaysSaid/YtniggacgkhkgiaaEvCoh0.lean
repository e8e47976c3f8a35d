/- EvictCoherent in plain words: what goes is worth least of what may go; what is pinned stays as it is. No condition beyond those each lemma names. -/
import Derived.Test.YtniggacgkhkgiaaEvAll0
namespace Go.Sp
open Go.RowKit
theorem lessP_iff (s a b : Int) : lessP s a b = true ↔ (prio s a < prio s b ∨ (prio s a = prio s b ∧ a < b)) := by
  unfold lessP
  simp
theorem leastG_le (s : Int) : ∀ (l : List Int) (m x : Int), (x = m ∨ x ∈ l) → lessP s x (leastG (lessP s) m l) = false
  | [], m, x, h => by
    have hx : x = m := h.resolve_right (by simp)
    subst hx
    rw [Bool.eq_false_iff]
    intro e
    have := (lessP_iff s x x).1 e
    omega
  | y :: r, m, x, h => by
    have e : leastG (lessP s) m (y :: r) = leastG (lessP s) (bif lessP s y m then y else m) r := rfl
    rw [e]
    by_cases hx : x ∈ r
    · exact leastG_le s r _ x (.inr hx)
    have h' : x = m ∨ x = y := by
      rcases h with h | h
      · exact .inl h
      · rcases List.mem_cons.1 h with h | h
        · exact .inr h
        · exact absurd h hx
    have h1 := leastG_le s r (bif lessP s y m then y else m) _ (.inl rfl)
    rw [Bool.eq_false_iff] at h1 ⊢
    intro e1
    apply h1
    rw [lessP_iff] at e1 ⊢
    cases hy : lessP s y m with
    | true =>
      rw [hy] at e1
      simp only [cond_true] at e1 ⊢
      rw [lessP_iff] at hy
      rcases h' with rfl | rfl
      · omega
      · exact e1
    | false =>
      rw [hy] at e1
      simp only [cond_false] at e1 ⊢
      rcases h' with rfl | rfl
      · exact e1
      · have hy' : ¬ (prio s x < prio s m ∨ (prio s x = prio s m ∧ x < m)) := fun h => by
          rw [(lessP_iff s x m).2 h] at hy; cases hy
        omega
theorem leastP_le (s : Int) {l : List Int} {x : Int} (h : x ∈ l) : lessP s x (leastP s l) = false := by
  cases l with
  | nil => simp at h
  | cons y r => exact leastG_le s r y x (List.mem_cons.1 h)
theorem mem_mayK {K : Kp} {t : Int} : t ∈ mayK K ↔ (mget t K.M).isSome = true ∧ hasK K.pins t = false := by
  unfold mayK
  rw [List.mem_filter]
  constructor
  · rintro ⟨h1, h2⟩
    refine ⟨?_, by simpa using h2⟩
    obtain ⟨p, hp, rfl⟩ := List.mem_map.1 h1
    cases h : mget p.1 K.M with
    | some _ => rfl
    | none => exact absurd rfl (mget_none.1 h p hp)
  · rintro ⟨h1, h2⟩
    obtain ⟨l, hl⟩ := Option.isSome_iff_exists.1 h1
    exact ⟨List.mem_map.2 ⟨_, mget_mem hl, rfl⟩, by simpa using h2⟩
theorem least_free {K : Kp} {k : Int} (h : hasK K.pins k = false) : hasK K.pins (leastK K k) = false := by
  have hm := leastP_mem K.seed (l := mayK K ++ [k]) (by simp)
  rcases List.mem_append.1 hm with e | e
  · exact (mem_mayK.1 e).2
  · simp at e
    unfold leastK
    rw [e]; exact h
/-- what the law asks of those that went -/
def GoneOk (K K' : Kp) (g : Int) : Prop := (1 ≤ g ∧ g ≤ 65535) ∧ hasK K.pins g = false ∧ hasK K'.lost g = true ∧ ∀ t, (mget t K'.M).isSome = true → (hasK K.pins t = true ∧ (mget t K.M).isSome = true) ∨ lessP K.seed t g = false
theorem room_gone {K : Kp} {k : Int} (hn : Nums K) (hk : 1 ≤ k ∧ k ≤ 65535) (hp : hasK K.pins k = false) (K' : Kp) (hl : K'.lost = (roomK K k).lost) (hM : ∀ t, (mget t K'.M).isSome = true → t = k ∨ (mget t (roomK K k).M).isSome = true) :
    ∃ new, (roomK K k).gone = K.gone ++ new ∧ ∀ g ∈ new, GoneOk K K' g := by
  cases hm : (mayK K).isEmpty with
  | true => exact ⟨[], by unfold roomK; rw [hm]; simp, fun g hg => by simp at hg⟩
  | false =>
    have hr : roomK K k = { K with M := mdel (leastK K k) K.M, lost := mput (leastK K k) () K.lost, gone := K.gone ++ [leastK K k] } := by unfold roomK; rw [hm]; rfl
    refine ⟨[leastK K k], by rw [hr], fun g hg => ?_⟩
    have hg' : g = leastK K k := by simpa using hg
    subst hg'
    refine ⟨leastK_rg hn hk, least_free hp, by rw [hl, hr, hasK_put]; simp, fun t ht => ?_⟩
    have h1 : t = k ∨ (mget t K.M).isSome = true := by
      rcases hM t ht with e | e
      · exact .inl e
      · rw [hr] at e
        simp only [mget_mdel] at e
        split at e
        · simp at e
        · exact .inr e
    cases h2 : hasK K.pins t with
    | true =>
      rcases h1 with rfl | h1
      · rw [hp] at h2; cases h2
      · exact .inl ⟨rfl, h1⟩
    | false =>
      refine .inr (leastP_le K.seed ?_)
      rw [List.mem_append]
      rcases h1 with rfl | h1
      · exact .inr (by simp)
      · exact .inl (mem_mayK.2 ⟨h1, h2⟩)
theorem room_pin {K : Kp} {k t : Int} (hp : hasK K.pins k = false) (ht : hasK K.pins t = true) : lgetA t (roomK K k).M = lgetA t K.M := by
  unfold roomK
  cases (mayK K).isEmpty with
  | true => rfl
  | false =>
    simp only [cond_false]
    rw [lgetA_del, if_neg (fun e => by have := least_free hp; rw [← e, ht] at this; cases this)]
theorem room_N (K : Kp) (k : Int) : (roomK K k).N = K.N ∧ (roomK K k).seed = K.seed := by
  unfold roomK
  cases (mayK K).isEmpty <;> exact ⟨rfl, rfl⟩
theorem put_keys {K : Kp} {k : Int} {s : ByteArray} : ∀ t, (mget t (putK K k s).M).isSome = true → t = k ∨ (mget t K.M).isSome = true := fun t ht => by
  unfold putK at ht
  rw [mget_mput] at ht
  split at ht
  · rename_i h; exact .inl h
  · exact .inr ht
theorem put_pin {K : Kp} {k t : Int} {s : ByteArray} (hp : hasK K.pins k = false) (ht : hasK K.pins t = true) : lgetA t (putK K k s).M = lgetA t K.M := by
  show lgetA t (mput k _ K.M) = _
  rw [lgetA_put, if_neg (fun e => by rw [e, hp] at ht; cases ht)]
theorem room_pins (K : Kp) (k : Int) : (roomK K k).pins = K.pins := by
  unfold roomK
  cases (mayK K).isEmpty <;> rfl
/-- a write, as the law asks -/
theorem write_coh {K : Kp} (k : Int) (s : ByteArray) (hn : Nums K) : (∃ new, (writeK K k s).1.gone = K.gone ++ new ∧ ∀ g ∈ new, GoneOk K (writeK K k s).1 g) ∧ (∀ t, hasK K.pins t = true → lgetA t (writeK K k s).1.M = lgetA t K.M) ∧ (writeK K k s).1.N = K.N ∧ (writeK K k s).1.seed = K.seed := by
  unfold writeK
  cases ha : argK k s with
  | false => exact ⟨⟨[], by simp, fun g hg => by simp at hg⟩, fun t _ => rfl, rfl, rfl⟩
  | true =>
    have hk : 1 ≤ k ∧ k ≤ 65535 := by
      unfold argK at ha
      simp only [Bool.and_eq_true, decide_eq_true_eq] at ha
      exact ⟨ha.1, ha.2.1⟩
    cases hasK K.lost k with
    | true => exact ⟨⟨[], by simp, fun g hg => by simp at hg⟩, fun t _ => rfl, rfl, rfl⟩
    | false =>
      cases hp : hasK K.pins k with
      | true => exact ⟨⟨[], by simp, fun g hg => by simp at hg⟩, fun t _ => rfl, rfl, rfl⟩
      | false =>
        simp only [Bool.not_true, cond_false]
        unfold write1
        cases canW K k with
        | true =>
          simp only [cond_true]
          exact ⟨⟨[], by simp [putK], fun g hg => by simp at hg⟩, fun t ht => put_pin hp ht, rfl, rfl⟩
        | false =>
          simp only [cond_false]
          have hpr : hasK (roomK K k).pins k = false := by rw [room_pins]; exact hp
          cases decide (roomE K k = 0) with
          | true =>
            simp only [cond_true]
            obtain ⟨new, h1, h2⟩ := room_gone hn hk hp (putK (roomK K k) k s) rfl put_keys
            exact ⟨⟨new, h1, h2⟩, fun t ht => by rw [put_pin hpr (by rw [room_pins]; exact ht), room_pin hp ht], (room_N K k).1, (room_N K k).2⟩
          | false =>
            simp only [cond_false]
            obtain ⟨new, h1, h2⟩ := room_gone hn hk hp (roomK K k) rfl (fun t ht => .inr ht)
            exact ⟨⟨new, h1, h2⟩, fun t ht => room_pin hp ht, room_N K k⟩
theorem do_coh {K : Kp} (o : OpE) (hn : Nums K) : (∃ new, (doK K o).1.gone = K.gone ++ new ∧ ∀ g ∈ new, GoneOk K (doK K o).1 g) ∧ (∀ t, o.k ≠ 4 → hasK K.pins t = true → lgetA t (doK K o).1.M = lgetA t K.M) ∧ (doK K o).1.N = K.N ∧ (doK K o).1.seed = K.seed := by
  unfold doK
  split
  · obtain ⟨h1, h2, h3⟩ := write_coh o.t o.s hn
    exact ⟨h1, fun t _ ht => h2 t ht, h3⟩
  split
  · exact ⟨⟨[], by simp, fun g hg => by simp at hg⟩, fun t _ _ => rfl, rfl, rfl⟩
  split
  · exact ⟨⟨[], by simp, fun g hg => by simp at hg⟩, fun t _ _ => rfl, rfl, rfl⟩
  split
  · rename_i h4
    exact ⟨⟨[], by simp [forgetK], fun g hg => by simp at hg⟩, fun t h _ => absurd h4 h, rfl, rfl⟩
  · exact ⟨⟨[], by simp, fun g hg => by simp at hg⟩, fun t _ _ => rfl, rfl, rfl⟩
end Go.Sp
