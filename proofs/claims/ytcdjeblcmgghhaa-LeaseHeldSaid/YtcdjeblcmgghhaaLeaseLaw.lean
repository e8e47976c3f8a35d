/- The plain law of leases: the program's maps and the reference's lists go the same way. No program in sight. -/
import Derived.Test.YtcdjeblcmgghhaaLease1
import Derived.Test.YtcdjeblcmgghhaaLeaseRef2
namespace Go.Proofs.Ytcdjeblcmgghhaa.LeaseLaw
open Go.RowKit Go.Sp Lease LeaseRef

abbrev Hs := List (Int × (Int × Int))
abbrev Os' := List (Int × Int)

theorem mget_mid {α : Type} {A B : List (Int × α)} {k : Int} {v : α} (h : ∀ p ∈ A, p.1 ≠ k) : mget k (A ++ (k, v) :: B) = some v := by
  induction A with
  | nil => simp [mget]
  | cons p r ih =>
    have h1 := h p List.mem_cons_self
    rw [List.cons_append, mget, if_neg h1]
    exact ih fun q hq => h q (List.mem_cons_of_mem _ hq)

theorem mput_mid {α : Type} {A B : List (Int × α)} {k : Int} {u v : α} (h : ∀ p ∈ A, p.1 < k) : mput k v (A ++ (k, u) :: B) = A ++ (k, v) :: B := by
  induction A with
  | nil => simp [mput]
  | cons p r ih =>
    have h1 := h p List.mem_cons_self
    rw [List.cons_append, mput, if_neg (by omega), if_neg (by omega), ih fun q hq => h q (List.mem_cons_of_mem _ hq)]
    rfl

theorem mdel_mid {α : Type} {A B : List (Int × α)} {k : Int} {u : α} (hA : ∀ p ∈ A, p.1 ≠ k) (hB : ∀ p ∈ B, p.1 ≠ k) : mdel k (A ++ (k, u) :: B) = A ++ B := by
  rw [mdel_eq, List.filter_append, List.filter_cons]
  have h1 : A.filter (fun p => decide (p.1 ≠ k)) = A := List.filter_eq_self.2 fun p hp => by simpa using hA p hp
  have h2 : B.filter (fun p => decide (p.1 ≠ k)) = B := List.filter_eq_self.2 fun p hp => by simpa using hB p hp
  rw [h1, h2]; simp

def dec (B : Hs) : Hs := (B.filter (fun p => p.2.2 != 1)).map fun p => (p.1, (p.2.1, p.2.2 - 1))
def out1 (B : Hs) : List (Int × Int) := (B.filter (fun p => p.2.2 == 1)).map fun p => (p.1, p.2.1)
def putAll (O : Os') (l : List (Int × Int)) : Os' := l.foldl (fun O p => mput p.1 (max ((mget p.1 O).getD 0) p.2) O) O

theorem tick_go : ∀ (B A : Hs) (O : Os') (g : List Int), KS (A ++ B) → (∀ p ∈ B, 1 ≤ p.2.2 ∧ p.2.2 ≤ 1000) →
    (B.map Prod.fst).foldl tick1 (A ++ B, O, g) = (A ++ dec B, putAll O (out1 B), g ++ (out1 B).map Prod.fst)
  | [], A, O, g, _, _ => by simp [dec, out1, putAll]
  | (k, (j, l)) :: B, A, O, g, hs, hl => by
    have hs' := List.pairwise_append.1 hs
    have hB := List.pairwise_cons.1 hs'.2.1
    have hA : ∀ p ∈ A, p.1 < k := fun p hp => hs'.2.2 p hp _ List.mem_cons_self
    have hB1 : ∀ p ∈ B, k < p.1 := hB.1
    have hlk : 1 ≤ l ∧ l ≤ 1000 := hl (k, (j, l)) List.mem_cons_self
    have hlB := fun p hp => hl p (List.mem_cons_of_mem _ hp)
    have hw : wrap64 (l - 1) = l - 1 := by unfold wrap64; omega
    have e1 : tick1 (A ++ (k, (j, l)) :: B, O, g) k = if 0 < l - 1 then (A ++ (k, (j, l - 1)) :: B, O, g) else (A ++ B, mput k (max ((mget k O).getD 0) j) O, g ++ [k]) := by
      simp only [tick1]
      rw [mget_mid fun p hp => by have := hA p hp; omega]
      simp only [Option.getD_some, hw]
      rw [mput_mid hA, mdel_mid (fun p hp => by have := hA p hp; omega) (fun p hp => by have := hB1 p hp; omega)]
    rw [List.map_cons, List.foldl_cons, e1]
    by_cases h1 : l = 1
    · subst h1
      rw [if_neg (by omega)]
      have hs2 : KS (A ++ B) := List.pairwise_append.2 ⟨hs'.1, hB.2, fun a ha b hb => hs'.2.2 a ha b (List.mem_cons_of_mem _ hb)⟩
      rw [tick_go B A _ _ hs2 hlB]
      simp [dec, out1, putAll]
    · rw [if_pos (by omega)]
      have hs2 : KS ((A ++ [(k, (j, l - 1))]) ++ B) := by
        rw [List.append_assoc]
        refine List.pairwise_append.2 ⟨hs'.1, List.pairwise_cons.2 ⟨hB1, hB.2⟩, fun a ha b hb => ?_⟩
        rcases List.mem_cons.1 hb with rfl | hb
        · exact hA a ha
        · exact hs'.2.2 a ha b (List.mem_cons_of_mem _ hb)
      have e2 : A ++ (k, (j, l - 1)) :: B = (A ++ [(k, (j, l - 1))]) ++ B := by simp
      rw [e2, tick_go B _ _ _ hs2 hlB]
      have hne : (l != 1) = true := by simp [h1]
      have heq : (l == 1) = false := by simp [h1]
      simp [dec, out1, hne, heq]

theorem tickAll_eq {H : Hs} (O : Os') (hs : KS H) (hl : ∀ p ∈ H, 1 ≤ p.2.2 ∧ p.2.2 ≤ 1000) : tickAll H O = (dec H, putAll O (out1 H), (out1 H).map Prod.fst) := by
  have := tick_go H [] O [] hs hl
  simpa [tickAll] using this

/-! ### the reference's lists -/
def toL (H : Hs) : List Ls := H.map fun p => (p.1, p.2.1, p.2.2)

theorem tk_go : ∀ (L : List Ls) (s : List Ls × List Int × List Ls), L.foldl tk1 s =
    (s.1 ++ L.map (fun p => (p.1, p.2.1, p.2.2 - 1)), s.2.1 ++ (L.filter (fun p => p.2.2 == 1)).map Prod.fst, s.2.2 ++ (L.filter (fun p => p.2.2 == 1)).map (fun p => (p.1, p.2.1, p.2.2 - 1)))
  | [], s => by simp
  | p :: r, s => by
    rw [List.foldl_cons, tk_go r]
    unfold tk1
    by_cases h : p.2.2 = 1
    · rw [if_pos (by omega)]
      have : (p.2.2 == 1) = true := by simp [h]
      simp [this]
    · rw [if_neg (by omega)]
      have : (p.2.2 == 1) = false := by simp [h]
      simp [this]

theorem foldl_filter (gs : List Int) : ∀ (l : List Ls), gs.foldl (fun l g => l.filter (fun p => p.1 != g)) l = l.filter (fun p => !gs.contains p.1) := by
  induction gs with
  | nil => intro l; exact (List.filter_eq_self.2 (by simp)).symm
  | cons g r ih =>
    intro l
    rw [List.foldl_cons, ih, List.filter_filter]
    congr 1
    funext p
    by_cases h : p.1 = g <;> simp [h]

theorem rtick_eq {H : Hs} (Ov : List Ls) (hs : KS H) : rtick (toL H) Ov = (toL (dec H), (out1 H).map Prod.fst, Ov ++ (out1 H).map fun p => (p.1, p.2, 0)) := by
  unfold rtick tkTo
  rw [tk_go]
  have e1 : ((toL H).filter (fun p => p.2.2 == 1)).map Prod.fst = (out1 H).map Prod.fst := by
    unfold toL out1; rw [List.filter_map, List.map_map, List.map_map]; rfl
  have e2 : ((toL H).filter (fun p => p.2.2 == 1)).map (fun p => (p.1, p.2.1, p.2.2 - 1)) = (out1 H).map fun p => (p.1, p.2, (0 : Int)) := by
    unfold toL out1
    rw [List.filter_map, List.map_map, List.map_map]
    refine List.map_congr_left fun p hp => ?_
    have : p.2.2 = 1 := by simpa using (List.mem_filter.1 hp).2
    simp [this]
  simp only [List.nil_append]
  rw [e1, e2, foldl_filter]
  refine Prod.ext ?_ rfl
  show List.filter _ _ = _
  unfold toL dec
  rw [List.map_map, List.map_map, List.filter_map]
  have e3 : H.filter ((fun p : Ls => !((out1 H).map Prod.fst).contains p.1) ∘ ((fun p : Ls => (p.1, p.2.1, p.2.2 - 1)) ∘ fun p : Int × (Int × Int) => (p.1, p.2.1, p.2.2))) = H.filter (fun p => p.2.2 != 1) := by
    refine List.filter_congr fun p hp => ?_
    simp only [Function.comp]
    have : ((out1 H).map Prod.fst).contains p.1 = (p.2.2 == 1) := by
      rw [Bool.eq_iff_iff, List.contains_iff_mem, List.mem_map]
      constructor
      · rintro ⟨q, hq, e⟩
        obtain ⟨r, hr, e2⟩ := List.mem_map.1 hq
        have hr' := List.mem_filter.1 hr
        have : r = p := by
          have a := mget_of_mem hs (k := r.1) (v := r.2) hr'.1
          have b := mget_of_mem hs (k := p.1) (v := p.2) hp
          have e3 : r.1 = p.1 := by rw [← e, ← e2]
          rw [e3, b] at a
          exact Prod.ext e3 (by simpa using a.symm)
        rw [← this]; exact hr'.2
      · intro h
        exact ⟨(p.1, p.2.1), List.mem_map.2 ⟨p, List.mem_filter.2 ⟨hp, h⟩, rfl⟩, rfl⟩
    rw [this]; rfl
  rw [e3]; rfl

theorem find_toL (k : Int) (H : Hs) : ((toL H).find? (fun p => p.1 == k)).getD (0, 0, 0) = match mget k H with | some v => (k, v.1, v.2) | none => (0, 0, 0) := by
  induction H with
  | nil => rfl
  | cons p r ih =>
    unfold toL at ih ⊢
    rw [List.map_cons, List.find?_cons, mget]
    by_cases h : p.1 = k
    · simp [h]
    · have : (p.1 == k) = false := by simp [h]
      simp only [this, if_neg h]
      exact ih

theorem filter_toL (k : Int) (H : Hs) : (toL H).filter (fun p => p.1 != k) = toL (mdel k H) := by
  unfold toL
  rw [mdel_eq, List.filter_map]
  congr 1
  refine List.filter_congr fun p _ => ?_
  by_cases h : p.1 = k <;> simp [h]

theorem ins_toL {k j T : Int} : ∀ {H : Hs}, KS H → ins (k, j, T) (toL (mdel k H)) = toL (mput k (j, T) H)
  | [], _ => rfl
  | p :: r, hs => by
    have h' := List.pairwise_cons.1 hs
    unfold mput
    by_cases h1 : k < p.1
    · rw [if_pos h1, mdel_none (mget_none.2 fun q hq => by
        rcases List.mem_cons.1 hq with rfl | hq
        · omega
        · have := h'.1 q hq; omega)]
      simp [toL, ins, h1]
    · rw [if_neg h1]
      by_cases h2 : p.1 = k
      · rw [if_pos h2, mdel, if_pos h2, mdel_none (mget_none.2 fun q hq => by have := h'.1 q hq; omega)]
        cases r with
        | nil => rfl
        | cons q r => have := h'.1 q List.mem_cons_self; simp [toL, ins]; omega
      · rw [if_neg h2, mdel, if_neg h2]
        have := ins_toL (k := k) (j := j) (T := T) h'.2
        simp only [toL, List.map_cons, ins] at this ⊢
        rw [if_neg (by simpa using h1), this]

/-! ### what ran out -/
def OvOk (O : Os') (Ov : List Ls) : Prop := ∀ k, (mget k O).getD 0 = lastOf k Ov

theorem ovOk_put {l : List (Int × Int)} : ∀ {O : Os'} {Ov : List Ls}, OvOk O Ov → OvOk (putAll O l) (Ov ++ l.map fun p => (p.1, p.2, 0)) := by
  induction l with
  | nil => intro O Ov h; simpa [putAll] using h
  | cons p r ih =>
    intro O Ov h
    have h2 : OvOk (mput p.1 (max ((mget p.1 O).getD 0) p.2) O) (Ov ++ [(p.1, p.2, 0)]) := fun k => by
      rw [mget_mput]
      have e : lastOf k (Ov ++ [(p.1, p.2, 0)]) = last1 k (lastOf k Ov) (p.1, p.2, 0) := by simp [lastOf, List.foldl_append]
      rw [e, ← h k]
      unfold last1
      by_cases hk : k = p.1
      · subst hk
        simp only [if_true, Option.getD_some, true_and]
        split <;> omega
      · rw [if_neg hk, if_neg (fun hh => hk hh.1.symm)]
    have := ih h2
    simpa [putAll, List.append_assoc] using this

/-- both sides, after some calls -/
structure Both (H : Hs) (O : Os') (L Ov : List Ls) (k : Nat) : Prop where
  ks : KS H
  left : ∀ p ∈ H, 1 ≤ p.2.2 ∧ p.2.2 ≤ 1000
  eq : L = toL H
  ov : OvOk O Ov
  len : H.length ≤ k
  olen : Ov.length ≤ k * k

theorem out1_len (H : Hs) : (out1 H).length ≤ H.length := by unfold out1; rw [List.length_map]; exact List.length_filter_le _ _
theorem dec_len (H : Hs) : (dec H).length ≤ H.length := by unfold dec; rw [List.length_map]; exact List.length_filter_le _ _

theorem Both.start : Both [] [] [] [] 0 := ⟨KS.nil, by simp, rfl, fun k => rfl, by simp, by simp⟩

theorem Both.grant {H : Hs} {O : Os'} {L Ov : List Ls} {n : Nat} (h : Both H O L Ov n) (k j : Int) {T : Int} (h1 : 1 ≤ T) (h2 : T ≤ 1000) : Both (mput k (j, T) H) O (ins (k, j, T) (L.filter (fun p => p.1 != k))) Ov (n + 1) :=
  ⟨h.ks.mput, fun p hp => (mem_mput hp).elim (fun e => by rw [e]; exact ⟨h1, h2⟩) (h.left p), by rw [h.eq, filter_toL, ins_toL h.ks], h.ov, Nat.le_trans mput_length_le (by have := h.len; omega), Nat.le_trans h.olen (Nat.mul_le_mul (by omega) (by omega))⟩

theorem Both.del {H : Hs} {O : Os'} {L Ov : List Ls} {n : Nat} (h : Both H O L Ov n) (k : Int) : Both (mdel k H) O (L.filter (fun p => p.1 != k)) Ov (n + 1) :=
  ⟨h.ks.mdel, fun p hp => h.left p (mem_mdel.1 hp).1, by rw [h.eq, filter_toL], h.ov, Nat.le_trans mdel_length_le (by have := h.len; omega), Nat.le_trans h.olen (Nat.mul_le_mul (by omega) (by omega))⟩

theorem Both.tick {H : Hs} {O : Os'} {L Ov : List Ls} {n : Nat} (h : Both H O L Ov n) : Both (tickAll H O).1 (tickAll H O).2.1 (rtick L Ov).1 (rtick L Ov).2.2 (n + 1) ∧ (tickAll H O).2.2 = (rtick L Ov).2.1 := by
  rw [tickAll_eq O h.ks h.left, h.eq, rtick_eq Ov h.ks]
  refine ⟨⟨?_, ?_, rfl, ovOk_put h.ov, Nat.le_trans (dec_len _) (by have := h.len; omega), ?_⟩, rfl⟩
  · unfold dec
    exact List.pairwise_map.2 ((List.Pairwise.filter _ h.ks).imp fun hh => hh)
  · intro p hp
    unfold dec at hp
    obtain ⟨q, hq, rfl⟩ := List.mem_map.1 hp
    have hq' := List.mem_filter.1 hq
    have := h.left q hq'.1
    have h1 : q.2.2 ≠ 1 := by simpa using hq'.2
    show 1 ≤ q.2.2 - 1 ∧ q.2.2 - 1 ≤ 1000
    omega
  · show (Ov ++ _).length ≤ _
    rw [List.length_append, List.length_map]
    have h1 := out1_len H
    have h2 := h.len
    have h3 := h.olen
    have : (n + 1) * (n + 1) = n * n + n + n + 1 := by rw [Nat.add_mul, Nat.mul_add]; omega
    omega

end Go.Proofs.Ytcdjeblcmgghhaa.LeaseLaw
