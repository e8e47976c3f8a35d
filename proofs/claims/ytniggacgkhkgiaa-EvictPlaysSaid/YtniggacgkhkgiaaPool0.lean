/- The pool in plain words: buffers, those that are free, the traces' chains of buffers; what a span more, and a trace's drop, do to them. No condition beyond those each lemma names. -/
import Derived.Test.YtniggacgkhkgiaaMsg4
import Derived.Test.YtniggacgkhkgiaaBase
namespace Go.Sp
open Go.RowKit
/-- a buffer: three spans, and how many of them hold -/
structure Bf where
  a : Spn
  b : Spn
  c : Spn
  n : Nat
def zSpn : Spn := (0, 0, ⟨#[]⟩)
def zBf : Bf := ⟨zSpn, zSpn, zSpn, 0⟩
def eBf (b : Bf) : List Value := [.int .i64 b.a.1, .int .i64 b.a.2.1, .string b.a.2.2, .int .i64 b.b.1, .int .i64 b.b.2.1, .string b.b.2.2, .int .i64 b.c.1, .int .i64 b.c.2.1, .string b.c.2.2, .int .i64 b.n]
theorem eBf_len (b : Bf) : (eBf b).length = 10 := rfl
def cont (b : Bf) : List Spn := [b.a, b.b, b.c].take b.n
/-- a span more -/
def putB (b : Bf) (x : Spn) : Bf :=
  match b.n with
  | 0 => { b with a := x, n := 1 }
  | 1 => { b with b := x, n := 2 }
  | _ => { b with c := x, n := 3 }
theorem cont_putB {b : Bf} (h : b.n < 3) (x : Spn) : cont (putB b x) = cont b ++ [x] := by
  obtain ⟨a, b, c, n⟩ := b
  simp only at h
  match n, h with
  | 0, _ => rfl
  | 1, _ => rfl
  | 2, _ => rfl
theorem putB_n {b : Bf} (h : b.n < 3) (x : Spn) : (putB b x).n = b.n + 1 := by
  obtain ⟨a, b, c, n⟩ := b
  simp only at h
  match n, h with
  | 0, _ => rfl
  | 1, _ => rfl
  | 2, _ => rfl
theorem cont_len {b : Bf} (h : b.n ≤ 3) : (cont b).length = b.n := by unfold cont; simp; omega
def mmap {α β : Type} (f : α → β) (m : List (Int × α)) : List (Int × β) := m.map fun p => (p.1, f p.2)
theorem mget_mmap {α β : Type} (f : α → β) (k : Int) : ∀ m : List (Int × α), mget k (mmap f m) = (mget k m).map f
  | [] => rfl
  | p :: r => by
    show mget k ((p.1, f p.2) :: mmap f r) = _
    simp only [mget]
    by_cases e : p.1 = k
    · simp [e]
    · simp [e, mget_mmap f k r]
theorem KS.mmap {α β : Type} (f : α → β) {m : List (Int × α)} (h : KS m) : KS (mmap f m) := by unfold KS Sp.mmap; rw [List.pairwise_map]; exact h
def lgetA {α : Type} (k : Int) (m : List (Int × List α)) : List α := (mget k m).getD []
/-- the buffer at a place -/
def bufAt (bf : List Bf) (i : Int) : Bf := bf.getD i.toNat zBf
def spOf (bf : List Bf) (l : List Int) : List Spn := l.flatMap fun i => cont (bufAt bf i)
theorem bufAt_set_ne {bf : List Bf} {i j : Int} (h : i.toNat ≠ j.toNat) (y : Bf) : bufAt (bf.set i.toNat y) j = bufAt bf j := by
  unfold bufAt; rw [List.getD_eq_getElem?_getD, List.getD_eq_getElem?_getD, List.getElem?_set_ne h]
theorem bufAt_set {bf : List Bf} {i : Int} (h : i.toNat < bf.length) (y : Bf) : bufAt (bf.set i.toNat y) i = y := by
  unfold bufAt; rw [List.getD_eq_getElem?_getD, List.getElem?_set_self h]; rfl
theorem spOf_append (bf : List Bf) (l l' : List Int) : spOf bf (l ++ l') = spOf bf l ++ spOf bf l' := by unfold spOf; rw [List.flatMap_append]
theorem spOf_one (bf : List Bf) (i : Int) : spOf bf [i] = cont (bufAt bf i) := by unfold spOf; simp
theorem flat_congr2 {α β : Type} {f g : α → List β} : ∀ {l : List α}, (∀ x ∈ l, f x = g x) → l.flatMap f = l.flatMap g
  | [], _ => rfl
  | x :: r, h => by rw [List.flatMap_cons, List.flatMap_cons, h x List.mem_cons_self, flat_congr2 (fun y hy => h y (List.mem_cons_of_mem _ hy))]
theorem spOf_set {bf : List Bf} {i : Int} {l : List Int} (h : ∀ j ∈ l, i.toNat ≠ j.toNat) (y : Bf) : spOf (bf.set i.toNat y) l = spOf bf l := by
  unfold spOf
  refine flat_congr2 fun j hj => ?_
  rw [bufAt_set_ne (h j hj)]
/-- a chain: all its buffers are full but the last, which holds something -/
def chOk (bf : List Bf) (l : List Int) : Prop := ∃ l' i, l = l' ++ [i] ∧ (∀ j ∈ l', (bufAt bf j).n = 3) ∧ 1 ≤ (bufAt bf i).n
/-- all that is linked -/
def chAll (ch : List (Int × List Int)) : List Int := ch.flatMap fun p => p.2
theorem chAll_del (t : Int) {ch : List (Int × List Int)} (h : KS ch) : (chAll ch).Perm (lgetA t ch ++ chAll (mdel t ch)) := by
  unfold lgetA
  cases e : mget t ch with
  | none => rw [mdel_none e]; exact List.Perm.refl _
  | some l =>
    have := (perm_of_get h e).flatMap_right (fun p => p.2)
    simpa [chAll] using this
theorem chAll_put (t : Int) (l : List Int) {ch : List (Int × List Int)} (h : KS ch) : (chAll (mput t l ch)).Perm (l ++ chAll (mdel t ch)) := by
  have := (mput_perm (k := t) (v := l) h).flatMap_right (fun p => p.2)
  simpa [chAll] using this
structure Pinv (N : Nat) (bf : List Bf) (fr : List Int) (ch : List (Int × List Int)) : Prop where
  hN : bf.length = N
  n16 : 1 ≤ N ∧ N ≤ 16
  ks : KS ch
  n3 : ∀ b ∈ bf, b.n ≤ 3
  nd : (fr ++ chAll ch).Nodup
  rg : ∀ i ∈ fr ++ chAll ch, 0 ≤ i ∧ i < (N : Int)
  cnt : (fr ++ chAll ch).length = N
  ok : ∀ k l, mget k ch = some l → chOk bf l
section
variable {N : Nat} {bf : List Bf} {fr : List Int} {ch : List (Int × List Int)} {t : Int}
theorem mem_chAll {k : Int} {l : List Int} (h : mget k ch = some l) {i : Int} (hi : i ∈ l) : i ∈ chAll ch := by
  unfold chAll
  exact List.mem_flatMap.2 ⟨_, mget_mem h, hi⟩
theorem mem_lgetA {k i : Int} (h : i ∈ lgetA k ch) : ∃ l, mget k ch = some l ∧ i ∈ l := by
  unfold lgetA at h
  cases e : mget k ch with
  | none => rw [e] at h; simp at h
  | some l => rw [e] at h; exact ⟨l, rfl, h⟩
theorem Pinv.bn (h : Pinv N bf fr ch) (i : Int) : (bufAt bf i).n ≤ 3 := by
  unfold bufAt
  rw [List.getD_eq_getElem?_getD]
  cases e : bf[i.toNat]? with
  | none => simp [zBf]
  | some b => exact h.n3 b (List.mem_of_getElem? e)
/-- how many spans a chain holds -/
theorem Pinv.len (h : Pinv N bf fr ch) : ∀ {l' : List Int} {i : Int}, (∀ j ∈ l', (bufAt bf j).n = 3) → (spOf bf (l' ++ [i])).length = 3 * l'.length + (bufAt bf i).n
  | [], i, _ => by simp [spOf_one, cont_len (h.bn i)]
  | j :: r, i, hj => by
    have ih := h.len (l' := r) (i := i) (fun x hx => hj x (List.mem_cons_of_mem _ hx))
    have h1 : (cont (bufAt bf j)).length = 3 := by rw [cont_len (h.bn j)]; exact hj j List.mem_cons_self
    have : spOf bf (j :: r ++ [i]) = cont (bufAt bf j) ++ spOf bf (r ++ [i]) := by unfold spOf; simp
    rw [this, List.length_append, ih, h1, List.length_cons]; omega
theorem Pinv.chlen (h : Pinv N bf fr ch) (k : Int) : (lgetA k ch).length = ((spOf bf (lgetA k ch)).length + 2) / 3 := by
  unfold lgetA
  cases e : mget k ch with
  | none => simp [spOf]
  | some l =>
    obtain ⟨l', i, rfl, h1, h2⟩ := h.ok k l e
    have := h.len h1 (i := i)
    have h3 := h.bn i
    simp only [Option.getD_some]
    rw [this]
    simp; omega
theorem Pinv.small (h : Pinv N bf fr ch) (k : Int) : (lgetA k ch).length ≤ N := by
  have h1 := (chAll_del k h.ks).length_eq
  have h2 := h.cnt
  simp only [List.length_append] at h1 h2
  omega
theorem Pinv.sp48 (h : Pinv N bf fr ch) (k : Int) : (spOf bf (lgetA k ch)).length ≤ 48 := by
  have h1 := h.chlen k
  have h2 := h.small k
  have := h.n16
  omega
theorem Pinv.frlen (h : Pinv N bf fr ch) : fr.length ≤ 16 := by
  have h2 := h.cnt
  have := h.n16
  simp only [List.length_append] at h2
  omega
theorem Pinv.chkeys (h : Pinv N bf fr ch) : ch.length ≤ 16 := by
  have h2 := h.cnt
  have h3 := h.n16
  simp only [List.length_append] at h2
  have : ∀ {c : List (Int × List Int)}, (∀ p ∈ c, p.2 ≠ []) → c.length ≤ (chAll c).length := by
    intro c
    induction c with
    | nil => intro _; exact Nat.zero_le _
    | cons p r ih =>
      intro hp
      have h1 := ih (fun q hq => hp q (List.mem_cons_of_mem _ hq))
      have h2 := List.length_pos_iff.2 (hp p List.mem_cons_self)
      have h3 : chAll (p :: r) = p.2 ++ chAll r := rfl
      rw [h3, List.length_append, List.length_cons]
      omega
  have := this (c := ch) (fun p hp e => by
    obtain ⟨l', i, e2, _⟩ := h.ok p.1 p.2 (mget_of_mem h.ks hp)
    rw [e2] at e; simp at e)
  omega
theorem nodup_of_perm {l l' : List Int} (p : l.Perm l') (h : l'.Nodup) : l.Nodup := p.nodup_iff.2 h
/-- the chain of one trace, all else -/
theorem Pinv.parts (h : Pinv N bf fr ch) (k : Int) : (fr ++ (lgetA k ch ++ chAll (mdel k ch))).Nodup := by
  have hp : (fr ++ chAll ch).Perm (fr ++ (lgetA k ch ++ chAll (mdel k ch))) := (chAll_del k h.ks).append_left fr
  exact nodup_of_perm hp.symm h.nd
theorem Pinv.toNat_ne (h : Pinv N bf fr ch) {i j : Int} (hi : i ∈ fr ++ chAll ch) (hj : j ∈ fr ++ chAll ch) (hne : i ≠ j) : i.toNat ≠ j.toNat := by
  have h1 := h.rg i hi
  have h2 := h.rg j hj
  omega
/-- a trace's drop -/
theorem Pinv.drop (h : Pinv N bf fr ch) (k : Int) : Pinv N bf (fr ++ lgetA k ch) (mdel k ch) := by
  have hp : (fr ++ chAll ch).Perm ((fr ++ lgetA k ch) ++ chAll (mdel k ch)) := by
    rw [List.append_assoc]; exact (chAll_del k h.ks).append_left fr
  refine ⟨h.hN, h.n16, h.ks.mdel, h.n3, nodup_of_perm hp.symm h.nd, fun i hi => h.rg i (hp.mem_iff.2 hi), by rw [← hp.length_eq]; exact h.cnt, fun k' l e => ?_⟩
  rw [mget_mdel] at e
  split at e
  · cases e
  · exact h.ok k' l e
theorem mmap_mdel {α β : Type} (f : α → β) (k : Int) {m : List (Int × α)} (h : KS m) : mmap f (mdel k m) = mdel k (mmap f m) :=
  KS.ext (KS.mmap f h.mdel) (KS.mmap f h).mdel (fun j => by
    rw [mget_mmap, mget_mdel, mget_mdel, mget_mmap]
    split <;> rfl)
/-- a span more, where the last buffer has room -/
theorem Pinv.more (h : Pinv N bf fr ch) {k : Int} {l' : List Int} {i : Int} (e : mget k ch = some (l' ++ [i])) (hn : (bufAt bf i).n < 3) (x : Spn) :
    Pinv N (bf.set i.toNat (putB (bufAt bf i) x)) fr ch ∧ mmap (spOf (bf.set i.toNat (putB (bufAt bf i) x))) ch = mput k (lgetA k (mmap (spOf bf) ch) ++ [x]) (mmap (spOf bf) ch) := by
  have hi : i ∈ l' ++ [i] := by simp
  have hia : i ∈ fr ++ chAll ch := List.mem_append_right _ (mem_chAll e hi)
  have hr := h.rg i hia
  have hil : i.toNat < bf.length := by rw [h.hN]; omega
  have hnd := h.parts k
  have hg : lgetA k ch = l' ++ [i] := by unfold lgetA; rw [e]; rfl
  rw [hg] at hnd
  have hnd2 := (List.nodup_append.1 hnd).2.1
  have hndl := (List.nodup_append.1 hnd2).1
  have hnl : i ∉ l' := fun hm => (List.nodup_append.1 hndl).2.2 i hm i (by simp) rfl
  have hno : ∀ k' l2, k' ≠ k → mget k' ch = some l2 → i ∉ l2 := fun k' l2 hk e2 hm => by
    have e3 : mget k' (mdel k ch) = some l2 := by rw [mget_mdel, if_neg hk]; exact e2
    exact (List.nodup_append.1 hnd2).2.2 i hi i (mem_chAll e3 hm) rfl
  have hne : ∀ {l2 : List Int}, (∀ j ∈ l2, j ∈ fr ++ chAll ch) → i ∉ l2 → ∀ j ∈ l2, i.toNat ≠ j.toNat := fun hin hni j hj => h.toNat_ne hia (hin j hj) (fun e => hni (by rw [e]; exact hj))
  have hl'm : ∀ j ∈ l', j ∈ fr ++ chAll ch := fun j hj => List.mem_append_right _ (mem_chAll e (List.mem_append_left _ hj))
  have h2m : ∀ {k' l2}, mget k' ch = some l2 → ∀ j ∈ l2, j ∈ fr ++ chAll ch := fun e2 j hj => List.mem_append_right _ (mem_chAll e2 hj)
  have hat := bufAt_set (bf := bf) hil (putB (bufAt bf i) x)
  refine ⟨⟨by rw [List.length_set]; exact h.hN, h.n16, h.ks, fun b hb => ?_, h.nd, h.rg, h.cnt, fun k' l2 e2 => ?_⟩, ?_⟩
  · rcases List.mem_or_eq_of_mem_set hb with hb | rfl
    · exact h.n3 b hb
    · rw [putB_n hn]; omega
  · by_cases hk : k' = k
    · subst hk
      rw [e] at e2; cases e2
      obtain ⟨l3, i3, e3, h3, h4⟩ := h.ok k' _ e
      obtain ⟨rfl, e4⟩ := List.append_inj' e3 rfl
      simp only [List.cons.injEq, and_true] at e4
      subst e4
      refine ⟨l', i, rfl, fun j hj => ?_, by rw [hat, putB_n hn]; omega⟩
      rw [bufAt_set_ne (hne hl'm hnl j hj)]; exact h3 j hj
    · obtain ⟨l3, i3, rfl, h3, h4⟩ := h.ok k' l2 e2
      have hq := hne (h2m e2) (hno k' _ hk e2)
      exact ⟨l3, i3, rfl, fun j hj => by rw [bufAt_set_ne (hq j (List.mem_append_left _ hj))]; exact h3 j hj, by rw [bufAt_set_ne (hq i3 (by simp))]; exact h4⟩
  · refine KS.ext (KS.mmap _ h.ks) (KS.mmap _ h.ks).mput (fun k' => ?_)
    rw [mget_mmap, mget_mput]
    by_cases hk : k' = k
    · subst hk
      rw [if_pos rfl, e]
      unfold lgetA
      rw [mget_mmap, e]
      simp only [Option.map_some, Option.getD_some]
      rw [spOf_append, spOf_append, spOf_one, spOf_one, hat, cont_putB hn, spOf_set (hne hl'm hnl), List.append_assoc]
    · rw [if_neg hk, mget_mmap]
      cases e2 : mget k' ch with
      | none => rfl
      | some l2 => rw [Option.map_some, Option.map_some, spOf_set (hne (h2m e2) (hno k' _ hk e2))]
/-- a span more, in a buffer that was free -/
theorem Pinv.take {i : Int} (h : Pinv N bf (i :: fr) ch) {k : Int} (hl : mget k ch = none ∨ ∃ l' j, mget k ch = some (l' ++ [j]) ∧ (bufAt bf j).n = 3) (x : Spn) :
    Pinv N (bf.set i.toNat (putB zBf x)) fr (mput k (lgetA k ch ++ [i]) ch) ∧ mmap (spOf (bf.set i.toNat (putB zBf x))) (mput k (lgetA k ch ++ [i]) ch) = mput k (lgetA k (mmap (spOf bf) ch) ++ [x]) (mmap (spOf bf) ch) := by
  have hia : i ∈ (i :: fr) ++ chAll ch := by simp
  have hr := h.rg i hia
  have hil : i.toNat < bf.length := by rw [h.hN]; omega
  have hndi : i ∉ chAll ch := fun hm => (List.nodup_append.1 h.nd).2.2 i List.mem_cons_self i hm rfl
  have hne : ∀ {k' l2}, mget k' ch = some l2 → ∀ j ∈ l2, i.toNat ≠ j.toNat := fun e2 j hj => h.toNat_ne hia (List.mem_append_right _ (mem_chAll e2 hj)) (fun e => hndi (by rw [e]; exact mem_chAll e2 hj))
  have hat := bufAt_set (bf := bf) hil (putB zBf x)
  have hz : (zBf).n < 3 := by simp [zBf]
  have hnl : ∀ j ∈ lgetA k ch, i.toNat ≠ j.toNat := fun j hj => by
    obtain ⟨l, e, hm⟩ := mem_lgetA hj
    exact hne e j hm
  have hp : (fr ++ chAll (mput k (lgetA k ch ++ [i]) ch)).Perm ((i :: fr) ++ chAll ch) := by
    refine ((chAll_put k _ h.ks).append_left fr).trans ?_
    refine List.Perm.trans ?_ ((chAll_del k h.ks).symm.append_left (i :: fr))
    rw [List.append_assoc]
    have : ([i] ++ chAll (mdel k ch)) = i :: chAll (mdel k ch) := rfl
    rw [this]
    rw [← List.append_assoc, ← List.append_assoc]
    refine List.perm_middle.trans ?_
    simp
  refine ⟨⟨by rw [List.length_set]; exact h.hN, h.n16, h.ks.mput, fun b hb => ?_, nodup_of_perm hp h.nd, fun j hj => h.rg j (hp.mem_iff.1 hj), by rw [hp.length_eq]; exact h.cnt, fun k' l2 e2 => ?_⟩, ?_⟩
  · rcases List.mem_or_eq_of_mem_set hb with hb | rfl
    · exact h.n3 b hb
    · rw [putB_n hz]; simp [zBf]
  · rw [mget_mput] at e2
    by_cases hk : k' = k
    · subst hk
      rw [if_pos rfl] at e2; cases e2
      refine ⟨lgetA k' ch, i, rfl, fun j hj => ?_, by rw [hat, putB_n hz]; simp [zBf]⟩
      rw [bufAt_set_ne (hnl j hj)]
      rcases hl with e | ⟨l', j', e, h3⟩
      · unfold lgetA at hj; rw [e] at hj; simp at hj
      · obtain ⟨l3, i3, e3, h4, h5⟩ := h.ok k' _ e
        obtain ⟨rfl, e4⟩ := List.append_inj' e3 rfl
        simp only [List.cons.injEq, and_true] at e4
        subst e4
        unfold lgetA at hj
        rw [e] at hj
        simp only [Option.getD_some, List.mem_append, List.mem_singleton] at hj
        rcases hj with hj | rfl
        · exact h4 j hj
        · exact h3
    · rw [if_neg hk] at e2
      obtain ⟨l3, i3, rfl, h3, h4⟩ := h.ok k' l2 e2
      have hq := hne e2
      exact ⟨l3, i3, rfl, fun j hj => by rw [bufAt_set_ne (hq j (List.mem_append_left _ hj))]; exact h3 j hj, by rw [bufAt_set_ne (hq i3 (by simp))]; exact h4⟩
  · refine KS.ext (KS.mmap _ h.ks.mput) (KS.mmap _ h.ks).mput (fun k' => ?_)
    rw [mget_mmap, mget_mput, mget_mput]
    by_cases hk : k' = k
    · subst hk
      rw [if_pos rfl, if_pos rfl, Option.map_some, spOf_append, spOf_one, hat, cont_putB hz, spOf_set hnl]
      have : lgetA k' (mmap (spOf bf) ch) = spOf bf (lgetA k' ch) := by
        unfold lgetA; rw [mget_mmap]; cases mget k' ch <;> simp [spOf]
      rw [this]; simp [zBf, cont]
    · rw [if_neg hk, if_neg hk, mget_mmap]
      cases e2 : mget k' ch with
      | none => rfl
      | some l2 => rw [Option.map_some, Option.map_some, spOf_set (hne e2)]
end
end Go.Sp
