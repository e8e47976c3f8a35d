/- CrumbKeeps' own map of maps in memory: what a new inner map, a new number in one and a deleted one do to it. Conditions: it lies in memory as Wt says. -/
import Derived.Test.YtcdjeblcmgghhaaCrumb2
namespace Go.Sp
open Go.RowKit

def un (l : List Int) : List (Int × Unit) := l.map fun x => (x, ())
theorem un_length (l : List Int) : (un l).length = l.length := by simp [un]
theorem un_mem {a : Int} : ∀ {l : List Int}, a ∈ l → mget a (un l) = some ()
  | [], h => by simp at h
  | x :: r, h => by
    show mget a ((x, ()) :: un r) = _
    unfold mget
    by_cases e : x = a
    · simp [e]
    · rcases List.mem_cons.1 h with h | h
      · exact absurd h.symm e
      · simp [e, un_mem h]
theorem un_not {a : Int} : ∀ {l : List Int}, a ∉ l → mget a (un l) = none
  | [], _ => rfl
  | x :: r, h => by
    show mget a ((x, ()) :: un r) = _
    unfold mget
    have e : x ≠ a := fun e => h (by simp [e])
    simp [e, un_not (fun h2 => h (List.mem_cons_of_mem _ h2))]
theorem un_ins {a : Int} : ∀ {l : List Int}, a ∉ l → mput a () (un l) = un (insI a l)
  | [], _ => rfl
  | x :: r, h => by
    have e : x ≠ a := fun e => h (by simp [e])
    show mput a () ((x, ()) :: un r) = _
    unfold mput insI
    by_cases hl : a < x
    · simp [hl, un]
    · simp only [hl, if_false, e]
      rw [un_ins (fun h2 => h (List.mem_cons_of_mem _ h2))]; rfl

theorem mget_mapv {α β : Type} (g : α → β) (k : Int) : ∀ m : List (Int × α), mget k (m.map fun p => (p.1, g p.2)) = (mget k m).map g
  | [] => rfl
  | p :: r => by
    show mget k ((p.1, g p.2) :: r.map fun p => (p.1, g p.2)) = _
    unfold mget
    by_cases h : p.1 = k
    · simp [h]
    · simp [h, mget_mapv g k r]

theorem same_len {α β : Type} {m : List (Int × α)} {m' : List (Int × β)} (h : KS m) (h' : KS m') (e : ∀ k, mget k m = none ↔ mget k m' = none) : m.length = m'.length := by
  have e1 : (m.map fun p => (p.1, ())) = m'.map fun p => (p.1, ()) := by
    refine KS.ext (List.pairwise_map.2 (h.imp fun x => x)) (List.pairwise_map.2 (h'.imp fun x => x)) fun k => ?_
    rw [mget_mapv (fun _ => ()), mget_mapv (fun _ => ())]
    have := e k
    cases h1 : mget k m with
    | none => rw [this.1 h1]; rfl
    | some a =>
      cases h2 : mget k m' with
      | none => rw [this.2 h2] at h1; cases h1
      | some b => rfl
  have := congrArg List.length e1
  simpa using this

def eMap (b : Nat) : Value := .map (some b)
def eTrue (_ : Unit) : Value := .bool true

/-- block ob: a map from traces to inner maps (their blocks in W); the inner map of k holds just the numbers f k -/
structure Wt (w : World) (R : Nat → Prop) (ob : Nat) (W : List (Int × Nat)) (f : Int → List Int) : Prop where
  mp : IMap w.heap ob eMap W
  inn : ∀ k b, mget k W = some b → IMap w.heap b eTrue (un (f k))
  own : ∀ k b, mget k W = some b → R b ∧ b ≠ ob
  dis : ∀ k k' b, mget k W = some b → mget k' W = some b → k = k'
  ro : R ob
  rlt : ∀ b, R b → b < w.heap.size

section
variable {w w' w2 : World} {R : Nat → Prop} {ob b : Nat} {W : List (Int × Nat)} {f f' : Int → List Int} {k a : Int}

theorem Wt.only {F : Nat → Prop} (h : Wt w R ob W f) (o : Only F w w') (hF : ∀ b, R b → ¬ F b) : Wt w' R ob W f :=
  ⟨h.mp.only o (hF _ h.ro), fun k b hk => (h.inn k b hk).only o (hF _ (h.own k b hk).1), h.own, h.dis, h.ro, fun b hb => Nat.lt_of_lt_of_le (h.rlt b hb) o.size⟩

theorem Wt.made {B : Nat} (hB : B = w.heap.size) : Wt (w.alloc (.map #[] 0)) (· = B) B [] f :=
  ⟨IMap.made' w eMap hB, fun k b hk => by simp [mget] at hk, fun k b hk => by simp [mget] at hk, fun k k' b hk => by simp [mget] at hk, rfl, fun b hb => by subst hb; simp; omega⟩

theorem Wt.new {B : Nat} (h : Wt w R ob W f) (hB : B = w.heap.size) (hf : f k = []) (hO : Only (· = ob) (w.alloc (.map #[] 0)) w2) (hI : IMap w2.heap ob eMap (mput k B W)) : Wt w2 (fun b => R b ∨ b = B) ob (mput k B W) f := by
  have ob' : ob ≠ B := by have := h.rlt ob h.ro; omega
  have hn : IMap w2.heap B eTrue (un []) := (IMap.made' w eTrue hB).only hO (fun e => ob' e.symm)
  have hsz := hO.size
  have hlt : ∀ j b, mget j W = some b → b < B := fun j b hj => by have := h.rlt b (h.own j b hj).1; omega
  refine ⟨hI, fun j b hj => ?_, fun j b hj => ?_, fun j j' b hj hj' => ?_, .inl h.ro, fun b hb => ?_⟩
  · rw [mget_mput] at hj
    by_cases e : j = k
    · subst e; simp at hj; subst hj; rw [hf]; exact hn
    · rw [if_neg e] at hj
      exact ((h.inn j b hj).alloc _).only hO (h.own j b hj).2
  · rw [mget_mput] at hj
    by_cases e : j = k
    · subst e; simp at hj; subst hj; exact ⟨.inr rfl, fun e => ob' e.symm⟩
    · rw [if_neg e] at hj
      exact ⟨.inl (h.own j b hj).1, (h.own j b hj).2⟩
  · rw [mget_mput] at hj hj'
    by_cases e : j = k <;> by_cases e' : j' = k
    · rw [e, e']
    · rw [if_pos e] at hj; rw [if_neg e'] at hj'; cases hj
      have := hlt _ _ hj'; omega
    · rw [if_neg e] at hj; rw [if_pos e'] at hj'; cases hj'
      have := hlt _ _ hj; omega
    · rw [if_neg e] at hj; rw [if_neg e'] at hj'
      exact h.dis j j' b hj hj'
  · have : (w.alloc (.map #[] 0)).heap.size = w.heap.size + 1 := by simp
    rcases hb with hb | hb
    · have := h.rlt b hb; omega
    · omega

theorem Wt.put (h : Wt w R ob W f) (hk : mget k W = some b) (hO : Only (· = b) w w2) (hI : IMap w2.heap b eTrue (mput a () (un (f k)))) (ha : a ∉ f k) (hf : f' k = insI a (f k)) (hf2 : ∀ j, j ≠ k → f' j = f j) : Wt w2 R ob W f' := by
  refine ⟨h.mp.only hO (fun e => (h.own k b hk).2 e.symm), fun j b' hj => ?_, h.own, h.dis, h.ro, fun b hb => Nat.lt_of_lt_of_le (h.rlt b hb) hO.size⟩
  by_cases e : j = k
  · subst e
    rw [hk] at hj; cases hj
    rw [hf, ← un_ins ha]; exact hI
  · rw [hf2 j e]
    exact (h.inn j b' hj).only hO (fun e2 => by subst e2; exact e (h.dis j k _ hj hk))

theorem Wt.del (h : Wt w R ob W f) (hO : Only (· = ob) w w2) (hI : IMap w2.heap ob eMap (mdel k W)) (hf2 : ∀ j, j ≠ k → f' j = f j) : Wt w2 R ob (mdel k W) f' := by
  have hm : ∀ j b, mget j (mdel k W) = some b → j ≠ k ∧ mget j W = some b := fun j b hj => by
    rw [mget_mdel] at hj
    by_cases e : j = k
    · rw [if_pos e] at hj; cases hj
    · rw [if_neg e] at hj; exact ⟨e, hj⟩
  refine ⟨hI, fun j b hj => ?_, fun j b hj => h.own j b (hm j b hj).2, fun j j' b hj hj' => h.dis j j' b (hm j b hj).2 (hm j' b hj').2, h.ro, fun b hb => Nat.lt_of_lt_of_le (h.rlt b hb) hO.size⟩
  obtain ⟨e, hj⟩ := hm j b hj
  rw [hf2 j e]
  exact (h.inn j b hj).only hO (h.own j b hj).2

/-- the keys of both -/
def SameK (W : List (Int × Nat)) (M : List (Int × List Int)) : Prop := ∀ k, mget k W = none ↔ mget k M = none
theorem SameK.put {M : List (Int × List Int)} (h : SameK W M) (v : Nat) (l : List Int) : SameK (mput k v W) (mput k l M) := fun j => by
  rw [mget_mput, mget_mput]
  by_cases e : j = k
  · simp [e]
  · simp [e, h j]
theorem SameK.put2 {M : List (Int × List Int)} (h : SameK W M) (hk : mget k W = some b) (l : List Int) : SameK W (mput k l M) := fun j => by
  rw [mget_mput]
  by_cases e : j = k
  · subst e; simp [hk]
  · simp [e, h j]
theorem SameK.del {M : List (Int × List Int)} (h : SameK W M) : SameK (mdel k W) (mdel k M) := fun j => by
  rw [mget_mdel, mget_mdel]
  by_cases e : j = k
  · simp [e]
  · simp [e, h j]
end
end Go.Sp
