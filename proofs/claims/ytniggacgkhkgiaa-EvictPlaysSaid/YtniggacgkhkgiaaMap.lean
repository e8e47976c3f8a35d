/- Plain laws of maps keyed by int, kept as a list of pairs whose keys rise, and what Go's operations on such a map do to memory. No condition beyond those each lemma names. -/
import Derived.Maps.Keyed
import Derived.Below
import Derived.WalkKit
import Derived.Deep.QuietTactic
import Derived.BigQuiet
namespace Go.Sp
open Go.MapKept Go.RowKit

/-! ### the plain lists -/
section plain
variable {α : Type}

def mget (k : Int) : List (Int × α) → Option α
  | [] => none
  | p :: r => if p.1 = k then some p.2 else mget k r

def mput (k : Int) (v : α) : List (Int × α) → List (Int × α)
  | [] => [(k, v)]
  | p :: r => if k < p.1 then (k, v) :: p :: r else if p.1 = k then (k, v) :: r else p :: mput k v r

def mdel (k : Int) : List (Int × α) → List (Int × α)
  | [] => []
  | p :: r => if p.1 = k then mdel k r else p :: mdel k r

def KS (m : List (Int × α)) : Prop := m.Pairwise (fun p q => p.1 < q.1)

theorem KS.nil : KS ([] : List (Int × α)) := List.Pairwise.nil

theorem mget_none {k : Int} : ∀ {m : List (Int × α)}, mget k m = none ↔ ∀ p ∈ m, p.1 ≠ k
  | [] => by simp [mget]
  | p :: r => by
    unfold mget
    by_cases h : p.1 = k
    · simp [h]
    · simp [h, mget_none (m := r)]

theorem mget_mem {k : Int} {v : α} : ∀ {m : List (Int × α)}, mget k m = some v → (k, v) ∈ m
  | [], h => by simp [mget] at h
  | p :: r, h => by
    unfold mget at h
    by_cases e : p.1 = k
    · rw [if_pos e] at h
      cases h
      rw [← e]
      exact List.mem_cons_self
    · rw [if_neg e] at h
      exact List.mem_cons_of_mem _ (mget_mem h)

theorem mget_of_mem {k : Int} {v : α} : ∀ {m : List (Int × α)}, KS m → (k, v) ∈ m → mget k m = some v
  | [], _, h => by simp at h
  | p :: r, hs, h => by
    have hs' := List.pairwise_cons.1 hs
    rcases List.mem_cons.1 h with e | h
    · subst e; simp [mget]
    · unfold mget
      have h1 : p.1 < k := hs'.1 _ h
      rw [if_neg (by omega)]
      exact mget_of_mem hs'.2 h

theorem mem_mput {k : Int} {v : α} {q : Int × α} : ∀ {m : List (Int × α)}, q ∈ mput k v m → q = (k, v) ∨ q ∈ m
  | [], h => by simpa [mput] using h
  | p :: r, h => by
    unfold mput at h
    split at h
    · simpa using h
    · split at h
      · rcases List.mem_cons.1 h with h | h
        · exact .inl h
        · exact .inr (List.mem_cons_of_mem _ h)
      · rcases List.mem_cons.1 h with h | h
        · exact .inr (by rw [h]; exact List.mem_cons_self)
        · exact (mem_mput h).imp id (List.mem_cons_of_mem _)

theorem KS.mput {k : Int} {v : α} : ∀ {m : List (Int × α)}, KS m → KS (Sp.mput k v m)
  | [], _ => by simp [Sp.mput, KS]
  | p :: r, h => by
    have h' := List.pairwise_cons.1 h
    unfold Sp.mput
    split
    · rename_i hlt
      refine List.pairwise_cons.2 ⟨fun q hq => ?_, h⟩
      rcases List.mem_cons.1 hq with rfl | hq
      · exact hlt
      · have := h'.1 q hq; show k < q.1; omega
    · split
      · rename_i e
        exact List.pairwise_cons.2 ⟨fun q hq => by have := h'.1 q hq; show k < q.1; omega, h'.2⟩
      · refine List.pairwise_cons.2 ⟨fun q hq => ?_, KS.mput h'.2⟩
        rcases mem_mput hq with rfl | hq
        · show p.1 < k; omega
        · exact h'.1 q hq

theorem mdel_eq (k : Int) : ∀ m : List (Int × α), mdel k m = m.filter (fun p => decide (p.1 ≠ k))
  | [] => rfl
  | p :: r => by
    unfold mdel
    by_cases h : p.1 = k <;> simp [h, mdel_eq k r]

theorem mem_mdel {k : Int} {q : Int × α} {m : List (Int × α)} : q ∈ mdel k m ↔ q ∈ m ∧ q.1 ≠ k := by
  rw [mdel_eq, List.mem_filter]; simp

theorem KS.mdel {k : Int} {m : List (Int × α)} (h : KS m) : KS (mdel k m) := by
  rw [mdel_eq]; exact List.Pairwise.filter _ h

theorem mdel_none {k : Int} {m : List (Int × α)} (h : mget k m = none) : mdel k m = m := by
  rw [mdel_eq, List.filter_eq_self]
  intro p hp
  simpa using mget_none.1 h p hp

theorem mput_perm {k : Int} {v : α} : ∀ {m : List (Int × α)}, KS m → (mput k v m).Perm ((k, v) :: mdel k m)
  | [], _ => by simp [mput, mdel]
  | p :: r, h => by
    have h' := List.pairwise_cons.1 h
    unfold mput
    split
    · rename_i hlt
      have : mget k (p :: r) = none := mget_none.2 fun q hq => by
        rcases List.mem_cons.1 hq with rfl | hq
        · omega
        · have := h'.1 q hq; omega
      rw [mdel_none this]
    · split
      · rename_i e
        have : mget k r = none := mget_none.2 fun q hq => by have := h'.1 q hq; omega
        unfold mdel
        rw [if_pos e, mdel_none this]
      · rename_i e
        unfold mdel
        rw [if_neg e]
        exact ((mput_perm h'.2).cons p).trans (List.Perm.swap _ _ _)

theorem mget_mput_same {k : Int} {v : α} : ∀ {m : List (Int × α)}, mget k (mput k v m) = some v
  | [] => by simp [mput, mget]
  | p :: r => by
    unfold mput
    split
    · simp [mget]
    · split
      · simp [mget]
      · rename_i e
        unfold mget
        rw [if_neg e]
        exact mget_mput_same

theorem mget_mput_other {k j : Int} {v : α} (hj : j ≠ k) : ∀ {m : List (Int × α)}, mget j (mput k v m) = mget j m
  | [] => by simp [mput, mget, Ne.symm hj]
  | p :: r => by
    unfold mput
    split
    · simp [mget, Ne.symm hj]
    · split
      · rename_i e
        have : ¬ p.1 = j := by omega
        simp [mget, Ne.symm hj, this]
      · unfold mget
        rw [mget_mput_other hj]

theorem mget_mput {k j : Int} {v : α} {m : List (Int × α)} : mget j (mput k v m) = if j = k then some v else mget j m := by
  by_cases h : j = k
  · subst h; rw [if_pos rfl]; exact mget_mput_same
  · rw [if_neg h]; exact mget_mput_other h

theorem mget_mdel {k j : Int} : ∀ {m : List (Int × α)}, mget j (mdel k m) = if j = k then none else mget j m
  | [] => by simp [mdel, mget]
  | p :: r => by
    unfold mdel
    by_cases e : p.1 = k
    · rw [if_pos e, mget_mdel]
      by_cases h : j = k
      · simp [h]
      · rw [if_neg h, if_neg h]
        have : ¬ p.1 = j := by omega
        simp [mget, this]
    · rw [if_neg e]
      unfold mget
      rw [mget_mdel]
      by_cases h : p.1 = j
      · have : ¬ j = k := by omega
        simp [h, this]
      · simp [h]

/-- two rising lists that answer alike are one -/
theorem KS.ext : ∀ {m m' : List (Int × α)}, KS m → KS m' → (∀ k, mget k m = mget k m') → m = m'
  | [], [], _, _, _ => rfl
  | [], q :: r, _, _, h => by have := h q.1; simp [mget] at this
  | p :: r, [], _, _, h => by have := h p.1; simp [mget] at this
  | p :: r, q :: s, h1, h2, h => by
    have g1 := List.pairwise_cons.1 h1
    have g2 := List.pairwise_cons.1 h2
    have hpq : p.1 = q.1 := by
      have a := h p.1
      have b := h q.1
      by_cases e : p.1 = q.1
      · exact e
      · exfalso
        rcases Int.lt_or_gt_of_ne e with hlt | hlt
        · have : mget p.1 (q :: s) = none := mget_none.2 fun x hx => by
            rcases List.mem_cons.1 hx with rfl | hx
            · omega
            · have := g2.1 x hx; omega
          rw [this] at a; simp [mget] at a
        · have : mget q.1 (p :: r) = none := mget_none.2 fun x hx => by
            rcases List.mem_cons.1 hx with rfl | hx
            · omega
            · have := g1.1 x hx; omega
          rw [this] at b; simp [mget] at b
    have hv : p.2 = q.2 := by
      have a := h p.1
      simp [mget, hpq] at a
      exact a
    have hpe : p = q := Prod.ext hpq hv
    subst hpe
    congr 1
    refine KS.ext g1.2 g2.2 fun k => ?_
    have a := h k
    by_cases e : p.1 = k
    · have n1 : mget k r = none := mget_none.2 fun x hx => by have := g1.1 x hx; omega
      have n2 : mget k s = none := mget_none.2 fun x hx => by have := g2.1 x hx; omega
      rw [n1, n2]
    · simpa [mget, e] using a

theorem mput_self {k : Int} {v : α} {m : List (Int × α)} (hs : KS m) (h : mget k m = some v) : mput k v m = m :=
  KS.ext hs.mput hs fun j => by
    rw [mget_mput]
    by_cases e : j = k
    · rw [if_pos e, e, h]
    · rw [if_neg e]

theorem perm_of_get {k : Int} {v : α} {m : List (Int × α)} (hs : KS m) (h : mget k m = some v) : m.Perm ((k, v) :: mdel k m) := by
  have := mput_perm (k := k) (v := v) hs
  rwa [mput_self hs h] at this

theorem mput_length_le {k : Int} {v : α} : ∀ {m : List (Int × α)}, (mput k v m).length ≤ m.length + 1
  | [] => by simp [mput]
  | p :: r => by
    unfold mput
    split
    · simp
    · split
      · simp
      · have := mput_length_le (k := k) (v := v) (m := r); simp; omega

theorem mdel_length_le {k : Int} {m : List (Int × α)} : (mdel k m).length ≤ m.length := by
  rw [mdel_eq]; exact List.length_filter_le _ _

end plain

/-! ### what w' has kept of w -/

/-- w' is w but for the blocks of which F holds, and new blocks. -/
structure Only (F : Nat → Prop) (w w' : World) : Prop where
  os : w'.os = w.os
  tape : w'.tape = w.tape
  output : w'.output = w.output
  size : w.heap.size ≤ w'.heap.size
  block : ∀ k, k < w.heap.size → ¬ F k → w'.heap[k]? = w.heap[k]?

theorem Only.refl (F : Nat → Prop) (w : World) : Only F w w := ⟨rfl, rfl, rfl, Nat.le_refl _, fun _ _ _ => rfl⟩
theorem Only.trans {F : Nat → Prop} {a b c : World} (h : Only F a b) (k : Only F b c) : Only F a c :=
  ⟨k.os.trans h.os, k.tape.trans h.tape, k.output.trans h.output, Nat.le_trans h.size k.size,
   fun i hi hF => (k.block i (Nat.lt_of_lt_of_le hi h.size) hF).trans (h.block i hi hF)⟩
/-- The second step may also turn what is new since a. -/
theorem Only.trans' {F G : Nat → Prop} {a b c : World} (h : Only F a b) (k : Only G b c) (hG : ∀ i, i < a.heap.size → G i → F i) : Only F a c :=
  ⟨k.os.trans h.os, k.tape.trans h.tape, k.output.trans h.output, Nat.le_trans h.size k.size,
   fun i hi hF => (k.block i (Nat.lt_of_lt_of_le hi h.size) (fun g => hF (hG i hi g))).trans (h.block i hi hF)⟩
theorem Only.mono {F G : Nat → Prop} {a b : World} (h : Only F a b) (hG : ∀ i, i < a.heap.size → F i → G i) : Only G a b :=
  ⟨h.os, h.tape, h.output, h.size, fun i hi hF => h.block i hi (fun f => hF (hG i hi f))⟩
theorem Only.drew {F : Nat → Prop} {a b : World} (h : Only F a b) : Only F a b.drew := ⟨h.os, h.tape, h.output, h.size, h.block⟩
theorem Only.drewN {F : Nat → Prop} {a b : World} (h : Only F a b) (n : Nat) : Only F a (b.drewN n) := ⟨h.os, h.tape, h.output, h.size, h.block⟩
theorem Only.alloc {F : Nat → Prop} {a b : World} (h : Only F a b) (o : Obj) : Only F a (b.alloc o) :=
  h.trans ⟨rfl, rfl, rfl, by simp, fun k hk _ => Below.heap_alloc _ _ _ hk⟩
theorem Only.setCell {F : Nat → Prop} {a b : World} (h : Only F a b) {p : Addr} (hp : p.block < a.heap.size → F p.block) (u : Value) : Only F a (b.setCell p u) :=
  h.trans' (G := fun k => k = p.block) ⟨rfl, rfl, rfl, by simp [World.setCell], fun k _ hk => Below.heap_setCell _ _ _ _ hk⟩ (fun i hi e => by subst e; exact hp hi)
theorem Only.below {F : Nat → Prop} {a b : World} (h : Only F a b) {B : Nat} (hB : B ≤ a.heap.size) (hF : ∀ i, i < B → ¬ F i) : Below B a b :=
  ⟨h.os, h.tape, h.output, h.size, fun k hk => h.block k (by omega) (hF k hk)⟩
theorem only_of_below {a b : World} (h : Below a.heap.size a b) (F : Nat → Prop) : Only F a b :=
  ⟨h.os, h.tape, h.output, h.size, fun k hk _ => h.block k hk⟩
theorem Only.of_below {a b : World} {B : Nat} (h : Below B a b) (F : Nat → Prop) (hF : ∀ i, B ≤ i → i < a.heap.size → F i) : Only F a b :=
  ⟨h.os, h.tape, h.output, h.size, fun k hk hn => h.block k (by
    rcases Nat.lt_or_ge k B with hlt | hge
    · exact hlt
    · exact absurd (hF k hge hk) hn)⟩
theorem Only.heap {F : Nat → Prop} {a b : World} (h : Only F a b) {k : Nat} {o : Obj} (hk : a.heap[k]? = some o) (hF : ¬ F k) : b.heap[k]? = some o := by
  have : k < a.heap.size := (Array.getElem?_eq_some_iff.1 hk).1
  rw [h.block k this hF, hk]

/-! ### a map in memory -/

/-- Block b of the heap is a map that holds m: the keys ints, the elements by enc. -/
def IMap {α : Type} (h : Array Obj) (b : Nat) (enc : α → Value) (m : List (Int × α)) : Prop :=
  ∃ es clock, h[b]? = some (.map es clock) ∧ Stamped es clock ∧
    (es.toList.map fun e => (e.key, e.val)).Perm (m.map fun p => (Value.int .i64 p.1, enc p.2)) ∧ KS m ∧ ∀ p ∈ m, (Lit.int .i64 p.1).wf = true

section laws
variable {α : Type} {P : Program} {w : World} {b : Nat} {enc : α → Value} {m : List (Int × α)} {t K E : TypeId}

theorem IMap.ks {h : Array Obj} (x : IMap h b enc m) : KS m := by obtain ⟨_, _, _, _, _, h, _⟩ := x; exact h
theorem IMap.keys_wf {h : Array Obj} (x : IMap h b enc m) : ∀ p ∈ m, (Lit.int .i64 p.1).wf = true := by obtain ⟨_, _, _, _, _, _, h⟩ := x; exact h
theorem IMap.lt {h : Array Obj} (x : IMap h b enc m) : b < h.size := by obtain ⟨_, _, h, _⟩ := x; exact (Array.getElem?_eq_some_iff.1 h).1
theorem IMap.of_block {h h' : Array Obj} (x : IMap h b enc m) (e : h'[b]? = h[b]?) : IMap h' b enc m := by
  obtain ⟨es, c, hb, r⟩ := x; exact ⟨es, c, e.trans hb, r⟩
theorem IMap.only {F : Nat → Prop} {w' : World} (x : IMap w.heap b enc m) (h : Only F w w') (hF : ¬ F b) : IMap w'.heap b enc m :=
  x.of_block (h.block b x.lt hF)
theorem IMap.made (w : World) (enc : α → Value) : IMap (w.alloc (.map #[] 0)).heap w.heap.size enc [] :=
  ⟨#[], 0, (MapKept.heap_alloc w _).1, stamped_empty 0, by simp, KS.nil, by simp⟩
theorem heap_new (w : World) (o : Obj) {b : Nat} (e : b = w.heap.size) : (w.alloc o).heap[b]? = some o := by subst e; exact (MapKept.heap_alloc w o).1
theorem heap_old (w : World) (o : Obj) {b : Nat} (h : b < w.heap.size) : (w.alloc o).heap[b]? = w.heap[b]? := Below.heap_alloc _ _ _ h
theorem IMap.made' (w : World) (enc : α → Value) {b : Nat} (e : b = w.heap.size) : IMap (w.alloc (.map #[] 0)).heap b enc [] := by subst e; exact IMap.made w enc
theorem IMap.alloc (x : IMap w.heap b enc m) (o : Obj) : IMap (w.alloc o).heap b enc m := x.of_block (Below.heap_alloc _ _ _ x.lt)

theorem toList_modify (es : Array MapEntry) (j : Nat) (f : MapEntry → MapEntry) : (es.modify j f).toList = es.toList.modify j f := by
  apply List.ext_getElem?
  intro i
  simp [List.getElem?_modify]

theorem modify_mid {β : Type} (f : β → β) (x : β) : ∀ l1 l2 : List β, (l1 ++ x :: l2).modify l1.length f = l1 ++ f x :: l2
  | [], l2 => by simp
  | y :: l1, l2 => by simp [modify_mid f x l1 l2]

theorem split_at {es : Array MapEntry} {j : Nat} {e : MapEntry} (h : es[j]? = some e) : ∃ l1 l2, es.toList = l1 ++ e :: l2 ∧ l1.length = j := by
  have h' : es.toList[j]? = some e := by simpa using h
  obtain ⟨hj, he⟩ := List.getElem?_eq_some_iff.1 h'
  refine ⟨es.toList.take j, es.toList.drop (j + 1), ?_, by simp at hj; simp; omega⟩
  rw [← he, ← List.drop_eq_getElem_cons hj, List.take_append_drop]

theorem key_find (k : Int) {es : Array MapEntry} (hp : (es.toList.map fun e => (e.key, e.val)).Perm (m.map fun p => (Value.int .i64 p.1, enc p.2))) (hs : KS m) :
    (Instr.findNow (.int .i64) (.int .i64 k) es.toList 0 = some none ∧ mget k m = none ∧ ∀ x ∈ es.toList, x.key ≠ .int .i64 k) ∨
    ∃ j e v, Instr.findNow (.int .i64) (.int .i64 k) es.toList 0 = some (some (j, e.val)) ∧ es.toList[j]? = some e ∧ e.key = .int .i64 k ∧ e.val = enc v ∧ mget k m = some v := by
  have hk : ∀ x ∈ es.toList, IsKey (.int .i64) x.key := fun x hx => by
    have : (x.key, x.val) ∈ m.map fun p => (Value.int .i64 p.1, enc p.2) := hp.mem_iff.1 (List.mem_map.2 ⟨x, hx, rfl⟩)
    obtain ⟨p, _, e⟩ := List.mem_map.1 this
    have e1 : Value.int .i64 p.1 = x.key := congrArg Prod.fst e
    rw [← e1]; rfl
  rcases findNow_spec (d := .int .i64) (k := .int .i64 k) rfl es.toList 0 hk with ⟨h1, h2⟩ | ⟨j, e, h1, h2, h3⟩
  · refine .inl ⟨h1, mget_none.2 fun p hpm he => ?_, h2⟩
    have : (Value.int .i64 p.1, enc p.2) ∈ es.toList.map fun e => (e.key, e.val) := hp.mem_iff.2 (List.mem_map.2 ⟨p, hpm, rfl⟩)
    obtain ⟨x, hx, e⟩ := List.mem_map.1 this
    exact h2 x hx (by have e1 : x.key = Value.int .i64 p.1 := congrArg Prod.fst e; rw [e1, he])
  · have hm : e ∈ es.toList := List.mem_of_getElem? h2
    have : (e.key, e.val) ∈ m.map fun p => (Value.int .i64 p.1, enc p.2) := hp.mem_iff.1 (List.mem_map.2 ⟨e, hm, rfl⟩)
    obtain ⟨p, hpm, ee⟩ := List.mem_map.1 this
    have e1 : Value.int .i64 p.1 = e.key := congrArg Prod.fst ee
    have e2 : enc p.2 = e.val := congrArg Prod.snd ee
    have e3 : p.1 = k := by rw [h3] at e1; simpa using e1
    refine .inr ⟨j, e, p.2, by simpa using h1, h2, h3, e2.symm, mget_of_mem hs ?_⟩
    rw [← e3]; exact hpm


theorem keys_ne {es : Array MapEntry} (hp : (es.toList.map fun e => (e.key, e.val)).Perm (m.map fun p => (Value.int .i64 p.1, enc p.2))) {x : MapEntry} (hx : x ∈ es.toList) : ∃ p ∈ m, x.key = .int .i64 p.1 ∧ x.val = enc p.2 := by
  have : (x.key, x.val) ∈ m.map fun p => (Value.int .i64 p.1, enc p.2) := hp.mem_iff.1 (List.mem_map.2 ⟨x, hx, rfl⟩)
  obtain ⟨p, hpm, e⟩ := List.mem_map.1 this
  exact ⟨p, hpm, (congrArg Prod.fst e).symm, (congrArg Prod.snd e).symm⟩

/-- 'm[k]', 'v, ok := m[k]' -/
theorem IMap.lookup (c : Bool) (x : IMap w.heap b enc m) (ht : P.underlying t = some (.map K E)) (hK : P.underlying K = some (.int .i64)) {z : Value} (hz : (zeroValue E).run P w = .ok z w) (k : Int) :
    (Instr.lookup t (.map (some b)) (.int .i64 k) c).run P w = .ok (if c then .tuple #[((mget k m).map enc).getD z, .bool (mget k m).isSome] else ((mget k m).map enc).getD z) w := by
  obtain ⟨es, clock, hb, hs, hp, hk, _⟩ := x
  rcases key_find k hp hk with ⟨h1, h2, _⟩ | ⟨j, e, v, h1, h2, h3, h4, h5⟩
  · simp [Instr.lookup, run_underlying ht, MapKept.run_getObj_map hb, MapKept.run_checkKey (n := 9999) hK (show IsKey (.int .i64) (.int .i64 k) from rfl), MapKept.run_findKey hK h1, hz, Result.andThen, h2]
  · simp [Instr.lookup, run_underlying ht, MapKept.run_getObj_map hb, MapKept.run_checkKey (n := 9999) hK (show IsKey (.int .i64) (.int .i64 k) from rfl), MapKept.run_findKey hK h1, Result.andThen, h5, h4]

theorem lookup_nil (c : Bool) (ht : P.underlying t = some (.map K E)) (hK : P.underlying K = some (.int .i64)) {z : Value} (hz : (zeroValue E).run P w = .ok z w) (k : Int) :
    (Instr.lookup t (.map none) (.int .i64 k) c).run P w = .ok (if c then .tuple #[z, .bool false] else z) w := by
  have h1 : Instr.findNow (.int .i64) (.int .i64 k) (#[] : Array MapEntry).toList 0 = some none := rfl
  simp [Instr.lookup, run_underlying ht, MapKept.run_checkKey (n := 9999) hK (show IsKey (.int .i64) (.int .i64 k) from rfl), MapKept.run_findKey hK h1, hz, Result.andThen]

theorem heap_setB {o : Obj} (hb : w.heap[b]? = some o) (o' : Obj) : Only (· = b) w { w with heap := w.heap.setIfInBounds b o' } :=
  ⟨rfl, rfl, rfl, by simp, fun k _ hk => (MapKept.heap_set (o' := o') hb).2 k hk⟩

/-- 'm[k] = v' -/
theorem IMap.update (x : IMap w.heap b enc m) (ht : P.underlying t = some (.map K E)) (hK : P.underlying K = some (.int .i64)) {k : Int} (hk : (Lit.int .i64 k).wf = true) (v : α) :
    ∃ w', (Instr.mapUpdate t (.map (some b)) (.int .i64 k) (enc v)).run P w = .ok () w' ∧ IMap w'.heap b enc (mput k v m) ∧ Only (· = b) w w' := by
  obtain ⟨es, clock, hb, hs, hp, hks, hwf⟩ := x
  have hwf' : ∀ p ∈ mput k v m, (Lit.int .i64 p.1).wf = true := fun p hp => by
    rcases mem_mput hp with rfl | h
    · exact hk
    · exact hwf p h
  rcases key_find k hp hks with ⟨h1, h2, h3⟩ | ⟨j, e, u, h1, h2, h3, h4, h5⟩
  · refine ⟨_, by simp [Instr.mapUpdate, run_underlying ht, MapKept.run_getObj_map hb, MapKept.run_checkKey (n := 9999) hK (show IsKey (.int .i64) (.int .i64 k) from rfl), MapKept.run_findKey hK h1, MapKept.run_setObj_map _ hb, Result.andThen],
      ⟨es.push ⟨.int .i64 k, enc v, clock⟩, clock + 1, (MapKept.heap_set hb).1, stamped_push hs h3, ?_, hks.mput, hwf'⟩, heap_setB hb _⟩
    have q := (mput_perm (k := k) (v := v) hks).map (fun p => (Value.int .i64 p.1, enc p.2))
    rw [mdel_none h2] at q
    refine List.Perm.trans ?_ q.symm
    simp only [Array.toList_push, List.map_append, List.map_cons, List.map_nil]
    exact (List.perm_append_singleton _ _).trans (hp.cons _)
  · have hjl : j < es.size := by have := (List.getElem?_eq_some_iff.1 h2).1; simpa using this
    have hej : es[j]? = some e := by simpa using h2
    refine ⟨_, by simp [Instr.mapUpdate, run_underlying ht, MapKept.run_getObj_map hb, MapKept.run_checkKey (n := 9999) hK (show IsKey (.int .i64) (.int .i64 k) from rfl), MapKept.run_findKey hK h1, hej, h3, MapKept.run_keyThatStays (show IsKey (.int .i64) (.int .i64 k) from rfl), MapKept.run_setObj_map _ hb, Result.andThen],
      ⟨es.modify j fun e => { e with key := .int .i64 k, val := enc v }, clock, (MapKept.heap_set hb).1, stamped_modify hs j _ (fun _ _ => rfl) (fun e' _ he' => by rw [hej] at he'; cases he'; exact h3.symm), ?_, hks.mput, hwf'⟩, heap_setB hb _⟩
    obtain ⟨l1, l2, e1, e2⟩ := split_at hej
    have q := (perm_of_get hks h5).map (fun p => (Value.int .i64 p.1, enc p.2))
    have q1 := hp.trans q
    rw [e1, List.map_append, List.map_cons, List.map_cons, h3, h4] at q1
    have q2 := List.perm_middle.symm.trans q1 |>.cons_inv
    have q3 := (mput_perm (k := k) (v := v) hks).map (fun p => (Value.int .i64 p.1, enc p.2))
    refine List.Perm.trans ?_ q3.symm
    have e3 : (es.toList.modify j fun e => { e with key := .int .i64 k, val := enc v }) = l1 ++ { e with key := .int .i64 k, val := enc v } :: l2 := by
      rw [e1, ← e2]; exact modify_mid _ _ _ _
    rw [toList_modify, e3]
    simp only [List.map_append, List.map_cons]
    exact List.perm_middle.trans (q2.cons _)

/-- 'delete(m, k)' -/
theorem IMap.delete (x : IMap w.heap b enc m) {ty : TypeId} (ht : P.underlying t = some (.map K E)) (hK : P.underlying K = some (.int .i64)) (k : Int) :
    ∃ w', (Builtin.delete_ #[t, K] ty #[.map (some b), .int .i64 k]).run P w = .ok (.tuple #[]) w' ∧ IMap w'.heap b enc (mdel k m) ∧ Only (· = b) w w' := by
  obtain ⟨es, clock, hb, hs, hp, hks, hwf⟩ := x
  have hwf' : ∀ p ∈ mdel k m, (Lit.int .i64 p.1).wf = true := fun p hp => hwf p (mem_mdel.1 hp).1
  rcases key_find k hp hks with ⟨h1, h2, h3⟩ | ⟨j, e, u, h1, h2, h3, h4, h5⟩
  · refine ⟨{ w with heap := w.heap.setIfInBounds b (.map es clock) }, by simp [Builtin.delete_, run_underlying ht, MapKept.run_getObj_map hb, MapKept.run_checkKey (n := 9999) hK (show IsKey (.int .i64) (.int .i64 k) from rfl), MapKept.run_findKey hK h1, MapKept.run_setObj_map _ hb, Result.andThen],
      ⟨es, clock, (MapKept.heap_set hb).1, hs, ?_, hks.mdel, hwf'⟩, heap_setB hb _⟩
    rw [mdel_none h2]; exact hp
  · have hjl : j < es.size := by have := (List.getElem?_eq_some_iff.1 h2).1; simpa using this
    have hej : es[j]? = some e := by simpa using h2
    refine ⟨_, by simp [Builtin.delete_, run_underlying ht, MapKept.run_getObj_map hb, MapKept.run_checkKey (n := 9999) hK (show IsKey (.int .i64) (.int .i64 k) from rfl), MapKept.run_findKey hK h1, MapKept.run_setObj_map _ hb, Result.andThen],
      ⟨es.eraseIdxIfInBounds j, clock, (MapKept.heap_set hb).1, stamped_erase hs j, ?_, hks.mdel, hwf'⟩, heap_setB hb _⟩
    obtain ⟨l1, l2, e1, e2⟩ := split_at hej
    have q := (perm_of_get hks h5).map (fun p => (Value.int .i64 p.1, enc p.2))
    have q1 := hp.trans q
    rw [e1, List.map_append, List.map_cons, List.map_cons, h3, h4] at q1
    have q2 := List.perm_middle.symm.trans q1 |>.cons_inv
    have hsub : (es.eraseIdxIfInBounds j).toList = es.toList.eraseIdx j := by
      unfold Array.eraseIdxIfInBounds
      rw [dif_pos hjl]
      simp
    rw [hsub, e1, List.eraseIdx_append_of_length_le (by omega), ← e2]
    simp only [Nat.sub_self, List.map_append, List.eraseIdx_cons_zero]
    exact q2

/-- 'len(m)' -/
theorem IMap.len (x : IMap w.heap b enc m) {ty : TypeId} (ht : P.underlying t = some (.map K E)) : (Builtin.len_ #[t] ty #[.map (some b)]).run P w = .ok (.int .i64 m.length) w := by
  obtain ⟨es, clock, hb, hs, hp, hks, hwf⟩ := x
  have := hp.length_eq
  simp at this
  simp [Builtin.len_, run_underlying ht, MapKept.run_getObj_map hb, Result.andThen, this, goInt]

end laws
end Go.Sp
