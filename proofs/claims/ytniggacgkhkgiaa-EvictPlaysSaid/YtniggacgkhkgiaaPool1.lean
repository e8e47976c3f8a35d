/- The pool in memory; New, Size, Free, Traces. Conditions: it lies in memory as Prep says. -/
import Derived.Test.YtniggacgkhkgiaaPool0
import Derived.Test.YtniggacgkhkgiaaKeys
import Derived.StillTailTactics
import Derived.Deep.RegionHeld3
import Derived.Deep.RegionLaw
import Derived.BigRegion
import Derived.Deep.Cut
import Derived.Deep.MidRow
import Derived.Handy
namespace Go.Sp
open Go.RowKit
theorem made_flat {α : Type} {enc : α → List Value} {size : Nat} (he : ∀ x, (enc x).length = size) (hs : 0 < size) {x0 : α} {z : Array Value} (hz : z.toList = enc x0) (n : Nat) : (madeCells z (n * size)).toList = (List.replicate n x0).flatMap enc := by
  have hzs : z.size = size := by rw [← Array.length_toList, hz]; exact he x0
  apply List.ext_getElem?
  intro j
  have hl := flat_length he (List.replicate n x0)
  rw [List.length_replicate] at hl
  by_cases hj : j < n * size
  · have hm : j % size < size := Nat.mod_lt _ hs
    have hd : j / size < n := Nat.div_lt_of_lt_mul (by rw [Nat.mul_comm]; exact hj)
    have e : j = (j / size) * size + j % size := by have := Nat.div_add_mod j size; rw [Nat.mul_comm] at this; omega
    have h1 := flat_get he (List.replicate n x0) (j / size) x0 (j % size) (by rw [List.getElem?_replicate, if_pos hd]) hm
    rw [← e] at h1
    rw [h1, ← hz]
    unfold madeCells
    simp only [Array.toList_map, Array.toList_range, List.getElem?_map, List.getElem?_range hj, Option.map_some]
    rw [hzs, Array.getElem?_toList, Array.getElem?_eq_getElem (by omega), getElem!_pos z (j % size) (by omega)]
  · have h1 : (madeCells z (n * size)).toList.length ≤ j := by unfold madeCells; simp; omega
    rw [List.getElem?_eq_none h1, List.getElem?_eq_none (by rw [hl]; omega)]
/-- some cells written from a place on -/
def putC : List Value → Nat → List Value → List Value
  | cs, _, [] => cs
  | cs, j, v :: r => putC (cs.set j v) (j + 1) r
theorem putC_eq : ∀ (vs A B C : List Value), B.length = vs.length → putC (A ++ (B ++ C)) A.length vs = A ++ (vs ++ C)
  | [], A, B, C, h => by cases B with
    | nil => rfl
    | cons => cases h
  | v :: r, A, [], C, h => by cases h
  | v :: r, A, b :: B, C, h => by
    show putC ((A ++ (b :: B ++ C)).set A.length v) (A.length + 1) r = _
    rw [List.set_append_right _ _ (Nat.le_refl _), Nat.sub_self]
    have := putC_eq r (A ++ [v]) B C (by simpa using h)
    simpa using this
section
variable {e : TypeId} {size n : Nat} {w : World}
theorem SL.putC {b off cap : Nat} : ∀ (vs : List Value) {w : World} {cs : List Value} (j : Nat), SL w.heap e size (.slice (some ⟨b, off, none⟩) n cap) n cs → j + vs.length ≤ cs.length → SL (w.setCells b (off + j) vs).heap e size (.slice (some ⟨b, off, none⟩) n cap) n (Sp.putC cs j vs)
  | [], _, _, _, x, _ => x
  | v :: r, w, cs, j, x, h => by
    have h1 := x.set (j := j) (by simp at h; omega) v
    have h2 := SL.putC r (j + 1) h1 (by simp at h ⊢; omega)
    rw [← Nat.add_assoc] at h2
    exact h2
/-- an element of a slice: some of its cells written, so that it is y' -/
theorem SL.putElem {α : Type} {enc : α → List Value} (he : ∀ x, (enc x).length = size) {xs : List α} {b off cap q : Nat} (x : SL w.heap e size (.slice (some ⟨b, off, none⟩) n cap) n (xs.flatMap enc)) {y y' : α} (hq : xs[q]? = some y) {p s : List Value} {vs ws : List Value}
    (hy : enc y = p ++ (ws ++ s)) (hy' : enc y' = p ++ (vs ++ s)) (hl : ws.length = vs.length) :
    SL (w.setCells b (off + (q * size + p.length)) vs).heap e size (.slice (some ⟨b, off, none⟩) n cap) n ((xs.set q y').flatMap enc) := by
  obtain ⟨A, B, rfl, rfl⟩ : ∃ A B, xs = A ++ y :: B ∧ q = A.length := by
    have hqlt := (List.getElem?_eq_some_iff.1 hq).1
    have hqe := (List.getElem?_eq_some_iff.1 hq).2
    refine ⟨xs.take q, xs.drop (q + 1), ?_, by simp; omega⟩
    rw [← hqe, List.getElem_cons_drop, List.take_append_drop]
  have hA := flat_length he A
  rw [List.set_append_right _ _ (Nat.le_refl _), Nat.sub_self, List.set_cons_zero, List.flatMap_append, List.flatMap_cons, hy']
  rw [List.flatMap_append, List.flatMap_cons, hy] at x
  have hp := he y
  rw [hy] at hp
  simp only [List.length_append] at hp
  have h := SL.putC vs (A.length * size + p.length) x (by simp only [List.length_append]; omega)
  have e1 : A.flatMap enc ++ ((p ++ (ws ++ s)) ++ B.flatMap enc) = (A.flatMap enc ++ p) ++ (ws ++ (s ++ B.flatMap enc)) := by simp
  have e2 : A.flatMap enc ++ ((p ++ (vs ++ s)) ++ B.flatMap enc) = (A.flatMap enc ++ p) ++ (vs ++ (s ++ B.flatMap enc)) := by simp
  rw [e1, show A.length * size + p.length = (A.flatMap enc ++ p).length by rw [List.length_append, hA], putC_eq _ _ _ _ hl, ← e2] at h
  rw [List.length_append, hA] at h
  exact h
end
end Go.Sp
namespace Go.Proofs.Ytniggacgkhkgiaa.Pool
open Go.RowKit Go.Sp Msg

theorem zL (w : World) : (zeroValue 31).run Try.prog w = .ok (.slice none 0 0) w := by kernel_rfl
abbrev Rows := List (Int × (Value × List Int))
abbrev mS (m : Rows) : List (Int × List Int) := mmap Prod.snd m
structure Prep (w : World) (R : Nat → Prop) (pb bb mb : Nat) (fv : Value) (bf : List Bf) (fr : List Int) (m : Rows) : Prop where
  blk : w.heap[pb]? = some (.cells #[.slice (some ⟨bb, 0, none⟩) bf.length bf.length, fv, .map (some mb)] 190 (0, 0))
  bfs : SL w.heap 195 10 (.slice (some ⟨bb, 0, none⟩) bf.length bf.length) bf.length (bf.flatMap eBf)
  free : SL w.heap 3 1 fv fr.length (fr.map Sp.zI)
  mp : IMap w.heap mb Prod.fst m
  sl : ∀ k v l, mget k m = some (v, l) → SL w.heap 3 1 v l.length (l.map Sp.zI)
  own : ∀ k v l, mget k m = some (v, l) → ∀ g, v.ownBlock = some g → R g
  dis : ∀ k v l k' v' l', k ≠ k' → mget k m = some (v, l) → mget k' m = some (v', l') → ∀ g, v.ownBlock = some g → v'.ownBlock ≠ some g
  fd : ∀ k v l, mget k m = some (v, l) → ∀ g, v.ownBlock = some g → fv.ownBlock ≠ some g
  fo : ∀ g, fv.ownBlock = some g → R g
  rp : R pb
  rb : R bb
  rm : R mb
  rlt : ∀ b, R b → b < w.heap.size

section
variable {w w' w1 : World} {R : Nat → Prop} {pb bb mb N : Nat} {fv : Value} {bf : List Bf} {fr : List Int} {m : Rows}
theorem Prep.only {F : Nat → Prop} (h : Prep w R pb bb mb fv bf fr m) (o : Only F w w') (hF : ∀ b, R b → ¬ F b) : Prep w' R pb bb mb fv bf fr m :=
  ⟨o.heap h.blk (hF _ h.rp), h.bfs.only o (fun g hg => by simp [Value.ownBlock] at hg; rw [← hg]; exact hF _ h.rb), h.free.only o (fun g hg => hF _ (h.fo g hg)), h.mp.only o (hF _ h.rm), fun k v l e => (h.sl k v l e).only o (fun g hg => hF _ (h.own k v l e g hg)), h.own, h.dis, h.fd, h.fo, h.rp, h.rb, h.rm, fun b hb => Nat.lt_of_lt_of_le (h.rlt b hb) o.size⟩
theorem Prep.below (h : Prep w R pb bb mb fv bf fr m) (o : Below w.heap.size w w') : Prep w' R pb bb mb fv bf fr m := h.only (only_of_below o (fun _ => False)) (fun _ _ => id)
theorem Prep.heap (h : Prep w R pb bb mb fv bf fr m) (e : w'.heap = w.heap) : Prep w' R pb bb mb fv bf fr m :=
  ⟨by rw [e]; exact h.blk, by rw [e]; exact h.bfs, by rw [e]; exact h.free, by rw [e]; exact h.mp, by rw [e]; exact h.sl, h.own, h.dis, h.fd, h.fo, h.rp, h.rb, h.rm, by rw [e]; exact h.rlt⟩
theorem Prep.c0 (h : Prep w R pb bb mb fv bf fr m) : w.cell? ⟨pb, 0, none⟩ = some (.slice (some ⟨bb, 0, none⟩) bf.length bf.length) := cell_blk h.blk rfl
theorem Prep.c1 (h : Prep w R pb bb mb fv bf fr m) : w.cell? ⟨pb, 1, none⟩ = some fv := cell_blk h.blk rfl
theorem Prep.c2 (h : Prep w R pb bb mb fv bf fr m) : w.cell? ⟨pb, 2, none⟩ = some (.map (some mb)) := cell_blk h.blk rfl
theorem Prep.pm (h : Prep w R pb bb mb fv bf fr m) : mb ≠ pb := map_ne_cells h.mp h.blk
theorem Prep.bp (h : Prep w R pb bb mb fv bf fr m) : bb ≠ pb := fun e => sl_not h.blk h.bfs (by decide) (by rw [← e]; rfl)
theorem Prep.bm (h : Prep w R pb bb mb fv bf fr m) : bb ≠ mb := fun e => sl_map h.mp h.bfs (by rw [← e]; rfl)
theorem Prep.fp (h : Prep w R pb bb mb fv bf fr m) : fv.ownBlock ≠ some pb := sl_not h.blk h.free (by decide)
theorem Prep.fm (h : Prep w R pb bb mb fv bf fr m) : fv.ownBlock ≠ some mb := sl_map h.mp h.free
theorem Prep.fb (h : Prep w R pb bb mb fv bf fr m) : fv.ownBlock ≠ some bb := sl_two' h.bfs h.free (by decide) bb rfl
theorem Prep.np (h : Prep w R pb bb mb fv bf fr m) {k : Int} {v : Value} {l : List Int} (e : mget k m = some (v, l)) : v.ownBlock ≠ some pb := sl_not h.blk (h.sl k v l e) (by decide)
theorem Prep.nm (h : Prep w R pb bb mb fv bf fr m) {k : Int} {v : Value} {l : List Int} (e : mget k m = some (v, l)) : v.ownBlock ≠ some mb := sl_map h.mp (h.sl k v l e)
theorem Prep.nb (h : Prep w R pb bb mb fv bf fr m) {k : Int} {v : Value} {l : List Int} (e : mget k m = some (v, l)) : v.ownBlock ≠ some bb := sl_two' h.bfs (h.sl k v l e) (by decide) bb rfl
/-- a buffer's cells -/
theorem Prep.buf (h : Prep w R pb bb mb fv bf fr m) {q : Nat} {b : Bf} (hq : bf[q]? = some b) {j : Nat} {u : Value} (hu : (eBf b)[j]? = some u) : w.cell? ⟨bb, q * 10 + j, none⟩ = some u := by
  have := h.bfs.elem (enc := eBf) eBf_len hq hu
  rwa [Nat.zero_add] at this
/-- what the map gives at a trace -/
theorem Prep.look (h : Prep w R pb bb mb fv bf fr m) (k : Int) : ∃ v l, (∀ w2 : World, w2.heap = w.heap → (Instr.lookup 188 (.map (some mb)) (.int .i64 k) false).run Try.prog w2 = .ok v w2) ∧ SL w.heap 3 1 v l.length (l.map Sp.zI) ∧
    (∀ g, v.ownBlock = some g → R g) ∧ l = lgetA k (mS m) ∧ (mget k m = some (v, l) ∨ (mget k m = none ∧ v = .slice none 0 0 ∧ l = [])) ∧ v.ownBlock ≠ some pb ∧ v.ownBlock ≠ some mb ∧ v.ownBlock ≠ some bb ∧ (∀ g, v.ownBlock = some g → fv.ownBlock ≠ some g) ∧ (∀ k' v' l', k' ≠ k → mget k' m = some (v', l') → ∀ g, v.ownBlock = some g → v'.ownBlock ≠ some g) := by
  have hl : ∀ w2 : World, w2.heap = w.heap → (Instr.lookup 188 (.map (some mb)) (.int .i64 k) false).run Try.prog w2 = .ok (((mget k m).map Prod.fst).getD (.slice none 0 0)) w2 := fun w2 e =>
    (show IMap w2.heap mb Prod.fst m by rw [e]; exact h.mp).lookup (P := Try.prog) false Try.underlying188 Try.underlying3 (zL _) k
  have hg : lgetA k (mS m) = ((mget k m).map Prod.snd).getD [] := by rw [lgetA, mget_mmap]
  cases e : mget k m with
  | none =>
    rw [e] at hl hg
    exact ⟨_, [], hl, SL.nil _ _ _, fun g hg => by simp [Value.ownBlock] at hg, hg.symm, .inr ⟨rfl, rfl, rfl⟩, by simp [Value.ownBlock], by simp [Value.ownBlock], by simp [Value.ownBlock], fun g hg => by simp [Value.ownBlock] at hg, fun k' v' l' _ _ g hg => by simp [Value.ownBlock] at hg⟩
  | some p =>
    obtain ⟨v, l⟩ := p
    rw [e] at hl hg
    exact ⟨v, l, hl, h.sl k v l e, h.own k v l e, hg.symm, .inl rfl, h.np e, h.nm e, h.nb e, h.fd k v l e, fun k' v' l' hk e' => h.dis k v l k' v' l' (fun x => hk x.symm) e e'⟩

set_option maxRecDepth 100000 in
theorem size_any (h : Prep w R pb bb mb fv bf fr m) : Calls Try.prog 96 #[.pointer (some ⟨pb, 0, none⟩)] w fun e w' => e = .returned (.int .i64 bf.length) ∧ w = w' := by
  have c0 := h.c0
  clear h
  generalize bf.length = n at c0 ⊢
  go_enter Try.func96, Try.ntmps96
  go_wp2
  go_ret
  exact ⟨rfl, by first | rfl | trivial⟩
set_option maxRecDepth 100000 in
theorem free_any (h : Prep w R pb bb mb fv bf fr m) : Calls Try.prog 97 #[.pointer (some ⟨pb, 0, none⟩)] w fun e w' => e = .returned (.int .i64 fr.length) ∧ w = w' := by
  obtain ⟨a, c, rfl⟩ := h.free.form
  have c1 := h.c1
  clear h
  generalize fr.length = n at c1 ⊢
  go_enter Try.func97, Try.ntmps97
  go_wp2
  go_ret
  exact ⟨rfl, by first | rfl | trivial⟩
set_option maxRecDepth 100000 in
theorem traces_any (h : Prep w R pb bb mb fv bf fr m) (hn : m.length ≤ 1000000) :
    Calls Try.prog 98 #[.pointer (some ⟨pb, 0, none⟩)] w fun e w' => ∃ v, e = .returned v ∧ SL w'.heap 3 1 v m.length (m.map fun p => .int .i64 p.1) ∧ (∀ g, v.ownBlock = some g → w.heap.size ≤ g) ∧ Below w.heap.size w w' := by
  have c2 := h.c2
  go_enter Try.func98, Try.ntmps98
  go_wp2_with (first
    | (go_at_call 123; refine (keys_123 _ _).mono ?_; rintro e w' ⟨rfl, rfl⟩)
    | (go_at_call 79; refine (sorted_123 h.mp hn).mono ?_; rintro e w1 ⟨v, rfl, hsl, hnew, hbel⟩))
  go_ret
  exact ⟨_, rfl, hsl, hnew, hbel⟩
set_option maxRecDepth 100000 in
theorem new_no (w : World) {n : Int} (hn : ¬ (1 ≤ n ∧ n ≤ 16)) : Calls Try.prog 92 #[.int .i64 n] w fun e w' => e = .returned (.tuple #[.pointer none, .int .i64 1]) ∧ w = w' := by
  by_cases h1 : n < 1
  · have b1 : decide (n < 1) = true := decide_eq_true h1
    go_enter Try.func92, Try.ntmps92
    go_wp2
    go_returns
    exact ⟨rfl, by first | rfl | trivial⟩
  · have b1 : decide (n < 1) = false := decide_eq_false h1
    have b2 : decide (16 < n) = true := decide_eq_true (by omega)
    go_enter Try.func92, Try.ntmps92
    go_wp2
    go_returns
    exact ⟨rfl, by first | rfl | trivial⟩
end
end Go.Proofs.Ytniggacgkhkgiaa.Pool
