/- 'for k, v := range m' over a map that IMap describes, in a round that leaves the map as it is. No condition beyond those each lemma names. -/
import Derived.Test.YtniggacgkhkgiaaBase
import Derived.Maps.RangeWalk
namespace Go.Sp
open Go.RowKit Go.MapKept Go.ChangeMaps

/-- block r is an iterator over the map m at block b; S: the keys that were handed out -/
def IRng {α : Type} (w : World) (b r : Nat) (enc : α → Value) (m : List (Int × α)) (S : Int → Prop) (cnt : Nat) : Prop :=
  ∃ es clock since seen c0, w.heap[b]? = some (.map es clock) ∧ Stamped es clock ∧ (es.toList.map fun e => (e.key, e.val)).Perm (m.map fun p => (Value.int .i64 p.1, enc p.2)) ∧ KS m ∧ (∀ p ∈ m, (Lit.int .i64 p.1).wf = true) ∧
    w.heap[r]? = some (.mapIter (some b) since seen c0) ∧ (∀ x ∈ es.toList, x.born < since) ∧ since ≤ c0 ∧ since ≤ clock ∧ (leftOf es seen).size = cnt ∧ ∀ x ∈ es.toList, ∀ k, x.key = .int .i64 k → (seen.contains x.born = true ↔ S k)

section
variable {α : Type} {P : Program} {w : World} {b r : Nat} {enc : α → Value} {m : List (Int × α)} {S : Int → Prop} {cnt : Nat} {ops : Array Oper} {Q : Exit → Act → World → Prop} {a : Act} {rest : List Oper} {o : Oper}

theorem IRng.map (h : IRng w b r enc m S cnt) : IMap w.heap b enc m := by
  obtain ⟨es, clock, _, _, _, h1, h2, h3, h4, h5, _⟩ := h
  exact ⟨es, clock, h1, h2, h3, h4, h5⟩
theorem IRng.left (h : IRng w b r enc m S cnt) : w.rangeLeft b r = cnt := by
  obtain ⟨es, clock, since, seen, c0, h1, _, _, _, _, h6, _, _, _, h9, _⟩ := h
  simp only [World.rangeLeft, h1, h6]
  exact h9
theorem IRng.only {F : Nat → Prop} {w' : World} (h : IRng w b r enc m S cnt) (o : Only F w w') (hb : ¬ F b) (hr : ¬ F r) : IRng w' b r enc m S cnt := by
  obtain ⟨es, clock, since, seen, c0, h1, h2, h3, h4, h5, h6, h7⟩ := h
  exact ⟨es, clock, since, seen, c0, o.heap h1 hb, h2, h3, h4, h5, o.heap h6 hr, h7⟩
theorem IRng.heap {w' : World} (h : IRng w b r enc m S cnt) (e : w'.heap = w.heap) : IRng w' b r enc m S cnt := by
  obtain ⟨es, clock, since, seen, c0, h1, h2, h3, h4, h5, h6, h7⟩ := h
  exact ⟨es, clock, since, seen, c0, by rw [e]; exact h1, h2, h3, h4, h5, by rw [e]; exact h6, h7⟩

/-- 'range m' -/
theorem wpList_rangeI {t K E : TypeId} (hg : o.guard = none) (mo : Operand) (hop : o.op = Op.range t mo) (ht : P.underlying t = some (.map K E)) (hm : a.eval mo = .map (some b)) (h : IMap w.heap b enc m)
    (hK : ∀ w', IRng w' b w.heap.size enc m (fun _ => False) m.length → Below w.heap.size w w' → w'.heap.size = w.heap.size + 1 → wpList P ops Q rest (a.put o.dst (.pointer (some ⟨w.heap.size, 0, none⟩))) w') : wpList P ops Q (o :: rest) a w := by
  refine wpList_plain hg fun K' hK' => ?_
  have hlt := h.lt
  obtain ⟨es, clock, hb, hs, hp, hk, hw⟩ := h
  unfold Oper.wp
  simp [execOp, hop, hm, run_range_map w t K E b es clock ht hb, Result.andThen]
  refine hK' _ _ (hK _ ⟨es, clock, clock, #[], clock, (heap_alloc_old w _ hlt).trans hb, hs, hp, hk, hw, heap_alloc_new w _, ((stamped_iff es clock).1 hs).1, Nat.le_refl _, Nat.le_refl _, ?_, ?_⟩ ((Below.refl _ w).alloc (Nat.le_refl _) _) (by simp))
  · have h1 := hp.length_eq
    have h2 : leftOf es #[] = es := by unfold leftOf; exact Array.filter_eq_self.2 (fun x _ => by simp)
    rw [h2]
    simpa using h1
  · intro x _ k _; simp

/-- the step -/
theorem wpList_nextI (hg : o.guard = none) (it : Operand) (hop : o.op = Op.next it false) (hit : a.eval it = .pointer (some ⟨r, 0, none⟩)) (h : IRng w b r enc m S cnt)
    (hDone : cnt = 0 → (∀ p ∈ m, S p.1) → wpList P ops Q rest (a.put o.dst (.tuple #[.bool false])) w)
    (hMore : ∀ k v w' cnt', (k, v) ∈ m → ¬ S k → IRng w' b r enc m (fun j => S j ∨ j = k) cnt' → cnt' < cnt → Only (· = r) w w' → w'.heap.size = w.heap.size → (Instr.entry (.pointer (some ⟨r, 0, none⟩))).run P w' = .ok (.tuple #[.int .i64 k, enc v]) w' →
      wpList P ops Q rest (a.put o.dst (.tuple #[.bool true, .int .i64 k, enc v])) w') : wpList P ops Q (o :: rest) a w := by
  refine wpList_plain hg fun K' hK' => ?_
  unfold Oper.wp
  obtain ⟨es, clock, since, seen, c0, hb, hs, hp, hk, hw, hr, hold, hsc, hsk, rfl, hS⟩ := h
  have hne : b ≠ r := fun e => by rw [e, hr] at hb; cases hb
  rcases run_next_at (P := P) w o.type r b since c0 seen es clock hr hb hold hsc with ⟨h0, hrun⟩ | ⟨e, he, w1, hal, hrun⟩
  · simp [execOp, hop, hit, hrun, Result.andThen]
    refine hK' _ _ (hDone h0 fun p hpm => ?_)
    have h1 : (Value.int .i64 p.1, enc p.2) ∈ es.toList.map fun e => (e.key, e.val) := hp.mem_iff.2 (List.mem_map.2 ⟨p, hpm, rfl⟩)
    obtain ⟨x, hx, e1⟩ := List.mem_map.1 h1
    exact (hS x hx p.1 (congrArg Prod.fst e1)).1 (all_seen es seen h0 x hx)
  · obtain ⟨hem, hes⟩ := mem_left he
    obtain ⟨⟨k, v⟩, hpm, hkey, hval⟩ := keys_ne hp hem
    have hr1 : w1.heap[r]? = some (.mapIter (some b) since seen c0) := by rcases hal with rfl | rfl <;> exact hr
    have hb1 : w1.heap[b]? = some (.map es clock) := by rcases hal with rfl | rfl <;> exact hb
    have hset := heap_set (o' := .mapIter (some b) since (seen.push e.born) clock) hr1
    have hb' : (setBlock w1 r (.mapIter (some b) since (seen.push e.born) clock)).heap[b]? = some (.map es clock) := (hset.2 b hne).trans hb1
    have hst := (stamped_iff es clock).1 hs
    simp only at hkey hval
    have hen := run_entry_at (P := P) _ r b since seen es clock e hset.1 hb' hem hst.2.1
    rw [hkey, hval] at hrun hen
    simp [execOp, hop, hit, hrun, Result.andThen]
    refine hK' _ _ (hMore k v _ _ hpm (fun hSk => ?_) ⟨es, clock, since, seen.push e.born, clock, hb', hs, hp, hk, hw, hset.1, hold, hsk, hsk, rfl, fun x hx j hj => ?_⟩ (left_shrinks es seen e he) ?_ ?_ hen)
    · have := (hS e hem k hkey).2 hSk
      rw [hes] at this; cases this
    · rw [contains_push, Bool.or_eq_true, hS x hx j hj]
      have : (x.born == e.born) = true ↔ j = k := by
        rw [beq_iff_eq]
        constructor
        · intro hbe
          have := born_inj hst.2.1 hx hem hbe
          subst this
          rw [hkey] at hj; cases hj; rfl
        · intro e2
          have : x = e := entry_eq_of_key hst.2.2 hx hem (by rw [hj, hkey, e2])
          rw [this]
      rw [this]
    · rcases hal with rfl | rfl <;> exact ⟨rfl, rfl, rfl, by simp [setBlock], fun i _ hi => hset.2 i (fun e1 => hi (by rw [e1]))⟩
    · rcases hal with rfl | rfl <;> simp [setBlock]
end
end Go.Sp
