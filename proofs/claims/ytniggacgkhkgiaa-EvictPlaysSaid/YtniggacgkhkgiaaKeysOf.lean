/- A map that IMap describes is one that the shelf's contracts on maps.Keys take; and the row that they hand back is the list of its keys. Conditions: as named. -/
import Derived.Test.YtniggacgkhkgiaaSlice
import Derived.Shelf.SlIterI.Nil
namespace Go.Sp
open Go.RowKit Go.Maps Go.MapKept
open Go.WideElems (Fit rd rg)

def anyR (_ : Value) : Option (DataW Unit × List MemPlace) := some (.lit (.bool true), [])

theorem anyR_rd {P : Program} {k : TypeId} {x : MapEntry} {kl : Lit} (h : keyOf P k x.key = some kl) : rd P k anyR x = some (kl, .lit (.bool true)) := by
  simp [rd, h, anyR]

theorem insert_perm {H : Type} (x : Lit × DataW H) : ∀ l : List (Lit × DataW H), (DataW.insert x l).Perm (x :: l)
  | [] => by simp [DataW.insert]
  | y :: r => by
    unfold DataW.insert
    split
    · exact List.Perm.refl _
    · exact ((insert_perm x r).cons y).trans (List.Perm.swap _ _ _)

theorem foldr_perm {H : Type} : ∀ l : List (Lit × DataW H), (l.foldr DataW.insert []).Perm l
  | [] => by simp
  | x :: r => (insert_perm x _).trans ((foldr_perm r).cons x)

theorem IMap.owns {α : Type} {enc : α → Value} {m : List (Int × α)} {w : World} {b : Nat} (h : IMap w.heap b enc m) {P : Program} {k : TypeId} (hk : P.underlying k = some (.int .i64)) (hlen : m.length ≤ 1000000) :
    ∃ D0 : DataW Unit, w.ownsMap P k anyR b m.length D0 ∧ Maps.size D0 = m.length ∧ (intKeys D0).Perm (m.map Prod.fst) := by
  obtain ⟨es, clock, hb, hs, hp, hks, hwf⟩ := h
  have hl : es.size = m.length := by have := hp.length_eq; simpa using this
  have hr : ∀ x ∈ es.toList, ∃ p ∈ m, x.key = .int .i64 p.1 ∧ rd P k anyR x = some (.int .i64 p.1, .lit (.bool true)) := fun x hx => by
    obtain ⟨p, hpm, e1, _⟩ := keys_ne hp hx
    exact ⟨p, hpm, e1, anyR_rd (by rw [e1]; exact keyOf_int_mk hk (hwf p hpm))⟩
  refine ⟨_, ⟨es, clock, hb, ⟨by rw [hl]; unfold maxLen; omega, hs, fun x hx => ?_⟩, by omega, rfl⟩, ?_, ?_⟩
  · obtain ⟨p, _, _, e⟩ := hr x hx
    exact ⟨_, e⟩
  · show List.length _ = _
    rw [length_sorted]; simp [hl]
  · show (List.map _ _).Perm _
    refine ((foldr_perm _).map _).trans ?_
    rw [List.map_map]
    have e1 : es.toList.map ((fun p => intOf p.1) ∘ rg P k anyR) = (es.toList.map fun e => (e.key, e.val)).map fun q => match q.1 with | .int _ a => a | _ => 0 := by
      rw [List.map_map]
      refine List.map_congr_left fun x hx => ?_
      obtain ⟨p, _, e, hrd⟩ := hr x hx
      simp [WideElems.rg_of hrd, intOf, e]
    rw [e1]
    refine (hp.map _).trans ?_
    rw [List.map_map]
    exact List.Perm.refl _

theorem IMap.of_row {α : Type} {enc : α → Value} {m : List (Int × α)} {h : Array Obj} {b : Nat} (x : IMap h b enc m) {ss : List Int} (hp : ss.Perm (m.map Prod.fst)) {w' : World} {base : Nat} {e : TypeId} {v : Value}
    (hrow : w'.ownsRow base e 1 v ss.length ((ss.mergeSort (fun x y => decide (x ≤ y))).map encZ)) : SL w'.heap e 1 v m.length (m.map fun p => .int .i64 p.1) := by
  have hs : ss.mergeSort leI = m.map Prod.fst := by
    rw [mergeSort_of_perm_i hp]
    refine List.mergeSort_of_pairwise ?_
    have := x.ks
    refine List.pairwise_map.2 (this.imp fun {p q} hlt => ?_)
    simp [leI]; omega
  have hl : ss.length = m.length := by have := hp.length_eq; simpa using this
  rw [show (fun x y : Int => decide (x ≤ y)) = leI from rfl, hs, hl] at hrow
  have e2 : (m.map Prod.fst).map encZ = m.map fun p => Value.int .i64 p.1 := by rw [List.map_map]; rfl
  rw [e2] at hrow
  refine ⟨hrow.1, ?_⟩
  rcases hrow.2 with ⟨rfl, h0⟩ | ⟨g, cap, cur, rfl, _, hb, h1, h2, h3, h4⟩
  · exact .inl ⟨rfl, h0⟩
  · refine .inr ⟨g, 0, cap, cur, rfl, h1, h2, hb, by omega, fun j u hu => ?_⟩
    rw [← h4] at hu
    rw [Nat.zero_add]
    rw [List.getElem?_take] at hu
    split at hu
    · simpa using hu
    · simp at hu

end Go.Sp
