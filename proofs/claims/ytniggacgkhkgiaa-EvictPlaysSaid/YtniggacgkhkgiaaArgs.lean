/- What an argument that can be read looks like in memory, type by type. No condition beyond the readings named. -/
import Derived.Test.YtniggacgkhkgiaaInts
import Derived.Deep.Slices
import Derived.SizedLaws
namespace Go.Sp
open Go.RowKit Go.Deep Go.WideShapes

/-- The cells cs hold a value of type t that can be read, all slices and strings within reach. -/
def Rd (P : Program) (w : World) : Nat → TypeId → List Value → Prop
  | 0, _, _ => False
  | n + 1, t, cs =>
    match P.underlying t with
    | some .bool => ∃ b, cs = [.bool b]
    | some (.int k) => ∃ a, cs = [.int k a] ∧ (Lit.int k a).wf = true
    | some .string => ∃ s, cs = [.string s] ∧ s.size ≤ 140737488351232
    | some (.slice e) => ∃ a len cap, cs = [.slice a len cap] ∧ len ≤ maxLen ∧ len ≤ cap ∧ len * P.bytesOf e ≤ 140737488351232 ∧ (0 < len → ∃ x, a = some x) ∧
        ∀ x i, a = some x → i < len → ∃ ds, w.cells? 0 (x.add (i * P.cellsOf e)) (P.cellsOf e) = some ds ∧ Rd P w n e ds
    | some (.struct fs) => cs.length = P.cellsOf t ∧ ∀ f ∈ fs.toList, Rd P w n f.type ((cs.drop f.offset).take (P.cellsOf f.type))
    | some (.array m e) => cs.length = P.cellsOf t ∧ ∀ i, i < m → Rd P w n e ((cs.drop (i * P.cellsOf e)).take (P.cellsOf e))
    | _ => True

section
variable {H : Type} {enc : TypeId × Value → H} {P : Program} {w : World}

theorem mapM_at {α β : Type} {f : α → Option β} : ∀ {l : List α} {r : List β}, l.mapM f = some r → r.length = l.length ∧ ∀ (i : Nat) (x : α), l[i]? = some x → ∃ y, f x = some y ∧ r[i]? = some y
  | [], r, h => by simp at h; subst h; simp
  | a :: l, r, h => by
    rw [List.mapM_cons] at h
    simp only [Option.bind_eq_bind, Option.bind_eq_some_iff] at h
    obtain ⟨y, hy, ys, hys, h⟩ := h
    simp at h; subst h
    obtain ⟨h1, h2⟩ := mapM_at hys
    refine ⟨by simp [h1], fun i x hx => ?_⟩
    cases i with
    | zero => simp at hx; subst hx; exact ⟨y, hy, by simp⟩
    | succ i => exact h2 i x (by simpa using hx) |>.imp fun z hz => ⟨hz.1, by simpa using hz.2⟩

theorem weights_elem {e : TypeId} : ∀ {ds : List (DataW H)} {i : Nat} {d : DataW H}, ds[i]? = some d → ∀ n ∈ d.weights P e, n ∈ DataW.weightsAll P e ds
  | [], i, d, h => by simp at h
  | x :: r, 0, d, h => by simp at h; subst h; intro n hn; simp [DataW.weightsAll, hn]
  | x :: r, i + 1, d, h => by intro n hn; simp only [DataW.weightsAll, List.mem_append]; exact .inr (weights_elem (by simpa using h) n hn)

theorem all_sub {a b : List Nat} (h : b.all (· ≤ reachBytes) = true) (hs : ∀ n ∈ a, n ∈ b) : a.all (· ≤ reachBytes) = true :=
  List.all_eq_true.2 fun n hn => List.all_eq_true.1 h n (hs n hn)

theorem rd_of_trod : ∀ (fuel : Nat) (t : TypeId) (cs : List Value) (d : DataW H) (ps : List MemPlace), DataW.trod enc P w 0 (fun _ => true) true fuel t cs = some (d, ps) → (d.weights P t).all (· ≤ reachBytes) = true → Rd P w fuel t cs
  | 0, _, _, _, _, h, _ => by simp [DataW.trod] at h
  | fuel + 1, t, cs, d, ps, h, hw => by
    unfold Rd
    cases hu : P.underlying t with
    | none => trivial
    | some u =>
      cases u with
      | bool =>
        simp only [DataW.trod, hu] at h
        split at h <;> first | (simp_all; done) | exact ⟨_, rfl⟩ | cases h
      | int k =>
        simp only [DataW.trod, hu] at h
        split at h <;> simp_all
      | string =>
        simp only [DataW.trod, hu] at h
        split at h <;> simp_all
        obtain ⟨_, rfl, _⟩ := h
        have := hw _ (by simp only [DataW.weights, List.mem_singleton]; rfl)
        simpa [reachBytes] using this
      | slice e =>
        rcases DataW.trod_slice hu h with ⟨rfl, _⟩ | ⟨a, len, cap, elems, rest, n, hn, rfl, hx, _, hl, hm, hlen, hel, hsp, _⟩
        · exact ⟨none, 0, 0, rfl, by simp, by simp, by simp, by simp, by simp⟩
        · obtain rfl : fuel = n := by omega
          obtain ⟨rfl, rfl⟩ := Prod.mk.inj hx
          have w1 : (elems.map (·.1)).length + (rest.map (·.1)).length = cap := by simp [hlen, (hsp rfl).1]; omega
          have hb : cap * P.bytesOf e ≤ 140737488351232 := by
            have := List.all_eq_true.1 hw (cap * P.bytesOf e) (by simp only [DataW.weights, hu, List.mem_cons]; rw [w1]; exact .inl rfl)
            exact of_decide_eq_true this
          refine ⟨some a, len, cap, rfl, by omega, hl, Nat.le_trans (Nat.mul_le_mul_right _ hl) hb, fun _ => ⟨a, rfl⟩, fun x i hx hi => ?_⟩
          cases hx
          have h1 := hel i hi
          rw [List.getElem?_eq_getElem (by omega)] at h1
          obtain ⟨ds, h2, h3⟩ := Option.bind_eq_some_iff.1 h1
          refine ⟨ds, h2, rd_of_trod fuel e ds _ _ h3 (all_sub hw fun q hq => ?_)⟩
          simp only [DataW.weights, hu, List.mem_cons, List.mem_append]
          exact .inr (.inl (weights_elem (i := i) (d := (elems[i]'(by omega)).1) (by simp [hlen, hi]) q hq))
      | struct fs =>
        simp only [DataW.trod, hu] at h
        split at h
        · rename_i hlen
          obtain ⟨xs, hxs, hd⟩ := Option.map_eq_some_iff.1 h
          obtain ⟨rfl, rfl⟩ := Prod.mk.inj hd
          obtain ⟨h1, h2⟩ := mapM_at hxs
          refine ⟨hlen, fun f hf => ?_⟩
          obtain ⟨i, hi⟩ := List.getElem?_of_mem hf
          obtain ⟨y, hy, hr⟩ := h2 i f hi
          refine rd_of_trod fuel f.type _ y.1 y.2 hy (all_sub hw fun q hq => ?_)
          simp only [DataW.weights, hu]
          exact DataW.weights_mem_each (j := i) (by simp [hi]) (by simp [hr]) q hq
        · cases h
      | array m e =>
        simp only [DataW.trod, hu] at h
        split at h
        · rename_i hlen
          obtain ⟨xs, hxs, hd⟩ := Option.map_eq_some_iff.1 h
          obtain ⟨rfl, rfl⟩ := Prod.mk.inj hd
          obtain ⟨h1, h2⟩ := mapM_at hxs
          refine ⟨hlen, fun i hi => ?_⟩
          obtain ⟨y, hy, hr⟩ := h2 i i (by simp [hi])
          refine rd_of_trod fuel e _ y.1 y.2 hy (all_sub hw fun q hq => ?_)
          simp only [DataW.weights, hu]
          exact weights_elem (i := i) (by simp [hr]) q hq
        · cases h
      | _ => trivial

theorem weights_at {ts : List TypeId} {ds : List (DataW H)} (h : (DataW.weightsEach P ts ds).all (· ≤ reachBytes) = true) {j : Nat} {t : TypeId} {d : DataW H} (ht : ts[j]? = some t) (hd : ds[j]? = some d) : (d.weights P t).all (· ≤ reachBytes) = true :=
  all_sub h (DataW.weights_mem_each ht hd)

theorem rd_int {n : Nat} {t : TypeId} {cs : List Value} {k : IntKind} (h : Rd P w n t cs) (hu : P.underlying t = some (.int k)) : ∃ a, cs = [.int k a] ∧ (Lit.int k a).wf = true := by
  cases n with
  | zero => exact h.elim
  | succ n => unfold Rd at h; rw [hu] at h; exact h
theorem rd_bool {n : Nat} {t : TypeId} {cs : List Value} (h : Rd P w n t cs) (hu : P.underlying t = some .bool) : ∃ b, cs = [.bool b] := by
  cases n with
  | zero => exact h.elim
  | succ n => unfold Rd at h; rw [hu] at h; exact h
theorem rd_string {n : Nat} {t : TypeId} {cs : List Value} (h : Rd P w n t cs) (hu : P.underlying t = some .string) : ∃ s, cs = [.string s] ∧ s.size ≤ 140737488351232 := by
  cases n with
  | zero => exact h.elim
  | succ n => unfold Rd at h; rw [hu] at h; exact h
theorem rd_struct {n : Nat} {t : TypeId} {cs : List Value} {fs : Array Field} (h : Rd P w n t cs) (hu : P.underlying t = some (.struct fs)) : cs.length = P.cellsOf t ∧ ∀ f ∈ fs.toList, ∃ m, Rd P w m f.type ((cs.drop f.offset).take (P.cellsOf f.type)) := by
  cases n with
  | zero => exact h.elim
  | succ n => unfold Rd at h; rw [hu] at h; exact ⟨h.1, fun f hf => ⟨n, h.2 f hf⟩⟩
theorem rd_array {n : Nat} {t : TypeId} {cs : List Value} {k : Nat} {e : TypeId} (h : Rd P w n t cs) (hu : P.underlying t = some (.array k e)) : cs.length = P.cellsOf t ∧ ∀ i, i < k → ∃ m, Rd P w m e ((cs.drop (i * P.cellsOf e)).take (P.cellsOf e)) := by
  cases n with
  | zero => exact h.elim
  | succ n => unfold Rd at h; rw [hu] at h; exact ⟨h.1, fun i hi => ⟨n, h.2 i hi⟩⟩

theorem cells_at {a : Addr} {k : Nat} {ds : List Value} (h : w.cells? 0 a k = some ds) : ds.length = k ∧ ∀ j u, ds[j]? = some u → w.cell? (a.add j) = some u := by
  unfold World.cells? at h
  rw [if_pos (Nat.zero_le _)] at h
  obtain ⟨h1, h2⟩ := mapM_at h
  refine ⟨by simpa using h1, fun j u hu => ?_⟩
  have hj : j < k := by have := (List.getElem?_eq_some_iff.1 hu).1; simp at h1; omega
  obtain ⟨y, hy, hr⟩ := h2 j j (by simp [hj])
  rw [hr] at hu; cases hu; exact hy

theorem cell_some {a : Addr} {u : Value} (h : w.cell? a = some u) : a.spot = none ∧ a.block < w.heap.size := by
  unfold World.cell? at h
  split at h
  · rename_i heq
    refine ⟨?_, (Array.getElem?_eq_some_iff.1 heq).1⟩
    cases hs : a.spot with
    | none => rfl
    | some x => simp [hs] at h
  · cases h

theorem rd_cap {n : Nat} {t e : TypeId} {a : Option Addr} {len cap : Nat} (h : Rd P w n t [.slice a len cap]) (ht : P.underlying t = some (.slice e)) : len ≤ cap := by
  cases n with
  | zero => exact h.elim
  | succ n =>
    unfold Rd at h
    rw [ht] at h
    obtain ⟨a', len', cap', hv, _, hc, _⟩ := h
    simp at hv
    obtain ⟨rfl, rfl, rfl⟩ := hv
    exact hc

/-- A slice that can be read, element by element. -/
theorem rs_of_rd {α : Type} {size : Nat} {elt : α → List Value} {Q : α → Prop} {n : Nat} {t e : TypeId} {cs : List Value} (h : Rd P w n t cs) (ht : P.underlying t = some (.slice e)) (hsz : P.cellsOf e = size) (hpos : 0 < size)
    (hd : ∀ m ds, Rd P w m e ds → ∃ x, elt x = ds ∧ Q x) : ∃ v xs, cs = [v] ∧ RS w size elt v xs ∧ (∀ x ∈ xs, Q x) ∧ xs.length * P.bytesOf e ≤ 140737488351232 := by
  cases n with
  | zero => exact h.elim
  | succ n =>
    unfold Rd at h
    rw [ht] at h
    obtain ⟨a, len, cap, rfl, hl, _, hb, ha, hel⟩ := h
    refine ⟨.slice a len cap, ?_⟩
    have key : ∀ k, k ≤ len → ∃ xs : List α, xs.length = k ∧ (∀ x ∈ xs, Q x) ∧ ∀ ad, a = some ad → ∀ (i : Nat) (x : α) (j : Nat) (u : Value), xs[i]? = some x → (elt x)[j]? = some u → w.cell? (ad.add (i * size + j)) = some u := by
      intro k
      induction k with
      | zero => exact fun _ => ⟨[], rfl, by simp, by simp⟩
      | succ k ih =>
        intro hk
        obtain ⟨xs, h1, h2, h3⟩ := ih (by omega)
        obtain ⟨ad, rfl⟩ := ha (by omega)
        obtain ⟨ds, h4, h5⟩ := hel ad k rfl (by omega)
        obtain ⟨y, rfl, hy⟩ := hd _ _ h5
        obtain ⟨h6, h7⟩ := cells_at h4
        refine ⟨xs ++ [y], by simp [h1], fun x hx => by
          rcases List.mem_append.1 hx with hx | hx
          · exact h2 x hx
          · rw [List.mem_singleton.1 hx]; exact hy, fun ad' had i x j u hx hu => ?_⟩
        cases had
        by_cases hi : i < k
        · rw [List.getElem?_append_left (by omega)] at hx
          exact h3 ad rfl i x j u hx hu
        · rw [List.getElem?_append_right (by omega)] at hx
          have : i = k := by
            have := (List.getElem?_eq_some_iff.1 hx).1
            simp at this; omega
          subst this
          simp [h1] at hx
          subst hx
          have := h7 j u hu
          rw [add_add, hsz] at this
          exact this
    obtain ⟨xs, h1, h2, h3⟩ := key len (Nat.le_refl _)
    refine ⟨xs, rfl, ⟨by omega, a, cap, by rw [h1], fun hn => ?_⟩, h2, by rw [h1]; exact hb⟩
    obtain ⟨ad, rfl⟩ := ha (by omega)
    obtain ⟨ds, h4, h5⟩ := hel ad 0 rfl (by omega)
    obtain ⟨h6, h7⟩ := cells_at h4
    obtain ⟨u, hu⟩ : ∃ u, ds[0]? = some u := ⟨_, List.getElem?_eq_getElem (by omega)⟩
    have hc := cell_some (h7 0 u hu)
    rcases ad with ⟨b, off, sp⟩
    have e0 : ((⟨b, off, sp⟩ : Addr).add (0 * P.cellsOf e)).add 0 = ⟨b, off, sp⟩ := by simp [Addr.add]
    rw [e0] at hc
    have hs : sp = none := hc.1
    subst hs
    refine ⟨b, off, rfl, hc.2, fun i x j u hx hu => ?_⟩
    have := h3 _ rfl i x j u hx hu
    rwa [Addr.add_lit] at this

/-- A slice argument, as the row hands it over. -/
theorem arg_slice {α : Type} {size : Nat} {elt : α → List Value} {Q : α → Prop} {t e : TypeId} {v : Value} {d : DataW H} {ps : List MemPlace} {base : Nat} (ht : P.underlying t = some (.slice e)) (hsz : P.cellsOf e = size) (hpos : 0 < size)
    (hd : ∀ m ds, Rd P w m e ds → ∃ x, elt x = ds ∧ Q x) (u : Value.okWide P w .any base t v) (k : DataW.Trod enc P w 0 (fun _ => true) true t v d ps) (z : (d.weights P t).all (· ≤ reachBytes) = true) :
    ∃ xs, RS w size elt v xs ∧ (∀ x ∈ xs, Q x) ∧ xs.length * P.bytesOf e ≤ 140737488351232 := by
  obtain ⟨a, len, cap, rfl⟩ := okWide_slice ht u
  obtain ⟨fuel, hf⟩ := k
  obtain ⟨v', xs, e1, h1, h2, h3⟩ := rs_of_rd (rd_of_trod fuel t _ d ps hf z) ht hsz hpos hd
  have : v' = .slice a len cap := by simpa [Value.cells] using e1.symm
  subst this
  exact ⟨xs, h1, h2, h3⟩

end
end Go.Sp
