/- Plain laws of slices that a call owns, at any offset of their row, and of what Go's append does to them. No condition beyond those each lemma names. -/
import Derived.Test.YtniggacgkhkgiaaMap
import Derived.ArgAppend
import Derived.Maps.AppendAt
import Derived.Deep.AppendLies
namespace Go.Sp
open Go.MapKept Go.RowKit

/-- v is a slice of n elements, size cells each, that may be written; its cells are cs. -/
def SL (h : Array Obj) (e : TypeId) (size : Nat) (v : Value) (n : Nat) (cs : List Value) : Prop :=
  cs.length = n * size ∧ ((v = .slice none 0 0 ∧ n = 0) ∨ ∃ b off cap cur, v = .slice (some ⟨b, off, none⟩) n cap ∧ n ≤ cap ∧ cap ≤ maxLen ∧
    h[b]? = some (.cells cur e (0, 0)) ∧ off + cap * size ≤ cur.size ∧ ∀ j u, cs[j]? = some u → cur[off + j]? = some u)

section
variable {e : TypeId} {size n : Nat} {v : Value} {cs : List Value} {w w' : World} {P : Program}

theorem SL.nil (h : Array Obj) (e : TypeId) (size : Nat) : SL h e size (.slice none 0 0) 0 [] := ⟨by simp, .inl ⟨rfl, rfl⟩⟩

theorem SL.lt {h : Array Obj} (x : SL h e size v n cs) : ∀ k, v.ownBlock = some k → k < h.size := by
  rintro k hk
  rcases x.2 with ⟨rfl, _⟩ | ⟨b, off, cap, cur, rfl, _, _, hb, _⟩
  · simp [Value.ownBlock] at hk
  · simp [Value.ownBlock] at hk; subst hk; exact (Array.getElem?_eq_some_iff.1 hb).1

theorem SL.of_block {h h' : Array Obj} (x : SL h e size v n cs) (hh : ∀ k, v.ownBlock = some k → h'[k]? = h[k]?) : SL h' e size v n cs := by
  obtain ⟨hl, ⟨rfl, rfl⟩ | ⟨b, off, cap, cur, rfl, h1, h2, hb, h3⟩⟩ := x
  · exact ⟨hl, .inl ⟨rfl, rfl⟩⟩
  · exact ⟨hl, .inr ⟨b, off, cap, cur, rfl, h1, h2, (hh b rfl).trans hb, h3⟩⟩

theorem SL.only {F : Nat → Prop} (x : SL w.heap e size v n cs) (h : Only F w w') (hF : ∀ k, v.ownBlock = some k → ¬ F k) : SL w'.heap e size v n cs :=
  x.of_block fun k hk => h.block k (x.lt k hk) (hF k hk)

theorem SL.alloc (x : SL w.heap e size v n cs) (o : Obj) : SL (w.alloc o).heap e size v n cs :=
  x.of_block fun k hk => Below.heap_alloc _ _ _ (x.lt k hk)

theorem SL.drew (x : SL w.heap e size v n cs) : SL w.drew.heap e size v n cs := x

/-- the form of the value, where it has elements -/
theorem SL.form {h : Array Obj} (x : SL h e size v n cs) : ∃ a cap, v = .slice a n cap := by
  rcases x.2 with ⟨rfl, rfl⟩ | ⟨b, off, cap, cur, rfl, _⟩
  · exact ⟨none, 0, rfl⟩
  · exact ⟨_, _, rfl⟩

theorem SL.form' {h : Array Obj} (x : SL h e size v n cs) (hn : 0 < n) : ∃ b off cap, v = .slice (some ⟨b, off, none⟩) n cap ∧ b < h.size ∧ n ≤ cap ∧ cap ≤ maxLen := by
  rcases x.2 with ⟨rfl, rfl⟩ | ⟨b, off, cap, cur, rfl, h1, h2, hb, _⟩
  · omega
  · exact ⟨b, off, cap, rfl, (Array.getElem?_eq_some_iff.1 hb).1, h1, h2⟩

theorem SL.le {h : Array Obj} (x : SL h e size v n cs) : n ≤ maxLen := by
  rcases x.2 with ⟨rfl, rfl⟩ | ⟨b, off, cap, cur, rfl, h1, h2, hb, _⟩
  · simp
  · omega

theorem SL.cell {b off cap : Nat} (x : SL w.heap e size (.slice (some ⟨b, off, none⟩) n cap) n cs) {j : Nat} {u : Value} (hu : cs[j]? = some u) : w.cell? ⟨b, off + j, none⟩ = some u := by
  rcases x.2 with ⟨hv, _⟩ | ⟨b', off', cap', cur, hv, h1, h2, hb, h3, h4⟩
  · simp at hv
  · simp at hv
    obtain ⟨⟨rfl, rfl⟩, rfl⟩ := hv
    simp [World.cell?, hb, h4 j u hu]

theorem SL.free {b off cap : Nat} (x : SL w.heap e size (.slice (some ⟨b, off, none⟩) n cap) n cs) (k : Nat) : w.frozen? ⟨b, k, none⟩ = false := by
  rcases x.2 with ⟨hv, _⟩ | ⟨b', off', cap', cur, hv, h1, h2, hb, h3, h4⟩
  · simp at hv
  · simp at hv
    obtain ⟨⟨rfl, rfl⟩, rfl⟩ := hv
    simp [World.frozen?, hb]

theorem heap_setCell_cells {b o : Nat} {cur : Array Value} {t : TypeId} {fr : Nat × Nat} (hb : w.heap[b]? = some (.cells cur t fr)) (u : Value) :
    (w.setCell ⟨b, o, none⟩ u).heap[b]? = some (.cells (cur.setIfInBounds o u) t fr) := by
  have hlt : b < w.heap.size := (Array.getElem?_eq_some_iff.1 hb).1
  have he : w.heap[b] = .cells cur t fr := by simpa [Array.getElem?_eq_getElem hlt] using hb
  simp [World.setCell, Array.getElem_modify, he, hlt]

theorem heap_setCells_cells {b : Nat} {t : TypeId} {fr : Nat × Nat} : ∀ (vs : List Value) (o : Nat) (w : World) (cur : Array Value), w.heap[b]? = some (.cells cur t fr) →
    ∃ cur', (w.setCells b o vs).heap[b]? = some (.cells cur' t fr) ∧ cur'.size = cur.size ∧ ∀ j, cur'[j]? = if o ≤ j ∧ j < o + vs.length ∧ j < cur.size then vs[j - o]? else cur[j]?
  | [], o, w, cur, h => ⟨cur, h, rfl, fun j => by rw [if_neg (by simp; omega)]⟩
  | u :: r, o, w, cur, h => by
    obtain ⟨cur', h1, h2, h3⟩ := heap_setCells_cells (b := b) (t := t) (fr := fr) r (o + 1) (w.setCell ⟨b, o, none⟩ u) (cur.setIfInBounds o u) (heap_setCell_cells h u)
    refine ⟨cur', h1, by simpa using h2, fun j => ?_⟩
    rw [h3 j]
    simp only [Array.size_setIfInBounds, List.length_cons]
    by_cases hj : j = o
    · subst hj
      rw [if_neg (by omega)]
      by_cases hs : j < cur.size
      · rw [if_pos (by omega)]; simp [hs]
      · rw [if_neg (by omega)]; simp [hs]
    · by_cases hc : o + 1 ≤ j ∧ j < o + 1 + r.length ∧ j < cur.size
      · rw [if_pos hc, if_pos (by omega)]
        obtain ⟨i, rfl⟩ : ∃ i, j = o + 1 + i := ⟨j - (o + 1), by omega⟩
        have e1 : o + 1 + i - (o + 1) = i := by omega
        have e2 : o + 1 + i - o = i + 1 := by omega
        rw [e1, e2]; simp
      · rw [if_neg hc, if_neg (by omega)]
        simp [Ne.symm hj]

theorem only_setCells (b o : Nat) (vs : List Value) (w : World) : Only (· = b) w (w.setCells b o vs) := by
  induction vs generalizing o w with
  | nil => exact Only.refl _ _
  | cons u r ih => exact (((Only.refl (· = b) w).setCell (p := ⟨b, o, none⟩) (fun _ => rfl) u)).trans' (ih (o + 1) (w.setCell ⟨b, o, none⟩ u)) (fun _ _ h => h)

theorem SL.append {t ty : TypeId} {i : TypeInfo} {z : Value} {bytes : Nat} (x : SL w.heap e size v n cs) (ht : P.underlying t = some (.slice e)) (hi : P.info? e = some i) (hz : i.zero = some z)
    (hsize : i.size = size) (hby : i.bytes = bytes) (hzs : z.cells.size = size)
    (a : Addr) (m c : Nat) (news : List Value) (hl : news.length = m * size) (hnews : ∀ j u, news[j]? = some u → w.cell? (a.add j) = some u) (h1 : ∀ u ∈ news, u.oneCell' = true)
    (h63 : n + m ≤ maxLen) (hbytes : (n + m) * bytes ≤ 140737488355328) :
    ∃ v' w', (Builtin.append_ #[t, t] ty #[v, .slice (some a) m c]).run P w = .ok v' w' ∧ SL w'.heap e size v' (n + m) (cs ++ news) ∧ Only (fun k => v.ownBlock = some k) w w' ∧
      (v'.ownBlock = v.ownBlock ∨ v'.ownBlock = some w.heap.size) := by
  subst hsize
  subst hby
  have hsmall : n + m ≤ 9223372036854775807 := by simp only [maxLen] at h63; omega
  have hlen : (cs ++ news).length = (n + m) * i.size := by rw [List.length_append, x.1, hl, Nat.add_mul]
  have grown : ∀ (old : Nat), old < n + m →
      SL (w.drew.alloc (.cells (cs.toArray ++ news.toArray ++ Builtin.zeroCells z.cells (grownCap w (n + m) old e - (n + m))) e)).heap e i.size
        (.slice (some ⟨w.heap.size, 0, none⟩) (n + m) (grownCap w (n + m) old e)) (n + m) (cs ++ news) := by
    intro old ho
    have hge := grownCap_ge w (n + m) old e
    have hcm : grownCap w (n + m) old e ≤ maxLen := grownCap_le_maxLen w (n + m) old e h63
    refine ⟨hlen, .inr ⟨w.heap.size, 0, _, _, rfl, hge, hcm, heap_alloc_new w.drew _, ?_, ?_⟩⟩
    · simp only [Array.size_append, List.size_toArray, size_zeroCells, hzs, x.1, hl, ← Nat.add_mul]
      rw [Nat.zero_add]
      apply Nat.le_of_eq
      congr 1
      omega
    · intro j u hu
      have hj : j < (cs ++ news).length := (List.getElem?_eq_some_iff.1 hu).1
      rw [Nat.zero_add, Array.getElem?_append_left (by simpa using hj)]
      simpa using hu
  have on : ∀ o : Obj, Only (fun k => v.ownBlock = some k) w (w.drew.alloc o) := fun o => ((Only.refl _ w).drew).alloc o
  rcases x.2 with ⟨rfl, rfl⟩ | ⟨b, off, cap, cur, rfl, hnc, hcm, hb, hsz, hcur⟩
  · have hx : cs = [] := List.eq_nil_of_length_eq_zero (by simpa using x.1)
    subst hx
    by_cases hm : m = 0
    · subst hm
      have hn : news = [] := List.eq_nil_of_length_eq_zero (by simpa using hl)
      subst hn
      refine ⟨.slice none 0 0, w, ?_, SL.nil _ _ _, Only.refl _ _, Or.inl rfl⟩
      simp [Builtin.append_, run_underlying ht, sizeOf, typeInfo, hi, Builtin.lenOf, Builtin.firstCells, loadCells, loadCellsFrom]
    · have hr := run_append_nil (P := P) w t ty e i z ht hi hz a m c news hl hnews (by omega) (by omega) (by have hb := hbytes; simp only [Nat.zero_add] at hb; omega)
      have hgr := grown 0 (by omega)
      simp only [Nat.zero_add, List.nil_append, Array.empty_append] at hgr ⊢
      exact ⟨_, _, hr, hgr, on _, Or.inr rfl⟩
  · by_cases hroom : n + m ≤ cap
    · have hfit : n * i.size + news.length ≤ cap * i.size := by rw [hl, ← Nat.add_mul]; exact Nat.mul_le_mul_right _ hroom
      have hr := run_append_room_cells (P := P) w t ty e i ht hi b off n cap a m c news hl hnews h1 hroom
        (fun j hj => by simp [World.cell?, hb]; omega) (fun j hj => by simp [World.frozen?, hb])
      obtain ⟨cur', g1, g2, g3⟩ := heap_setCells_cells news (off + n * i.size) w cur hb
      refine ⟨_, _, hr, ⟨hlen, .inr ⟨b, off, cap, cur', rfl, hroom, hcm, g1, by omega, ?_⟩⟩, (only_setCells _ _ _ _).mono (fun k _ hk => by simp [Value.ownBlock, hk]), Or.inl rfl⟩
      intro j u hu
      have hj : j < (cs ++ news).length := (List.getElem?_eq_some_iff.1 hu).1
      rw [List.length_append, x.1] at hj
      rw [g3]
      by_cases hlt : j < n * i.size
      · rw [if_neg (by omega)]
        rw [List.getElem?_append_left (by rw [x.1]; exact hlt)] at hu
        exact hcur j u hu
      · rw [if_pos (by omega)]
        rw [List.getElem?_append_right (by rw [x.1]; omega), x.1] at hu
        rw [← hu]; congr 1; omega
    · have holds : ∀ j u, cs[j]? = some u → w.cell? ((⟨b, off, none⟩ : Addr).add j) = some u := fun j u hu => by
        have := hcur j u hu
        simp [World.cell?, Addr.add_lit, hb, this]
      have hr := run_append_grow (P := P) w t ty e i z ht hi hz ⟨b, off, none⟩ n cap cs x.1 holds a m c news hl hnews (by omega) (by omega) (growslice_fits (by omega) hbytes)
      exact ⟨_, _, hr, grown cap (by omega), on _, Or.inr rfl⟩

/-- the cells of elements of one width, laid side by side -/
theorem flat_get {α : Type} {enc : α → List Value} (he : ∀ x, (enc x).length = size) : ∀ (xs : List α) (i : Nat) (x : α) (j : Nat), xs[i]? = some x → j < size → (xs.flatMap enc)[i * size + j]? = (enc x)[j]?
  | [], i, x, j, h, _ => by simp at h
  | y :: r, 0, x, j, h, hj => by
    simp at h; subst h
    rw [Nat.zero_mul, Nat.zero_add, List.flatMap_cons, List.getElem?_append_left (by rw [he]; exact hj)]
  | y :: r, i + 1, x, j, h, hj => by
    have e : (i + 1) * size + j = size + (i * size + j) := by rw [Nat.succ_mul]; omega
    rw [List.flatMap_cons, e, List.getElem?_append_right (by rw [he]; omega), he]
    rw [show size + (i * size + j) - size = i * size + j from by omega]
    exact flat_get he r i x j (by simpa using h) hj

theorem flat_length {α : Type} {enc : α → List Value} (he : ∀ x, (enc x).length = size) : ∀ (xs : List α), (xs.flatMap enc).length = xs.length * size
  | [] => by simp
  | y :: r => by rw [List.flatMap_cons, List.length_append, he, flat_length he r, List.length_cons, Nat.succ_mul]; omega

/-- the cell of an element -/
theorem SL.elem {α : Type} {enc : α → List Value} (he : ∀ x, (enc x).length = size) {xs : List α} {b off cap n : Nat} (x : SL w.heap e size (.slice (some ⟨b, off, none⟩) n cap) n (xs.flatMap enc))
    {i : Nat} {y : α} (hy : xs[i]? = some y) {j : Nat} {u : Value} (hu : (enc y)[j]? = some u) : w.cell? ⟨b, off + (i * size + j), none⟩ = some u :=
  x.cell (by rw [flat_get he xs i y j hy (by have := (List.getElem?_eq_some_iff.1 hu).1; rw [he] at this; exact this)]; exact hu)

/-- a cell of a slice written -/
theorem SL.set {b off cap : Nat} (x : SL w.heap e size (.slice (some ⟨b, off, none⟩) n cap) n cs) {j : Nat} (hj : j < cs.length) (u : Value) :
    SL (w.setCell ⟨b, off + j, none⟩ u).heap e size (.slice (some ⟨b, off, none⟩) n cap) n (cs.set j u) := by
  rcases x.2 with ⟨hv, _⟩ | ⟨b', off', cap', cur, hv, h1, h2, hb, h3, h4⟩
  · simp at hv
  · simp at hv
    obtain ⟨⟨rfl, rfl⟩, rfl⟩ := hv
    have hlen := x.1
    refine ⟨by simpa using hlen, .inr ⟨b, off, cap, _, rfl, h1, h2, heap_setCell_cells hb u, by simpa using h3, fun i v hv => ?_⟩⟩
    have hle : n * size ≤ cap * size := Nat.mul_le_mul_right _ h1
    by_cases hi : i = j
    · subst hi
      rw [List.getElem?_set_self hj] at hv
      cases hv
      rw [Array.getElem?_setIfInBounds_self_of_lt (by omega)]
    · rw [List.getElem?_set_ne (Ne.symm hi)] at hv
      rw [Array.getElem?_setIfInBounds_ne (by omega)]
      exact h4 i v hv

theorem flat_set {α : Type} {enc : α → List Value} (he : ∀ x, (enc x).length = size) (A B : List α) (y y' : α) {j : Nat} (hj : j < size) {u : Value} (hu : (enc y).set j u = enc y') :
    ((A ++ y :: B).flatMap enc).set (A.length * size + j) u = (A ++ y' :: B).flatMap enc := by
  have hA := flat_length he A
  rw [List.flatMap_append, List.flatMap_append, List.flatMap_cons, List.flatMap_cons, List.set_append_right _ _ (by rw [hA]; omega), hA, Nat.add_sub_cancel_left, List.set_append_left _ _ (by rw [he]; exact hj), hu]

/-- an element of a slice changed in one cell -/
theorem SL.setElem {α : Type} {enc : α → List Value} (he : ∀ x, (enc x).length = size) {A B : List α} {y : α} {b off cap : Nat} (x : SL w.heap e size (.slice (some ⟨b, off, none⟩) n cap) n ((A ++ y :: B).flatMap enc)) (y' : α) {j : Nat} (hj : j < size) {u : Value} (hu : (enc y).set j u = enc y') :
    SL (w.setCell ⟨b, off + (A.length * size + j), none⟩ u).heap e size (.slice (some ⟨b, off, none⟩) n cap) n ((A ++ y' :: B).flatMap enc) := by
  rw [← flat_set he A B y y' hj hu]
  refine x.set ?_ u
  rw [flat_length he]
  simp only [List.length_append, List.length_cons, Nat.add_mul]
  omega

/-! ### at the operation -/
variable {ops : Array Oper} {Q : Exit → Act → World → Prop} {a : Act} {rest : List Oper} {o : Oper}

theorem wpList_run (hg : o.guard = none) {v : Value} {w' : World} (hrun : (execOp a.eval o).run P w = .ok (.value v) w') (h : wpList P ops Q rest (a.put o.dst v) w') : wpList P ops Q (o :: rest) a w :=
  wpList_plain hg fun K hK => by
    unfold Oper.wp
    rw [hrun]
    exact hK _ _ h

theorem wpList_upd {α : Type} {enc : α → Value} {M : List (Int × α)} {b : Nat} {K E : TypeId} {k0 : Int} (v : α) (hg : o.guard = none) (t : TypeId) (m k x : Operand) (hop : o.op = .mapUpdate t m k x)
    (ht : P.underlying t = some (.map K E)) (hK : P.underlying K = some (.int .i64)) (hm : a.eval m = .map (some b)) (hk : a.eval k = .int .i64 k0) (hx : a.eval x = enc v) (hwf : (Lit.int .i64 k0).wf = true)
    (hM : IMap w.heap b enc M) (h : ∀ w', IMap w'.heap b enc (mput k0 v M) → Only (· = b) w w' → wpList P ops Q rest (a.put o.dst undef) w') : wpList P ops Q (o :: rest) a w :=
  wpList_plain hg fun K' hK' => by
    obtain ⟨w', h1, h2, h3⟩ := hM.update ht hK hwf v
    unfold Oper.wp
    have : (execOp a.eval o).run P w = .ok .skip w' := by simp [execOp, hop, hm, hk, hx, h1, Result.andThen]
    rw [this]
    exact hK' _ _ (h w' h2 h3)

/-- a place where a walk stops -/
def Halt (p : Prop) : Prop := p
theorem halt {p : Prop} (h : Halt p) : p := h
theorem Halt.go {p : Prop} (h : p) : Halt p := h

theorem wpList_app (hg : o.guard = none) (s x : Operand) (t : TypeId) (hop : o.op = .call { callee := .builtin .append, args := #[s, x], argTypes := #[t, t] }) {R : Value → World → Prop}
    (hrun : ∃ v' w', (Builtin.append_ #[t, t] o.type #[a.eval s, a.eval x]).run P w = .ok v' w' ∧ R v' w') (h : ∀ v' w', R v' w' → wpList P ops Q rest (a.put o.dst v') w') : wpList P ops Q (o :: rest) a w :=
  wpList_plain hg fun K hK => by
    obtain ⟨v', w', h1, h2⟩ := hrun
    unfold Oper.wp execOp
    simp only [hop, resolve, invoke, builtin, Sem.run_bind, Sem.run_pure, Result.andThen_ok, List.map_toArray, List.map_cons, List.map_nil, h1]
    exact hK _ _ (h v' w' h2)

theorem wpList_dele {α : Type} {enc : α → Value} {M : List (Int × α)} {b : Nat} {E : TypeId} {k0 : Int} (hg : o.guard = none) (m k : Operand) (t K : TypeId) (hop : o.op = .call { callee := .builtin .delete, args := #[m, k], argTypes := #[t, K] })
    (ht : P.underlying t = some (.map K E)) (hK : P.underlying K = some (.int .i64)) (hm : a.eval m = .map (some b)) (hk : a.eval k = .int .i64 k0)
    (hM : IMap w.heap b enc M) (h : ∀ w', IMap w'.heap b enc (mdel k0 M) → Only (· = b) w w' → wpList P ops Q rest (a.put o.dst (.tuple #[])) w') : wpList P ops Q (o :: rest) a w :=
  wpList_plain hg fun K' hK' => by
    obtain ⟨w', h1, h2, h3⟩ := hM.delete (ty := o.type) ht hK k0
    unfold Oper.wp execOp
    simp only [hop, resolve, invoke, builtin, Sem.run_bind, Sem.run_pure, Result.andThen_ok, List.map_toArray, List.map_cons, List.map_nil, hm, hk, h1]
    exact hK' _ _ (h w' h2 h3)

/-- append(s, x..), x in memory at ad -/
theorem wpList_appd (hg : o.guard = none) (s x : Operand) (t : TypeId) (hop : o.op = .call { callee := .builtin .append, args := #[s, x], argTypes := #[t, t] })
    {i : TypeInfo} {z : Value} {bytes : Nat} (ht : P.underlying t = some (.slice e)) (hi : P.info? e = some i) (hz : i.zero = some z) (hsize : i.size = size) (hby : i.bytes = bytes) (hzs : z.cells.size = size)
    (hs : a.eval s = v) (hx : SL w.heap e size v n cs) {ad : Addr} {m c : Nat} {news : List Value} (hxv : a.eval x = .slice (some ad) m c) (hl : news.length = m * size) (hnews : ∀ j u, news[j]? = some u → w.cell? (ad.add j) = some u)
    (h1 : ∀ u ∈ news, u.oneCell' = true) (h63 : n + m ≤ maxLen) (hbytes : (n + m) * bytes ≤ 140737488355328)
    (h : ∀ v' w', SL w'.heap e size v' (n + m) (cs ++ news) → Only (fun k => v.ownBlock = some k) w w' → (v'.ownBlock = v.ownBlock ∨ v'.ownBlock = some w.heap.size) → wpList P ops Q rest (a.put o.dst v') w') : wpList P ops Q (o :: rest) a w :=
  wpList_app hg s x t hop
    (R := fun v' w' => SL w'.heap e size v' (n + m) (cs ++ news) ∧ Only (fun k => v.ownBlock = some k) w w' ∧ (v'.ownBlock = v.ownBlock ∨ v'.ownBlock = some w.heap.size))
    (by rw [hs, hxv]; exact hx.append ht hi hz hsize hby hzs ad m c news hl hnews h1 h63 hbytes) (fun v' w' q => h v' w' q.1 q.2.1 q.2.2)

/-- append at a step of a region that draws its order -/
theorem step_appd {K : Act → World → Prop} {E : Prop} (hg : o.guard = none) (s x : Operand) (t : TypeId) (hop : o.op = .call { callee := .builtin .append, args := #[s, x], argTypes := #[t, t] })
    {i : TypeInfo} {z : Value} {bytes : Nat} (ht : P.underlying t = some (.slice e)) (hi : P.info? e = some i) (hz : i.zero = some z) (hsize : i.size = size) (hby : i.bytes = bytes) (hzs : z.cells.size = size)
    (hs : a.eval s = v) (hx : SL w.heap e size v n cs) {ad : Addr} {m c : Nat} {news : List Value} (hm : 0 < m) (hxv : a.eval x = .slice (some ad) m c) (hl : news.length = m * size) (hnews : ∀ j u, news[j]? = some u → w.cell? (ad.add j) = some u)
    (h1 : ∀ u ∈ news, u.oneCell' = true) (h63 : n + m ≤ maxLen) (hbytes : (n + m) * bytes ≤ 140737488355328) {B : Nat} (hB : w.heap.size = B)
    (h : ∀ b off cap w', SL w'.heap e size (.slice (some ⟨b, off, none⟩) (n + m) cap) (n + m) (cs ++ news) → Only (fun k => v.ownBlock = some k) w w' → (v.ownBlock = some b ∨ b = B) → K (a.put o.dst (.slice (some ⟨b, off, none⟩) (n + m) cap)) w') :
    if Region.wanted o (yielded ops a.tmps) = true then Oper.wp P o a w K Q else E := by
  have hw : Region.wanted o (yielded ops a.tmps) = true := by simp [Region.wanted, hg]
  rw [if_pos hw]
  subst hB
  obtain ⟨v', w', h2, h3, h4, h5⟩ := hx.append (ty := o.type) ht hi hz hsize hby hzs ad m c news hl hnews h1 h63 hbytes
  obtain ⟨b, off, cap, rfl, _⟩ := h3.form' (by omega)
  unfold Oper.wp execOp
  simp only [hop, resolve, invoke, builtin, Sem.run_bind, Sem.run_pure, Result.andThen_ok, List.map_toArray, List.map_cons, List.map_nil, hs, hxv, h2]
  refine h b off cap w' h3 h4 (h5.imp (fun e => e.symm) (fun e => ?_))
  simpa [Value.ownBlock] using e

/-- the two parts of a fact on an element type's row of the table -/
theorem info_at {f : Nat × Nat × Nat} (h : (P.info? e).bind (fun i => i.zero.map fun z => (i.size, i.bytes, z.cells.size)) = some f) : ∃ i z, P.info? e = some i ∧ i.zero = some z ∧ i.size = f.1 ∧ i.bytes = f.2.1 ∧ z.cells.size = f.2.2 := by
  cases hi : P.info? e with
  | none => simp [hi] at h
  | some i =>
    cases hz : i.zero with
    | none => simp [hi, hz] at h
    | some z => simp [hi, hz] at h; subst h; exact ⟨i, z, rfl, hz, rfl, rfl, rfl⟩

theorem cells_new (w : World) (cs : List Value) (t : TypeId) {b : Nat} (hb : b = w.heap.size) : ∀ j u, cs[j]? = some u → (w.alloc (.cells cs.toArray t)).cell? ((⟨b, 0, none⟩ : Addr).add j) = some u := fun j u hu => by
  simp [World.cell?, Addr.add_lit, heap_new w _ hb, hu]

end
end Go.Sp
