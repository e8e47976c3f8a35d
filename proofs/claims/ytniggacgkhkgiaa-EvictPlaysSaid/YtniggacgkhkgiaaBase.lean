/- Plain laws of slices in memory, and of rising lists. No condition beyond those each lemma names. -/
import Derived.Test.YtniggacgkhkgiaaInts
namespace Go.Sp
open Go.RowKit
def zI (x : Int) : Value := .int .i64 x

theorem sl_not {h : Array Obj} {b n e size : Nat} {v : Value} {cs : List Value} {c : Array Value} {t : TypeId} {fr} (hb : h[b]? = some (.cells c t fr)) (hs : SL h e size v n cs) (hte : t ≠ e) : v.ownBlock ≠ some b := fun e1 => by
  rcases hs.2 with ⟨rfl, _⟩ | ⟨b', off, cap, cur, rfl, _, _, hb', _⟩
  · simp [Value.ownBlock] at e1
  · simp [Value.ownBlock] at e1
    subst e1
    rw [hb] at hb'
    cases hb'
    exact hte rfl

theorem sl_map {h : Array Obj} {b n e size : Nat} {v : Value} {cs : List Value} {α : Type} {enc : α → Value} {m : List (Int × α)} (hm : IMap h b enc m) (hs : SL h e size v n cs) : v.ownBlock ≠ some b := fun e1 => by
  obtain ⟨es, clock, hb, _⟩ := hm
  rcases hs.2 with ⟨rfl, _⟩ | ⟨b', off, cap, cur, rfl, _, _, hb', _⟩
  · simp [Value.ownBlock] at e1
  · simp [Value.ownBlock] at e1
    subst e1
    rw [hb] at hb'
    cases hb'

/-- a number put into a rising list -/
def insI (a : Int) : List Int → List Int
  | [] => [a]
  | x :: r => if a < x then a :: x :: r else x :: insI a r

theorem insI_cut (a : Int) : ∀ {l : List Int}, l.Pairwise (· < ·) → a ∉ l → l.take (l.countP (· < a)) ++ a :: l.drop (l.countP (· < a)) = insI a l
  | [], _, _ => by simp [insI]
  | x :: r, hs, hn => by
    have hs' := List.pairwise_cons.1 hs
    have hx : a ≠ x := fun e => hn (by simp [e])
    unfold insI
    by_cases h : a < x
    · have h0 : (x :: r).countP (· < a) = 0 := by
        rw [List.countP_eq_zero]
        intro y hy
        rcases List.mem_cons.1 hy with rfl | hy
        · simp; omega
        · have := hs'.1 y hy; simp; omega
      rw [h0, if_pos h]; simp
    · have h1 : (x :: r).countP (· < a) = r.countP (· < a) + 1 := by
        rw [List.countP_cons_of_pos]; simp; omega
      rw [h1, if_neg h, ← insI_cut a hs'.2 (fun e => hn (List.mem_cons_of_mem _ e))]
      simp

theorem mem_insI {a b : Int} : ∀ {l : List Int}, b ∈ insI a l ↔ b = a ∨ b ∈ l
  | [] => by simp [insI]
  | x :: r => by
    unfold insI
    split
    · simp
    · rw [List.mem_cons, List.mem_cons, mem_insI]
      constructor
      · rintro (h | h | h) <;> simp [h]
      · rintro (h | h | h) <;> simp [h]

theorem insI_len (a : Int) : ∀ l : List Int, (insI a l).length = l.length + 1
  | [] => by simp [insI]
  | x :: r => by
    unfold insI
    split
    · simp
    · simp [insI_len a r]

theorem insI_sorted (a : Int) : ∀ {l : List Int}, l.Pairwise (· < ·) → a ∉ l → (insI a l).Pairwise (· < ·)
  | [], _, _ => by simp [insI]
  | x :: r, hs, hn => by
    have hs' := List.pairwise_cons.1 hs
    have hx : a ≠ x := fun e => hn (by simp [e])
    unfold insI
    split
    · rename_i h
      refine List.pairwise_cons.2 ⟨fun y hy => ?_, hs⟩
      rcases List.mem_cons.1 hy with rfl | hy
      · exact h
      · have := hs'.1 y hy; omega
    · rename_i h
      refine List.pairwise_cons.2 ⟨fun y hy => ?_, insI_sorted a hs'.2 (fun e => hn (List.mem_cons_of_mem _ e))⟩
      rcases mem_insI.1 hy with rfl | hy
      · omega
      · exact hs'.1 y hy

/-- a rising list within bounds is short -/
theorem rising_len : ∀ {l : List Int} {lo hi : Int}, l.Pairwise (· < ·) → (∀ a ∈ l, lo ≤ a ∧ a < hi) → lo ≤ hi → (l.length : Int) ≤ hi - lo
  | [], lo, hi, _, _, h => by simp; omega
  | x :: r, lo, hi, hs, hb, h => by
    have hs' := List.pairwise_cons.1 hs
    have hx := hb x List.mem_cons_self
    have := rising_len (l := r) (lo := x + 1) (hi := hi) hs'.2 (fun a ha => ⟨by have := hs'.1 a ha; omega, (hb a (List.mem_cons_of_mem _ ha)).2⟩) (by omega)
    simp; omega

def eFlat {α : Type} (enc : α → List Value) (xs : List α) : List Value := xs.flatMap enc
theorem rs_news {α : Type} {w : World} {size : Nat} {enc : α → List Value} (he : ∀ x, (enc x).length = size) {b off : Nat} {xs : List α} (h : ∀ i x j u, xs[i]? = some x → (enc x)[j]? = some u → w.cell? ⟨b, off + (i * size + j), none⟩ = some u) : ∀ k u, (xs.flatMap enc)[k]? = some u → w.cell? ((⟨b, off, none⟩ : Addr).add k) = some u := by
  intro k u hk
  rw [Addr.add_lit]
  have hl := flat_length he xs
  have hkl : k < xs.length * size := by rw [← hl]; exact (List.getElem?_eq_some_iff.1 hk).1
  have hs : 0 < size := by
    rcases Nat.eq_zero_or_pos size with h0 | h0
    · rw [h0] at hkl; omega
    · exact h0
  have hi : k / size < xs.length := (Nat.div_lt_iff_lt_mul hs).2 hkl
  have hx : xs[k / size]? = some xs[k / size] := List.getElem?_eq_getElem hi
  have := flat_get he xs (k / size) _ (k % size) hx (Nat.mod_lt _ hs)
  rw [Nat.mul_comm, Nat.div_add_mod] at this
  rw [this] at hk
  have h2 := h _ _ _ _ hx hk
  rw [Nat.mul_comm, Nat.div_add_mod] at h2
  exact h2
theorem sl_empty (w : World) (e : TypeId) (size : Nat) : SL (w.alloc (.cells #[] e)).heap e size (.slice (some ⟨w.heap.size, 0, none⟩) 0 0) 0 [] :=
  ⟨by simp, .inr ⟨w.heap.size, 0, 0, #[], rfl, Nat.le_refl _, Nat.zero_le _, heap_new w _ rfl, by simp, fun j u h => by simp at h⟩⟩
theorem sl_two' {h : Array Obj} {e e' n n' s s' : Nat} {v v' : Value} {cs cs' : List Value} (x : SL h e s v n cs) (y : SL h e' s' v' n' cs') (he : e ≠ e') : ∀ g, v.ownBlock = some g → v'.ownBlock ≠ some g := by
  intro g hg
  rcases x.2 with ⟨rfl, _⟩ | ⟨b, off, cap, cur, rfl, _, _, hb, _⟩
  · simp [Value.ownBlock] at hg
  · simp [Value.ownBlock] at hg
    subst hg
    exact sl_not hb y he
/-- a slice literal of structs -/
theorem rs_lits {α : Type} {enc : α → List Value} {size : Nat} (he : ∀ x, (enc x).length = size) (w : World) (xs : List α) (t : TypeId) (hl : xs.length ≤ maxLen) {b cap : Nat} (hb : b = w.heap.size) : RS (w.alloc (.cells (xs.flatMap enc).toArray t)) size enc (.slice (some ⟨b, 0, none⟩) xs.length cap) xs := by
  refine ⟨hl, _, _, rfl, fun hn => ⟨b, 0, rfl, by simp; omega, fun i x j u hx hu => ?_⟩⟩
  have hj : j < size := by rw [← he x]; exact (List.getElem?_eq_some_iff.1 hu).1
  have := flat_get he xs i x j hx hj
  rw [hu] at this
  simp [World.cell?, heap_new w _ hb, this]

/-- a slice at a block of one type is apart from a map, and from blocks of other types -/
theorem map_ne_cells {α : Type} {h : Array Obj} {b b' : Nat} {enc : α → Value} {m : List (Int × α)} {c : Array Value} {t : TypeId} {fr} (hm : IMap h b enc m) (hb : h[b']? = some (.cells c t fr)) : b ≠ b' := fun e => by
  obtain ⟨es, cl, hb2, _⟩ := hm
  rw [e, hb] at hb2; cases hb2
theorem cells_ne {h : Array Obj} {b b' : Nat} {c c' : Array Value} {t t' : TypeId} {fr fr'} (hb : h[b]? = some (.cells c t fr)) (hb' : h[b']? = some (.cells c' t' fr')) (ht : t ≠ t') : b ≠ b' := fun e => by
  rw [e, hb'] at hb; cases hb; exact ht rfl
/-- the cells of a block -/
theorem cell_blk {w : World} {b : Nat} {c : Array Value} {t : TypeId} (h : w.heap[b]? = some (.cells c t (0, 0))) {j : Nat} {u : Value} (hu : c[j]? = some u) : w.cell? ⟨b, j, none⟩ = some u := by simp [World.cell?, h, hu]
theorem froz_blk {w : World} {b : Nat} {c : Array Value} {t : TypeId} (h : w.heap[b]? = some (.cells c t (0, 0))) (j : Nat) : w.frozen? ⟨b, j, none⟩ = false := by simp [World.frozen?, h]
theorem keys_len {α : Type} {m : List (Int × α)} (hs : KS m) {lo hi : Int} (hb : ∀ p ∈ m, lo ≤ p.1 ∧ p.1 < hi) (h : lo ≤ hi) : (m.length : Int) ≤ hi - lo := by
  have := rising_len (l := m.map Prod.fst) (lo := lo) (hi := hi) (List.pairwise_map.2 hs) (fun a ha => by
    obtain ⟨p, hp, rfl⟩ := List.mem_map.1 ha
    exact hb p hp) h
  rwa [List.length_map] at this
section
variable {P : Program} {w : World} {ops : Array Oper} {Q : Exit → Act → World → Prop} {a : Act} {rest : List Oper} {o : Oper}
theorem wpList_ins {α : Type} {enc : α → Value} {M : List (Int × α)} {b : Nat} {K E : TypeId} {k0 : Int} (v : α) (hg : o.guard = none) (t : TypeId) (m k x : Operand) (hop : o.op = .insert t m k x)
    (ht : P.underlying t = some (.map K E)) (hK : P.underlying K = some (.int .i64)) (hm : a.eval m = .map (some b)) (hk : a.eval k = .int .i64 k0) (hx : a.eval x = enc v) (hwf : (Lit.int .i64 k0).wf = true)
    (hM : IMap w.heap b enc M) (h : ∀ w', IMap w'.heap b enc (mput k0 v M) → Only (· = b) w w' → wpList P ops Q rest (a.put o.dst undef) w') : wpList P ops Q (o :: rest) a w :=
  wpList_plain hg fun K' hK' => by
    obtain ⟨w', h1, h2, h3⟩ := hM.update ht hK hwf v
    unfold Oper.wp
    have : (execOp a.eval o).run P w = .ok .skip w' := by simp [execOp, hop, hm, hk, hx, h1, Result.andThen]
    rw [this]
    exact hK' _ _ (h w' h2 h3)
theorem stop_ins (t : TypeId) (m k x : Operand) (hop : o.op = .insert t m k x) (h : Halt (wpList P ops Q (o :: rest) a w)) : wpList P ops Q (o :: rest) a w := h
end
/-- append(s, x...) of a slice that reads as xs, nil too -/
theorem SL.appendR {α : Type} {P : Program} {w : World} {e : TypeId} {size : Nat} {enc : α → List Value} (he : ∀ x, (enc x).length = size) {v src : Value} {n : Nat} {cs : List Value} {xs : List α} {t ty : TypeId} {i : TypeInfo} {z : Value} {bytes : Nat} (x : SL w.heap e size v n cs) (ht : P.underlying t = some (.slice e)) (hi : P.info? e = some i) (hz : i.zero = some z)
    (hsize : i.size = size) (hby : i.bytes = bytes) (hzs : z.cells.size = size) (hr : RS w size enc src xs) (h1c : ∀ x ∈ xs, ∀ u ∈ enc x, u.oneCell' = true) (h63 : n + xs.length ≤ maxLen) (hbs : (n + xs.length) * bytes ≤ 140737488355328) :
    ∃ v' w', (Builtin.append_ #[t, t] ty #[v, src]).run P w = .ok v' w' ∧ SL w'.heap e size v' (n + xs.length) (cs ++ xs.flatMap enc) ∧ Only (fun k => v.ownBlock = some k) w w' ∧ (v'.ownBlock = v.ownBlock ∨ v'.ownBlock = some w.heap.size) := by
  obtain ⟨_, a, cap, rfl, hc⟩ := hr
  cases a with
  | some a =>
    refine x.append (ty := ty) ht hi hz hsize hby hzs a xs.length cap (xs.flatMap enc) (flat_length he xs) (fun j u hu => ?_) (fun u hu => ?_) h63 hbs
    · cases xs with
      | nil => simp at hu
      | cons y r =>
        obtain ⟨b, o, e, _, h3⟩ := hc (by simp)
        simp only [Option.some.injEq] at e
        subst e
        exact rs_news he h3 j u hu
    · obtain ⟨y, hy, hu⟩ := List.mem_flatMap.1 hu
      exact h1c y hy u hu
  | none =>
    have h0 : xs = [] := by
      cases xs with
      | nil => rfl
      | cons y r => obtain ⟨b, o, e, _⟩ := hc (by simp); cases e
    subst h0
    refine ⟨v, w, ?_, by simpa using x, Only.refl _ _, .inl rfl⟩
    obtain ⟨b, c, rfl⟩ := x.form
    rcases x.2 with ⟨hv, rfl⟩ | ⟨b', off, cap', cur, hv, h1, h2, hb, h3, h4⟩
    · simp at hv
      obtain ⟨rfl, rfl⟩ := hv
      simp [Builtin.append_, run_underlying ht, sizeOf, typeInfo, hi, Builtin.lenOf, Builtin.firstCells]
    · simp at hv
      obtain ⟨rfl, rfl⟩ := hv
      simp [Builtin.append_, run_underlying ht, sizeOf, typeInfo, hi, Builtin.lenOf, Builtin.firstCells, loadCells, h1, storeCells]

/-- append(s, x...) at a step of a region that draws, x read as a list, nil too -/
theorem step_appR {α : Type} {enc : α → List Value} {size : Nat} (he : ∀ x, (enc x).length = size) {P : Program} {w : World} {ops : Array Oper} {Q : Exit → Act → World → Prop} {a : Act} {o : Oper} {e : TypeId} {v src : Value} {n : Nat} {cs : List Value} {xs : List α}
    {K : Act → World → Prop} {E : Prop} (hg : o.guard = none) (s x : Operand) (t : TypeId) (hop : o.op = .call { callee := .builtin .append, args := #[s, x], argTypes := #[t, t] })
    {i : TypeInfo} {z : Value} {bytes : Nat} (ht : P.underlying t = some (.slice e)) (hi : P.info? e = some i) (hz : i.zero = some z) (hsize : i.size = size) (hby : i.bytes = bytes) (hzs : z.cells.size = size)
    (hs : a.eval s = v) (hx : SL w.heap e size v n cs) (hxv : a.eval x = src) (hr : RS w size enc src xs) (h1c : ∀ x ∈ xs, ∀ u ∈ enc x, u.oneCell' = true) (h63 : n + xs.length ≤ maxLen) (hbytes : (n + xs.length) * bytes ≤ 140737488355328)
    (h : ∀ v' w', SL w'.heap e size v' (n + xs.length) (cs ++ xs.flatMap enc) → Only (fun k => v.ownBlock = some k) w w' → (v'.ownBlock = v.ownBlock ∨ v'.ownBlock = some w.heap.size) → K (a.put o.dst v') w') :
    if Region.wanted o (yielded ops a.tmps) = true then Oper.wp P o a w K Q else E := by
  have hw : Region.wanted o (yielded ops a.tmps) = true := by simp [Region.wanted, hg]
  rw [if_pos hw]
  obtain ⟨v', w', h2, h3, h4, h5⟩ := SL.appendR (ty := o.type) he hx ht hi hz hsize hby hzs hr h1c h63 hbytes
  unfold Oper.wp execOp
  simp only [hop, resolve, invoke, builtin, Sem.run_bind, Sem.run_pure, Result.andThen_ok, List.map_toArray, List.map_cons, List.map_nil, hs, hxv, h2]
  exact h v' w' h3 h4 h5
theorem sl_empty' (w : World) (e : TypeId) (size : Nat) {b : Nat} (hb : b = w.heap.size) : SL (w.alloc (.cells #[] e)).heap e size (.slice (some ⟨b, 0, none⟩) 0 0) 0 [] := by subst hb; exact sl_empty w e size
theorem only_cell {F : Nat → Prop} {w w' : World} {p : Addr} {v : Value} (o : Only F w w') (hF : ¬ F p.block) (h : w.cell? p = some v) : w'.cell? p = some v := by
  rw [World.cell?_of_block (w := w) (o.block _ (World.block_lt_of_cell? _ _ h) hF)]; exact h
end Go.Sp
