/- Plain laws of slices in memory, and of rising lists. No condition beyond those each lemma names. -/
import Derived.Test.YtniggacgkhkgiaaPkJobPlays2
import Derived.Test.YtniggacgkhkgiaaPkJobPlays5
namespace Go.Sp
open Go.RowKit
def zI (x : Int) : Value := .int .i64 x

theorem sl_not {h : Array Obj} {b n e size : Nat} {v : Value} {cs : List Value} {c : Array Value} {t : TypeId} {fr} (hb : h[b]? = some (.cells c t fr)) (hs : SL h e size v n cs) (hte : t ≠ e) : v.ownBlock ≠ some b := fun e1 => by
  rcases hs.2 with ⟨rfl, _⟩ | ⟨b', off, cap, cur, rfl, _, _, hb', _⟩
  · simp [Value.ownBlock] at e1
  · simp [Value.ownBlock] at e1
    subst e1
    rw [hb] at hb'
    cases hb'
    exact hte rfl

theorem sl_map {h : Array Obj} {b n e size : Nat} {v : Value} {cs : List Value} {α : Type} {enc : α → Value} {m : List (Int × α)} (hm : IMap h b enc m) (hs : SL h e size v n cs) : v.ownBlock ≠ some b := fun e1 => by
  obtain ⟨es, clock, hb, _⟩ := hm
  rcases hs.2 with ⟨rfl, _⟩ | ⟨b', off, cap, cur, rfl, _, _, hb', _⟩
  · simp [Value.ownBlock] at e1
  · simp [Value.ownBlock] at e1
    subst e1
    rw [hb] at hb'
    cases hb'

/-- a number put into a rising list -/
def insI (a : Int) : List Int → List Int
  | [] => [a]
  | x :: r => if a < x then a :: x :: r else x :: insI a r

theorem insI_cut (a : Int) : ∀ {l : List Int}, l.Pairwise (· < ·) → a ∉ l → l.take (l.countP (· < a)) ++ a :: l.drop (l.countP (· < a)) = insI a l
  | [], _, _ => by simp [insI]
  | x :: r, hs, hn => by
    have hs' := List.pairwise_cons.1 hs
    have hx : a ≠ x := fun e => hn (by simp [e])
    unfold insI
    by_cases h : a < x
    · have h0 : (x :: r).countP (· < a) = 0 := by
        rw [List.countP_eq_zero]
        intro y hy
        rcases List.mem_cons.1 hy with rfl | hy
        · simp; omega
        · have := hs'.1 y hy; simp; omega
      rw [h0, if_pos h]; simp
    · have h1 : (x :: r).countP (· < a) = r.countP (· < a) + 1 := by
        rw [List.countP_cons_of_pos]; simp; omega
      rw [h1, if_neg h, ← insI_cut a hs'.2 (fun e => hn (List.mem_cons_of_mem _ e))]
      simp

theorem mem_insI {a b : Int} : ∀ {l : List Int}, b ∈ insI a l ↔ b = a ∨ b ∈ l
  | [] => by simp [insI]
  | x :: r => by
    unfold insI
    split
    · simp
    · rw [List.mem_cons, List.mem_cons, mem_insI]
      constructor
      · rintro (h | h | h) <;> simp [h]
      · rintro (h | h | h) <;> simp [h]

theorem insI_len (a : Int) : ∀ l : List Int, (insI a l).length = l.length + 1
  | [] => by simp [insI]
  | x :: r => by
    unfold insI
    split
    · simp
    · simp [insI_len a r]

theorem insI_sorted (a : Int) : ∀ {l : List Int}, l.Pairwise (· < ·) → a ∉ l → (insI a l).Pairwise (· < ·)
  | [], _, _ => by simp [insI]
  | x :: r, hs, hn => by
    have hs' := List.pairwise_cons.1 hs
    have hx : a ≠ x := fun e => hn (by simp [e])
    unfold insI
    split
    · rename_i h
      refine List.pairwise_cons.2 ⟨fun y hy => ?_, hs⟩
      rcases List.mem_cons.1 hy with rfl | hy
      · exact h
      · have := hs'.1 y hy; omega
    · rename_i h
      refine List.pairwise_cons.2 ⟨fun y hy => ?_, insI_sorted a hs'.2 (fun e => hn (List.mem_cons_of_mem _ e))⟩
      rcases mem_insI.1 hy with rfl | hy
      · omega
      · exact hs'.1 y hy

/-- a rising list within bounds is short -/
theorem rising_len : ∀ {l : List Int} {lo hi : Int}, l.Pairwise (· < ·) → (∀ a ∈ l, lo ≤ a ∧ a < hi) → lo ≤ hi → (l.length : Int) ≤ hi - lo
  | [], lo, hi, _, _, h => by simp; omega
  | x :: r, lo, hi, hs, hb, h => by
    have hs' := List.pairwise_cons.1 hs
    have hx := hb x List.mem_cons_self
    have := rising_len (l := r) (lo := x + 1) (hi := hi) hs'.2 (fun a ha => ⟨by have := hs'.1 a ha; omega, (hb a (List.mem_cons_of_mem _ ha)).2⟩) (by omega)
    simp; omega

def eFlat {α : Type} (enc : α → List Value) (xs : List α) : List Value := xs.flatMap enc
theorem rs_news {α : Type} {w : World} {size : Nat} {enc : α → List Value} (he : ∀ x, (enc x).length = size) {b off : Nat} {xs : List α} (h : ∀ i x j u, xs[i]? = some x → (enc x)[j]? = some u → w.cell? ⟨b, off + (i * size + j), none⟩ = some u) : ∀ k u, (xs.flatMap enc)[k]? = some u → w.cell? ((⟨b, off, none⟩ : Addr).add k) = some u := by
  intro k u hk
  rw [Addr.add_lit]
  have hl := flat_length he xs
  have hkl : k < xs.length * size := by rw [← hl]; exact (List.getElem?_eq_some_iff.1 hk).1
  have hs : 0 < size := by
    rcases Nat.eq_zero_or_pos size with h0 | h0
    · rw [h0] at hkl; omega
    · exact h0
  have hi : k / size < xs.length := (Nat.div_lt_iff_lt_mul hs).2 hkl
  have hx : xs[k / size]? = some xs[k / size] := List.getElem?_eq_getElem hi
  have := flat_get he xs (k / size) _ (k % size) hx (Nat.mod_lt _ hs)
  rw [Nat.mul_comm, Nat.div_add_mod] at this
  rw [this] at hk
  have h2 := h _ _ _ _ hx hk
  rw [Nat.mul_comm, Nat.div_add_mod] at h2
  exact h2
theorem sl_empty (w : World) (e : TypeId) (size : Nat) : SL (w.alloc (.cells #[] e)).heap e size (.slice (some ⟨w.heap.size, 0, none⟩) 0 0) 0 [] :=
  ⟨by simp, .inr ⟨w.heap.size, 0, 0, #[], rfl, Nat.le_refl _, Nat.zero_le _, heap_new w _ rfl, by simp, fun j u h => by simp at h⟩⟩
theorem sl_two' {h : Array Obj} {e e' n n' s s' : Nat} {v v' : Value} {cs cs' : List Value} (x : SL h e s v n cs) (y : SL h e' s' v' n' cs') (he : e ≠ e') : ∀ g, v.ownBlock = some g → v'.ownBlock ≠ some g := by
  intro g hg
  rcases x.2 with ⟨rfl, _⟩ | ⟨b, off, cap, cur, rfl, _, _, hb, _⟩
  · simp [Value.ownBlock] at hg
  · simp [Value.ownBlock] at hg
    subst hg
    exact sl_not hb y he
/-- a slice literal of structs -/
theorem rs_lits {α : Type} {enc : α → List Value} {size : Nat} (he : ∀ x, (enc x).length = size) (w : World) (xs : List α) (t : TypeId) (hl : xs.length ≤ maxLen) {b cap : Nat} (hb : b = w.heap.size) : RS (w.alloc (.cells (xs.flatMap enc).toArray t)) size enc (.slice (some ⟨b, 0, none⟩) xs.length cap) xs := by
  refine ⟨hl, _, _, rfl, fun hn => ⟨b, 0, rfl, by simp; omega, fun i x j u hx hu => ?_⟩⟩
  have hj : j < size := by rw [← he x]; exact (List.getElem?_eq_some_iff.1 hu).1
  have := flat_get he xs i x j hx hj
  rw [hu] at this
  simp [World.cell?, heap_new w _ hb, this]

/-- a slice at a block of one type is apart from a map, and from blocks of other types -/
theorem map_ne_cells {α : Type} {h : Array Obj} {b b' : Nat} {enc : α → Value} {m : List (Int × α)} {c : Array Value} {t : TypeId} {fr} (hm : IMap h b enc m) (hb : h[b']? = some (.cells c t fr)) : b ≠ b' := fun e => by
  obtain ⟨es, cl, hb2, _⟩ := hm
  rw [e, hb] at hb2; cases hb2
theorem cells_ne {h : Array Obj} {b b' : Nat} {c c' : Array Value} {t t' : TypeId} {fr fr'} (hb : h[b]? = some (.cells c t fr)) (hb' : h[b']? = some (.cells c' t' fr')) (ht : t ≠ t') : b ≠ b' := fun e => by
  rw [e, hb'] at hb; cases hb; exact ht rfl
/-- the cells of a block -/
theorem cell_blk {w : World} {b : Nat} {c : Array Value} {t : TypeId} (h : w.heap[b]? = some (.cells c t (0, 0))) {j : Nat} {u : Value} (hu : c[j]? = some u) : w.cell? ⟨b, j, none⟩ = some u := by simp [World.cell?, h, hu]
theorem froz_blk {w : World} {b : Nat} {c : Array Value} {t : TypeId} (h : w.heap[b]? = some (.cells c t (0, 0))) (j : Nat) : w.frozen? ⟨b, j, none⟩ = false := by simp [World.frozen?, h]
theorem keys_len {α : Type} {m : List (Int × α)} (hs : KS m) {lo hi : Int} (hb : ∀ p ∈ m, lo ≤ p.1 ∧ p.1 < hi) (h : lo ≤ hi) : (m.length : Int) ≤ hi - lo := by
  have := rising_len (l := m.map Prod.fst) (lo := lo) (hi := hi) (List.pairwise_map.2 hs) (fun a ha => by
    obtain ⟨p, hp, rfl⟩ := List.mem_map.1 ha
    exact hb p hp) h
  rwa [List.length_map] at this
section
variable {P : Program} {w : World} {ops : Array Oper} {Q : Exit → Act → World → Prop} {a : Act} {rest : List Oper} {o : Oper}
theorem wpList_ins {α : Type} {enc : α → Value} {M : List (Int × α)} {b : Nat} {K E : TypeId} {k0 : Int} (v : α) (hg : o.guard = none) (t : TypeId) (m k x : Operand) (hop : o.op = .insert t m k x)
    (ht : P.underlying t = some (.map K E)) (hK : P.underlying K = some (.int .i64)) (hm : a.eval m = .map (some b)) (hk : a.eval k = .int .i64 k0) (hx : a.eval x = enc v) (hwf : (Lit.int .i64 k0).wf = true)
    (hM : IMap w.heap b enc M) (h : ∀ w', IMap w'.heap b enc (mput k0 v M) → Only (· = b) w w' → wpList P ops Q rest (a.put o.dst undef) w') : wpList P ops Q (o :: rest) a w :=
  wpList_plain hg fun K' hK' => by
    obtain ⟨w', h1, h2, h3⟩ := hM.update ht hK hwf v
    unfold Oper.wp
    have : (execOp a.eval o).run P w = .ok .skip w' := by simp [execOp, hop, hm, hk, hx, h1, Result.andThen]
    rw [this]
    exact hK' _ _ (h w' h2 h3)
theorem stop_ins (t : TypeId) (m k x : Operand) (hop : o.op = .insert t m k x) (h : Halt (wpList P ops Q (o :: rest) a w)) : wpList P ops Q (o :: rest) a w := h
end
/-- append(s, x...) of a slice that reads as xs, nil too -/
theorem SL.appendR {α : Type} {P : Program} {w : World} {e : TypeId} {size : Nat} {enc : α → List Value} (he : ∀ x, (enc x).length = size) {v src : Value} {n : Nat} {cs : List Value} {xs : List α} {t ty : TypeId} {i : TypeInfo} {z : Value} {bytes : Nat} (x : SL w.heap e size v n cs) (ht : P.underlying t = some (.slice e)) (hi : P.info? e = some i) (hz : i.zero = some z)
    (hsize : i.size = size) (hby : i.bytes = bytes) (hzs : z.cells.size = size) (hr : RS w size enc src xs) (h1c : ∀ x ∈ xs, ∀ u ∈ enc x, u.oneCell' = true) (h63 : n + xs.length ≤ maxLen) (hbs : (n + xs.length) * bytes ≤ 140737488355328) :
    ∃ v' w', (Builtin.append_ #[t, t] ty #[v, src]).run P w = .ok v' w' ∧ SL w'.heap e size v' (n + xs.length) (cs ++ xs.flatMap enc) ∧ Only (fun k => v.ownBlock = some k) w w' ∧ (v'.ownBlock = v.ownBlock ∨ v'.ownBlock = some w.heap.size) := by
  obtain ⟨_, a, cap, rfl, hc⟩ := hr
  cases a with
  | some a =>
    refine x.append (ty := ty) ht hi hz hsize hby hzs a xs.length cap (xs.flatMap enc) (flat_length he xs) (fun j u hu => ?_) (fun u hu => ?_) h63 hbs
    · cases xs with
      | nil => simp at hu
      | cons y r =>
        obtain ⟨b, o, e, _, h3⟩ := hc (by simp)
        simp only [Option.some.injEq] at e
        subst e
        exact rs_news he h3 j u hu
    · obtain ⟨y, hy, hu⟩ := List.mem_flatMap.1 hu
      exact h1c y hy u hu
  | none =>
    have h0 : xs = [] := by
      cases xs with
      | nil => rfl
      | cons y r => obtain ⟨b, o, e, _⟩ := hc (by simp); cases e
    subst h0
    refine ⟨v, w, ?_, by simpa using x, Only.refl _ _, .inl rfl⟩
    obtain ⟨b, c, rfl⟩ := x.form
    rcases x.2 with ⟨hv, rfl⟩ | ⟨b', off, cap', cur, hv, h1, h2, hb, h3, h4⟩
    · simp at hv
      obtain ⟨rfl, rfl⟩ := hv
      simp [Builtin.append_, run_underlying ht, sizeOf, typeInfo, hi, Builtin.lenOf, Builtin.firstCells]
    · simp at hv
      obtain ⟨rfl, rfl⟩ := hv
      simp [Builtin.append_, run_underlying ht, sizeOf, typeInfo, hi, Builtin.lenOf, Builtin.firstCells, loadCells, h1, storeCells]

/-- append(s, x...) at a step of a region that draws, x read as a list, nil too -/
theorem step_appR {α : Type} {enc : α → List Value} {size : Nat} (he : ∀ x, (enc x).length = size) {P : Program} {w : World} {ops : Array Oper} {Q : Exit → Act → World → Prop} {a : Act} {o : Oper} {e : TypeId} {v src : Value} {n : Nat} {cs : List Value} {xs : List α}
    {K : Act → World → Prop} {E : Prop} (hg : o.guard = none) (s x : Operand) (t : TypeId) (hop : o.op = .call { callee := .builtin .append, args := #[s, x], argTypes := #[t, t] })
    {i : TypeInfo} {z : Value} {bytes : Nat} (ht : P.underlying t = some (.slice e)) (hi : P.info? e = some i) (hz : i.zero = some z) (hsize : i.size = size) (hby : i.bytes = bytes) (hzs : z.cells.size = size)
    (hs : a.eval s = v) (hx : SL w.heap e size v n cs) (hxv : a.eval x = src) (hr : RS w size enc src xs) (h1c : ∀ x ∈ xs, ∀ u ∈ enc x, u.oneCell' = true) (h63 : n + xs.length ≤ maxLen) (hbytes : (n + xs.length) * bytes ≤ 140737488355328)
    (h : ∀ v' w', SL w'.heap e size v' (n + xs.length) (cs ++ xs.flatMap enc) → Only (fun k => v.ownBlock = some k) w w' → (v'.ownBlock = v.ownBlock ∨ v'.ownBlock = some w.heap.size) → K (a.put o.dst v') w') :
    if Region.wanted o (yielded ops a.tmps) = true then Oper.wp P o a w K Q else E := by
  have hw : Region.wanted o (yielded ops a.tmps) = true := by simp [Region.wanted, hg]
  rw [if_pos hw]
  obtain ⟨v', w', h2, h3, h4, h5⟩ := SL.appendR (ty := o.type) he hx ht hi hz hsize hby hzs hr h1c h63 hbytes
  unfold Oper.wp execOp
  simp only [hop, resolve, invoke, builtin, Sem.run_bind, Sem.run_pure, Result.andThen_ok, List.map_toArray, List.map_cons, List.map_nil, hs, hxv, h2]
  exact h v' w' h3 h4 h5
theorem sl_empty' (w : World) (e : TypeId) (size : Nat) {b : Nat} (hb : b = w.heap.size) : SL (w.alloc (.cells #[] e)).heap e size (.slice (some ⟨b, 0, none⟩) 0 0) 0 [] := by subst hb; exact sl_empty w e size
theorem only_cell {F : Nat → Prop} {w w' : World} {p : Addr} {v : Value} (o : Only F w w') (hF : ¬ F p.block) (h : w.cell? p = some v) : w'.cell? p = some v := by
  rw [World.cell?_of_block (w := w) (o.block _ (World.block_lt_of_cell? _ _ h) hF)]; exact h
end Go.Sp
/- What the reference's part says of a Pinned that names some. Conditions: its numbers lie in memory. -/
namespace Go.Sp
open Go.RowKit
theorem agOk_iff : ∀ {l : List Int} {x : Int}, agOk x l = true ↔ l.Pairwise (· < ·) ∧ ∀ c ∈ l, x < c ∧ c < 4
  | [], x => by simp [agOk]
  | a :: r, x => by
    rw [agOk_cons, Bool.and_eq_true, Bool.and_eq_true, decide_eq_true_eq, decide_eq_true_eq, agOk_iff (l := r), List.pairwise_cons]
    constructor
    · rintro ⟨h1, h2, h3, h4⟩
      refine ⟨⟨fun y hy => (h4 y hy).1, h3⟩, fun c hc => ?_⟩
      rcases List.mem_cons.1 hc with rfl | hc
      · exact ⟨h1, h2⟩
      · have := h4 c hc; omega
    · rintro ⟨⟨h1, h2⟩, h3⟩
      exact ⟨(h3 a List.mem_cons_self).1, (h3 a List.mem_cons_self).2, h2, fun c hc => ⟨h1 c hc, (h3 c (List.mem_cons_of_mem _ hc)).2⟩⟩
theorem agOk_len {l : List Int} (h : agOk (-1) l = true) : l.length ≤ 4 := by
  obtain ⟨h1, h2⟩ := agOk_iff.1 h
  have := rising_len (lo := 0) (hi := 4) h1 (fun x hx => by have := h2 x hx; omega) (by omega)
  omega
theorem agOk_take {l : List Int} (h : agOk (-1) l = true) (q : Nat) : agOk (-1) (l.take q) = true := by
  obtain ⟨h1, h2⟩ := agOk_iff.1 h
  exact agOk_iff.2 ⟨h1.sublist (List.take_sublist _ _), fun c hc => h2 c (List.mem_of_mem_take hc)⟩
/-- what the reference looks at, place by place -/
def agAt (l : List Int) (q : Nat) (x : Int) : Prop := (0 ≤ x ∧ x ≤ 3) ∧ (0 < q → ∀ y, l[q - 1]? = some y → y < x)
theorem agOk_snoc {l : List Int} {q : Nat} {x : Int} (hx : l[q]? = some x) (h : agOk (-1) (l.take q) = true) : agOk (-1) (l.take (q + 1)) = true ↔ agAt l q x := by
  obtain ⟨h1, h2⟩ := agOk_iff.1 h
  have hql : q < l.length := (List.getElem?_eq_some_iff.1 hx).1
  have hlen : (l.take q).length = q := by rw [List.length_take]; omega
  rw [agOk_iff, List.take_add_one, hx]
  simp only [Option.toList_some, List.pairwise_append, List.pairwise_singleton, List.mem_singleton, List.mem_append, true_and]
  constructor
  · rintro ⟨⟨_, h4⟩, h5⟩
    refine ⟨by have := h5 x (.inr rfl); omega, fun hq y hy => h4 y ?_ x rfl⟩
    exact List.mem_of_getElem? (i := q - 1) (by rw [List.getElem?_take_of_lt (by omega)]; exact hy)
  · rintro ⟨h3, h4⟩
    refine ⟨⟨h1, fun a ha b hb => ?_⟩, fun c hc => ?_⟩
    · subst hb
      obtain ⟨i, hi, rfl⟩ := List.mem_iff_getElem.1 ha
      rw [hlen] at hi
      have hl := h4 (by omega) _ (List.getElem?_eq_getElem (by omega))
      by_cases e : i = q - 1
      · subst e; simpa using hl
      · have := List.pairwise_iff_getElem.1 h1 i (q - 1) (by omega) (by omega) (by omega)
        rw [List.getElem_take, List.getElem_take] at this
        rw [List.getElem_take]
        omega
    · rcases hc with hc | rfl
      · exact h2 c hc
      · omega
end Go.Sp
namespace Go.Proofs.Ytniggacgkhkgiaa.Msg
open Go.RowKit Go.Sp Go.Sort

theorem in82_below (w : World) (n lo hi : Int) : Calls Try.prog 90 #[.int .i64 n, .int .i64 lo, .int .i64 hi] w fun e w' => e = .returned (.bool (wi n lo hi)) ∧ Below w.heap.size w w' :=
  (in82_any w n lo hi).mono fun e w' ⟨h1, h2⟩ => ⟨h1, by subst h2; exact Below.refl _ _⟩

set_option maxRecDepth 100000 in
set_option maxHeartbeats 4000000 in
theorem partC_any {w : World} {a t j n : Int} {ca : Option Addr} {cc : Nat} {cl : List Int} {l : Bool} (h : RS w 1 eInt (.slice ca cl.length cc) cl) :
    Calls Try.prog 89 #[.agg #[.int .i64 a, .int .i64 t, .int .i64 j, .int .i64 n, .slice ca cl.length cc, .bool l]] w fun e w' => e = .returned (.bool (rightP ⟨a, t, j, n, .slice ca cl.length cc, cl, l⟩)) ∧ Below w.heap.size w w' := by
  have hA := below_alloc (Below.refl w.heap.size w) (.cells #[.int .i64 a, .int .i64 t, .int .i64 j, .int .i64 n, .slice ca cl.length cc, .bool l] 33)
  have hbx := heap_new w (.cells #[.int .i64 a, .int .i64 t, .int .i64 j, .int .i64 n, .slice ca cl.length cc, .bool l] 33) rfl
  have hl := h.1
  unfold maxLen at hl
  go_enter Try.func89, Try.ntmps89
  cases h0 : wi a 0 3 with
  | false =>
    go_wp2_with (go_at_call 90; refine (in82_any _ _ _ _).mono ?_; rintro e w' ⟨rfl, rfl⟩)
    go_ret
    exact ⟨by simp [rightP, h0], hA⟩
  | true =>
    cases h1 : wi t 1 65535 with
    | false =>
      go_wp2_with (go_at_call 90; refine (in82_any _ _ _ _).mono ?_; rintro e w' ⟨rfl, rfl⟩)
      go_ret
      exact ⟨by simp [rightP, h0, h1], hA⟩
    | true =>
      cases h2 : wi j 1 1073741824 with
      | false =>
        go_wp2_with (go_at_call 90; refine (in82_any _ _ _ _).mono ?_; rintro e w' ⟨rfl, rfl⟩)
        go_ret
        exact ⟨by simp [rightP, h0, h1, h2], hA⟩
      | true =>
        cases h3 : wi n 0 1000 with
        | false =>
          go_wp2_with (go_at_call 90; refine (in82_any _ _ _ _).mono ?_; rintro e w' ⟨rfl, rfl⟩)
          go_ret
          exact ⟨by simp [rightP, h0, h1, h2, h3], hA⟩
        | true =>
          have HP := Lib.hid (show rightP ⟨a, t, j, n, .slice ca cl.length cc, cl, l⟩ = agOk (-1) cl by unfold rightP; simp only [h0, h1, h2, h3, Bool.true_and])
          by_cases h4 : cl.length ≤ 4
          · have b4 : decide (4 < (cl.length : Int)) = false := decide_eq_false (by omega)
            go_wp2_with (go_at_call 90; refine (in82_any _ _ _ _).mono ?_; rintro e w' ⟨rfl, rfl⟩)
            generalize (w.alloc (.cells #[.int .i64 a, .int .i64 t, .int .i64 j, .int .i64 n, .slice ca cl.length cc, .bool l] 33)) = w0 at hA hbx ⊢
            have hlt : w.heap.size < w0.heap.size := (Array.getElem?_eq_some_iff.1 hbx).1
            clear h0 h1 h2 h3
            go_loopw [3] (fun v wr => ∃ q : Nat, q ≤ cl.length ∧ v = .int .i64 q ∧ Below w0.heap.size w0 wr ∧ agOk (-1) (cl.take q) = true) (fun v _ => cl.length - (intOf v).toNat)
            case atStart => exact ⟨0, Nat.zero_le _, rfl, Below.refl _ _, rfl⟩
            case round =>
              obtain ⟨q, hq, rfl, hb, hJ⟩ := hrel
              have hbw := below_trans' hb hA
              have hbxr := (hb.block _ hlt).trans hbx
              have e4 : wr.cell? ⟨w.heap.size, 4, none⟩ = some (.slice ca cl.length cc) := by simp [World.cell?, hbxr]
              by_cases hqN : q < cl.length
              · obtain ⟨b0, o0, c0, hv, hb0, hcl⟩ := (h.only (only_of_below hbw (fun _ => False)) (fun _ _ => id)).int (by omega)
                simp only [Value.slice.injEq, true_and] at hv
                obtain ⟨rfl, rfl⟩ := hv
                obtain ⟨x, hx⟩ : ∃ x, cl[q]? = some x := ⟨_, List.getElem?_eq_getElem hqN⟩
                have hS := agOk_snoc hx hJ
                have hno : ¬ agAt cl q x → agOk (-1) cl = false := fun hn => by
                  rw [Bool.eq_false_iff]
                  exact fun e => hn (hS.1 (agOk_take e _))
                have gx := hcl q x hx
                have HS := Lib.hid hS
                have HNO := Lib.hid hno
                have HB := Lib.hid (And.intro hbw hb)
                have k4 := fun d os => cell_regrown e4 d os
                have kx := fun d os => cell_regrown gx d os
                have HR := fun d os => in82_below (grow (redrawn wr d) os) x 0 3
                have HY := Lib.hid (fun (y : Int) (e : cl[q - 1]? = some y) => hcl (q - 1) y e)
                clear hS hno hJ hb hbw hbx hbxr h hA gx hcl
                cases hw : wi x 0 3 with
                | false =>
                  rw [hw] at HR
                  have cQ := fun d os => Calls.regrown_of (HR d os)
                  have HE := Lib.hid (HNO.out (fun e => by have := wi_true.2 e.1; rw [hw] at this; cases this))
                  clear HR hw hx
                  go_upto_region 6 with (fail)
                  refine wp_region_quiet_below (by kernel_rfl) (by kernel_rfl) ?_
                  repeat (first | go_big_quiet_step (exact cQ _ _) | quiet_step (exact cQ _ _))
                  refine wpQuiet_nil ?_
                  intro w2 hw2
                  obtain ⟨p, rfl⟩ := hw2
                  have hbr := below_regrown wr p.d p.os
                  generalize grow (redrawn wr p.d) p.os = w2 at hbr ⊢
                  clear k4 kx cQ
                  have hbe := below_trans' hbr HB.out.1
                  go_wp2
                  go_ret
                  exact ⟨by rw [HP.out, HE.out]; rfl, hbe⟩
                | true =>
                  rw [hw] at HR
                  have cQ := fun d os => Calls.regrown_of (HR d os)
                  have hwx := wi_true.1 hw
                  clear HR hw
                  by_cases hq0 : q = 0
                  · have HE := Lib.hid (HS.out.2 ⟨hwx, fun e => by omega⟩)
                    have bq : decide (0 < (q : Int)) = false := decide_eq_false (by omega)
                    have bq' : decide (0 < q) = false := decide_eq_false (by omega)
                    clear hx hwx hq0
                    go_upto_region 6 with (fail)
                    refine wp_region_quiet_below (by kernel_rfl) (by kernel_rfl) ?_
                    repeat (first | go_big_quiet_step (exact cQ _ _) | quiet_step (exact cQ _ _))
                    refine wpQuiet_nil ?_
                    intro w2 hw2
                    obtain ⟨p, rfl⟩ := hw2
                    have hbr := below_regrown wr p.d p.os
                    generalize grow (redrawn wr p.d) p.os = w2 at hbr ⊢
                    clear k4 kx cQ
                    have hbe := below_trans' hbr HB.out.2
                    go_wp2
                    exact ⟨⟨q + 1, by omega, by go_num, hbe, HE.out⟩, by simp [intOf]; omega⟩
                  · obtain ⟨q, rfl⟩ : ∃ m, q = m + 1 := ⟨q - 1, by omega⟩
                    obtain ⟨y, hy⟩ : ∃ y, cl[q]? = some y := ⟨_, List.getElem?_eq_getElem (by omega)⟩
                    have gy := HY.out y hy
                    simp only [Nat.add_sub_cancel] at gy
                    have ky := fun d os => cell_regrown gy d os
                    by_cases hyx : y < x
                    · have HE := Lib.hid (HS.out.2 ⟨hwx, fun _ y' e => by simp only [Nat.add_sub_cancel] at e; rw [hy] at e; cases e; exact hyx⟩)
                      have b6 : decide (x ≤ y) = false := decide_eq_false (by omega)
                      clear hx hwx hy gy
                      go_upto_region 6 with (fail)
                      refine wp_region_quiet_below (by kernel_rfl) (by kernel_rfl) ?_
                      repeat (first | go_big_quiet_step (exact cQ _ _) | quiet_step (exact cQ _ _))
                      refine wpQuiet_nil ?_
                      intro w2 hw2
                      obtain ⟨p, rfl⟩ := hw2
                      have hbr := below_regrown wr p.d p.os
                      generalize grow (redrawn wr p.d) p.os = w2 at hbr ⊢
                      clear k4 kx ky cQ
                      have hbe := below_trans' hbr HB.out.2
                      go_wp2
                      exact ⟨⟨q + 1 + 1, by omega, by go_num, hbe, HE.out⟩, by simp [intOf]; omega⟩
                    · have HE := Lib.hid (HNO.out (fun e => hyx (e.2 (by omega) y (by simpa using hy))))
                      have b6 : decide (x ≤ y) = true := decide_eq_true (by omega)
                      clear hx hwx hy gy
                      go_upto_region 6 with (fail)
                      refine wp_region_quiet_below (by kernel_rfl) (by kernel_rfl) ?_
                      repeat (first | go_big_quiet_step (exact cQ _ _) | quiet_step (exact cQ _ _))
                      refine wpQuiet_nil ?_
                      intro w2 hw2
                      obtain ⟨p, rfl⟩ := hw2
                      have hbr := below_regrown wr p.d p.os
                      generalize grow (redrawn wr p.d) p.os = w2 at hbr ⊢
                      clear k4 kx ky cQ
                      have hbe := below_trans' hbr HB.out.1
                      go_wp2
                      go_ret
                      exact ⟨by rw [HP.out, HE.out]; rfl, hbe⟩
              · have hqe : q = cl.length := by omega
                subst hqe
                rw [List.take_length] at hJ
                have HJ := Lib.hid hJ
                clear hJ
                go_wp2
                go_ret
                exact ⟨by rw [HP.out, HJ.out]; rfl, hbw⟩
          · have b4 : decide (4 < (cl.length : Int)) = true := decide_eq_true (by omega)
            have HE := Lib.hid (show agOk (-1) cl = false by rw [Bool.eq_false_iff]; exact fun e => h4 (agOk_len e))
            go_wp2_with (go_at_call 90; refine (in82_any _ _ _ _).mono ?_; rintro e w' ⟨rfl, rfl⟩)
            go_ret
            exact ⟨by rw [HP.out, HE.out]; rfl, hA⟩
end Go.Proofs.Ytniggacgkhkgiaa.Msg
/- What the reference's Right says of a Pinned that names some, and of a Manifest. Conditions: the message's slices lie in memory. PRINTED BY wip/gen_ref4.py. -/
namespace Go.Sp
open Go.RowKit
/-- the first q parts may be -/
def ptsTo (t j : Int) (ps : List Pt) (q : Nat) : Prop := (ps.take q).all (fun p => rightP p && (decide (p.t = t) && decide (p.j = j))) = true ∧ agOk (-1) ((ps.map fun p => p.a).take q) = true
theorem ptsTo_all {t j : Int} {ps : List Pt} (h : ptsTo t j ps ps.length) : partsOk t j ps = decide (0 < ps.length) := by
  obtain ⟨h1, h2⟩ := h
  rw [List.take_length] at h1
  rw [List.take_of_length_le (by simp)] at h2
  unfold partsOk
  rw [h1, h2]; simp
theorem ptsTo_len {t j : Int} {ps : List Pt} (h : ptsTo t j ps ps.length) : ps.length ≤ 4 := by
  obtain ⟨_, h2⟩ := h
  rw [List.take_of_length_le (by simp)] at h2
  simpa using agOk_len h2
theorem ptsTo_succ {t j : Int} {ps : List Pt} {q : Nat} {p : Pt} (h : ptsTo t j ps q) (hp : ps[q]? = some p) (h1 : rightP p = true) (h2 : p.t = t) (h3 : p.j = j) (h4 : 0 < q → ∀ y, ps[q - 1]? = some y → y.a < p.a) : ptsTo t j ps (q + 1) := by
  refine ⟨?_, (agOk_snoc (by rw [List.getElem?_map, hp]; rfl) h.2).2 ⟨?_, fun hq y hy => ?_⟩⟩
  · rw [List.take_add_one, hp, List.all_append, h.1]
    simp [h1, h2, h3]
  · simp only [rightP, Bool.and_eq_true, wi_true] at h1
    exact h1.2.1
  · rw [List.getElem?_map] at hy
    obtain ⟨z, hz, rfl⟩ := Option.map_eq_some_iff.1 hy
    exact h4 hq z hz
theorem parts_no {t j : Int} {ps : List Pt} {q : Nat} {p : Pt} (hp : ps[q]? = some p) (h : ¬ (rightP p = true ∧ p.t = t ∧ p.j = j)) : partsOk t j ps = false := by
  have : (ps.all fun p => rightP p && (decide (p.t = t) && decide (p.j = j))) = false := by
    rw [List.all_eq_false]
    refine ⟨p, List.mem_of_getElem? hp, fun e => h ?_⟩
    simpa using e
  unfold partsOk
  rw [this]; rfl
theorem parts_no' {t j : Int} {ps : List Pt} {q : Nat} {p y : Pt} (hp : ps[q + 1]? = some p) (hy : ps[q]? = some y) (h : ¬ y.a < p.a) : partsOk t j ps = false := by
  have : agOk (-1) (ps.map fun p => p.a) = false := by
    rw [Bool.eq_false_iff]
    intro e
    obtain ⟨h1, _⟩ := agOk_iff.1 e
    obtain ⟨l1, e1⟩ := List.getElem?_eq_some_iff.1 hp
    obtain ⟨l2, e2⟩ := List.getElem?_eq_some_iff.1 hy
    have := List.pairwise_iff_getElem.1 h1 q (q + 1) (by simpa using l2) (by simpa using l1) (by omega)
    simp only [List.getElem_map, e1, e2] at this
    exact h this
  unfold partsOk
  rw [this]; simp
end Go.Sp
namespace Go.Proofs.Ytniggacgkhkgiaa.Msg
open Go.RowKit Go.Sp Go.Sort

set_option maxRecDepth 100000 in
set_option maxHeartbeats 4000000 in
theorem r59_pinC {w : World} {a t j n : Int} {ca : Option Addr} {cc : Nat} {cl : List Int} {l : Bool} (h : RS w 1 eInt (.slice ca cl.length cc) cl) : Calls Try.prog 36 #[.agg #[.int .i64 3, .int .i64 0, .int .i64 0, .int .i64 0, .int .i64 0, .int .i64 0, .int .i64 0, .int .i64 a, .int .i64 t, .int .i64 j, .int .i64 n, .slice ca cl.length cc, .bool l, .slice none 0 0, .slice none 0 0]] w fun e w' => e = .returned (.bool (rightP ⟨a, t, j, n, .slice ca cl.length cc, cl, l⟩)) ∧ Below w.heap.size w w' := by
  have hA := below_alloc (Below.refl w.heap.size w) (.cells #[.int .i64 3, .int .i64 0, .int .i64 0, .int .i64 0, .int .i64 0, .int .i64 0, .int .i64 0, .int .i64 a, .int .i64 t, .int .i64 j, .int .i64 n, .slice ca cl.length cc, .bool l, .slice none 0 0, .slice none 0 0] 37)
  have hr := h.only (only_of_below hA (fun _ => False)) (fun _ _ => id)
  go_enter Try.func36, Try.ntmps36
  go_wp2_with fail
  refine (partC_any hr).mono ?_
  rintro e w1 ⟨rfl, hb⟩
  have hb1 := below_trans' hb hA
  go_wp2
  go_ret
  exact ⟨rfl, hb1⟩

set_option maxRecDepth 100000 in
set_option maxHeartbeats 4000000 in
theorem r59_mani {w : World} {t j c : Int} {pa : Option Addr} {pc : Nat} {ps : List Pt} (h : Pts w (.slice pa ps.length pc) ps) :
    Calls Try.prog 36 #[.agg #[.int .i64 7, .int .i64 0, .int .i64 t, .int .i64 j, .int .i64 c, .int .i64 0, .int .i64 0, .int .i64 0, .int .i64 0, .int .i64 0, .int .i64 0, .slice none 0 0, .bool false, .slice pa ps.length pc, .slice none 0 0]] w fun e w' => e = .returned (.bool (rightM (.mani t j c (.slice pa ps.length pc) ps))) ∧ Below w.heap.size w w' := by
  have hA := below_alloc (Below.refl w.heap.size w) (.cells #[.int .i64 7, .int .i64 0, .int .i64 t, .int .i64 j, .int .i64 c, .int .i64 0, .int .i64 0, .int .i64 0, .int .i64 0, .int .i64 0, .int .i64 0, .slice none 0 0, .bool false, .slice pa ps.length pc, .slice none 0 0] 37)
  have hbx := heap_new w (.cells #[.int .i64 7, .int .i64 0, .int .i64 t, .int .i64 j, .int .i64 c, .int .i64 0, .int .i64 0, .int .i64 0, .int .i64 0, .int .i64 0, .int .i64 0, .slice none 0 0, .bool false, .slice pa ps.length pc, .slice none 0 0] 37) rfl
  have hl := h.1.1
  unfold maxLen at hl
  have hRM : rightM (.mani t j c (.slice pa ps.length pc) ps) = (wi t 1 65535 && (wi j 1 1073741824 && (wi c 0 3 && partsOk t j ps))) := rfl
  rw [hRM]
  clear hRM
  go_enter Try.func36, Try.ntmps36
  cases h0 : wi t 1 65535 with
  | false =>
    go_wp2_with (go_at_call 90; refine (in82_any _ _ _ _).mono ?_; rintro e w' ⟨rfl, rfl⟩)
    go_ret
    exact ⟨rfl, hA⟩
  | true =>
    cases h1 : wi j 1 1073741824 with
    | false =>
      go_wp2_with (go_at_call 90; refine (in82_any _ _ _ _).mono ?_; rintro e w' ⟨rfl, rfl⟩)
      go_ret
      exact ⟨rfl, hA⟩
    | true =>
      simp only [Bool.true_and]
      go_wp2_with (go_at_call 90; refine (in82_any _ _ _ _).mono ?_; rintro e w' ⟨rfl, rfl⟩)
      generalize (w.alloc (.cells #[.int .i64 7, .int .i64 0, .int .i64 t, .int .i64 j, .int .i64 c, .int .i64 0, .int .i64 0, .int .i64 0, .int .i64 0, .int .i64 0, .int .i64 0, .slice none 0 0, .bool false, .slice pa ps.length pc, .slice none 0 0] 37)) = w0 at hA hbx ⊢
      have hlt : w.heap.size < w0.heap.size := (Array.getElem?_eq_some_iff.1 hbx).1
      clear h0 h1
      go_loopw [4] (fun v wr => ∃ q : Nat, q ≤ ps.length ∧ v = .int .i64 q ∧ Below w0.heap.size w0 wr ∧ ptsTo t j ps q) (fun v _ => ps.length - (intOf v).toNat)
      case atStart => exact ⟨0, Nat.zero_le _, rfl, Below.refl _ _, rfl, rfl⟩
      case round =>
        obtain ⟨q, hq, rfl, hb, hJ⟩ := hrel
        have hbw := below_trans' hb hA
        have hbxr := (hb.block _ hlt).trans hbx
        have e8 : wr.cell? ⟨w.heap.size, 13, none⟩ = some (.slice pa ps.length pc) := by simp [World.cell?, hbxr]
        have hP := h.only (only_of_below hbw (fun _ => False)) (fun _ _ => id) (fun _ _ _ _ => id)
        by_cases hqN : q < ps.length
        · obtain ⟨b0, o0, c0', hv, hb0, hcl⟩ := pts_cells hP.1 (by omega)
          simp only [Value.slice.injEq] at hv
          obtain ⟨rfl, _, rfl⟩ := hv
          obtain ⟨p, hp⟩ : ∃ p, ps[q]? = some p := ⟨_, List.getElem?_eq_getElem hqN⟩
          obtain ⟨g0, g1, g2, g3, g4, g5⟩ := hcl q p hp
          have hcv := hP.2 p (List.mem_of_getElem? hp)
          have HNO := Lib.hid (parts_no (t := t) (j := j) hp)
          have HSU := Lib.hid (ptsTo_succ hJ hp)
          have HPA := Lib.hid (fun q' (e : q = q' + 1) y (hy : ps[q']? = some y) (h : ¬ y.a < p.a) => parts_no' (t := t) (j := j) (by rw [← e]; exact hp) hy h)
          have HY := Lib.hid (fun q' y (hy : ps[q']? = some y) => (hcl q' y hy).1)
          have hrp := rightP
          clear hrp
          obtain ⟨xa, xt, xj, xn, xcv, xcl, xl⟩ := p
          obtain ⟨_, ca, cc, hv, _⟩ := id hcv
          simp only at hv
          subst hv
          simp only at g0 g1 g2 g3 g4 g5
          have hA1 := below_alloc (Below.refl wr.heap.size wr) (.cells #[.int .i64 xa, .int .i64 xt, .int .i64 xj, .int .i64 xn, .slice ca xcl.length cc, .bool xl] 33)
          have hbp := heap_new wr (.cells #[.int .i64 xa, .int .i64 xt, .int .i64 xj, .int .i64 xn, .slice ca xcl.length cc, .bool xl] 33) rfl
          have hlr : w.heap.size < wr.heap.size := Nat.lt_of_lt_of_le hlt hb.size
          have hb0' : b0 < wr.heap.size := hb0
          clear hP h hp hcl hJ
          go_upto_region 23 with (fail)
          generalize (wr.alloc (.cells #[.int .i64 xa, .int .i64 xt, .int .i64 xj, .int .i64 xn, .slice ca xcl.length cc, .bool xl] 33)) = W1 at hA1 hbp ⊢
          have hcv1 := hcv.only (only_of_below hA1 (fun _ => False)) (fun _ _ => id)
          have f8 : W1.cell? ⟨w.heap.size, 13, none⟩ = some (.slice (some ⟨b0, o0, none⟩) ps.length pc) := by rw [hA1.cell (p := ⟨w.heap.size, 13, none⟩) hlr]; exact e8
          have f2 : W1.cell? ⟨w.heap.size, 2, none⟩ = some (.int .i64 t) := by rw [hA1.cell (p := ⟨w.heap.size, 2, none⟩) hlr]; simp [World.cell?, hbxr]
          have f3 : W1.cell? ⟨w.heap.size, 3, none⟩ = some (.int .i64 j) := by rw [hA1.cell (p := ⟨w.heap.size, 3, none⟩) hlr]; simp [World.cell?, hbxr]
          have k8 := fun d os => cell_regrown f8 d os
          have k2 := fun d os => cell_regrown f2 d os
          have k3 := fun d os => cell_regrown f3 d os
          have c0 := fun d os => cell_regrown (cell_blk hbp (j := 0) (u := .int .i64 xa) rfl) d os
          have c1 := fun d os => cell_regrown (cell_blk hbp (j := 1) (u := .int .i64 xt) rfl) d os
          have c2 := fun d os => cell_regrown (cell_blk hbp (j := 2) (u := .int .i64 xj) rfl) d os
          have c3 := fun d os => cell_regrown (cell_blk hbp (j := 3) (u := .int .i64 xn) rfl) d os
          have c4 := fun d os => cell_regrown (cell_blk hbp (j := 4) (u := .slice ca xcl.length cc) rfl) d os
          have c5 := fun d os => cell_regrown (cell_blk hbp (j := 5) (u := .bool xl) rfl) d os
          have HR := fun d os => partC_any (a := xa) (t := xt) (j := xj) (n := xn) (l := xl) (hcv1.only (only_of_below (below_regrown W1 d os) (fun _ => False)) (fun _ _ => id))
          have HB := Lib.hid (And.intro (below_trans' hA1 hbw) (hb.trans (hA1.mono hb.size)))
          have HG := Lib.hid (fun q' y (hy : ps[q']? = some y) => (show W1.cell? ⟨b0, o0 + q' * 6, none⟩ = some (.int .i64 y.a) by rw [hA1.cell (p := ⟨b0, o0 + q' * 6, none⟩) hb0']; exact HY.out q' y hy))
          clear hb hbw hbxr hA hbx hbp hA1 f8 f2 f3 g0 g1 g2 g3 g4 g5 hcv hcv1 HY
          cases hr : rightP ⟨xa, xt, xj, xn, .slice ca xcl.length cc, xcl, xl⟩ with
          | false =>
            rw [hr] at HR
            have cQ := fun d os => Calls.regrown_of (HR d os)
            have HE := Lib.hid (show (wi c 0 3 && partsOk t j ps) = false by rw [HNO.out (fun e => by rw [hr] at e; cases e.1)]; simp)
            clear HR hr
            go_upto_region 23 with (fail)
            refine wp_region_quiet_below (by kernel_rfl) (by kernel_rfl) ?_
            repeat (first | go_big_quiet_step (exact cQ _ _) | quiet_step (exact cQ _ _))
            refine wpQuiet_nil ?_
            intro w2 hw2
            obtain ⟨p2, rfl⟩ := hw2
            have hbr := below_regrown W1 p2.d p2.os
            generalize grow (redrawn W1 p2.d) p2.os = w2 at hbr ⊢
            clear k8 k2 k3 c0 c1 c2 c3 c4 c5 cQ
            have hbe := below_trans' hbr HB.out.1
            go_wp2
            go_ret
            exact ⟨by rw [HE.out]; rfl, hbe⟩
          | true =>
            rw [hr] at HR
            have cQ := fun d os => Calls.regrown_of (HR d os)
            clear HR
            by_cases ht : xt = t
            · have b1 : (xt != t) = false := by simp [ht]
              by_cases hj : xj = j
              · have b2 : (xj != j) = false := by simp [hj]
                by_cases hq0 : q = 0
                · have HE := Lib.hid (HSU.out hr ht hj (fun e => by omega))
                  have bq : decide (0 < (q : Int)) = false := decide_eq_false (by omega)
                  have bq' : decide (0 < q) = false := decide_eq_false (by omega)
                  clear hr ht hj hq0
                  go_upto_region 23 with (fail)
                  refine wp_region_quiet_below (by kernel_rfl) (by kernel_rfl) ?_
                  repeat (first | go_big_quiet_step (exact cQ _ _) | quiet_step (exact cQ _ _))
                  refine wpQuiet_nil ?_
                  intro w2 hw2
                  obtain ⟨p2, rfl⟩ := hw2
                  have hbr := below_regrown W1 p2.d p2.os
                  generalize grow (redrawn W1 p2.d) p2.os = w2 at hbr ⊢
                  clear k8 k2 k3 c0 c1 c2 c3 c4 c5 cQ
                  have hbe := below_trans' hbr HB.out.2
                  go_wp2
                  exact ⟨⟨q + 1, by omega, by go_num, hbe, HE.out⟩, by simp [intOf]; omega⟩
                · obtain ⟨q, rfl⟩ : ∃ m, q = m + 1 := ⟨q - 1, by omega⟩
                  obtain ⟨y, hy⟩ : ∃ y, ps[q]? = some y := ⟨_, List.getElem?_eq_getElem (by omega)⟩
                  have gy := HG.out q y hy
                  have ky := fun d os => cell_regrown gy d os
                  by_cases hyx : y.a < xa
                  · have HE := Lib.hid (HSU.out hr ht hj (fun _ y' e => by simp only [Nat.add_sub_cancel] at e; rw [hy] at e; cases e; exact hyx))
                    have b6 : decide (xa ≤ y.a) = false := decide_eq_false (by omega)
                    clear hr ht hj hy gy
                    go_upto_region 23 with (fail)
                    refine wp_region_quiet_below (by kernel_rfl) (by kernel_rfl) ?_
                    repeat (first | go_big_quiet_step (exact cQ _ _) | quiet_step (exact cQ _ _))
                    refine wpQuiet_nil ?_
                    intro w2 hw2
                    obtain ⟨p2, rfl⟩ := hw2
                    have hbr := below_regrown W1 p2.d p2.os
                    generalize grow (redrawn W1 p2.d) p2.os = w2 at hbr ⊢
                    clear k8 k2 k3 c0 c1 c2 c3 c4 c5 cQ ky
                    have hbe := below_trans' hbr HB.out.2
                    go_wp2
                    exact ⟨⟨q + 1 + 1, by omega, by go_num, hbe, HE.out⟩, by simp [intOf]; omega⟩
                  · have HE := Lib.hid (show (wi c 0 3 && partsOk t j ps) = false by rw [HPA.out q rfl y hy hyx]; simp)
                    have b6 : decide (xa ≤ y.a) = true := decide_eq_true (by omega)
                    clear hr ht hj hy gy
                    go_upto_region 23 with (fail)
                    refine wp_region_quiet_below (by kernel_rfl) (by kernel_rfl) ?_
                    repeat (first | go_big_quiet_step (exact cQ _ _) | quiet_step (exact cQ _ _))
                    refine wpQuiet_nil ?_
                    intro w2 hw2
                    obtain ⟨p2, rfl⟩ := hw2
                    have hbr := below_regrown W1 p2.d p2.os
                    generalize grow (redrawn W1 p2.d) p2.os = w2 at hbr ⊢
                    clear k8 k2 k3 c0 c1 c2 c3 c4 c5 cQ ky
                    have hbe := below_trans' hbr HB.out.1
                    go_wp2
                    go_ret
                    exact ⟨by rw [HE.out]; rfl, hbe⟩
              · have b2 : (xj != j) = true := by simp [hj]
                have HE := Lib.hid (show (wi c 0 3 && partsOk t j ps) = false by rw [HNO.out (fun e => hj e.2.2)]; simp)
                clear hr ht hj
                go_upto_region 23 with (fail)
                refine wp_region_quiet_below (by kernel_rfl) (by kernel_rfl) ?_
                repeat (first | go_big_quiet_step (exact cQ _ _) | quiet_step (exact cQ _ _))
                refine wpQuiet_nil ?_
                intro w2 hw2
                obtain ⟨p2, rfl⟩ := hw2
                have hbr := below_regrown W1 p2.d p2.os
                generalize grow (redrawn W1 p2.d) p2.os = w2 at hbr ⊢
                clear k8 k2 k3 c0 c1 c2 c3 c4 c5 cQ
                have hbe := below_trans' hbr HB.out.1
                go_wp2
                go_ret
                exact ⟨by rw [HE.out]; rfl, hbe⟩
            · have b1 : (xt != t) = true := by simp [ht]
              have HE := Lib.hid (show (wi c 0 3 && partsOk t j ps) = false by rw [HNO.out (fun e => ht e.2.1)]; simp)
              clear hr ht
              go_upto_region 23 with (fail)
              refine wp_region_quiet_below (by kernel_rfl) (by kernel_rfl) ?_
              repeat (first | go_big_quiet_step (exact cQ _ _) | quiet_step (exact cQ _ _))
              refine wpQuiet_nil ?_
              intro w2 hw2
              obtain ⟨p2, rfl⟩ := hw2
              have hbr := below_regrown W1 p2.d p2.os
              generalize grow (redrawn W1 p2.d) p2.os = w2 at hbr ⊢
              clear k8 k2 k3 c0 c1 c2 c3 c4 c5 cQ
              have hbe := below_trans' hbr HB.out.1
              go_wp2
              go_ret
              exact ⟨by rw [HE.out]; rfl, hbe⟩
        · have hqe : q = ps.length := by omega
          subst hqe
          have e1 : wr.cell? ⟨w.heap.size, 4, none⟩ = some (.int .i64 c) := by simp [World.cell?, hbxr]
          have HJ := Lib.hid (ptsTo_all hJ)
          have h4 := ptsTo_len hJ
          clear hJ h hbxr hb hbx hA hP
          cases h2 : wi c 0 3 with
          | false =>
            go_wp2_with (go_at_call 90; refine (in82_any _ _ _ _).mono ?_; rintro e w' ⟨rfl, rfl⟩)
            go_ret
            exact ⟨by rw [h2]; rfl, hbw⟩
          | true =>
            cases h3 : wi (ps.length : Int) 1 4 with
            | false =>
              have HZ := Lib.hid (show ¬ 0 < ps.length from fun e => by have := wi_true.2 (show (1 : Int) ≤ ps.length ∧ (ps.length : Int) ≤ 4 by omega); rw [h3] at this; cases this)
              go_wp2_with (go_at_call 90; refine (in82_any _ _ _ _).mono ?_; rintro e w' ⟨rfl, rfl⟩)
              go_ret
              exact ⟨by rw [h2, HJ.out, decide_eq_false HZ.out]; rfl, hbw⟩
            | true =>
              have HZ := Lib.hid (show 0 < ps.length by have := wi_true.1 h3; omega)
              go_wp2_with (go_at_call 90; refine (in82_any _ _ _ _).mono ?_; rintro e w' ⟨rfl, rfl⟩)
              go_ret
              exact ⟨by rw [h2, HJ.out, decide_eq_true HZ.out]; rfl, hbw⟩
end Go.Proofs.Ytniggacgkhkgiaa.Msg
