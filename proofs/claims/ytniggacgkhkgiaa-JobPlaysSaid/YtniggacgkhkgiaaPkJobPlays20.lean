/- What the reference job's Hear does with a Pinned that is not for it, or that comes late; how a part is stored. Conditions: it lies in memory as Rj says. PRINTED BY wip/gen_rj12.py. -/
import Derived.Test.YtniggacgkhkgiaaPkJobPlays19
import Derived.Deep.MidRow
namespace Go.Sp
open Go.RowKit
/-- some cells written from a place on -/
def putL : List Value → Nat → List Value → List Value
  | cs, _, [] => cs
  | cs, j, v :: r => putL (cs.set j v) (j + 1) r
theorem putL_len : ∀ (vs cs : List Value) (j : Nat), (putL cs j vs).length = cs.length
  | [], _, _ => rfl
  | v :: r, cs, j => by show (putL (cs.set j v) (j + 1) r).length = _; rw [putL_len r]; simp
theorem putL_eq : ∀ (vs A B C : List Value), B.length = vs.length → putL (A ++ (B ++ C)) A.length vs = A ++ (vs ++ C)
  | [], A, B, C, h => by cases B with
    | nil => rfl
    | cons => cases h
  | v :: r, A, [], C, h => by cases h
  | v :: r, A, b :: B, C, h => by
    show putL ((A ++ (b :: B ++ C)).set A.length v) (A.length + 1) r = _
    rw [List.set_append_right _ _ (Nat.le_refl _), Nat.sub_self]
    have := putL_eq r (A ++ [v]) B C (by simpa using h)
    simpa using this
variable {e : TypeId} {size n : Nat} {cs : List Value} {w : World}
theorem SL.putL {b off cap : Nat} : ∀ (vs : List Value) {w : World} {cs : List Value} (j : Nat), SL w.heap e size (.slice (some ⟨b, off, none⟩) n cap) n cs → j + vs.length ≤ cs.length → SL (w.setCells b (off + j) vs).heap e size (.slice (some ⟨b, off, none⟩) n cap) n (Sp.putL cs j vs)
  | [], _, _, _, x, _ => x
  | v :: r, w, cs, j, x, h => by
    have h1 := x.set (j := j) (by simp at h; omega) v
    have h2 := SL.putL r (j + 1) h1 (by simp at h ⊢; omega)
    rw [← Nat.add_assoc] at h2
    exact h2
/-- an element of a slice written whole -/
theorem SL.setRow {α : Type} {enc : α → List Value} (he : ∀ x, (enc x).length = size) {xs : List α} {b off cap q : Nat} (x : SL w.heap e size (.slice (some ⟨b, off, none⟩) n cap) n (xs.flatMap enc)) (hq : q < xs.length) (y : α) :
    SL (w.setCells b (off + q * size) (enc y)).heap e size (.slice (some ⟨b, off, none⟩) n cap) n ((xs.set q y).flatMap enc) := by
  obtain ⟨A, z, B, rfl, rfl⟩ : ∃ A z B, xs = A ++ z :: B ∧ q = A.length := by
    refine ⟨xs.take q, xs[q], xs.drop (q + 1), ?_, by simp; omega⟩
    rw [List.getElem_cons_drop, List.take_append_drop]
  have hA := flat_length he A
  rw [List.set_append_right _ _ (Nat.le_refl _), Nat.sub_self, List.set_cons_zero, List.flatMap_append, List.flatMap_cons]
  rw [List.flatMap_append, List.flatMap_cons] at x
  have h := SL.putL (enc y) (A.length * size) x (by rw [he, ← hA]; simp [he] <;> omega)
  rw [← hA, putL_eq _ _ _ _ (by rw [he, he]), hA] at h
  exact h
end Go.Sp
namespace Go.Proofs.Ytniggacgkhkgiaa.Job
open Go.RowKit Go.Sp Msg Go.Sort

section
variable {w w1 : World} {rb sb pb fb : Nat} {r r' : Rs}
theorem Rj.setPt (h : Rj w rb sb pb fb r) {q : Nat} (hq : q < r.st.length) (p : Pt) : Rj (w.setCells pb (q * 6) (ePt p)) rb sb pb fb { r with pt := r.pt.set q p } ∧ Only (· = pb) w (w.setCells pb (q * 6) (ePt p)) := by
  obtain ⟨n1, n2, n3, n4, n5, n6⟩ := h.ne
  have hO : Only (· = pb) w (w.setCells pb (q * 6) (ePt p)) := only_setCells _ _ _ _
  have hs := SL.setRow (enc := ePt) (fun _ => rfl) h.pt (q := q) (by rw [h.lp]; exact hq) p
  rw [Nat.zero_add] at hs
  exact ⟨⟨hO.heap h.blk (fun e => n2 e.symm), h.st.only hO (fun g hg e => by simp [Value.ownBlock] at hg; omega), hs, h.fr.only hO (fun g hg e => by simp [Value.ownBlock] at hg; omega), by simp [h.lp], h.lf, h.l4⟩, hO⟩
theorem Rj.there (h : Rj w rb sb pb fb r) {q : Nat} (hq : q < r.st.length) : w.there pb (q * 6) 6 := fun j hj => by
  have hp : r.pt[q]? = some (r.pt[q]'(by rw [h.lp]; exact hq)) := List.getElem?_eq_getElem _
  have g := h.pt.elem (enc := ePt) (fun _ => rfl) hp (j := j) (List.getElem?_eq_getElem (by show j < 6; exact hj))
  rw [Nat.zero_add] at g
  exact ⟨by rw [g]; rfl, h.pt.free _⟩
end

set_option maxRecDepth 100000 in
set_option maxHeartbeats 4000000 in
theorem rHear_pno {w : World} {rb sb pb fb : Nat} {r : Rs} {k a t2 j2 c i n pa pt pj pn : Int} {pcv pv sv : Value} {pl rr : Bool} (h : Rj w rb sb pb fb r) (fcv : ∃ x y z, pcv = .slice x y z) (fpv : ∃ x y z, pv = .slice x y z) (fsv : ∃ x y z, sv = .slice x y z)
    (hr : ∀ w', Below w.heap.size w w' → Calls Try.prog 36 #[.agg #[.int .i64 k, .int .i64 a, .int .i64 t2, .int .i64 j2, .int .i64 c, .int .i64 i, .int .i64 n, .int .i64 pa, .int .i64 pt, .int .i64 pj, .int .i64 pn, pcv, .bool pl, pv, sv]] w' fun e w'' => e = .returned (.bool rr) ∧ Below w'.heap.size w' w'')
    (hk : k = 3) (hno : rr = false ∨ pt ≠ r.tr ∨ pj ≠ r.id ∨ r.ph ≠ 1 ∨ rvis r pa = false ∨ r.st.getD pa.toNat 0 ≠ 1) :
    Calls Try.prog 22 #[.pointer (some ⟨rb, 0, none⟩), .agg #[.int .i64 k, .int .i64 a, .int .i64 t2, .int .i64 j2, .int .i64 c, .int .i64 i, .int .i64 n, .int .i64 pa, .int .i64 pt, .int .i64 pj, .int .i64 pn, pcv, .bool pl, pv, sv]] w fun e w' => e = .returned (.tuple #[]) ∧ Below w.heap.size w w' := by
  have b3 : (k == 3) = true := by simp [hk]
  clear hk
  obtain ⟨x1, y1, z1, rfl⟩ := fcv
  obtain ⟨x2, y2, z2, rfl⟩ := fpv
  obtain ⟨x3, y3, z3, rfl⟩ := fsv
  have hA := below_alloc (Below.refl w.heap.size w) (.cells #[.int .i64 k, .int .i64 a, .int .i64 t2, .int .i64 j2, .int .i64 c, .int .i64 i, .int .i64 n, .int .i64 pa, .int .i64 pt, .int .i64 pj, .int .i64 pn, .slice x1 y1 z1, .bool pl, .slice x2 y2 z2, .slice x3 y3 z3] 37)
  have hbx := heap_new w (.cells #[.int .i64 k, .int .i64 a, .int .i64 t2, .int .i64 j2, .int .i64 c, .int .i64 i, .int .i64 n, .int .i64 pa, .int .i64 pt, .int .i64 pj, .int .i64 pn, .slice x1 y1 z1, .bool pl, .slice x2 y2 z2, .slice x3 y3 z3] 37) rfl
  go_enter Try.func22, Try.ntmps22
  go_upto_region 1 with (fail)
  generalize (w.alloc (.cells #[.int .i64 k, .int .i64 a, .int .i64 t2, .int .i64 j2, .int .i64 c, .int .i64 i, .int .i64 n, .int .i64 pa, .int .i64 pt, .int .i64 pj, .int .i64 pn, .slice x1 y1 z1, .bool pl, .slice x2 y2 z2, .slice x3 y3 z3] 37)) = W1 at hA hbx ⊢
  have c1 : W1.cell? ⟨w.heap.size, 1, none⟩ = some (.int .i64 a) := cell_blk hbx rfl
  have c2 : W1.cell? ⟨w.heap.size, 2, none⟩ = some (.int .i64 t2) := cell_blk hbx rfl
  have c3 : W1.cell? ⟨w.heap.size, 3, none⟩ = some (.int .i64 j2) := cell_blk hbx rfl
  have HA := Lib.hid (And.intro hA hbx)
  clear hA hbx
  go_quiet (fail)
  obtain ⟨hA, hbx⟩ := HA.out
  have hA2 := belowN hA nq
  have hbx2 : (W1.drewN nq).heap[w.heap.size]? = some (.cells #[.int .i64 k, .int .i64 a, .int .i64 t2, .int .i64 j2, .int .i64 c, .int .i64 i, .int .i64 n, .int .i64 pa, .int .i64 pt, .int .i64 pj, .int .i64 pn, .slice x1 y1 z1, .bool pl, .slice x2 y2 z2, .slice x3 y3 z3] 37 (0, 0)) := hbx
  generalize W1.drewN nq = W2 at hA2 hbx2 ⊢
  clear HA hA hbx c1 c2 c3
  have h2 := h.below hA2
  have c0 : W2.cell? ⟨w.heap.size, 0, none⟩ = some (.int .i64 k) := cell_blk hbx2 rfl
  have c1 : W2.cell? ⟨w.heap.size, 1, none⟩ = some (.int .i64 a) := cell_blk hbx2 rfl
  have c2 : W2.cell? ⟨w.heap.size, 2, none⟩ = some (.int .i64 t2) := cell_blk hbx2 rfl
  have c3 : W2.cell? ⟨w.heap.size, 3, none⟩ = some (.int .i64 j2) := cell_blk hbx2 rfl
  have c4 : W2.cell? ⟨w.heap.size, 4, none⟩ = some (.int .i64 c) := cell_blk hbx2 rfl
  have c5 : W2.cell? ⟨w.heap.size, 5, none⟩ = some (.int .i64 i) := cell_blk hbx2 rfl
  have c6 : W2.cell? ⟨w.heap.size, 6, none⟩ = some (.int .i64 n) := cell_blk hbx2 rfl
  have c7 : W2.cell? ⟨w.heap.size, 7, none⟩ = some (.int .i64 pa) := cell_blk hbx2 rfl
  have c8 : W2.cell? ⟨w.heap.size, 8, none⟩ = some (.int .i64 pt) := cell_blk hbx2 rfl
  have c9 : W2.cell? ⟨w.heap.size, 9, none⟩ = some (.int .i64 pj) := cell_blk hbx2 rfl
  have c10 : W2.cell? ⟨w.heap.size, 10, none⟩ = some (.int .i64 pn) := cell_blk hbx2 rfl
  have c11 : W2.cell? ⟨w.heap.size, 11, none⟩ = some (.slice x1 y1 z1) := cell_blk hbx2 rfl
  have c12 : W2.cell? ⟨w.heap.size, 12, none⟩ = some (.bool pl) := cell_blk hbx2 rfl
  have c13 : W2.cell? ⟨w.heap.size, 13, none⟩ = some (.slice x2 y2 z2) := cell_blk hbx2 rfl
  have c14 : W2.cell? ⟨w.heap.size, 14, none⟩ = some (.slice x3 y3 z3) := cell_blk hbx2 rfl
  go_upto_region 3 with (fail)
  have HA2 := Lib.hid (And.intro hA2 (And.intro hbx2 h2))
  clear hA2 hbx2 h2
  go_quiet (fail)
  obtain ⟨hA2, hbx2, h2⟩ := HA2.out
  have hA4 := belowN hA2 nq
  have hbx4 : (W2.drewN nq).heap[w.heap.size]? = some (.cells #[.int .i64 k, .int .i64 a, .int .i64 t2, .int .i64 j2, .int .i64 c, .int .i64 i, .int .i64 n, .int .i64 pa, .int .i64 pt, .int .i64 pj, .int .i64 pn, .slice x1 y1 z1, .bool pl, .slice x2 y2 z2, .slice x3 y3 z3] 37 (0, 0)) := hbx2
  have h4 := h.below hA4
  clear HA2 hA2 hbx2 h2 c0 c1 c2 c3 c4 c5 c6 c7 c8 c9 c10 c11 c12 c13 c14
  generalize W2.drewN nq = W4 at hA4 hbx4 h4 ⊢
  have c0 : W4.cell? ⟨w.heap.size, 0, none⟩ = some (.int .i64 k) := cell_blk hbx4 rfl
  have c1 : W4.cell? ⟨w.heap.size, 1, none⟩ = some (.int .i64 a) := cell_blk hbx4 rfl
  have c2 : W4.cell? ⟨w.heap.size, 2, none⟩ = some (.int .i64 t2) := cell_blk hbx4 rfl
  have c3 : W4.cell? ⟨w.heap.size, 3, none⟩ = some (.int .i64 j2) := cell_blk hbx4 rfl
  have c4 : W4.cell? ⟨w.heap.size, 4, none⟩ = some (.int .i64 c) := cell_blk hbx4 rfl
  have c5 : W4.cell? ⟨w.heap.size, 5, none⟩ = some (.int .i64 i) := cell_blk hbx4 rfl
  have c6 : W4.cell? ⟨w.heap.size, 6, none⟩ = some (.int .i64 n) := cell_blk hbx4 rfl
  have c7 : W4.cell? ⟨w.heap.size, 7, none⟩ = some (.int .i64 pa) := cell_blk hbx4 rfl
  have c8 : W4.cell? ⟨w.heap.size, 8, none⟩ = some (.int .i64 pt) := cell_blk hbx4 rfl
  have c9 : W4.cell? ⟨w.heap.size, 9, none⟩ = some (.int .i64 pj) := cell_blk hbx4 rfl
  have c10 : W4.cell? ⟨w.heap.size, 10, none⟩ = some (.int .i64 pn) := cell_blk hbx4 rfl
  have c11 : W4.cell? ⟨w.heap.size, 11, none⟩ = some (.slice x1 y1 z1) := cell_blk hbx4 rfl
  have c12 : W4.cell? ⟨w.heap.size, 12, none⟩ = some (.bool pl) := cell_blk hbx4 rfl
  have c13 : W4.cell? ⟨w.heap.size, 13, none⟩ = some (.slice x2 y2 z2) := cell_blk hbx4 rfl
  have c14 : W4.cell? ⟨w.heap.size, 14, none⟩ = some (.slice x3 y3 z3) := cell_blk hbx4 rfl
  go_wp2_with fail
  refine (hr W4 hA4).mono ?_
  rintro e w3 ⟨rfl, hb3⟩
  have hA3 := below_trans' hb3 hA4
  have h3 := h4.below hb3
  have hbx3 := (hb3.block _ (Array.getElem?_eq_some_iff.1 hbx4).1).trans hbx4
  have d0 := h3.cell (q := 0) (u := .int .i64 r.id) rfl
  have d1 := h3.cell (q := 1) (u := .int .i64 r.tr) rfl
  have d3 := h3.cell (q := 3) (u := .int .i64 r.ph) rfl
  have e0 : w3.cell? ⟨w.heap.size, 0, none⟩ = some (.int .i64 k) := cell_blk hbx3 rfl
  clear hb3 hbx4 h4 hr c0 c1 c2 c3 c4 c5 c6 c7 c8 c9 c10 c11 c12 c13 c14 h
  cases rr with
  | false =>
    clear hno
    go_wp2
    go_returns
    exact ⟨rfl, hA3⟩
  | true =>
    by_cases ht : pt = r.tr
    · have bt : (pt != r.tr) = false := by simp [ht]
      by_cases hj : pj = r.id
      · have bj : (pj != r.id) = false := by simp [hj]
        have hno : r.ph ≠ 1 ∨ rvis r pa = false ∨ r.st.getD pa.toNat 0 ≠ 1 := by
          rcases hno with e | e | e | e
          · cases e
          · exact absurd ht e
          · exact absurd hj e
          · exact e
        clear ht hj
        by_cases hp : r.ph = 1
        · have bp : (r.ph != 1) = false := by simp [hp]
          have hno : rvis r pa = false ∨ r.st.getD pa.toNat 0 ≠ 1 := hno.resolve_left (fun e => e hp)
          have HN := Lib.hid hno
          clear hno hp
          go_wp2_with fail
          refine (rvis_any h3 pa).mono ?_
          rintro e w4 ⟨rfl, rfl⟩
          obtain ⟨vv, hv⟩ : ∃ b, b = rvis r pa := ⟨_, rfl⟩
          rw [← hv]
          have HV := Lib.hid hv
          clear hv
          cases vv with
          | true =>
            obtain ⟨⟨q, rfl⟩, hq⟩ : (∃ q : Nat, pa = q) ∧ pa.toNat < r.st.length := by
              have := HV.out
              simp only [rvis, Bool.true_eq, Bool.and_eq_true, decide_eq_true_eq] at this
              exact ⟨⟨pa.toNat, by omega⟩, by omega⟩
            rw [Int.toNat_natCast] at hq
            have hl := h3.l4
            obtain ⟨x, hx⟩ : ∃ x, r.st[q]? = some x := ⟨_, List.getElem?_eq_getElem hq⟩
            have g4 := h3.state hx
            have e4 := h3.cell (q := 4) (u := .slice (some ⟨sb, 0, none⟩) r.st.length r.st.length) rfl
            have bx : (x != 1) = true := by
              rcases HN.out with e | e
              · rw [← HV.out] at e; cases e
              · rw [Int.toNat_natCast, List.getD_eq_getElem?_getD, hx] at e
                simpa using e
            obtain ⟨m, hm⟩ : ∃ m, m = r.st.length := ⟨_, rfl⟩
            rw [← hm] at hq hl e4
            clear hx hm
            go_wp2
            go_returns
            exact ⟨rfl, hA3⟩
          | false =>
            go_wp2
            go_returns
            exact ⟨rfl, hA3⟩
        · have bp : (r.ph != 1) = true := by simp [hp]
          clear hno hp
          go_wp2
          go_returns
          exact ⟨rfl, hA3⟩
      · have bj : (pj != r.id) = true := by simp [hj]
        clear hno ht hj
        go_wp2
        go_returns
        exact ⟨rfl, hA3⟩
    · have bt : (pt != r.tr) = true := by simp [ht]
      clear hno ht
      go_wp2
      go_returns
      exact ⟨rfl, hA3⟩
end Go.Proofs.Ytniggacgkhkgiaa.Job
/- What the reference job's Hear does with a Pinned that is for it, and in time. Conditions: it lies in memory as Rj says. PRINTED BY wip/gen_rj13.py. -/
namespace Go.Sp
/-- none of the first q is asked only -/
def rPinTo (st : List Int) (q : Nat) : Bool := (st.take q).all fun x => decide (x ≠ 1)
theorem rPinTo_succ (st : List Int) (q : Nat) {x : Int} (hx : st[q]? = some x) : rPinTo st (q + 1) = (rPinTo st q && decide (x ≠ 1)) := by
  unfold rPinTo
  rw [List.take_add_one, hx]
  simp
theorem rPinSt_succ (st cs : List Int) (q : Nat) {c : Int} (hc : cs[q]? = some c) : rPinSt st (cs.take (q + 1)) = rPin1 (rPinSt st (cs.take q)) c := by
  unfold rPinSt
  rw [List.take_add_one, hc, List.foldl_append]; rfl
end Go.Sp
namespace Go.Proofs.Ytniggacgkhkgiaa.Job
open Go.RowKit Go.Sp Msg Go.Sort

set_option maxRecDepth 100000 in
set_option maxHeartbeats 8000000 in
theorem rHear_pin {w : World} {rb sb pb fb : Nat} {r : Rs} {k a t2 j2 c i n pa pt pj pn : Int} {pcv pv sv : Value} {pl rr : Bool} (h : Rj w rb sb pb fb r) (fcv : ∃ x y z, pcv = .slice x y z) (fpv : ∃ x y z, pv = .slice x y z) (fsv : ∃ x y z, sv = .slice x y z)
    (hr : ∀ w', Below w.heap.size w w' → Calls Try.prog 36 #[.agg #[.int .i64 k, .int .i64 a, .int .i64 t2, .int .i64 j2, .int .i64 c, .int .i64 i, .int .i64 n, .int .i64 pa, .int .i64 pt, .int .i64 pj, .int .i64 pn, pcv, .bool pl, pv, sv]] w' fun e w'' => e = .returned (.bool rr) ∧ Below w'.heap.size w' w'') {cl : List Int} (hcw : RS w 1 eInt pcv cl) (hcn : 0 < cl.length → ∀ g, pcv.ownBlock = some g → ¬ Rown rb sb pb fb g) (hc0 : ∀ c ∈ cl, 0 ≤ c)
    (hk : k = 3) (hrr : rr = true) (ht : pt = r.tr) (hj : pj = r.id) (hp : r.ph = 1) (hv : rvis r pa = true) (h1 : r.st.getD pa.toNat 0 = 1) :
    Calls Try.prog 22 #[.pointer (some ⟨rb, 0, none⟩), .agg #[.int .i64 k, .int .i64 a, .int .i64 t2, .int .i64 j2, .int .i64 c, .int .i64 i, .int .i64 n, .int .i64 pa, .int .i64 pt, .int .i64 pj, .int .i64 pn, pcv, .bool pl, pv, sv]] w fun e w' => e = .returned (.tuple #[]) ∧ Rj w' rb sb pb fb (rPin r ⟨pa, pt, pj, pn, pcv, cl, pl⟩) ∧ Only (Rown rb sb pb fb) w w' := by
  subst hrr
  have b3 : (k == 3) = true := by simp [hk]
  have bt : (pt != r.tr) = false := by simp [ht]
  have bj : (pj != r.id) = false := by simp [hj]
  have bp : (r.ph != 1) = false := by simp [hp]
  have HR := Lib.hid (show rPin r ⟨pa, pt, pj, pn, pcv, cl, pl⟩ = bif (rPin2 r ⟨pa, pt, pj, pn, pcv, cl, pl⟩).st.all (fun x => decide (x ≠ 1)) then { rPin2 r ⟨pa, pt, pj, pn, pcv, cl, pl⟩ with ph := 2, full := true } else rPin2 r ⟨pa, pt, pj, pn, pcv, cl, pl⟩ by unfold rPin; simp only; rw [decide_eq_true hp, hv, decide_eq_true h1]; rfl)
  obtain ⟨⟨q, rfl⟩, hq⟩ : (∃ q : Nat, pa = q) ∧ pa.toNat < r.st.length := by
    have := hv
    simp only [rvis, Bool.and_eq_true, decide_eq_true_eq] at this
    exact ⟨⟨pa.toNat, by omega⟩, by omega⟩
  rw [Int.toNat_natCast] at hq h1
  obtain ⟨x, hx⟩ : ∃ x, r.st[q]? = some x := ⟨_, List.getElem?_eq_getElem hq⟩
  have bx : (x != 1) = false := by rw [List.getD_eq_getElem?_getD, hx] at h1; simpa using h1
  have HX := Lib.hid (And.intro hx (And.intro hv (And.intro hq (And.intro h hcw))))
  clear hk ht hj hp h1 hx hv hq
  obtain ⟨x1, y1, z1, rfl⟩ := fcv
  obtain rfl : y1 = cl.length := by
    obtain ⟨_, a, cap, e, _⟩ := HX.out.2.2.2.2
    simp only [Value.slice.injEq] at e
    exact e.2.1
  obtain ⟨x2, y2, z2, rfl⟩ := fpv
  obtain ⟨x3, y3, z3, rfl⟩ := fsv
  have hA := below_alloc (Below.refl w.heap.size w) (.cells #[.int .i64 k, .int .i64 a, .int .i64 t2, .int .i64 j2, .int .i64 c, .int .i64 i, .int .i64 n, .int .i64 (q : Int), .int .i64 pt, .int .i64 pj, .int .i64 pn, .slice x1 cl.length z1, .bool pl, .slice x2 y2 z2, .slice x3 y3 z3] 37)
  have hbx := heap_new w (.cells #[.int .i64 k, .int .i64 a, .int .i64 t2, .int .i64 j2, .int .i64 c, .int .i64 i, .int .i64 n, .int .i64 (q : Int), .int .i64 pt, .int .i64 pj, .int .i64 pn, .slice x1 cl.length z1, .bool pl, .slice x2 y2 z2, .slice x3 y3 z3] 37) rfl
  go_enter Try.func22, Try.ntmps22
  go_upto_region 1 with (fail)
  generalize (w.alloc (.cells #[.int .i64 k, .int .i64 a, .int .i64 t2, .int .i64 j2, .int .i64 c, .int .i64 i, .int .i64 n, .int .i64 (q : Int), .int .i64 pt, .int .i64 pj, .int .i64 pn, .slice x1 cl.length z1, .bool pl, .slice x2 y2 z2, .slice x3 y3 z3] 37)) = W1 at hA hbx ⊢
  have c1 : W1.cell? ⟨w.heap.size, 1, none⟩ = some (.int .i64 a) := cell_blk hbx rfl
  have c2 : W1.cell? ⟨w.heap.size, 2, none⟩ = some (.int .i64 t2) := cell_blk hbx rfl
  have c3 : W1.cell? ⟨w.heap.size, 3, none⟩ = some (.int .i64 j2) := cell_blk hbx rfl
  have HA := Lib.hid (And.intro hA hbx)
  clear hA hbx
  go_quiet (fail)
  obtain ⟨hA, hbx⟩ := HA.out
  have hA2 := belowN hA nq
  have hbx2 : (W1.drewN nq).heap[w.heap.size]? = some (.cells #[.int .i64 k, .int .i64 a, .int .i64 t2, .int .i64 j2, .int .i64 c, .int .i64 i, .int .i64 n, .int .i64 (q : Int), .int .i64 pt, .int .i64 pj, .int .i64 pn, .slice x1 cl.length z1, .bool pl, .slice x2 y2 z2, .slice x3 y3 z3] 37 (0, 0)) := hbx
  generalize W1.drewN nq = W2 at hA2 hbx2 ⊢
  clear HA hA hbx c1 c2 c3
  have h2 := h.below hA2
  have c0 : W2.cell? ⟨w.heap.size, 0, none⟩ = some (.int .i64 k) := cell_blk hbx2 rfl
  have c1 : W2.cell? ⟨w.heap.size, 1, none⟩ = some (.int .i64 a) := cell_blk hbx2 rfl
  have c2 : W2.cell? ⟨w.heap.size, 2, none⟩ = some (.int .i64 t2) := cell_blk hbx2 rfl
  have c3 : W2.cell? ⟨w.heap.size, 3, none⟩ = some (.int .i64 j2) := cell_blk hbx2 rfl
  have c4 : W2.cell? ⟨w.heap.size, 4, none⟩ = some (.int .i64 c) := cell_blk hbx2 rfl
  have c5 : W2.cell? ⟨w.heap.size, 5, none⟩ = some (.int .i64 i) := cell_blk hbx2 rfl
  have c6 : W2.cell? ⟨w.heap.size, 6, none⟩ = some (.int .i64 n) := cell_blk hbx2 rfl
  have c7 : W2.cell? ⟨w.heap.size, 7, none⟩ = some (.int .i64 (q : Int)) := cell_blk hbx2 rfl
  have c8 : W2.cell? ⟨w.heap.size, 8, none⟩ = some (.int .i64 pt) := cell_blk hbx2 rfl
  have c9 : W2.cell? ⟨w.heap.size, 9, none⟩ = some (.int .i64 pj) := cell_blk hbx2 rfl
  have c10 : W2.cell? ⟨w.heap.size, 10, none⟩ = some (.int .i64 pn) := cell_blk hbx2 rfl
  have c11 : W2.cell? ⟨w.heap.size, 11, none⟩ = some (.slice x1 cl.length z1) := cell_blk hbx2 rfl
  have c12 : W2.cell? ⟨w.heap.size, 12, none⟩ = some (.bool pl) := cell_blk hbx2 rfl
  have c13 : W2.cell? ⟨w.heap.size, 13, none⟩ = some (.slice x2 y2 z2) := cell_blk hbx2 rfl
  have c14 : W2.cell? ⟨w.heap.size, 14, none⟩ = some (.slice x3 y3 z3) := cell_blk hbx2 rfl
  go_upto_region 3 with (fail)
  have HA2 := Lib.hid (And.intro hA2 (And.intro hbx2 h2))
  clear hA2 hbx2 h2
  go_quiet (fail)
  obtain ⟨hA2, hbx2, h2⟩ := HA2.out
  have hA4 := belowN hA2 nq
  have hbx4 : (W2.drewN nq).heap[w.heap.size]? = some (.cells #[.int .i64 k, .int .i64 a, .int .i64 t2, .int .i64 j2, .int .i64 c, .int .i64 i, .int .i64 n, .int .i64 (q : Int), .int .i64 pt, .int .i64 pj, .int .i64 pn, .slice x1 cl.length z1, .bool pl, .slice x2 y2 z2, .slice x3 y3 z3] 37 (0, 0)) := hbx2
  have h4 := h.below hA4
  clear HA2 hA2 hbx2 h2 c0 c1 c2 c3 c4 c5 c6 c7 c8 c9 c10 c11 c12 c13 c14
  generalize W2.drewN nq = W4 at hA4 hbx4 h4 ⊢
  have c0 : W4.cell? ⟨w.heap.size, 0, none⟩ = some (.int .i64 k) := cell_blk hbx4 rfl
  have c1 : W4.cell? ⟨w.heap.size, 1, none⟩ = some (.int .i64 a) := cell_blk hbx4 rfl
  have c2 : W4.cell? ⟨w.heap.size, 2, none⟩ = some (.int .i64 t2) := cell_blk hbx4 rfl
  have c3 : W4.cell? ⟨w.heap.size, 3, none⟩ = some (.int .i64 j2) := cell_blk hbx4 rfl
  have c4 : W4.cell? ⟨w.heap.size, 4, none⟩ = some (.int .i64 c) := cell_blk hbx4 rfl
  have c5 : W4.cell? ⟨w.heap.size, 5, none⟩ = some (.int .i64 i) := cell_blk hbx4 rfl
  have c6 : W4.cell? ⟨w.heap.size, 6, none⟩ = some (.int .i64 n) := cell_blk hbx4 rfl
  have c7 : W4.cell? ⟨w.heap.size, 7, none⟩ = some (.int .i64 (q : Int)) := cell_blk hbx4 rfl
  have c8 : W4.cell? ⟨w.heap.size, 8, none⟩ = some (.int .i64 pt) := cell_blk hbx4 rfl
  have c9 : W4.cell? ⟨w.heap.size, 9, none⟩ = some (.int .i64 pj) := cell_blk hbx4 rfl
  have c10 : W4.cell? ⟨w.heap.size, 10, none⟩ = some (.int .i64 pn) := cell_blk hbx4 rfl
  have c11 : W4.cell? ⟨w.heap.size, 11, none⟩ = some (.slice x1 cl.length z1) := cell_blk hbx4 rfl
  have c12 : W4.cell? ⟨w.heap.size, 12, none⟩ = some (.bool pl) := cell_blk hbx4 rfl
  have c13 : W4.cell? ⟨w.heap.size, 13, none⟩ = some (.slice x2 y2 z2) := cell_blk hbx4 rfl
  have c14 : W4.cell? ⟨w.heap.size, 14, none⟩ = some (.slice x3 y3 z3) := cell_blk hbx4 rfl
  go_wp2_with fail
  refine (hr W4 hA4).mono ?_
  rintro e w3 ⟨rfl, hb3⟩
  have hA3 := below_trans' hb3 hA4
  have h3 := h4.below hb3
  have hbx3 := (hb3.block _ (Array.getElem?_eq_some_iff.1 hbx4).1).trans hbx4
  have d0 := h3.cell (q := 0) (u := .int .i64 r.id) rfl
  have d1 := h3.cell (q := 1) (u := .int .i64 r.tr) rfl
  have d3 := h3.cell (q := 3) (u := .int .i64 r.ph) rfl
  have e0 : w3.cell? ⟨w.heap.size, 0, none⟩ = some (.int .i64 k) := cell_blk hbx3 rfl
  clear hb3 hbx4 h4 hr c0 c1 c2 c3 c4 c5 c6 c7 c8 c9 c10 c11 c12 c13 c14 h
  go_wp2_with fail
  refine (rvis_any h3 q).mono ?_
  rintro e w4 ⟨rfl, rfl⟩
  rw [HX.out.2.1]
  have hl := h3.l4
  have e4 := h3.cell (q := 4) (u := .slice (some ⟨sb, 0, none⟩) r.st.length r.st.length) rfl
  have g4 := h3.state HX.out.1
  have hq := HX.out.2.2.1
  have fz : w3.frozen? ⟨sb, q, none⟩ = false := h3.st.free q
  have HS := Lib.hid (And.intro (h3.set hq 2) h3)
  obtain ⟨m, hm⟩ : ∃ m, m = r.st.length := ⟨_, rfl⟩
  rw [← hm] at hq hl e4
  have HM := Lib.hid hm
  have HA3 := Lib.hid (And.intro hA3 hbx3)
  clear hm h3 hA3 hbx3 hcw
  go_upto_region 9 with (fail)
  obtain ⟨⟨hK, hO⟩, h3⟩ := HS.out
  generalize w3.setCell ⟨sb, q, none⟩ (.int .i64 2) = w4 at hK hO ⊢
  have hlt := HX.out.2.2.2.1.lt
  have hbx4 := hO.heap HA3.out.2 (fun e => by have := hlt sb (.inr (.inl rfl)); omega)
  have hKl : ({ r with st := r.st.set q 2 } : Rs).st.length = m := by simp [HM.out]
  obtain ⟨r4, hr4⟩ : ∃ r4, r4 = { r with st := r.st.set q 2 } := ⟨_, rfl⟩
  rw [← hr4] at hK hKl
  have hth := hK.there (q := q) (by rw [hKl]; exact hq)
  have hP := hK.setPt (q := q) (by rw [hKl]; exact hq) ⟨(q : Int), pt, pj, pn, .slice x1 cl.length z1, cl, pl⟩
  have e5 := hK.cell (q := 5) (u := .slice (some ⟨pb, 0, none⟩) m m) (by rw [← hKl]; rfl)
  have x7 : w4.cell? ⟨w.heap.size, 7, none⟩ = some (.int .i64 (q : Int)) := cell_blk hbx4 rfl
  have x8 : w4.cell? ⟨w.heap.size, 8, none⟩ = some (.int .i64 pt) := cell_blk hbx4 rfl
  have x9 : w4.cell? ⟨w.heap.size, 9, none⟩ = some (.int .i64 pj) := cell_blk hbx4 rfl
  have x10 : w4.cell? ⟨w.heap.size, 10, none⟩ = some (.int .i64 pn) := cell_blk hbx4 rfl
  have x11 : w4.cell? ⟨w.heap.size, 11, none⟩ = some (.slice x1 cl.length z1) := cell_blk hbx4 rfl
  have x12 : w4.cell? ⟨w.heap.size, 12, none⟩ = some (.bool pl) := cell_blk hbx4 rfl
  obtain ⟨r5, hr5⟩ : ∃ r5, r5 = { r4 with pt := r4.pt.set q ⟨(q : Int), pt, pj, pn, .slice x1 cl.length z1, cl, pl⟩ } := ⟨_, rfl⟩
  have hPd := hK.drew.setPt (q := q) (by rw [hKl]; exact hq) ⟨(q : Int), pt, pj, pn, .slice x1 cl.length z1, cl, pl⟩
  rw [← hr5] at hPd
  have hthd : w4.drew.there pb (q * 6) 6 := hth
  have hOd : Only (· = sb) w3 w4.drew := hO.trans (only_of_below ((Below.refl w4.heap.size w4).drew) _)
  have hbd : w4.drew.heap[w.heap.size]? = _ := hbx4
  have HT := Lib.hid (And.intro hPd (And.intro hr4 (And.intro hr5 (And.intro hKl (And.intro hOd hbd)))))
  have HTH := Lib.hid hthd
  clear hth hthd hP hPd hr4 hr5 hKl hO hOd hbx4 hbd hK HS h3 hlt d0 d1 d3 e0 fz g4 e4
  go_still_tail 8, (by kernel_rfl)
  change wpList _ _ _ _ _ w4.drew
  refine wpList_store_mid rfl 33 _ _ rfl pb (q * 6) #[.int .i64 (q : Int), .int .i64 pt, .int .i64 pj, .int .i64 pn, .slice x1 cl.length z1, .bool pl] (by simp only [go_sem]; simp) rfl HTH.out (by kernel_rfl) (by simp [Value.oneCell']) ?_
  obtain ⟨⟨hK, hO2⟩, hr4, hr5, hKl, hO, hbd⟩ := HT.out
  change wpList _ _ _ _ _ (w4.drew.setCells pb (q * 6) (ePt ⟨(q : Int), pt, pj, pn, .slice x1 cl.length z1, cl, pl⟩))
  generalize w4.drew.setCells pb (q * 6) (ePt ⟨(q : Int), pt, pj, pn, .slice x1 cl.length z1, cl, pl⟩) = w5 at hK hO2 ⊢
  have hlt := HX.out.2.2.2.1.lt
  have hO5 : Only (Rown rb sb pb fb) w3 w5 := (hO.mono fun b _ e => .inr (.inl e)).trans (hO2.mono fun b _ e => .inr (.inr (.inl e)))
  have hKl5 : r5.st.length = m := by rw [hr5]; exact hKl
  have H5 := Lib.hid (And.intro hK (And.intro hO5 (And.intro hr4 (And.intro hr5 hKl5))))
  clear hK hO5 hO2 hr4 hr5 hKl hKl5 hO hbd HT HTH x7 x8 x9 x10 x11 x12 e5 hlt
  go_wp2
  go_loopw [8, 9] (fun i c wr => ∃ u : Nat, u ≤ cl.length ∧ i = .int .i64 u ∧ Rj wr rb sb pb fb { r5 with st := rPinSt r5.st (cl.take u) } ∧ Only (Rown rb sb pb fb) w3 wr) (fun i _ _ => cl.length - (intOf i).toNat)
  case atStart => exact ⟨0, Nat.zero_le _, rfl, H5.out.1, H5.out.2.1⟩
  case round =>
    obtain ⟨u, hu, rfl, hJ, hOw⟩ := hrel
    have hlt := HX.out.2.2.2.1.lt
    have hbr := hOw.heap HA3.out.2 (fun e => by have := hlt _ e; omega)
    have x11 : wr.cell? ⟨w.heap.size, 11, none⟩ = some (.slice x1 cl.length z1) := cell_blk hbr rfl
    have hRS : RS wr 1 eInt (.slice x1 cl.length z1) cl := (HX.out.2.2.2.2.only (only_of_below HA3.out.1 (fun _ => False)) (fun _ _ => id)).only' hOw hcn
    have hcl := hRS.1
    unfold maxLen at hcl
    by_cases huN : u < cl.length
    · obtain ⟨c, hc⟩ : ∃ c, cl[u]? = some c := ⟨_, List.getElem?_eq_getElem huN⟩
      obtain ⟨n, rfl⟩ : ∃ n : Nat, c = n := ⟨c.toNat, by have := hc0 c (List.mem_of_getElem? hc); omega⟩
      have hcw := hc
      obtain ⟨b, off, cap, he, -, hcell⟩ := hRS.int (by omega)
      simp only [Value.slice.injEq] at he
      obtain ⟨hx1, -, hz1⟩ := he
      subst hx1
      subst hz1
      have g := hcell u _ hc
      have HV := Lib.hid (rPinSt_succ r5.st cl u hc)
      have hJl : (rPinSt r5.st (cl.take u)).length = m := by rw [rPinSt_len, H5.out.2.2.2.2]
      generalize rPinSt r5.st (cl.take u) = L at hJ HV hJl
      have e4 := hJ.cell (q := 4) (u := .slice (some ⟨sb, 0, none⟩) m m) (by rw [← hJl]; rfl)
      clear hcell hRS hbr hcw hc
      by_cases hn : n < m
      · have bn : decide ((n : Int) < (m : Int)) = true := decide_eq_true (by omega)
        obtain ⟨x, hx⟩ : ∃ x, L[n]? = some x := ⟨_, List.getElem?_eq_getElem (by rw [hJl]; exact hn)⟩
        have gs := hJ.state (q := n) (x := x) hx
        by_cases hx0 : x = 0
        · have b0 : (x == 0) = true := by simp [hx0]
          have fz : wr.frozen? ⟨sb, n, none⟩ = false := hJ.st.free n
          have hS := hJ.set (q := n) (by show n < L.length; omega) 1
          have HF := Lib.hid (And.intro hS (show rPin1 L n = L.set n 1 by unfold rPin1; rw [Int.toNat_natCast, decide_eq_true (by rw [hJl]; omega), decide_eq_true (by rw [List.getD_eq_getElem?_getD, hx]; exact hx0)]; rfl))
          have HL := Lib.hid hJl
          clear hx0 hS hJ hx hJl
          go_wp2
          exact ⟨⟨u + 1, by omega, by go_num, by rw [HV.out, HF.out.2]; exact HF.out.1.1, hOw.trans (HF.out.1.2.mono fun b _ e => .inr (.inl e))⟩, by simp [intOf]; omega⟩
        · have b0 : (x == 0) = false := by simp [hx0]
          have HF := Lib.hid (show rPin1 L n = L by unfold rPin1; rw [Int.toNat_natCast, decide_eq_false (show ¬ L.getD n 0 = 0 by rw [List.getD_eq_getElem?_getD, hx]; exact hx0)]; simp)
          have HL := Lib.hid hJl
          clear hx0 hx hJl
          go_wp2
          exact ⟨⟨u + 1, by omega, by go_num, by rw [HV.out, HF.out]; exact hJ, hOw⟩, by simp [intOf]; omega⟩
      · have bn : decide ((n : Int) < (m : Int)) = false := decide_eq_false (by omega)
        have HF := Lib.hid (show rPin1 L n = L by unfold rPin1; rw [decide_eq_false (by rw [hJl]; omega)]; simp)
        have HL := Lib.hid hJl
        clear hJl
        go_wp2
        exact ⟨⟨u + 1, by omega, by go_num, by rw [HV.out, HF.out]; exact hJ, hOw⟩, by simp [intOf]; omega⟩
    · have hue : u = cl.length := by omega
      subst hue
      rw [List.take_length] at hJ
      obtain ⟨r6, hr6⟩ : ∃ r6, r6 = { r5 with st := rPinSt r5.st cl } := ⟨_, rfl⟩
      rw [← hr6] at hJ
      have hl6 : r6.st.length = m := by rw [hr6]; show (rPinSt r5.st cl).length = m; rw [rPinSt_len, H5.out.2.2.2.2]
      have hR6 : rPin2 r ⟨(q : Int), pt, pj, pn, .slice x1 cl.length z1, cl, pl⟩ = r6 := by
        rw [hr6, H5.out.2.2.2.1, H5.out.2.2.1]; unfold rPin2; simp
      have HQ := Lib.hid (And.intro hl6 (And.intro hR6 hJ))
      have e4 := hJ.cell (q := 4) (u := .slice (some ⟨sb, 0, none⟩) m m) (by rw [← hl6]; rfl)
      clear hr6 hl6 hR6 hRS hbr
      go_wp2
      go_loop [7, 10] (fun al i => ∃ u : Nat, u ≤ m ∧ i = .int .i64 u ∧ al = .bool (rPinTo r6.st u)) (fun _ i => m - (intOf i).toNat)
      case atStart => exact ⟨0, Nat.zero_le _, rfl, rfl⟩
      case round =>
        obtain ⟨u, hu, rfl, rfl⟩ := hrel
        by_cases huN : u < m
        · obtain ⟨x, hx⟩ : ∃ x, r6.st[u]? = some x := ⟨_, List.getElem?_eq_getElem (by rw [HQ.out.1]; exact huN)⟩
          have c := hJ.state hx
          have HV := Lib.hid (rPinTo_succ r6.st u hx)
          generalize rPinTo r6.st u = B at HV ⊢
          clear hx
          cases B with
          | false =>
            go_wp2
            exact ⟨⟨u + 1, by omega, by go_num, by rw [HV.out]; rfl⟩, by simp [intOf]; omega⟩
          | true =>
            by_cases hx0 : x = 1
            · have bx : (x != 1) = false := by simp [hx0]
              have HX := Lib.hid hx0
              clear hx0
              go_wp2
              exact ⟨⟨u + 1, by omega, by go_num, by rw [HV.out, HX.out]; rfl⟩, by simp [intOf]; omega⟩
            · have bx : (x != 1) = true := by simp [hx0]
              have HX := Lib.hid hx0
              clear hx0
              go_wp2
              exact ⟨⟨u + 1, by omega, by go_num, by rw [HV.out, decide_eq_true HX.out]; rfl⟩, by simp [intOf]; omega⟩
        · have hue : u = m := by omega
          have HU := Lib.hid (show rPinTo r6.st u = r6.st.all fun x => decide (x ≠ 1) by unfold rPinTo; rw [hue, ← HQ.out.1, List.take_length])
          clear hue
          obtain ⟨B, hB⟩ : ∃ B, B = rPinTo r6.st u := ⟨_, rfl⟩
          rw [← hB]
          have HB := Lib.hid hB
          clear hB
          have hOf : Only (Rown rb sb pb fb) w wr := (Rown.none rb sb pb fb HA3.out.1).trans hOw
          cases B with
          | false =>
            go_wp2
            go_end0
            refine ⟨rfl, ?_, hOf⟩
            rw [HR.out, HQ.out.2.1, ← HU.out, ← HB.out]; exact HQ.out.2.2
          | true =>
            have hS := hJ.setPh 2
            have fz := froz_blk hJ.blk 3
            have d3 := hJ.cell (q := 3) (u := .int .i64 r6.ph) rfl
            have HS := Lib.hid hS
            clear hS hJ
            go_upto_region 23 with (fail)
            obtain ⟨hK7, hO7⟩ := HS.out
            generalize wr.setCell ⟨rb, 3, none⟩ (.int .i64 2) = w7 at hK7 hO7 ⊢
            have hS := hK7.setFull true
            have fz3 := froz_blk hK7.blk 7
            have d7 := hK7.cell (q := 7) (u := .bool r6.full) rfl
            have HS2 := Lib.hid (And.intro hS hO7)
            clear hS hK7 HS d3 fz hO7
            go_wp2
            go_end0
            refine ⟨rfl, ?_, ?_⟩
            · rw [HR.out, HQ.out.2.1, ← HU.out, ← HB.out]; exact HS2.out.1.1
            · exact (hOf.trans (HS2.out.2.mono fun b _ e => .inl e)).trans (HS2.out.1.2.mono fun b _ e => .inl e)
end Go.Proofs.Ytniggacgkhkgiaa.Job
/- What the reference's job hears: any message. Conditions: it lies in memory as Rj says, and the message's crumbs in what was there ahead of it. -/
namespace Go.Sp
open Go.RowKit
/-- a message's slices, as they lay at the start -/
def Base13 (w0 : World) : Mg → Prop
  | .chunk _ _ _ _ _ sv xs => RS w0 3 eSpn sv xs
  | .pinned p => RS w0 1 eInt p.cv p.cl
  | _ => True
theorem rHear_no' {r : Rs} {m : Mg} (h : (rightM m && (decide (mT m = r.tr) && decide (mJ m = r.id))) = false) : rHear r m = r := by unfold rHear; rw [h]; rfl
theorem rHear_yes {r : Rs} {m : Mg} (h : (rightM m && (decide (mT m = r.tr) && decide (mJ m = r.id))) = true) : rHear r m = rHearK r m := by unfold rHear; rw [h]; rfl
theorem ok3 {b c : Prop} {x : Bool} [Decidable b] [Decidable c] (h : (x && (decide b && decide c)) = false) : x = false ∨ ¬ b ∨ ¬ c := by
  cases x with
  | false => exact .inl rfl
  | true =>
    by_cases hb : b
    · by_cases hc : c
      · simp [hb, hc] at h
      · exact .inr (.inr hc)
    · exact .inr (.inl hb)
theorem ok3t {b c : Prop} {x : Bool} [Decidable b] [Decidable c] (h : (x && (decide b && decide c)) = true) : x = true ∧ b ∧ c := by
  simpa using h
/-- whoever is among the parts behind a message was, or was told -/
theorem rHear_pt {r : Rs} {m : Mg} {p : Pt} (h : p ∈ (rHear r m).pt) : p ∈ r.pt ∨ m = .pinned p := by
  unfold rHear at h
  cases hok : rightM m && (decide (mT m = r.tr) && decide (mJ m = r.id)) with
  | false => rw [hok] at h; exact .inl h
  | true =>
    rw [hok] at h
    simp only [cond_true] at h
    cases m with
    | pinned q =>
      simp only [rHearK, rPin] at h
      have e : ∀ {x : Pt}, x ∈ (rPin2 r q).pt → x ∈ r.pt ∨ Mg.pinned q = .pinned x := fun {x} hx => by
        rcases List.mem_or_eq_of_mem_set (show x ∈ r.pt.set q.a.toNat q from hx) with e | e
        · exact .inl e
        · exact .inr (by rw [e])
      revert h
      cases decide (r.ph = 1) && (rvis r q.a && decide (r.st.getD q.a.toNat 0 = 1)) with
      | false => exact fun h => .inl h
      | true =>
        simp only [cond_true]
        cases (rPin2 r q).st.all fun x => decide (x ≠ 1) with
        | false => exact fun h => e h
        | true => exact fun h => e h
    | gone a t j =>
      simp only [rHearK] at h
      revert h
      cases decide (r.ph ≤ 2) && rvis r a <;> exact fun h => .inl h
    | stor t j =>
      simp only [rHearK] at h
      revert h
      cases decide (r.ph = 2) || decide (r.ph = 3) <;> exact fun h => .inl h
    | unpd a t j =>
      simp only [rHearK, rFree] at h
      revert h
      cases decide (r.ph = 3) && rvis r a with
      | false => exact fun h => .inl h
      | true =>
        simp only [cond_true]
        cases rAll (rFree2 r a) <;> exact fun h => .inl h
    | _ => exact .inl h
end Go.Sp
namespace Go.Proofs.Ytniggacgkhkgiaa.Job
open Go.RowKit Go.Sp Msg Go.Sort

theorem rHear_any {w0 w : World} {rb sb pb fb : Nat} {r : Rs} {m : Mg} {pv' : Value} (h : Rj w rb sb pb fb r) (hl : LikeIn w pv' m) (hf : ∃ x y z, pv' = .slice x y z) (h0 : Base13 w0 m) (hown : ∀ b, Rown rb sb pb fb b → w0.heap.size ≤ b) :
    Calls Try.prog 22 #[.pointer (some ⟨rb, 0, none⟩), .agg (eMs (likeM pv' m)).toArray] w fun e w' => e = .returned (.tuple #[]) ∧ Rj w' rb sb pb fb (rHear r m) ∧ Only (Rown rb sb pb fb) w w' := by
  have hr : ∀ w', Below w.heap.size w w' → Calls Try.prog 36 #[.agg (eMs (likeM pv' m)).toArray] w' fun e w'' => e = .returned (.bool (rightM m)) ∧ Below w'.heap.size w' w'' := fun w' hb => r59_any (hl.below hb)
  have nf : ∃ x y z, (Value.slice none 0 0) = .slice x y z := ⟨_, _, _, rfl⟩
  have no : ∀ {X : Array Value}, rHear r m = r → Calls Try.prog 22 #[.pointer (some ⟨rb, 0, none⟩), .agg X] w (fun e w' => e = .returned (.tuple #[]) ∧ Below w.heap.size w w') →
      Calls Try.prog 22 #[.pointer (some ⟨rb, 0, none⟩), .agg X] w fun e w' => e = .returned (.tuple #[]) ∧ Rj w' rb sb pb fb (rHear r m) ∧ Only (Rown rb sb pb fb) w w' := fun he hc => hc.mono fun e w' ⟨h1, h2⟩ => ⟨h1, by rw [he]; exact h.below h2, Rown.none rb sb pb fb h2⟩
  cases hok : rightM m && (decide (mT m = r.tr) && decide (mJ m = r.id)) with
  | false =>
    have h3 : rightM m = false ∨ mT m ≠ r.tr ∨ mJ m ≠ r.id := ok3 hok
    refine no (rHear_no' hok) ?_
    cases m with
    | pinned p =>
      have hfs : ∃ x y z, p.cv = .slice x y z := by obtain ⟨_, a, c, e, _⟩ := (show RS w0 1 eInt p.cv p.cl from h0); exact ⟨_, _, _, e⟩
      refine rHear_pno h hfs nf nf hr (by simp [likeM]) ?_
      rcases h3 with e | e | e
      · exact .inl e
      · exact .inr (.inl e)
      · exact .inr (.inr (.inl e))
    | chunk a t j i n sv xs =>
      have hfs : ∃ x y z, sv = .slice x y z := by obtain ⟨_, a, c, e, _⟩ := (show RS w0 3 eSpn sv xs from h0); exact ⟨_, _, _, e⟩
      refine rHear_no h nf nf hfs hr (by simp [likeM]) (.inr (.inr (.inr ⟨by simp [likeM], by simp [likeM], by simp [likeM]⟩)))
    | mani t j c pv ps => exact rHear_no h nf hf nf hr (by simp [likeM]) (.inr (.inr (.inr ⟨by simp [likeM], by simp [likeM], by simp [likeM]⟩)))
    | none => exact rHear_no h nf nf nf hr (by simp [likeM]) (.inr (.inr (.inr ⟨by simp [likeM], by simp [likeM], by simp [likeM]⟩)))
    | trig a t c => exact rHear_no h nf nf nf hr (by simp [likeM]) (.inr (.inr (.inr ⟨by simp [likeM], by simp [likeM], by simp [likeM]⟩)))
    | pin t j => exact rHear_no h nf nf nf hr (by simp [likeM]) (.inr (.inr (.inr ⟨by simp [likeM], by simp [likeM], by simp [likeM]⟩)))
    | coll t j => exact rHear_no h nf nf nf hr (by simp [likeM]) (.inr (.inr (.inr ⟨by simp [likeM], by simp [likeM], by simp [likeM]⟩)))
    | unp t j => exact rHear_no h nf nf nf hr (by simp [likeM]) (.inr (.inr (.inr ⟨by simp [likeM], by simp [likeM], by simp [likeM]⟩)))
    | gone a t j => exact rHear_no h nf nf nf hr (by simp [likeM]) (h3.imp id (Or.imp id .inl))
    | stor t j => exact rHear_no h nf nf nf hr (by simp [likeM]) (h3.imp id (Or.imp id .inl))
    | unpd a t j => exact rHear_no h nf nf nf hr (by simp [likeM]) (h3.imp id (Or.imp id .inl))
  | true =>
    obtain ⟨g1, g2, g3⟩ := ok3t hok
    have hy := rHear_yes hok
    cases m with
    | pinned p =>
      have hcw : RS w0 1 eInt p.cv p.cl := h0
      have hfs : ∃ x y z, p.cv = .slice x y z := by obtain ⟨_, a, c, e, _⟩ := hcw; exact ⟨_, _, _, e⟩
      have hRS : RS w 1 eInt p.cv p.cl := hl
      by_cases hlate : r.ph ≠ 1 ∨ rvis r p.a = false ∨ r.st.getD p.a.toNat 0 ≠ 1
      · refine no ?_ (rHear_pno h hfs nf nf hr (by simp [likeM]) (.inr (.inr (.inr hlate))))
        rw [hy]
        show rPin r p = r
        unfold rPin
        rcases hlate with e | e | e
        · rw [decide_eq_false e]; rfl
        · rw [e]; simp
        · rw [decide_eq_false e]; simp
      · have e1 : r.ph = 1 := Decidable.byContradiction fun e => hlate (.inl e)
        have e2 : rvis r p.a = true := by
          cases e : rvis r p.a with
          | true => rfl
          | false => exact absurd (.inr (.inl e)) hlate
        have e3 : r.st.getD p.a.toNat 0 = 1 := Decidable.byContradiction fun e => hlate (.inr (.inr e))
        rw [hy]
        refine rHear_pin h hfs nf nf hr hRS (fun hn g hg e => ?_) (rightP_cl g1).2 rfl g1 g2 g3 e1 e2 e3
        obtain ⟨_, a, c, e5, h2⟩ := hcw
        obtain ⟨b, off, rfl, hb, _⟩ := h2 hn
        rw [e5] at hg
        simp [Value.ownBlock] at hg
        subst hg
        have := hown _ e
        omega
    | chunk a t j i n sv xs =>
      have hfs : ∃ x y z, sv = .slice x y z := by obtain ⟨_, a, c, e, _⟩ := (show RS w0 3 eSpn sv xs from h0); exact ⟨_, _, _, e⟩
      exact no hy (rHear_no h nf nf hfs hr (by simp [likeM]) (.inr (.inr (.inr ⟨by simp [likeM], by simp [likeM], by simp [likeM]⟩))))
    | mani t j c pv ps => exact no hy (rHear_no h nf hf nf hr (by simp [likeM]) (.inr (.inr (.inr ⟨by simp [likeM], by simp [likeM], by simp [likeM]⟩))))
    | none => exact no hy (rHear_no h nf nf nf hr (by simp [likeM]) (.inr (.inr (.inr ⟨by simp [likeM], by simp [likeM], by simp [likeM]⟩))))
    | trig a t c => exact no hy (rHear_no h nf nf nf hr (by simp [likeM]) (.inr (.inr (.inr ⟨by simp [likeM], by simp [likeM], by simp [likeM]⟩))))
    | pin t j => exact no hy (rHear_no h nf nf nf hr (by simp [likeM]) (.inr (.inr (.inr ⟨by simp [likeM], by simp [likeM], by simp [likeM]⟩))))
    | coll t j => exact no hy (rHear_no h nf nf nf hr (by simp [likeM]) (.inr (.inr (.inr ⟨by simp [likeM], by simp [likeM], by simp [likeM]⟩))))
    | unp t j => exact no hy (rHear_no h nf nf nf hr (by simp [likeM]) (.inr (.inr (.inr ⟨by simp [likeM], by simp [likeM], by simp [likeM]⟩))))
    | gone a t j => rw [hy]; exact rHear_gone h nf nf nf hr rfl g1 g2 g3
    | stor t j => rw [hy]; exact rHear_stor h nf nf nf hr rfl g1 g2 g3
    | unpd a t j => rw [hy]; exact rHear_unpd h nf nf nf hr rfl g1 g2 g3
end Go.Proofs.Ytniggacgkhkgiaa.Job
