/- The reference's job in plain words: whom it visited, its manifest, its outs are the job's. No condition beyond those each lemma names. -/
import Derived.Test.YtniggacgkhkgiaaPkJobPlays18
import Derived.BigQuiet
namespace Go.Sp
open Go.RowKit
theorem flat_congr {α β : Type} {f g : α → List β} : ∀ {l : List α}, (∀ x ∈ l, f x = g x) → l.flatMap f = l.flatMap g
  | [], _ => rfl
  | x :: r, h => by rw [List.flatMap_cons, List.flatMap_cons, h x List.mem_cons_self, flat_congr (fun y hy => h y (List.mem_cons_of_mem _ hy))]
theorem flat_range {α β : Type} {f : Int × α → List β} : ∀ (n lo : Nat) {vs : List (Int × α)}, KS vs → (∀ p ∈ vs, (lo : Int) ≤ p.1 ∧ p.1 < (lo + n : Nat)) → vs.flatMap f = (List.range' lo n).flatMap fun i : Nat => ((mget (i : Int) vs).map fun v => f ((i : Int), v)).getD []
  | 0, lo, vs, _, h => by
    cases vs with
    | nil => rfl
    | cons p r => have := h p List.mem_cons_self; omega
  | n + 1, lo, vs, hs, h => by
    rw [List.range'_succ, List.flatMap_cons]
    cases vs with
    | nil =>
      have := flat_range (f := f) n (lo + 1) (vs := []) hs (fun p hp => by simp at hp)
      rw [← this]; rfl
    | cons p r =>
      have h' := List.pairwise_cons.1 hs
      have hp := h p List.mem_cons_self
      by_cases e : p.1 = (lo : Int)
      · have hr : ∀ q ∈ r, ((lo + 1 : Nat) : Int) ≤ q.1 ∧ q.1 < (lo + 1 + n : Nat) := fun q hq => by
          have h1 := h'.1 q hq
          have h2 := h q (List.mem_cons_of_mem _ hq)
          omega
        have ih := flat_range (f := f) n (lo + 1) h'.2 hr
        have h0 : mget (lo : Int) (p :: r) = some p.2 := by simp [mget, e]
        rw [h0, List.flatMap_cons, ih]
        have e1 : p = ((lo : Int), p.2) := by rw [← e]
        congr 1
        · rw [e1]; rfl
        · refine flat_congr fun i hi => ?_
          have hi' := List.mem_range'.1 hi
          obtain ⟨k, _, rfl⟩ := hi'
          have : mget ((lo + 1 + 1 * k : Nat) : Int) (p :: r) = mget ((lo + 1 + 1 * k : Nat) : Int) r := by
            simp only [mget]
            rw [if_neg (by omega)]
          rw [this]
      · have hr : ∀ q ∈ p :: r, ((lo + 1 : Nat) : Int) ≤ q.1 ∧ q.1 < (lo + 1 + n : Nat) := fun q hq => by
          have h2 := h q hq
          rcases List.mem_cons.1 hq with rfl | hq
          · omega
          · have h1 := h'.1 q hq
            omega
        have ih := flat_range (f := f) n (lo + 1) hs hr
        have h0 : mget (lo : Int) (p :: r) = none := by
          cases e0 : mget (lo : Int) (p :: r) with
          | none => rfl
          | some x => have := hr _ (mget_mem e0); simp only at this; omega
        rw [h0, ih]; rfl
theorem flat_all {α β : Type} {f : Int × α → List β} {n : Nat} {vs : List (Int × α)} (hs : KS vs) (h : ∀ p ∈ vs, 0 ≤ p.1 ∧ p.1 < (n : Int)) : vs.flatMap f = (List.range n).flatMap fun i : Nat => ((mget (i : Int) vs).map fun v => f ((i : Int), v)).getD [] := by
  rw [List.range_eq_range']
  exact flat_range n 0 hs (fun p hp => by have := h p hp; omega)
/-- what holds of a job on its way -/
structure Inv (J : Jb) : Prop where
  fp : J.full = true → ∀ p ∈ J.vs, p.2.pin = true
  pf : J.ph = 2 → J.full = true
theorem mput_mem' {α : Type} {k : Int} {v : α} {m : List (Int × α)} {q : Int × α} (h : q ∈ mput k v m) : q = (k, v) ∨ q ∈ m := mem_mput h
section
variable {J : Jb} {r : Rs}
theorem Inv.hear (h : Inv J) (hs : KS J.vs) (m : Mg) : Inv (hearJ J m) := by
  unfold hearJ
  cases jobOk J m with
  | false => exact h
  | true =>
    simp only [cond_true]
    cases m with
    | pinned p =>
      show Inv (match mget p.a J.vs with | none => J | some v => pinJ J p.a v p)
      cases e : mget p.a J.vs with
      | none => exact h
      | some v =>
        show Inv (pinJ J p.a v p)
        unfold pinJ
        cases hc : decide (J.ph ≠ 1) || v.pin with
        | true => exact h
        | false =>
          simp only [cond_false]
          simp only [Bool.or_eq_false_iff, decide_eq_false_iff_not, ne_eq, Decidable.not_not] at hc
          have hnf : J.full = false := by
            cases hf : J.full with
            | false => rfl
            | true => have := h.fp hf _ (mget_mem e); simp only at this; rw [hc.2] at this; cases this
          cases ha : allV (fun v => v.pin) (pinVs J p.a v p) with
          | true =>
            refine ⟨fun _ q hq => ?_, fun _ => rfl⟩
            unfold allV at ha
            rw [List.all_eq_true] at ha
            exact ha q hq
          | false => exact ⟨fun e2 => (by have e2 : J.full = true := e2; rw [hnf] at e2; cases e2), fun e2 => (by have e2 : J.ph = 2 := e2; omega)⟩
    | gone a t j =>
      show Inv (match mget a J.vs with | none => J | some _ => bif decide (J.ph ≤ 2) then { J with ph := 3 } else J)
      cases mget a J.vs with
      | none => exact h
      | some v =>
        simp only
        cases decide (J.ph ≤ 2) with
        | true => exact ⟨h.fp, fun e => by simp at e⟩
        | false => exact h
    | stor t j =>
      show Inv (bif decide (J.ph = 2) || decide (J.ph = 3) then { J with kept := true, ph := 3 } else J)
      cases decide (J.ph = 2) || decide (J.ph = 3) with
      | true => exact ⟨h.fp, fun e => by simp at e⟩
      | false => exact h
    | unpd a t j =>
      show Inv (match mget a J.vs with | none => J | some v => freeJ J a v)
      cases e : mget a J.vs with
      | none => exact h
      | some v =>
        show Inv (freeJ J a v)
        unfold freeJ
        cases hc : decide (J.ph ≠ 3) with
        | true => exact h
        | false =>
          simp only [cond_false]
          have h3 : J.ph = 3 := by simpa using hc
          have hf : J.full = true → ∀ q ∈ freeVs J a v, q.2.pin = true := fun hf q hq => by
            unfold freeVs at hq
            rcases mem_mput hq with rfl | hq
            · have := h.fp hf _ (mget_mem e)
              exact this
            · exact h.fp hf q hq
          cases allV (fun v => v.free) (freeVs J a v) with
          | true => exact ⟨hf, fun e => by simp at e⟩
          | false => exact ⟨hf, fun e => by have e : J.ph = 2 := e; omega⟩
    | _ => exact h
/-- whom it visited -/
theorem Rel.visited (h : Rel J r) : visTo r.st r.st.length = J.vs.map Prod.fst := by
  have e1 : J.vs.map Prod.fst = J.vs.flatMap fun p => [p.1] := by induction J.vs with
    | nil => rfl
    | cons p r ih => rw [List.map_cons, List.flatMap_cons, ih]; rfl
  have e2 : visTo r.st r.st.length = (List.range r.st.length).flatMap fun i : Nat => bif decide (0 < r.st.getD i 0) then [(i : Int)] else [] := by
    unfold visTo
    induction List.range r.st.length with
    | nil => rfl
    | cons i l ih =>
      rw [List.flatMap_cons, ← ih]
      cases hd : decide (0 < r.st.getD i 0) with
      | true => rw [List.filter_cons_of_pos (by exact hd)]; rfl
      | false => rw [List.filter_cons_of_neg (by rw [hd]; simp)]; rfl
  rw [e1, flat_all h.ks h.rg, e2]
  refine flat_congr fun i hi => ?_
  have hg := h.st.getD (List.mem_range.1 hi)
  rw [hg]
  cases mget (i : Int) J.vs with
  | none => rfl
  | some v => cases hp : v.pin <;> simp [stt, hp]
/-- what its manifest has -/
theorem Rel.parts (h : Rel J r) (hi : Inv J) (hf : J.full = true) : (visPts r r.st.length).map strip = partsJ J := by
  have e1 : partsJ J = J.vs.flatMap fun p => [tld p.2] := by
    unfold partsJ
    induction J.vs with
    | nil => rfl
    | cons p r ih => rw [List.map_cons, List.flatMap_cons, ih]; rfl
  rw [e1, flat_all h.ks h.rg]
  unfold visPts
  rw [List.map_flatMap]
  refine flat_congr fun i hi' => ?_
  have hil := List.mem_range.1 hi'
  have hg := h.st.getD hil
  rw [hg]
  cases e : mget (i : Int) J.vs with
  | none => rfl
  | some v =>
    have hp := hi.fp hf _ (mget_mem e)
    simp only at hp
    obtain ⟨p, h1, h2⟩ := h.pt i v e hp
    rw [List.getD_eq_getElem?_getD, h1]
    simp [stt, hp, h2]
/-- what it says to agents -/
theorem Rel.outs (h : Rel J r) : outR r r.st.length = (outsT J).map fun x => (x.1, likeM (.slice none 0 0) x.2) := by
  unfold outsT outR
  rw [List.map_flatMap, flat_all h.ks h.rg]
  refine flat_congr fun i hi => ?_
  have hil := List.mem_range.1 hi
  have hg := h.st.getD hil
  rw [hg, List.getD_eq_getElem?_getD, h.fr i hil]
  cases e : mget (i : Int) J.vs with
  | none => simp [stt, kindR]
  | some v =>
    simp only [Option.map_some, Option.getD_some, frr]
    unfold kindR outV
    rw [h.ph]
    cases hp : v.pin with
    | true =>
      by_cases h1 : J.ph = 1
      · simp [stt, hp, h1]
      · by_cases h2 : J.ph = 2
        · simp [stt, hp, h2, outMs, likeM, h.tr, h.id]
        · by_cases h3 : J.ph = 3
          · by_cases hfr : v.free = true <;> simp [stt, hp, h3, hfr, outMs, likeM, h.tr, h.id]
          · simp [stt, hp, h1, h2, h3]
    | false =>
      by_cases h1 : J.ph = 1
      · simp [stt, hp, h1, outMs, likeM, h.tr, h.id]
      · by_cases h2 : J.ph = 2
        · simp [stt, hp, h2, outMs, likeM, h.tr, h.id]
        · by_cases h3 : J.ph = 3
          · by_cases hfr : v.free = true <;> simp [stt, hp, h3, hfr, outMs, likeM, h.tr, h.id]
          · simp [stt, hp, h1, h2, h3]
end
end Go.Sp
/- What the reference job's Hear does with a message of another kind than Pinned. Conditions: it lies in memory as Rj says. PRINTED BY wip/gen_rj7.py. -/
namespace Go.Proofs.Ytniggacgkhkgiaa.Job
open Go.RowKit Go.Sp Msg Go.Sort

theorem Rown.none (rb sb pb fb : Nat) {w w' : World} (h : Below w.heap.size w w') : Only (Rown rb sb pb fb) w w' := only_of_below h _

set_option maxRecDepth 100000 in
set_option maxHeartbeats 4000000 in
/-- a message that is not for it, or that changes nothing -/
theorem rHear_no {w : World} {rb sb pb fb : Nat} {r : Rs} {k a t2 j2 c i n pa pt pj pn : Int} {pcv pv sv : Value} {pl rr : Bool} (h : Rj w rb sb pb fb r) (fcv : ∃ x y z, pcv = .slice x y z) (fpv : ∃ x y z, pv = .slice x y z) (fsv : ∃ x y z, sv = .slice x y z)
    (hr : ∀ w', Below w.heap.size w w' → Calls Try.prog 36 #[.agg #[.int .i64 k, .int .i64 a, .int .i64 t2, .int .i64 j2, .int .i64 c, .int .i64 i, .int .i64 n, .int .i64 pa, .int .i64 pt, .int .i64 pj, .int .i64 pn, pcv, .bool pl, pv, sv]] w' fun e w'' => e = .returned (.bool rr) ∧ Below w'.heap.size w' w'')
    (hk : k ≠ 3) (hno : rr = false ∨ t2 ≠ r.tr ∨ j2 ≠ r.id ∨ (k ≠ 4 ∧ k ≠ 8 ∧ k ≠ 10)) :
    Calls Try.prog 22 #[.pointer (some ⟨rb, 0, none⟩), .agg #[.int .i64 k, .int .i64 a, .int .i64 t2, .int .i64 j2, .int .i64 c, .int .i64 i, .int .i64 n, .int .i64 pa, .int .i64 pt, .int .i64 pj, .int .i64 pn, pcv, .bool pl, pv, sv]] w fun e w' => e = .returned (.tuple #[]) ∧ Below w.heap.size w w' := by
  obtain ⟨x1, y1, z1, rfl⟩ := fcv
  obtain ⟨x2, y2, z2, rfl⟩ := fpv
  obtain ⟨x3, y3, z3, rfl⟩ := fsv
  have hA := below_alloc (Below.refl w.heap.size w) (.cells #[.int .i64 k, .int .i64 a, .int .i64 t2, .int .i64 j2, .int .i64 c, .int .i64 i, .int .i64 n, .int .i64 pa, .int .i64 pt, .int .i64 pj, .int .i64 pn, .slice x1 y1 z1, .bool pl, .slice x2 y2 z2, .slice x3 y3 z3] 37)
  have hbx := heap_new w (.cells #[.int .i64 k, .int .i64 a, .int .i64 t2, .int .i64 j2, .int .i64 c, .int .i64 i, .int .i64 n, .int .i64 pa, .int .i64 pt, .int .i64 pj, .int .i64 pn, .slice x1 y1 z1, .bool pl, .slice x2 y2 z2, .slice x3 y3 z3] 37) rfl
  go_enter Try.func22, Try.ntmps22
  go_upto_region 1 with (fail)
  generalize (w.alloc (.cells #[.int .i64 k, .int .i64 a, .int .i64 t2, .int .i64 j2, .int .i64 c, .int .i64 i, .int .i64 n, .int .i64 pa, .int .i64 pt, .int .i64 pj, .int .i64 pn, .slice x1 y1 z1, .bool pl, .slice x2 y2 z2, .slice x3 y3 z3] 37)) = W1 at hA hbx ⊢
  have c1 : W1.cell? ⟨w.heap.size, 1, none⟩ = some (.int .i64 a) := cell_blk hbx rfl
  have c2 : W1.cell? ⟨w.heap.size, 2, none⟩ = some (.int .i64 t2) := cell_blk hbx rfl
  have c3 : W1.cell? ⟨w.heap.size, 3, none⟩ = some (.int .i64 j2) := cell_blk hbx rfl
  have HA := Lib.hid (And.intro hA hbx)
  clear hA hbx
  go_quiet (fail)
  obtain ⟨hA, hbx⟩ := HA.out
  have hA2 := belowN hA nq
  have hbx2 : (W1.drewN nq).heap[w.heap.size]? = some (.cells #[.int .i64 k, .int .i64 a, .int .i64 t2, .int .i64 j2, .int .i64 c, .int .i64 i, .int .i64 n, .int .i64 pa, .int .i64 pt, .int .i64 pj, .int .i64 pn, .slice x1 y1 z1, .bool pl, .slice x2 y2 z2, .slice x3 y3 z3] 37 (0, 0)) := hbx
  generalize W1.drewN nq = W2 at hA2 hbx2 ⊢
  clear HA hA hbx c1 c2 c3
  have h2 := h.below hA2
  have c0 : W2.cell? ⟨w.heap.size, 0, none⟩ = some (.int .i64 k) := cell_blk hbx2 rfl
  have c1 : W2.cell? ⟨w.heap.size, 1, none⟩ = some (.int .i64 a) := cell_blk hbx2 rfl
  have c2 : W2.cell? ⟨w.heap.size, 2, none⟩ = some (.int .i64 t2) := cell_blk hbx2 rfl
  have c3 : W2.cell? ⟨w.heap.size, 3, none⟩ = some (.int .i64 j2) := cell_blk hbx2 rfl
  have c4 : W2.cell? ⟨w.heap.size, 4, none⟩ = some (.int .i64 c) := cell_blk hbx2 rfl
  have c5 : W2.cell? ⟨w.heap.size, 5, none⟩ = some (.int .i64 i) := cell_blk hbx2 rfl
  have c6 : W2.cell? ⟨w.heap.size, 6, none⟩ = some (.int .i64 n) := cell_blk hbx2 rfl
  have c7 : W2.cell? ⟨w.heap.size, 7, none⟩ = some (.int .i64 pa) := cell_blk hbx2 rfl
  have c8 : W2.cell? ⟨w.heap.size, 8, none⟩ = some (.int .i64 pt) := cell_blk hbx2 rfl
  have c9 : W2.cell? ⟨w.heap.size, 9, none⟩ = some (.int .i64 pj) := cell_blk hbx2 rfl
  have c10 : W2.cell? ⟨w.heap.size, 10, none⟩ = some (.int .i64 pn) := cell_blk hbx2 rfl
  have c11 : W2.cell? ⟨w.heap.size, 11, none⟩ = some (.slice x1 y1 z1) := cell_blk hbx2 rfl
  have c12 : W2.cell? ⟨w.heap.size, 12, none⟩ = some (.bool pl) := cell_blk hbx2 rfl
  have c13 : W2.cell? ⟨w.heap.size, 13, none⟩ = some (.slice x2 y2 z2) := cell_blk hbx2 rfl
  have c14 : W2.cell? ⟨w.heap.size, 14, none⟩ = some (.slice x3 y3 z3) := cell_blk hbx2 rfl
  have b3 : (k == 3) = false := by simp [hk]
  clear hk
  go_wp2_with fail
  refine (hr W2 hA2).mono ?_
  rintro e w3 ⟨rfl, hb3⟩
  have hA3 := below_trans' hb3 hA2
  have h3 := h2.below hb3
  have hbx3 := (hb3.block _ (Array.getElem?_eq_some_iff.1 hbx2).1).trans hbx2
  have d0 := h3.cell (q := 0) (u := .int .i64 r.id) rfl
  have d1 := h3.cell (q := 1) (u := .int .i64 r.tr) rfl
  have e0 : w3.cell? ⟨w.heap.size, 0, none⟩ = some (.int .i64 k) := cell_blk hbx3 rfl
  clear hb3 hbx2 h2 hr c0 c1 c2 c3 c4 c5 c6 c7 c8 c9 c10 c11 c12 c13 c14 h
  cases rr with
  | false =>
    go_wp2
    go_returns
    exact ⟨rfl, hA3⟩
  | true =>
    by_cases ht : t2 = r.tr
    · have bt : (t2 != r.tr) = false := by simp [ht]
      by_cases hj : j2 = r.id
      · have bj : (j2 != r.id) = false := by simp [hj]
        have hk3 : k ≠ 4 ∧ k ≠ 8 ∧ k ≠ 10 := by
          rcases hno with e | e | e | e
          · cases e
          · exact absurd ht e
          · exact absurd hj e
          · exact e
        have b4 : (k == 4) = false := by simp [hk3.1]
        have b8 : (k == 8) = false := by simp [hk3.2.1]
        have b10 : (k == 10) = false := by simp [hk3.2.2]
        clear hno ht hj hk3
        go_wp2
        go_end0
        exact ⟨rfl, hA3⟩
      · have bj : (j2 != r.id) = true := by simp [hj]
        clear hno ht hj
        go_wp2
        go_returns
        exact ⟨rfl, hA3⟩
    · have bt : (t2 != r.tr) = true := by simp [ht]
      clear hno ht
      go_wp2
      go_returns
      exact ⟨rfl, hA3⟩
end Go.Proofs.Ytniggacgkhkgiaa.Job
/- Fields of the reference's job that are stored anew. Conditions: it lies in memory as Rj says. PRINTED BY wip/gen_rj7.py. -/
namespace Go.Proofs.Ytniggacgkhkgiaa.Job
open Go.RowKit Go.Sp Msg Go.Sort

section
variable {w w1 : World} {rb sb pb fb : Nat} {r r' : Rs}
theorem Rj.own (h : Rj w rb sb pb fb r) (hb : w1.heap[rb]? = some (.cells (eRs r' sb pb fb) 54 (0, 0))) (hO : Only (· = rb) w w1) (e1 : r'.st = r.st) (e2 : r'.pt = r.pt) (e3 : r'.fr = r.fr) : Rj w1 rb sb pb fb r' := by
  obtain ⟨n1, n2, n3, n4, n5, n6⟩ := h.ne
  refine ⟨hb, ?_, ?_, ?_, by rw [e1, e2]; exact h.lp, by rw [e1, e3]; exact h.lf, by rw [e1]; exact h.l4⟩
  · rw [e1]; exact h.st.only hO (fun g hg e => by simp [Value.ownBlock] at hg; omega)
  · rw [e1, e2]; exact h.pt.only hO (fun g hg e => by simp [Value.ownBlock] at hg; omega)
  · rw [e1, e3]; exact h.fr.only hO (fun g hg e => by simp [Value.ownBlock] at hg; omega)
theorem Rj.setPh (h : Rj w rb sb pb fb r) (x : Int) : Rj (w.setCell ⟨rb, 3, none⟩ (.int .i64 x)) rb sb pb fb { r with ph := x } ∧ Only (· = rb) w (w.setCell ⟨rb, 3, none⟩ (.int .i64 x)) := by
  have hO : Only (· = rb) w (w.setCell ⟨rb, 3, none⟩ (.int .i64 x)) := (Only.refl (· = rb) w).setCell (p := ⟨rb, 3, none⟩) (fun _ => rfl) _
  exact ⟨h.own ((heap_setCell_cells (o := 3) h.blk _).trans rfl) hO rfl rfl rfl, hO⟩
theorem Rj.setFull (h : Rj w rb sb pb fb r) (x : Bool) : Rj (w.setCell ⟨rb, 7, none⟩ (.bool x)) rb sb pb fb { r with full := x } ∧ Only (· = rb) w (w.setCell ⟨rb, 7, none⟩ (.bool x)) := by
  have hO : Only (· = rb) w (w.setCell ⟨rb, 7, none⟩ (.bool x)) := (Only.refl (· = rb) w).setCell (p := ⟨rb, 7, none⟩) (fun _ => rfl) _
  exact ⟨h.own ((heap_setCell_cells (o := 7) h.blk _).trans rfl) hO rfl rfl rfl, hO⟩
theorem Rj.setKept (h : Rj w rb sb pb fb r) (x : Bool) : Rj (w.setCell ⟨rb, 8, none⟩ (.bool x)) rb sb pb fb { r with kept := x } ∧ Only (· = rb) w (w.setCell ⟨rb, 8, none⟩ (.bool x)) := by
  have hO : Only (· = rb) w (w.setCell ⟨rb, 8, none⟩ (.bool x)) := (Only.refl (· = rb) w).setCell (p := ⟨rb, 8, none⟩) (fun _ => rfl) _
  exact ⟨h.own ((heap_setCell_cells (o := 8) h.blk _).trans rfl) hO rfl rfl rfl, hO⟩
theorem Rj.setFr (h : Rj w rb sb pb fb r) {q : Nat} (hq : q < r.st.length) (x : Bool) : Rj (w.setCell ⟨fb, q, none⟩ (.bool x)) rb sb pb fb { r with fr := r.fr.set q x } ∧ Only (· = fb) w (w.setCell ⟨fb, q, none⟩ (.bool x)) := by
  obtain ⟨n1, n2, n3, n4, n5, n6⟩ := h.ne
  have hO : Only (· = fb) w (w.setCell ⟨fb, q, none⟩ (.bool x)) := (Only.refl (· = fb) w).setCell (p := ⟨fb, q, none⟩) (fun _ => rfl) _
  have hs := h.fr.set (j := q) (by simpa [h.lf] using hq) (.bool x)
  rw [Nat.zero_add] at hs
  refine ⟨⟨hO.heap h.blk (fun e => n3 e.symm), h.st.only hO (fun g hg e => by simp [Value.ownBlock] at hg; omega), h.pt.only hO (fun g hg e => by simp [Value.ownBlock] at hg; omega), by rw [List.map_set]; exact hs, h.lp, by simp [h.lf], h.l4⟩, hO⟩
end

end Go.Proofs.Ytniggacgkhkgiaa.Job
/- What the reference job's Hear does with a Gone that is for it. Conditions: it lies in memory as Rj says. PRINTED BY wip/gen_rj7.py. -/
namespace Go.Proofs.Ytniggacgkhkgiaa.Job
open Go.RowKit Go.Sp Msg Go.Sort

set_option maxRecDepth 100000 in
set_option maxHeartbeats 4000000 in
theorem rHear_gone {w : World} {rb sb pb fb : Nat} {r : Rs} {k a t2 j2 c i n pa pt pj pn : Int} {pcv pv sv : Value} {pl rr : Bool} (h : Rj w rb sb pb fb r) (fcv : ∃ x y z, pcv = .slice x y z) (fpv : ∃ x y z, pv = .slice x y z) (fsv : ∃ x y z, sv = .slice x y z)
    (hr : ∀ w', Below w.heap.size w w' → Calls Try.prog 36 #[.agg #[.int .i64 k, .int .i64 a, .int .i64 t2, .int .i64 j2, .int .i64 c, .int .i64 i, .int .i64 n, .int .i64 pa, .int .i64 pt, .int .i64 pj, .int .i64 pn, pcv, .bool pl, pv, sv]] w' fun e w'' => e = .returned (.bool rr) ∧ Below w'.heap.size w' w'')
    (hk : k = 4) (hrr : rr = true) (ht : t2 = r.tr) (hj : j2 = r.id) :
    Calls Try.prog 22 #[.pointer (some ⟨rb, 0, none⟩), .agg #[.int .i64 k, .int .i64 a, .int .i64 t2, .int .i64 j2, .int .i64 c, .int .i64 i, .int .i64 n, .int .i64 pa, .int .i64 pt, .int .i64 pj, .int .i64 pn, pcv, .bool pl, pv, sv]] w fun e w' => e = .returned (.tuple #[]) ∧ Rj w' rb sb pb fb (bif decide (r.ph ≤ 2) && rvis r a then { r with ph := 3 } else r) ∧ Only (Rown rb sb pb fb) w w' := by
  subst hrr
  have b3 : (k == 3) = false := by simp [hk]
  have bt : (t2 != r.tr) = false := by simp [ht]
  have bj : (j2 != r.id) = false := by simp [hj]
  have b4 : (k == 4) = true := by simp [hk]
  clear ht hj hk
  obtain ⟨x1, y1, z1, rfl⟩ := fcv
  obtain ⟨x2, y2, z2, rfl⟩ := fpv
  obtain ⟨x3, y3, z3, rfl⟩ := fsv
  have hA := below_alloc (Below.refl w.heap.size w) (.cells #[.int .i64 k, .int .i64 a, .int .i64 t2, .int .i64 j2, .int .i64 c, .int .i64 i, .int .i64 n, .int .i64 pa, .int .i64 pt, .int .i64 pj, .int .i64 pn, .slice x1 y1 z1, .bool pl, .slice x2 y2 z2, .slice x3 y3 z3] 37)
  have hbx := heap_new w (.cells #[.int .i64 k, .int .i64 a, .int .i64 t2, .int .i64 j2, .int .i64 c, .int .i64 i, .int .i64 n, .int .i64 pa, .int .i64 pt, .int .i64 pj, .int .i64 pn, .slice x1 y1 z1, .bool pl, .slice x2 y2 z2, .slice x3 y3 z3] 37) rfl
  go_enter Try.func22, Try.ntmps22
  go_upto_region 1 with (fail)
  generalize (w.alloc (.cells #[.int .i64 k, .int .i64 a, .int .i64 t2, .int .i64 j2, .int .i64 c, .int .i64 i, .int .i64 n, .int .i64 pa, .int .i64 pt, .int .i64 pj, .int .i64 pn, .slice x1 y1 z1, .bool pl, .slice x2 y2 z2, .slice x3 y3 z3] 37)) = W1 at hA hbx ⊢
  have c1 : W1.cell? ⟨w.heap.size, 1, none⟩ = some (.int .i64 a) := cell_blk hbx rfl
  have c2 : W1.cell? ⟨w.heap.size, 2, none⟩ = some (.int .i64 t2) := cell_blk hbx rfl
  have c3 : W1.cell? ⟨w.heap.size, 3, none⟩ = some (.int .i64 j2) := cell_blk hbx rfl
  have HA := Lib.hid (And.intro hA hbx)
  clear hA hbx
  go_quiet (fail)
  obtain ⟨hA, hbx⟩ := HA.out
  have hA2 := belowN hA nq
  have hbx2 : (W1.drewN nq).heap[w.heap.size]? = some (.cells #[.int .i64 k, .int .i64 a, .int .i64 t2, .int .i64 j2, .int .i64 c, .int .i64 i, .int .i64 n, .int .i64 pa, .int .i64 pt, .int .i64 pj, .int .i64 pn, .slice x1 y1 z1, .bool pl, .slice x2 y2 z2, .slice x3 y3 z3] 37 (0, 0)) := hbx
  generalize W1.drewN nq = W2 at hA2 hbx2 ⊢
  clear HA hA hbx c1 c2 c3
  have h2 := h.below hA2
  have c0 : W2.cell? ⟨w.heap.size, 0, none⟩ = some (.int .i64 k) := cell_blk hbx2 rfl
  have c1 : W2.cell? ⟨w.heap.size, 1, none⟩ = some (.int .i64 a) := cell_blk hbx2 rfl
  have c2 : W2.cell? ⟨w.heap.size, 2, none⟩ = some (.int .i64 t2) := cell_blk hbx2 rfl
  have c3 : W2.cell? ⟨w.heap.size, 3, none⟩ = some (.int .i64 j2) := cell_blk hbx2 rfl
  have c4 : W2.cell? ⟨w.heap.size, 4, none⟩ = some (.int .i64 c) := cell_blk hbx2 rfl
  have c5 : W2.cell? ⟨w.heap.size, 5, none⟩ = some (.int .i64 i) := cell_blk hbx2 rfl
  have c6 : W2.cell? ⟨w.heap.size, 6, none⟩ = some (.int .i64 n) := cell_blk hbx2 rfl
  have c7 : W2.cell? ⟨w.heap.size, 7, none⟩ = some (.int .i64 pa) := cell_blk hbx2 rfl
  have c8 : W2.cell? ⟨w.heap.size, 8, none⟩ = some (.int .i64 pt) := cell_blk hbx2 rfl
  have c9 : W2.cell? ⟨w.heap.size, 9, none⟩ = some (.int .i64 pj) := cell_blk hbx2 rfl
  have c10 : W2.cell? ⟨w.heap.size, 10, none⟩ = some (.int .i64 pn) := cell_blk hbx2 rfl
  have c11 : W2.cell? ⟨w.heap.size, 11, none⟩ = some (.slice x1 y1 z1) := cell_blk hbx2 rfl
  have c12 : W2.cell? ⟨w.heap.size, 12, none⟩ = some (.bool pl) := cell_blk hbx2 rfl
  have c13 : W2.cell? ⟨w.heap.size, 13, none⟩ = some (.slice x2 y2 z2) := cell_blk hbx2 rfl
  have c14 : W2.cell? ⟨w.heap.size, 14, none⟩ = some (.slice x3 y3 z3) := cell_blk hbx2 rfl
  go_wp2_with fail
  refine (hr W2 hA2).mono ?_
  rintro e w3 ⟨rfl, hb3⟩
  have hA3 := below_trans' hb3 hA2
  have h3 := h2.below hb3
  have hbx3 := (hb3.block _ (Array.getElem?_eq_some_iff.1 hbx2).1).trans hbx2
  have d0 := h3.cell (q := 0) (u := .int .i64 r.id) rfl
  have d1 := h3.cell (q := 1) (u := .int .i64 r.tr) rfl
  have e0 : w3.cell? ⟨w.heap.size, 0, none⟩ = some (.int .i64 k) := cell_blk hbx3 rfl
  clear hb3 hbx2 h2 hr c0 c1 c2 c3 c4 c5 c6 c7 c8 c9 c10 c11 c12 c13 c14 h
  have d3 := h3.cell (q := 3) (u := .int .i64 r.ph) rfl
  by_cases hp : r.ph ≤ 2
  · have bp : decide (r.ph ≤ 2) = true := decide_eq_true hp
    have HP := Lib.hid bp
    go_wp2_with fail
    refine (rvis_any h3 a).mono ?_
    rintro e w4 ⟨rfl, rfl⟩
    obtain ⟨vv, hv⟩ : ∃ b, b = rvis r a := ⟨_, rfl⟩
    rw [← hv]
    have HV := Lib.hid hv
    clear hv
    cases vv with
    | true =>
      have hS := h3.setPh 3
      have fz := froz_blk h3.blk 3
      have HS := Lib.hid (And.intro hS h3)
      clear hS h3
      go_wp2
      go_end0
      refine ⟨rfl, ?_, ?_⟩
      · rw [HP.out, ← HV.out]; exact HS.out.1.1
      · exact (Rown.none rb sb pb fb hA3).trans (HS.out.1.2.mono fun b _ e => .inl e)
    | false =>
      go_wp2
      go_end0
      exact ⟨rfl, by rw [HP.out, ← HV.out]; exact h3, Rown.none rb sb pb fb hA3⟩
  · have bp : decide (r.ph ≤ 2) = false := decide_eq_false hp
    have HP := Lib.hid bp
    go_wp2
    go_end0
    exact ⟨rfl, by rw [HP.out]; exact h3, Rown.none rb sb pb fb hA3⟩

end Go.Proofs.Ytniggacgkhkgiaa.Job
/- What the reference job's Hear does with a Stored that is for it. Conditions: it lies in memory as Rj says. PRINTED BY wip/gen_rj7.py. -/
namespace Go.Proofs.Ytniggacgkhkgiaa.Job
open Go.RowKit Go.Sp Msg Go.Sort

set_option maxRecDepth 100000 in
set_option maxHeartbeats 4000000 in
theorem rHear_stor {w : World} {rb sb pb fb : Nat} {r : Rs} {k a t2 j2 c i n pa pt pj pn : Int} {pcv pv sv : Value} {pl rr : Bool} (h : Rj w rb sb pb fb r) (fcv : ∃ x y z, pcv = .slice x y z) (fpv : ∃ x y z, pv = .slice x y z) (fsv : ∃ x y z, sv = .slice x y z)
    (hr : ∀ w', Below w.heap.size w w' → Calls Try.prog 36 #[.agg #[.int .i64 k, .int .i64 a, .int .i64 t2, .int .i64 j2, .int .i64 c, .int .i64 i, .int .i64 n, .int .i64 pa, .int .i64 pt, .int .i64 pj, .int .i64 pn, pcv, .bool pl, pv, sv]] w' fun e w'' => e = .returned (.bool rr) ∧ Below w'.heap.size w' w'')
    (hk : k = 8) (hrr : rr = true) (ht : t2 = r.tr) (hj : j2 = r.id) :
    Calls Try.prog 22 #[.pointer (some ⟨rb, 0, none⟩), .agg #[.int .i64 k, .int .i64 a, .int .i64 t2, .int .i64 j2, .int .i64 c, .int .i64 i, .int .i64 n, .int .i64 pa, .int .i64 pt, .int .i64 pj, .int .i64 pn, pcv, .bool pl, pv, sv]] w fun e w' => e = .returned (.tuple #[]) ∧ Rj w' rb sb pb fb (bif decide (r.ph = 2) || decide (r.ph = 3) then { r with kept := true, ph := 3 } else r) ∧ Only (Rown rb sb pb fb) w w' := by
  subst hrr
  have b3 : (k == 3) = false := by simp [hk]
  have bt : (t2 != r.tr) = false := by simp [ht]
  have bj : (j2 != r.id) = false := by simp [hj]
  have b4 : (k == 4) = false := by simp [hk]
  have b8 : (k == 8) = true := by simp [hk]
  clear ht hj hk
  obtain ⟨x1, y1, z1, rfl⟩ := fcv
  obtain ⟨x2, y2, z2, rfl⟩ := fpv
  obtain ⟨x3, y3, z3, rfl⟩ := fsv
  have hA := below_alloc (Below.refl w.heap.size w) (.cells #[.int .i64 k, .int .i64 a, .int .i64 t2, .int .i64 j2, .int .i64 c, .int .i64 i, .int .i64 n, .int .i64 pa, .int .i64 pt, .int .i64 pj, .int .i64 pn, .slice x1 y1 z1, .bool pl, .slice x2 y2 z2, .slice x3 y3 z3] 37)
  have hbx := heap_new w (.cells #[.int .i64 k, .int .i64 a, .int .i64 t2, .int .i64 j2, .int .i64 c, .int .i64 i, .int .i64 n, .int .i64 pa, .int .i64 pt, .int .i64 pj, .int .i64 pn, .slice x1 y1 z1, .bool pl, .slice x2 y2 z2, .slice x3 y3 z3] 37) rfl
  go_enter Try.func22, Try.ntmps22
  go_upto_region 1 with (fail)
  generalize (w.alloc (.cells #[.int .i64 k, .int .i64 a, .int .i64 t2, .int .i64 j2, .int .i64 c, .int .i64 i, .int .i64 n, .int .i64 pa, .int .i64 pt, .int .i64 pj, .int .i64 pn, .slice x1 y1 z1, .bool pl, .slice x2 y2 z2, .slice x3 y3 z3] 37)) = W1 at hA hbx ⊢
  have c1 : W1.cell? ⟨w.heap.size, 1, none⟩ = some (.int .i64 a) := cell_blk hbx rfl
  have c2 : W1.cell? ⟨w.heap.size, 2, none⟩ = some (.int .i64 t2) := cell_blk hbx rfl
  have c3 : W1.cell? ⟨w.heap.size, 3, none⟩ = some (.int .i64 j2) := cell_blk hbx rfl
  have HA := Lib.hid (And.intro hA hbx)
  clear hA hbx
  go_quiet (fail)
  obtain ⟨hA, hbx⟩ := HA.out
  have hA2 := belowN hA nq
  have hbx2 : (W1.drewN nq).heap[w.heap.size]? = some (.cells #[.int .i64 k, .int .i64 a, .int .i64 t2, .int .i64 j2, .int .i64 c, .int .i64 i, .int .i64 n, .int .i64 pa, .int .i64 pt, .int .i64 pj, .int .i64 pn, .slice x1 y1 z1, .bool pl, .slice x2 y2 z2, .slice x3 y3 z3] 37 (0, 0)) := hbx
  generalize W1.drewN nq = W2 at hA2 hbx2 ⊢
  clear HA hA hbx c1 c2 c3
  have h2 := h.below hA2
  have c0 : W2.cell? ⟨w.heap.size, 0, none⟩ = some (.int .i64 k) := cell_blk hbx2 rfl
  have c1 : W2.cell? ⟨w.heap.size, 1, none⟩ = some (.int .i64 a) := cell_blk hbx2 rfl
  have c2 : W2.cell? ⟨w.heap.size, 2, none⟩ = some (.int .i64 t2) := cell_blk hbx2 rfl
  have c3 : W2.cell? ⟨w.heap.size, 3, none⟩ = some (.int .i64 j2) := cell_blk hbx2 rfl
  have c4 : W2.cell? ⟨w.heap.size, 4, none⟩ = some (.int .i64 c) := cell_blk hbx2 rfl
  have c5 : W2.cell? ⟨w.heap.size, 5, none⟩ = some (.int .i64 i) := cell_blk hbx2 rfl
  have c6 : W2.cell? ⟨w.heap.size, 6, none⟩ = some (.int .i64 n) := cell_blk hbx2 rfl
  have c7 : W2.cell? ⟨w.heap.size, 7, none⟩ = some (.int .i64 pa) := cell_blk hbx2 rfl
  have c8 : W2.cell? ⟨w.heap.size, 8, none⟩ = some (.int .i64 pt) := cell_blk hbx2 rfl
  have c9 : W2.cell? ⟨w.heap.size, 9, none⟩ = some (.int .i64 pj) := cell_blk hbx2 rfl
  have c10 : W2.cell? ⟨w.heap.size, 10, none⟩ = some (.int .i64 pn) := cell_blk hbx2 rfl
  have c11 : W2.cell? ⟨w.heap.size, 11, none⟩ = some (.slice x1 y1 z1) := cell_blk hbx2 rfl
  have c12 : W2.cell? ⟨w.heap.size, 12, none⟩ = some (.bool pl) := cell_blk hbx2 rfl
  have c13 : W2.cell? ⟨w.heap.size, 13, none⟩ = some (.slice x2 y2 z2) := cell_blk hbx2 rfl
  have c14 : W2.cell? ⟨w.heap.size, 14, none⟩ = some (.slice x3 y3 z3) := cell_blk hbx2 rfl
  go_wp2_with fail
  refine (hr W2 hA2).mono ?_
  rintro e w3 ⟨rfl, hb3⟩
  have hA3 := below_trans' hb3 hA2
  have h3 := h2.below hb3
  have hbx3 := (hb3.block _ (Array.getElem?_eq_some_iff.1 hbx2).1).trans hbx2
  have d0 := h3.cell (q := 0) (u := .int .i64 r.id) rfl
  have d1 := h3.cell (q := 1) (u := .int .i64 r.tr) rfl
  have e0 : w3.cell? ⟨w.heap.size, 0, none⟩ = some (.int .i64 k) := cell_blk hbx3 rfl
  clear hb3 hbx2 h2 hr c0 c1 c2 c3 c4 c5 c6 c7 c8 c9 c10 c11 c12 c13 c14 h
  have d3 := h3.cell (q := 3) (u := .int .i64 r.ph) rfl
  by_cases hp : r.ph = 2 ∨ r.ph = 3
  · have HP := Lib.hid (show (decide (r.ph = 2) || decide (r.ph = 3)) = true by rcases hp with e | e <;> simp [e])
    have hb : (r.ph == 2) = true ∨ ((r.ph == 2) = false ∧ (r.ph == 3) = true) := by
      by_cases e : r.ph = 2
      · exact .inl (by simp [e])
      · exact .inr ⟨by simp [e], by simp [hp.resolve_left e]⟩
    have hS := h3.setKept true
    have fz := froz_blk h3.blk 8
    have d8 := h3.cell (q := 8) (u := .bool r.kept) rfl
    have HS := Lib.hid hS
    clear hp hS h3
    rcases hb with b2 | ⟨b2, b5⟩
    all_goals
      go_upto_region 30 with (fail)
      obtain ⟨hK, hO⟩ := HS.out
      generalize w3.setCell ⟨rb, 8, none⟩ (.bool true) = w4 at hK hO ⊢
      have hS2 := hK.setPh 3
      have fz3 := froz_blk hK.blk 3
      have d33 := hK.cell (q := 3) (u := .int .i64 r.ph) rfl
      have HS2 := Lib.hid hS2
      clear hS2 hK HS d3 d8 fz e0 d0 d1
      go_wp2
      go_end0
      refine ⟨rfl, ?_, ?_⟩
      · rw [HP.out]; exact HS2.out.1
      · exact ((Rown.none rb sb pb fb hA3).trans (hO.mono fun b _ e => .inl e)).trans (HS2.out.2.mono fun b _ e => .inl e)
  · have b2 : (r.ph == 2) = false := by simp; exact fun e => hp (.inl e)
    have b5 : (r.ph == 3) = false := by simp; exact fun e => hp (.inr e)
    have HP := Lib.hid (show (decide (r.ph = 2) || decide (r.ph = 3)) = false by simp; exact ⟨fun e => hp (.inl e), fun e => hp (.inr e)⟩)
    clear hp
    go_wp2
    go_end0
    exact ⟨rfl, by rw [HP.out]; exact h3, Rown.none rb sb pb fb hA3⟩
end Go.Proofs.Ytniggacgkhkgiaa.Job
/- What the reference job's Hear does with an Unpinned that is for it. Conditions: it lies in memory as Rj says. PRINTED BY wip/gen_rj11.py. -/
namespace Go.Sp
/-- all of the first q are free, or not visited -/
def rAllTo (st : List Int) (fr : List Bool) (q : Nat) : Bool := (List.range q).all fun i => decide (st.getD i 0 = 0) || fr.getD i false
theorem rAllTo_succ (st : List Int) (fr : List Bool) (q : Nat) {x : Int} {y : Bool} (hx : st[q]? = some x) (hy : fr[q]? = some y) : rAllTo st fr (q + 1) = (rAllTo st fr q && (decide (x = 0) || y)) := by
  unfold rAllTo
  rw [List.range_succ, List.all_append]
  simp [List.getD_eq_getElem?_getD, hx, hy]
end Go.Sp
namespace Go.Proofs.Ytniggacgkhkgiaa.Job
open Go.RowKit Go.Sp Msg Go.Sort

set_option maxRecDepth 100000 in
set_option maxHeartbeats 4000000 in
theorem rHear_unpd {w : World} {rb sb pb fb : Nat} {r : Rs} {k a t2 j2 c i n pa pt pj pn : Int} {pcv pv sv : Value} {pl rr : Bool} (h : Rj w rb sb pb fb r) (fcv : ∃ x y z, pcv = .slice x y z) (fpv : ∃ x y z, pv = .slice x y z) (fsv : ∃ x y z, sv = .slice x y z)
    (hr : ∀ w', Below w.heap.size w w' → Calls Try.prog 36 #[.agg #[.int .i64 k, .int .i64 a, .int .i64 t2, .int .i64 j2, .int .i64 c, .int .i64 i, .int .i64 n, .int .i64 pa, .int .i64 pt, .int .i64 pj, .int .i64 pn, pcv, .bool pl, pv, sv]] w' fun e w'' => e = .returned (.bool rr) ∧ Below w'.heap.size w' w'')
    (hk : k = 10) (hrr : rr = true) (ht : t2 = r.tr) (hj : j2 = r.id) :
    Calls Try.prog 22 #[.pointer (some ⟨rb, 0, none⟩), .agg #[.int .i64 k, .int .i64 a, .int .i64 t2, .int .i64 j2, .int .i64 c, .int .i64 i, .int .i64 n, .int .i64 pa, .int .i64 pt, .int .i64 pj, .int .i64 pn, pcv, .bool pl, pv, sv]] w fun e w' => e = .returned (.tuple #[]) ∧ Rj w' rb sb pb fb (rFree r a) ∧ Only (Rown rb sb pb fb) w w' := by
  subst hrr
  have b3 : (k == 3) = false := by simp [hk]
  have bt : (t2 != r.tr) = false := by simp [ht]
  have bj : (j2 != r.id) = false := by simp [hj]
  have b4 : (k == 4) = false := by simp [hk]
  have b8 : (k == 8) = false := by simp [hk]
  have b10 : (k == 10) = true := by simp [hk]
  clear ht hj hk
  obtain ⟨x1, y1, z1, rfl⟩ := fcv
  obtain ⟨x2, y2, z2, rfl⟩ := fpv
  obtain ⟨x3, y3, z3, rfl⟩ := fsv
  have hA := below_alloc (Below.refl w.heap.size w) (.cells #[.int .i64 k, .int .i64 a, .int .i64 t2, .int .i64 j2, .int .i64 c, .int .i64 i, .int .i64 n, .int .i64 pa, .int .i64 pt, .int .i64 pj, .int .i64 pn, .slice x1 y1 z1, .bool pl, .slice x2 y2 z2, .slice x3 y3 z3] 37)
  have hbx := heap_new w (.cells #[.int .i64 k, .int .i64 a, .int .i64 t2, .int .i64 j2, .int .i64 c, .int .i64 i, .int .i64 n, .int .i64 pa, .int .i64 pt, .int .i64 pj, .int .i64 pn, .slice x1 y1 z1, .bool pl, .slice x2 y2 z2, .slice x3 y3 z3] 37) rfl
  go_enter Try.func22, Try.ntmps22
  go_upto_region 1 with (fail)
  generalize (w.alloc (.cells #[.int .i64 k, .int .i64 a, .int .i64 t2, .int .i64 j2, .int .i64 c, .int .i64 i, .int .i64 n, .int .i64 pa, .int .i64 pt, .int .i64 pj, .int .i64 pn, .slice x1 y1 z1, .bool pl, .slice x2 y2 z2, .slice x3 y3 z3] 37)) = W1 at hA hbx ⊢
  have c1 : W1.cell? ⟨w.heap.size, 1, none⟩ = some (.int .i64 a) := cell_blk hbx rfl
  have c2 : W1.cell? ⟨w.heap.size, 2, none⟩ = some (.int .i64 t2) := cell_blk hbx rfl
  have c3 : W1.cell? ⟨w.heap.size, 3, none⟩ = some (.int .i64 j2) := cell_blk hbx rfl
  have HA := Lib.hid (And.intro hA hbx)
  clear hA hbx
  go_quiet (fail)
  obtain ⟨hA, hbx⟩ := HA.out
  have hA2 := belowN hA nq
  have hbx2 : (W1.drewN nq).heap[w.heap.size]? = some (.cells #[.int .i64 k, .int .i64 a, .int .i64 t2, .int .i64 j2, .int .i64 c, .int .i64 i, .int .i64 n, .int .i64 pa, .int .i64 pt, .int .i64 pj, .int .i64 pn, .slice x1 y1 z1, .bool pl, .slice x2 y2 z2, .slice x3 y3 z3] 37 (0, 0)) := hbx
  generalize W1.drewN nq = W2 at hA2 hbx2 ⊢
  clear HA hA hbx c1 c2 c3
  have h2 := h.below hA2
  have c0 : W2.cell? ⟨w.heap.size, 0, none⟩ = some (.int .i64 k) := cell_blk hbx2 rfl
  have c1 : W2.cell? ⟨w.heap.size, 1, none⟩ = some (.int .i64 a) := cell_blk hbx2 rfl
  have c2 : W2.cell? ⟨w.heap.size, 2, none⟩ = some (.int .i64 t2) := cell_blk hbx2 rfl
  have c3 : W2.cell? ⟨w.heap.size, 3, none⟩ = some (.int .i64 j2) := cell_blk hbx2 rfl
  have c4 : W2.cell? ⟨w.heap.size, 4, none⟩ = some (.int .i64 c) := cell_blk hbx2 rfl
  have c5 : W2.cell? ⟨w.heap.size, 5, none⟩ = some (.int .i64 i) := cell_blk hbx2 rfl
  have c6 : W2.cell? ⟨w.heap.size, 6, none⟩ = some (.int .i64 n) := cell_blk hbx2 rfl
  have c7 : W2.cell? ⟨w.heap.size, 7, none⟩ = some (.int .i64 pa) := cell_blk hbx2 rfl
  have c8 : W2.cell? ⟨w.heap.size, 8, none⟩ = some (.int .i64 pt) := cell_blk hbx2 rfl
  have c9 : W2.cell? ⟨w.heap.size, 9, none⟩ = some (.int .i64 pj) := cell_blk hbx2 rfl
  have c10 : W2.cell? ⟨w.heap.size, 10, none⟩ = some (.int .i64 pn) := cell_blk hbx2 rfl
  have c11 : W2.cell? ⟨w.heap.size, 11, none⟩ = some (.slice x1 y1 z1) := cell_blk hbx2 rfl
  have c12 : W2.cell? ⟨w.heap.size, 12, none⟩ = some (.bool pl) := cell_blk hbx2 rfl
  have c13 : W2.cell? ⟨w.heap.size, 13, none⟩ = some (.slice x2 y2 z2) := cell_blk hbx2 rfl
  have c14 : W2.cell? ⟨w.heap.size, 14, none⟩ = some (.slice x3 y3 z3) := cell_blk hbx2 rfl
  go_wp2_with fail
  refine (hr W2 hA2).mono ?_
  rintro e w3 ⟨rfl, hb3⟩
  have hA3 := below_trans' hb3 hA2
  have h3 := h2.below hb3
  have hbx3 := (hb3.block _ (Array.getElem?_eq_some_iff.1 hbx2).1).trans hbx2
  have d0 := h3.cell (q := 0) (u := .int .i64 r.id) rfl
  have d1 := h3.cell (q := 1) (u := .int .i64 r.tr) rfl
  have e0 : w3.cell? ⟨w.heap.size, 0, none⟩ = some (.int .i64 k) := cell_blk hbx3 rfl
  clear hb3 hbx2 h2 hr c0 c1 c2 c3 c4 c5 c6 c7 c8 c9 c10 c11 c12 c13 c14 h
  have d3 := h3.cell (q := 3) (u := .int .i64 r.ph) rfl
  by_cases hp : r.ph = 3
  · have bp : (r.ph != 3) = false := by simp [hp]
    have HP := Lib.hid hp
    clear hp
    go_wp2_with fail
    refine (rvis_any h3 a).mono ?_
    rintro e w4 ⟨rfl, rfl⟩
    obtain ⟨vv, hv⟩ : ∃ b, b = rvis r a := ⟨_, rfl⟩
    rw [← hv]
    have HV := Lib.hid hv
    clear hv
    cases vv with
    | true =>
      obtain ⟨⟨q, rfl⟩, hq⟩ : (∃ q : Nat, a = q) ∧ a.toNat < r.st.length := by
        have := HV.out
        simp only [rvis, Bool.true_eq, Bool.and_eq_true, decide_eq_true_eq] at this
        exact ⟨⟨a.toNat, by omega⟩, by omega⟩
      rw [Int.toNat_natCast] at hq
      have hl := h3.l4
      have e6 := h3.cell (q := 6) (u := .slice (some ⟨fb, 0, none⟩) r.st.length r.st.length) rfl
      obtain ⟨y, hy⟩ : ∃ y, r.fr[q]? = some y := ⟨_, List.getElem?_eq_getElem (by rw [h3.lf]; exact hq)⟩
      have g6 := h3.frees hy
      have fz : w3.frozen? ⟨fb, q, none⟩ = false := h3.fr.free q
      have hS := h3.setFr hq true
      have hR : rFree r (q : Int) = bif rAll (rFree2 r q) then { rFree2 r q with ph := 4 } else rFree2 r q := by
        unfold rFree
        rw [HP.out, ← HV.out]; rfl
      obtain ⟨r9, hr9⟩ : ∃ r9, r9 = { r with fr := r.fr.set q true } := ⟨_, rfl⟩
      have e9 : rFree2 r q = r9 := by rw [hr9]; unfold rFree2; rw [Int.toNat_natCast]
      rw [e9] at hR
      rw [← hr9] at hS
      have hlen : r9.st = r.st := by rw [hr9]
      rw [← hlen] at hq hl e6
      have HS := Lib.hid (And.intro hS (And.intro hR h3))
      clear hS hR h3 hy hr9 e9 hlen
      obtain ⟨m, hm⟩ : ∃ m, m = r9.st.length := ⟨_, rfl⟩
      rw [← hm] at hq hl e6
      have HM := Lib.hid hm
      clear hm
      go_upto_region 34 with (fail)
      obtain ⟨⟨hK, hO⟩, hR, -⟩ := HS.out
      generalize w3.setCell ⟨fb, q, none⟩ (.bool true) = w4 at hK hO ⊢
      clear HS e0 d0 d1 d3 e6 g6
      have HR := Lib.hid (And.intro hR hO)
      clear hR hO
      have e4 := hK.cell (q := 4) (u := .slice (some ⟨sb, 0, none⟩) m m) (by rw [HM.out]; rfl)
      have e6 := hK.cell (q := 6) (u := .slice (some ⟨fb, 0, none⟩) m m) (by rw [HM.out]; rfl)
      have HK := Lib.hid hK
      go_wp2
      go_loop [11, 12] (fun al i => ∃ q : Nat, q ≤ m ∧ i = .int .i64 q ∧ al = .bool (rAllTo r9.st r9.fr q)) (fun _ i => m - (intOf i).toNat)
      case atStart => exact ⟨0, Nat.zero_le _, rfl, rfl⟩
      case round =>
        obtain ⟨u, hu, rfl, rfl⟩ := hrel
        by_cases huN : u < m
        · obtain ⟨x, hx⟩ : ∃ x, r9.st[u]? = some x := ⟨_, List.getElem?_eq_getElem (by rw [← HM.out]; exact huN)⟩
          obtain ⟨y, hy⟩ : ∃ y, r9.fr[u]? = some y := ⟨_, List.getElem?_eq_getElem (by rw [HK.out.lf, ← HM.out]; exact huN)⟩
          have c := HK.out.state hx
          have d := HK.out.frees hy
          have HV := Lib.hid (rAllTo_succ r9.st r9.fr u hx hy)
          generalize rAllTo r9.st r9.fr u = B at HV ⊢
          clear hx hy
          cases B with
          | false =>
            go_wp2
            exact ⟨⟨u + 1, by omega, by go_num, by rw [HV.out]; rfl⟩, by simp [intOf]; omega⟩
          | true =>
            by_cases hx0 : x = 0
            · have bx : (x == 0) = true := by simp [hx0]
              have HX := Lib.hid hx0
              clear hx0
              go_wp2
              exact ⟨⟨u + 1, by omega, by go_num, by rw [HV.out, decide_eq_true HX.out]; rfl⟩, by simp [intOf]; omega⟩
            · have bx : (x == 0) = false := by simp [hx0]
              have HX := Lib.hid hx0
              clear hx0
              go_wp2
              exact ⟨⟨u + 1, by omega, by go_num, by rw [HV.out, decide_eq_false HX.out]; rfl⟩, by simp [intOf]; omega⟩
        · have hue : u = m := by omega
          have HU := Lib.hid (show rAllTo r9.st r9.fr u = rAll r9 by rw [hue, HM.out]; rfl)
          clear hue
          obtain ⟨B, hB⟩ : ∃ B, B = rAllTo r9.st r9.fr u := ⟨_, rfl⟩
          rw [← hB]
          have HB := Lib.hid hB
          clear hB
          cases B with
          | false =>
            go_wp2
            go_end0
            refine ⟨rfl, ?_, ?_⟩
            · rw [HR.out.1, ← HU.out, ← HB.out]; exact HK.out
            · exact (Rown.none rb sb pb fb hA3).trans (HR.out.2.mono fun b _ e => .inr (.inr (.inr e)))
          | true =>
            have hS := HK.out.setPh 4
            have fz := froz_blk HK.out.blk 3
            have d3 := hK.cell (q := 3) (u := .int .i64 r9.ph) rfl
            have HS := Lib.hid hS
            clear hS
            go_wp2
            go_end0
            refine ⟨rfl, ?_, ?_⟩
            · rw [HR.out.1, ← HU.out, ← HB.out]; exact HS.out.1
            · exact ((Rown.none rb sb pb fb hA3).trans (HR.out.2.mono fun b _ e => .inr (.inr (.inr e)))).trans (HS.out.2.mono fun b _ e => .inl e)
    | false =>
      go_wp2
      go_returns
      exact ⟨rfl, by unfold rFree; rw [← HV.out]; simpa using h3, Rown.none rb sb pb fb hA3⟩
  · have bp : (r.ph != 3) = true := by simp [hp]
    have HP := Lib.hid hp
    clear hp
    go_wp2
    go_returns
    exact ⟨rfl, by unfold rFree; rw [decide_eq_false HP.out]; simpa using h3, Rown.none rb sb pb fb hA3⟩
end Go.Proofs.Ytniggacgkhkgiaa.Job
