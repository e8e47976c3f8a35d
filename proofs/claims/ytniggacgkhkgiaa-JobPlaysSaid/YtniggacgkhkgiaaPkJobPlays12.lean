/- What the reference job's New answers. No condition. PRINTED BY wip/gen_rj4.py. -/
import Derived.Test.YtniggacgkhkgiaaPkJobPlays10
import Derived.Test.YtniggacgkhkgiaaPkJobPlays11
import Derived.Laws.MakeOwn
namespace Go.Proofs.Ytniggacgkhkgiaa.Job
open Go.RowKit Go.Sp Msg Go.Sort

theorem newOk_iff {id ag a t c : Int} : newOk id ag a t c = true ↔ rightM (.trig a t c) = true ∧ 1 ≤ id ∧ id ≤ 1073741824 ∧ 1 ≤ ag ∧ ag ≤ 4 ∧ a < ag := by
  simp only [newOk, Bool.and_eq_true, decide_eq_true_eq]

set_option maxRecDepth 100000 in
set_option maxHeartbeats 4000000 in
theorem new13_no (w : World) {id ag a t c : Int} (hn : newOk id ag a t c = false) : Calls Try.prog 18 #[.int .i64 id, .int .i64 ag, .agg #[.int .i64 1, .int .i64 a, .int .i64 t, .int .i64 0, .int .i64 c, .int .i64 0, .int .i64 0, .int .i64 0, .int .i64 0, .int .i64 0, .int .i64 0, .slice none 0 0, .bool false, .slice none 0 0, .slice none 0 0]] w fun e w' => e = .returned (.pointer none) ∧ Below w.heap.size w w' := by
  have hA := below_alloc (Below.refl w.heap.size w) (.cells #[.int .i64 1, .int .i64 a, .int .i64 t, .int .i64 0, .int .i64 c, .int .i64 0, .int .i64 0, .int .i64 0, .int .i64 0, .int .i64 0, .int .i64 0, .slice none 0 0, .bool false, .slice none 0 0, .slice none 0 0] 37)
  have hbx := heap_new w (.cells #[.int .i64 1, .int .i64 a, .int .i64 t, .int .i64 0, .int .i64 c, .int .i64 0, .int .i64 0, .int .i64 0, .int .i64 0, .int .i64 0, .int .i64 0, .slice none 0 0, .bool false, .slice none 0 0, .slice none 0 0] 37) rfl
  go_enter Try.func18, Try.ntmps18
  go_wp2_with fail
  refine (r59_trig _ a t c).mono ?_
  rintro e w2 ⟨rfl, hb2⟩
  have hA2 := below_trans' hb2 hA
  have hbx2 := (hb2.block _ (Array.getElem?_eq_some_iff.1 hbx).1).trans hbx
  have e1 : w2.cell? ⟨w.heap.size, 1, none⟩ = some (.int .i64 a) := cell_blk hbx2 rfl
  clear hA hb2 hbx
  obtain ⟨rr, hr⟩ : ∃ r, r = rightM (.trig a t c) := ⟨_, rfl⟩
  rw [← hr]
  cases rr with
  | false =>
    clear hr hn
    go_wp2
    go_ret
    exact ⟨rfl, hA2⟩
  | true =>
    have hn' : ¬ (1 ≤ id ∧ id ≤ 1073741824 ∧ 1 ≤ ag ∧ ag ≤ 4 ∧ a < ag) := fun e => by
      have := newOk_iff.2 ⟨hr.symm, e⟩
      rw [hn] at this; cases this
    have HN := Lib.hid hn'
    clear hr hn hn'
    by_cases h1 : id < 1
    · have b1 : decide (id < 1) = true := decide_eq_true h1
      go_wp2
      go_ret
      exact ⟨rfl, hA2⟩
    · have b1 : decide (id < 1) = false := decide_eq_false h1
      by_cases h2 : 1073741824 < id
      · have b2 : decide (1073741824 < id) = true := decide_eq_true h2
        go_wp2
        go_ret
        exact ⟨rfl, hA2⟩
      · have b2 : decide (1073741824 < id) = false := decide_eq_false h2
        by_cases h3 : ag < 1
        · have b3 : decide (ag < 1) = true := decide_eq_true h3
          go_wp2
          go_ret
          exact ⟨rfl, hA2⟩
        · have b3 : decide (ag < 1) = false := decide_eq_false h3
          by_cases h4 : 4 < ag
          · have b4 : decide (4 < ag) = true := decide_eq_true h4
            go_wp2
            go_ret
            exact ⟨rfl, hA2⟩
          · have b4 : decide (4 < ag) = false := decide_eq_false h4
            have h5 : ag ≤ a := by have := HN.out; omega
            have b5 : decide (ag ≤ a) = true := decide_eq_true h5
            go_wp2
            go_ret
            exact ⟨rfl, hA2⟩

/-- four blocks made -/
theorem four (w : World) (c1 c2 c3 c4 : Array Value) (t1 t2 t3 t4 : TypeId) :
    ((((w.alloc (.cells c1 t1)).alloc (.cells c2 t2)).alloc (.cells c3 t3)).alloc (.cells c4 t4)).drew.heap[w.heap.size]? = some (.cells c1 t1 (0, 0)) ∧
    ((((w.alloc (.cells c1 t1)).alloc (.cells c2 t2)).alloc (.cells c3 t3)).alloc (.cells c4 t4)).drew.heap[w.heap.size + 1]? = some (.cells c2 t2 (0, 0)) ∧
    ((((w.alloc (.cells c1 t1)).alloc (.cells c2 t2)).alloc (.cells c3 t3)).alloc (.cells c4 t4)).drew.heap[w.heap.size + 1 + 1]? = some (.cells c3 t3 (0, 0)) ∧
    ((((w.alloc (.cells c1 t1)).alloc (.cells c2 t2)).alloc (.cells c3 t3)).alloc (.cells c4 t4)).drew.heap[w.heap.size + 1 + 1 + 1]? = some (.cells c4 t4 (0, 0)) := by
  refine ⟨?_, ?_, ?_, ?_⟩
  · exact ((below_alloc (below_alloc (below_alloc (Below.refl (w.alloc (.cells c1 t1)).heap.size _) _) _) _).block _ (by simp)).trans (heap_new w _ rfl)
  · exact ((below_alloc (below_alloc (Below.refl ((w.alloc (.cells c1 t1)).alloc (.cells c2 t2)).heap.size _) _) _).block _ (by simp)).trans (heap_new _ _ (by simp))
  · exact ((below_alloc (Below.refl (((w.alloc (.cells c1 t1)).alloc (.cells c2 t2)).alloc (.cells c3 t3)).heap.size _) _).block _ (by simp)).trans (heap_new _ _ (by simp))
  · exact heap_new _ _ (by simp)

/-- a slice over the whole of a block -/
theorem sl_whole {w : World} {b e size n : Nat} {cs : List Value} {c : Array Value} (hb : w.heap[b]? = some (.cells c e (0, 0))) (hc : c.toList = cs) (hl : cs.length = n * size) (hn : n ≤ 4) : SL w.heap e size (.slice (some ⟨b, 0, none⟩) n n) n cs := by
  refine ⟨hl, .inr ⟨b, 0, n, c, rfl, Nat.le_refl _, by unfold maxLen; omega, hb, ?_, fun j u hu => ?_⟩⟩
  · have := congrArg List.length hc
    simp at this
    omega
  · rw [Nat.zero_add, ← Array.getElem?_toList, hc]; exact hu

section
variable {w w1 : World} {rb sb pb fb : Nat} {r : Rs}
theorem Rj.drew (h : Rj w rb sb pb fb r) : Rj w.drew rb sb pb fb r := ⟨h.blk, h.st, h.pt, h.fr, h.lp, h.lf, h.l4⟩
theorem Rj.ne (h : Rj w rb sb pb fb r) : sb ≠ rb ∧ pb ≠ rb ∧ fb ≠ rb ∧ pb ≠ sb ∧ fb ≠ sb ∧ fb ≠ pb :=
  ⟨fun e => sl_not h.blk h.st (by decide) (by rw [← e]; rfl), fun e => sl_not h.blk h.pt (by decide) (by rw [← e]; rfl), fun e => sl_not h.blk h.fr (by decide) (by rw [← e]; rfl),
   fun e => sl_ne2 h.pt h.st (by decide) _ rfl (by rw [← e]; rfl), fun e => sl_ne2 h.fr h.st (by decide) _ rfl (by rw [← e]; rfl), fun e => sl_ne2 h.fr h.pt (by decide) _ rfl (by rw [← e]; rfl)⟩
/-- a state is stored -/
theorem Rj.set (h : Rj w rb sb pb fb r) {q : Nat} (hq : q < r.st.length) (x : Int) : Rj (w.setCell ⟨sb, q, none⟩ (.int .i64 x)) rb sb pb fb { r with st := r.st.set q x } ∧ Only (· = sb) w (w.setCell ⟨sb, q, none⟩ (.int .i64 x)) := by
  obtain ⟨n1, n2, n3, n4, n5, n6⟩ := h.ne
  have hO : Only (· = sb) w (w.setCell ⟨sb, q, none⟩ (.int .i64 x)) := (Only.refl (· = sb) w).setCell (p := ⟨sb, q, none⟩) (fun _ => rfl) _
  have hs := h.st.set (j := q) (by simpa using hq) (.int .i64 x)
  rw [Nat.zero_add] at hs
  have hl : (r.st.set q x).length = r.st.length := List.length_set
  refine ⟨⟨?_, ?_, ?_, ?_, by rw [h.lp]; exact hl.symm, by rw [h.lf]; exact hl.symm, by simp only [hl]; exact h.l4⟩, hO⟩
  · have := hO.heap h.blk (fun e => n1 e.symm)
    simp only [eRs, hl] at this ⊢
    exact this
  · simp only [hl, List.map_set]; exact hs
  · simp only [hl]; exact h.pt.only hO (fun g hg e => by simp [Value.ownBlock] at hg; omega)
  · simp only [hl]; exact h.fr.only hO (fun g hg e => by simp [Value.ownBlock] at hg; omega)
end
theorem new_fin {W : World} {rb sb pb fb A : Nat} {id t c : Int} {C1 C2 C3 : Array Value} (hA : 1 ≤ A ∧ A ≤ 4) (hC1 : C1.toList = (List.replicate A (0 : Int)).map fun x => .int .i64 x) (hC2 : C2.toList = (List.replicate A zPt).flatMap ePt) (hC3 : C3.toList = (List.replicate A false).map eBl)
    (f1 : W.heap[sb]? = some (.cells C1 3 (0, 0))) (f2 : W.heap[pb]? = some (.cells C2 33 (0, 0))) (f3 : W.heap[fb]? = some (.cells C3 4 (0, 0)))
    (f4 : W.heap[rb]? = some (.cells #[.int .i64 id, .int .i64 t, .int .i64 c, .int .i64 1, .slice (some ⟨sb, 0, none⟩) A A, .slice (some ⟨pb, 0, none⟩) A A, .slice (some ⟨fb, 0, none⟩) A A, .bool false, .bool false] 54 (0, 0))) :
    Rj W rb sb pb fb ⟨id, t, c, 1, List.replicate A 0, List.replicate A zPt, List.replicate A false, false, false⟩ := by
  have hl : (List.replicate A (0 : Int)).length = A := List.length_replicate
  refine ⟨by simp only [eRs, hl]; exact f4, by simp only [hl]; exact sl_whole f1 hC1 (by simp) hA.2, by simp only [hl]; exact sl_whole f2 hC2 (by rw [flat_length (size := 6) (fun _ => rfl)]; simp) hA.2, by simp only [hl]; exact sl_whole f3 hC3 (by simp) hA.2, by simp, by simp, by simp only [hl]; exact hA⟩

/-- the reference's job that begins -/
def newR (id : Int) (A : Nat) (a t c : Int) : Rs := ⟨id, t, c, 1, (List.replicate A 0).set a.toNat 1, List.replicate A zPt, List.replicate A false, false, false⟩

set_option maxRecDepth 100000 in
set_option maxHeartbeats 4000000 in
theorem new13_yes (w : World) {id a t c : Int} {A : Nat} (hn : newOk id A a t c = true) : Calls Try.prog 18 #[.int .i64 id, .int .i64 A, .agg #[.int .i64 1, .int .i64 a, .int .i64 t, .int .i64 0, .int .i64 c, .int .i64 0, .int .i64 0, .int .i64 0, .int .i64 0, .int .i64 0, .int .i64 0, .slice none 0 0, .bool false, .slice none 0 0, .slice none 0 0]] w fun e w' => ∃ rb, e = .returned (.pointer (some ⟨rb, 0, none⟩)) ∧ (∃ sb pb fb, Rj w' rb sb pb fb (newR id A a t c) ∧ ∀ b, Rown rb sb pb fb b → w.heap.size ≤ b) ∧ Below w.heap.size w w' := by
  obtain ⟨hr, h1, h2, h3, h4, h5⟩ := newOk_iff.1 hn
  have ha : 0 ≤ a := by
    simp only [rightM, Bool.and_eq_true, wi_true] at hr
    omega
  obtain ⟨an, rfl⟩ : ∃ n : Nat, a = n := ⟨a.toNat, by omega⟩
  have hA1 : 1 ≤ A := by omega
  have hA4 : A ≤ 4 := by omega
  have han : an < A := by omega
  obtain ⟨i1, q1, r1, s1, u1⟩ := info_parts (P := Try.prog) (e := 3) (z := .int .i64 0) (size := 1) (bytes := 8) (by kernel_rfl)
  obtain ⟨i2, q2, r2, s2, u2⟩ := info_parts (P := Try.prog) (e := 33) (z := .agg #[.int .i64 0, .int .i64 0, .int .i64 0, .int .i64 0, .slice none 0 0, .bool false]) (size := 6) (bytes := 64) (by kernel_rfl)
  obtain ⟨i3, q3, r3, s3, u3⟩ := info_parts (P := Try.prog) (e := 4) (z := .bool false) (size := 1) (bytes := 1) (by kernel_rfl)
  have m1 := fun (w : World) => run_makeSlice (P := Try.prog) (w := w) 31 3 i1 (.int .i64 0) Try.underlying31 q1 r1 .i64 .i64 (A : Int) (A : Int) (by omega) (Int.le_refl _) (by rw [s1]; omega) (by rw [u1]; omega) (by omega)
  have m2 := fun (w : World) => run_makeSlice (P := Try.prog) (w := w) 34 33 i2 (.agg #[.int .i64 0, .int .i64 0, .int .i64 0, .int .i64 0, .slice none 0 0, .bool false]) Try.underlying34 q2 r2 .i64 .i64 (A : Int) (A : Int) (by omega) (Int.le_refl _) (by rw [s2]; omega) (by rw [u2]; omega) (by omega)
  have m3 := fun (w : World) => run_makeSlice (P := Try.prog) (w := w) 52 4 i3 (.bool false) Try.underlying52 q3 r3 .i64 .i64 (A : Int) (A : Int) (by omega) (Int.le_refl _) (by rw [s3]; omega) (by rw [u3]; omega) (by omega)
  simp only [Int.toNat_natCast, s1, s2, s3] at m1 m2 m3
  have hC1 : (madeCells (Value.int .i64 0).cells (A * 1)).toList = (List.replicate A (0 : Int)).map fun x => .int .i64 x := by
    rw [Nat.mul_one, List.map_replicate]; exact toList_madeCells_one _ _
  have hC2 : (madeCells (Value.agg #[.int .i64 0, .int .i64 0, .int .i64 0, .int .i64 0, .slice none 0 0, .bool false]).cells (A * 6)).toList = (List.replicate A zPt).flatMap ePt := by
    have : A = 1 ∨ A = 2 ∨ A = 3 ∨ A = 4 := by omega
    rcases this with rfl | rfl | rfl | rfl <;> simp [madeCells, ePt, zPt, List.replicate, List.range_succ, Value.cells]
  have hC3 : (madeCells (Value.bool false).cells (A * 1)).toList = (List.replicate A false).map eBl := by
    rw [Nat.mul_one, List.map_replicate]; exact toList_madeCells_one _ _
  generalize madeCells (Value.int .i64 0).cells (A * 1) = C1 at m1 hC1
  generalize madeCells (Value.agg #[.int .i64 0, .int .i64 0, .int .i64 0, .int .i64 0, .slice none 0 0, .bool false]).cells (A * 6) = C2 at m2 hC2
  generalize madeCells (Value.bool false).cells (A * 1) = C3 at m3 hC3
  have hA := below_alloc (Below.refl w.heap.size w) (.cells #[.int .i64 1, .int .i64 (an : Int), .int .i64 t, .int .i64 0, .int .i64 c, .int .i64 0, .int .i64 0, .int .i64 0, .int .i64 0, .int .i64 0, .int .i64 0, .slice none 0 0, .bool false, .slice none 0 0, .slice none 0 0] 37)
  have hbx := heap_new w (.cells #[.int .i64 1, .int .i64 (an : Int), .int .i64 t, .int .i64 0, .int .i64 c, .int .i64 0, .int .i64 0, .int .i64 0, .int .i64 0, .int .i64 0, .int .i64 0, .slice none 0 0, .bool false, .slice none 0 0, .slice none 0 0] 37) rfl
  have b1 : decide (id < 1) = false := decide_eq_false (by omega)
  have b2 : decide (1073741824 < id) = false := decide_eq_false (by omega)
  have b3 : decide ((A : Int) < 1) = false := decide_eq_false (by omega)
  have b4 : decide (4 < (A : Int)) = false := decide_eq_false (by omega)
  have b5 : decide ((A : Int) ≤ (an : Int)) = false := decide_eq_false (by omega)
  have b3' : decide (A < 1) = false := decide_eq_false (by omega)
  have b4' : decide (4 < A) = false := decide_eq_false (by omega)
  have b5' : decide (A ≤ an) = false := decide_eq_false (by omega)
  have HR := Lib.hid hr
  clear hn hr q1 r1 s1 u1 q2 r2 s2 u2 q3 r3 s3 u3 h1 h2 h3 h4 h5 ha
  go_enter Try.func18, Try.ntmps18
  go_wp2_with fail
  refine (r59_trig _ an t c).mono ?_
  rintro e w2 ⟨rfl, hb2⟩
  rw [HR.out]
  have hA2 := below_trans' hb2 hA
  have hbx2 := (hb2.block _ (Array.getElem?_eq_some_iff.1 hbx).1).trans hbx
  have e1 : w2.cell? ⟨w.heap.size, 1, none⟩ = some (.int .i64 an) := cell_blk hbx2 rfl
  have e2 : w2.cell? ⟨w.heap.size, 2, none⟩ = some (.int .i64 t) := cell_blk hbx2 rfl
  have e4 : w2.cell? ⟨w.heap.size, 4, none⟩ = some (.int .i64 c) := cell_blk hbx2 rfl
  have hlt := (Array.getElem?_eq_some_iff.1 hbx2).1
  have hlt1 : w.heap.size < w2.heap.size + 1 := by omega
  have hlt2 : w.heap.size < w2.heap.size + 1 + 1 := by omega
  have hlt3 : w.heap.size < w2.heap.size + 1 + 1 + 1 := by omega
  clear hA hb2 hbx hbx2
  go_upto_region 3 with (fail)
  clear b1 b2 b3 b4 b5 b3' b4' b5'
  go_region
  · obtain ⟨f1, f2, f3, f4⟩ := four w2 C1 C2 C3 #[.int .i64 id, .int .i64 t, .int .i64 c, .int .i64 1, .slice (some ⟨w2.heap.size, 0, none⟩) A A, .slice (some ⟨w2.heap.size + 1, 0, none⟩) A A, .slice (some ⟨w2.heap.size + 1 + 1, 0, none⟩) A A, .bool false, .bool false] 3 33 4 54
    have hR := new_fin ⟨hA1, hA4⟩ hC1 hC2 hC3 f1 f2 f3 f4
    have hB5 : Below w2.heap.size w2 (((((w2.alloc (.cells C1 3)).alloc (.cells C2 33)).alloc (.cells C3 4)).alloc (.cells #[.int .i64 id, .int .i64 t, .int .i64 c, .int .i64 1, .slice (some ⟨w2.heap.size, 0, none⟩) A A, .slice (some ⟨w2.heap.size + 1, 0, none⟩) A A, .slice (some ⟨w2.heap.size + 1 + 1, 0, none⟩) A A, .bool false, .bool false] 54)).drew) := (below_alloc (below_alloc (below_alloc (below_alloc (Below.refl w2.heap.size w2) _) _) _) _).drew
    generalize ((((w2.alloc (.cells C1 3)).alloc (.cells C2 33)).alloc (.cells C3 4)).alloc (.cells #[.int .i64 id, .int .i64 t, .int .i64 c, .int .i64 1, .slice (some ⟨w2.heap.size, 0, none⟩) A A, .slice (some ⟨w2.heap.size + 1, 0, none⟩) A A, .slice (some ⟨w2.heap.size + 1 + 1, 0, none⟩) A A, .bool false, .bool false] 54)).drew = W5 at hR hB5 ⊢
    clear f1 f2 f3 f4
    generalize hs4 : w2.heap.size + 1 + 1 + 1 = rb at hR ⊢
    generalize hs3 : w2.heap.size + 1 + 1 = fb at hR ⊢
    generalize hs2 : w2.heap.size + 1 = pb at hR ⊢
    generalize hs1 : w2.heap.size = sb at hR ⊢
    have hsz := hA2.size
    have HS := Lib.hid (And.intro hs1 (And.intro hs2 (And.intro hs3 hs4)))
    clear hs1 hs2 hs3 hs4
    have k4 := hR.cell (q := 4) (u := .slice (some ⟨sb, 0, none⟩) A A) (by simp [eRs])
    have c0 := hR.state (q := an) (x := 0) (by simp [han])
    have fz : W5.frozen? ⟨sb, an, none⟩ = false := hR.st.free an
    have e15 : W5.cell? ⟨w.heap.size, 1, none⟩ = some (.int .i64 an) := by rw [hB5.cell (p := ⟨w.heap.size, 1, none⟩) hlt]; exact e1
    have hRS := hR.set (q := an) (by simp [han]) 1
    have HR5 := Lib.hid (And.intro hR (And.intro hB5 hRS))
    clear hR hB5 hRS e1 e2 e4 m1 m2 m3 hC1 hC2 hC3
    go_upto_region 4 with (fail)
    go_region
    all_goals
      go_wp2
      go_ret
      obtain ⟨hR, hB5, hRS, hO⟩ := HR5.out
      obtain ⟨q1, q2, q3, q4⟩ := HS.out
      refine ⟨rb, rfl, ⟨sb, pb, fb, ?_, fun b hb => ?_⟩, ?_⟩
      · first | exact hRS.drew | exact (hR.drew.set (q := an) (by simp [han]) 1).1
      · rcases hb with rfl | rfl | rfl | rfl <;> omega
      · have hB9 := (below_trans' hB5 hA2).trans (hO.below (Nat.le_trans hA2.size hB5.size) (fun i hi e => by omega))
        first | exact hB9.drew | exact ((below_trans' hB5 hA2).drew).trans ((hR.drew.set (q := an) (by simp [han]) 1).2.below (Nat.le_trans hA2.size hB5.size) (fun i hi e => by omega))
  · obtain ⟨f1, f2, f3, f4⟩ := four w2 C1 C3 C2 #[.int .i64 id, .int .i64 t, .int .i64 c, .int .i64 1, .slice (some ⟨w2.heap.size, 0, none⟩) A A, .slice (some ⟨w2.heap.size + 1 + 1, 0, none⟩) A A, .slice (some ⟨w2.heap.size + 1, 0, none⟩) A A, .bool false, .bool false] 3 4 33 54
    have hR := new_fin ⟨hA1, hA4⟩ hC1 hC2 hC3 f1 f3 f2 f4
    have hB5 : Below w2.heap.size w2 (((((w2.alloc (.cells C1 3)).alloc (.cells C3 4)).alloc (.cells C2 33)).alloc (.cells #[.int .i64 id, .int .i64 t, .int .i64 c, .int .i64 1, .slice (some ⟨w2.heap.size, 0, none⟩) A A, .slice (some ⟨w2.heap.size + 1 + 1, 0, none⟩) A A, .slice (some ⟨w2.heap.size + 1, 0, none⟩) A A, .bool false, .bool false] 54)).drew) := (below_alloc (below_alloc (below_alloc (below_alloc (Below.refl w2.heap.size w2) _) _) _) _).drew
    generalize ((((w2.alloc (.cells C1 3)).alloc (.cells C3 4)).alloc (.cells C2 33)).alloc (.cells #[.int .i64 id, .int .i64 t, .int .i64 c, .int .i64 1, .slice (some ⟨w2.heap.size, 0, none⟩) A A, .slice (some ⟨w2.heap.size + 1 + 1, 0, none⟩) A A, .slice (some ⟨w2.heap.size + 1, 0, none⟩) A A, .bool false, .bool false] 54)).drew = W5 at hR hB5 ⊢
    clear f1 f2 f3 f4
    generalize hs4 : w2.heap.size + 1 + 1 + 1 = rb at hR ⊢
    generalize hs2 : w2.heap.size + 1 + 1 = pb at hR ⊢
    generalize hs3 : w2.heap.size + 1 = fb at hR ⊢
    generalize hs1 : w2.heap.size = sb at hR ⊢
    have hsz := hA2.size
    have HS := Lib.hid (And.intro hs1 (And.intro hs2 (And.intro hs3 hs4)))
    clear hs1 hs2 hs3 hs4
    have k4 := hR.cell (q := 4) (u := .slice (some ⟨sb, 0, none⟩) A A) (by simp [eRs])
    have c0 := hR.state (q := an) (x := 0) (by simp [han])
    have fz : W5.frozen? ⟨sb, an, none⟩ = false := hR.st.free an
    have e15 : W5.cell? ⟨w.heap.size, 1, none⟩ = some (.int .i64 an) := by rw [hB5.cell (p := ⟨w.heap.size, 1, none⟩) hlt]; exact e1
    have hRS := hR.set (q := an) (by simp [han]) 1
    have HR5 := Lib.hid (And.intro hR (And.intro hB5 hRS))
    clear hR hB5 hRS e1 e2 e4 m1 m2 m3 hC1 hC2 hC3
    go_upto_region 4 with (fail)
    go_region
    all_goals
      go_wp2
      go_ret
      obtain ⟨hR, hB5, hRS, hO⟩ := HR5.out
      obtain ⟨q1, q2, q3, q4⟩ := HS.out
      refine ⟨rb, rfl, ⟨sb, pb, fb, ?_, fun b hb => ?_⟩, ?_⟩
      · first | exact hRS.drew | exact (hR.drew.set (q := an) (by simp [han]) 1).1
      · rcases hb with rfl | rfl | rfl | rfl <;> omega
      · have hB9 := (below_trans' hB5 hA2).trans (hO.below (Nat.le_trans hA2.size hB5.size) (fun i hi e => by omega))
        first | exact hB9.drew | exact ((below_trans' hB5 hA2).drew).trans ((hR.drew.set (q := an) (by simp [han]) 1).2.below (Nat.le_trans hA2.size hB5.size) (fun i hi e => by omega))
  · obtain ⟨f1, f2, f3, f4⟩ := four w2 C2 C1 C3 #[.int .i64 id, .int .i64 t, .int .i64 c, .int .i64 1, .slice (some ⟨w2.heap.size + 1, 0, none⟩) A A, .slice (some ⟨w2.heap.size, 0, none⟩) A A, .slice (some ⟨w2.heap.size + 1 + 1, 0, none⟩) A A, .bool false, .bool false] 33 3 4 54
    have hR := new_fin ⟨hA1, hA4⟩ hC1 hC2 hC3 f2 f1 f3 f4
    have hB5 : Below w2.heap.size w2 (((((w2.alloc (.cells C2 33)).alloc (.cells C1 3)).alloc (.cells C3 4)).alloc (.cells #[.int .i64 id, .int .i64 t, .int .i64 c, .int .i64 1, .slice (some ⟨w2.heap.size + 1, 0, none⟩) A A, .slice (some ⟨w2.heap.size, 0, none⟩) A A, .slice (some ⟨w2.heap.size + 1 + 1, 0, none⟩) A A, .bool false, .bool false] 54)).drew) := (below_alloc (below_alloc (below_alloc (below_alloc (Below.refl w2.heap.size w2) _) _) _) _).drew
    generalize ((((w2.alloc (.cells C2 33)).alloc (.cells C1 3)).alloc (.cells C3 4)).alloc (.cells #[.int .i64 id, .int .i64 t, .int .i64 c, .int .i64 1, .slice (some ⟨w2.heap.size + 1, 0, none⟩) A A, .slice (some ⟨w2.heap.size, 0, none⟩) A A, .slice (some ⟨w2.heap.size + 1 + 1, 0, none⟩) A A, .bool false, .bool false] 54)).drew = W5 at hR hB5 ⊢
    clear f1 f2 f3 f4
    generalize hs4 : w2.heap.size + 1 + 1 + 1 = rb at hR ⊢
    generalize hs3 : w2.heap.size + 1 + 1 = fb at hR ⊢
    generalize hs1 : w2.heap.size + 1 = sb at hR ⊢
    generalize hs2 : w2.heap.size = pb at hR ⊢
    have hsz := hA2.size
    have HS := Lib.hid (And.intro hs1 (And.intro hs2 (And.intro hs3 hs4)))
    clear hs1 hs2 hs3 hs4
    have k4 := hR.cell (q := 4) (u := .slice (some ⟨sb, 0, none⟩) A A) (by simp [eRs])
    have c0 := hR.state (q := an) (x := 0) (by simp [han])
    have fz : W5.frozen? ⟨sb, an, none⟩ = false := hR.st.free an
    have e15 : W5.cell? ⟨w.heap.size, 1, none⟩ = some (.int .i64 an) := by rw [hB5.cell (p := ⟨w.heap.size, 1, none⟩) hlt]; exact e1
    have hRS := hR.set (q := an) (by simp [han]) 1
    have HR5 := Lib.hid (And.intro hR (And.intro hB5 hRS))
    clear hR hB5 hRS e1 e2 e4 m1 m2 m3 hC1 hC2 hC3
    go_upto_region 4 with (fail)
    go_region
    all_goals
      go_wp2
      go_ret
      obtain ⟨hR, hB5, hRS, hO⟩ := HR5.out
      obtain ⟨q1, q2, q3, q4⟩ := HS.out
      refine ⟨rb, rfl, ⟨sb, pb, fb, ?_, fun b hb => ?_⟩, ?_⟩
      · first | exact hRS.drew | exact (hR.drew.set (q := an) (by simp [han]) 1).1
      · rcases hb with rfl | rfl | rfl | rfl <;> omega
      · have hB9 := (below_trans' hB5 hA2).trans (hO.below (Nat.le_trans hA2.size hB5.size) (fun i hi e => by omega))
        first | exact hB9.drew | exact ((below_trans' hB5 hA2).drew).trans ((hR.drew.set (q := an) (by simp [han]) 1).2.below (Nat.le_trans hA2.size hB5.size) (fun i hi e => by omega))
  · obtain ⟨f1, f2, f3, f4⟩ := four w2 C2 C3 C1 #[.int .i64 id, .int .i64 t, .int .i64 c, .int .i64 1, .slice (some ⟨w2.heap.size + 1 + 1, 0, none⟩) A A, .slice (some ⟨w2.heap.size, 0, none⟩) A A, .slice (some ⟨w2.heap.size + 1, 0, none⟩) A A, .bool false, .bool false] 33 4 3 54
    have hR := new_fin ⟨hA1, hA4⟩ hC1 hC2 hC3 f3 f1 f2 f4
    have hB5 : Below w2.heap.size w2 (((((w2.alloc (.cells C2 33)).alloc (.cells C3 4)).alloc (.cells C1 3)).alloc (.cells #[.int .i64 id, .int .i64 t, .int .i64 c, .int .i64 1, .slice (some ⟨w2.heap.size + 1 + 1, 0, none⟩) A A, .slice (some ⟨w2.heap.size, 0, none⟩) A A, .slice (some ⟨w2.heap.size + 1, 0, none⟩) A A, .bool false, .bool false] 54)).drew) := (below_alloc (below_alloc (below_alloc (below_alloc (Below.refl w2.heap.size w2) _) _) _) _).drew
    generalize ((((w2.alloc (.cells C2 33)).alloc (.cells C3 4)).alloc (.cells C1 3)).alloc (.cells #[.int .i64 id, .int .i64 t, .int .i64 c, .int .i64 1, .slice (some ⟨w2.heap.size + 1 + 1, 0, none⟩) A A, .slice (some ⟨w2.heap.size, 0, none⟩) A A, .slice (some ⟨w2.heap.size + 1, 0, none⟩) A A, .bool false, .bool false] 54)).drew = W5 at hR hB5 ⊢
    clear f1 f2 f3 f4
    generalize hs4 : w2.heap.size + 1 + 1 + 1 = rb at hR ⊢
    generalize hs1 : w2.heap.size + 1 + 1 = sb at hR ⊢
    generalize hs3 : w2.heap.size + 1 = fb at hR ⊢
    generalize hs2 : w2.heap.size = pb at hR ⊢
    have hsz := hA2.size
    have HS := Lib.hid (And.intro hs1 (And.intro hs2 (And.intro hs3 hs4)))
    clear hs1 hs2 hs3 hs4
    have k4 := hR.cell (q := 4) (u := .slice (some ⟨sb, 0, none⟩) A A) (by simp [eRs])
    have c0 := hR.state (q := an) (x := 0) (by simp [han])
    have fz : W5.frozen? ⟨sb, an, none⟩ = false := hR.st.free an
    have e15 : W5.cell? ⟨w.heap.size, 1, none⟩ = some (.int .i64 an) := by rw [hB5.cell (p := ⟨w.heap.size, 1, none⟩) hlt]; exact e1
    have hRS := hR.set (q := an) (by simp [han]) 1
    have HR5 := Lib.hid (And.intro hR (And.intro hB5 hRS))
    clear hR hB5 hRS e1 e2 e4 m1 m2 m3 hC1 hC2 hC3
    go_upto_region 4 with (fail)
    go_region
    all_goals
      go_wp2
      go_ret
      obtain ⟨hR, hB5, hRS, hO⟩ := HR5.out
      obtain ⟨q1, q2, q3, q4⟩ := HS.out
      refine ⟨rb, rfl, ⟨sb, pb, fb, ?_, fun b hb => ?_⟩, ?_⟩
      · first | exact hRS.drew | exact (hR.drew.set (q := an) (by simp [han]) 1).1
      · rcases hb with rfl | rfl | rfl | rfl <;> omega
      · have hB9 := (below_trans' hB5 hA2).trans (hO.below (Nat.le_trans hA2.size hB5.size) (fun i hi e => by omega))
        first | exact hB9.drew | exact ((below_trans' hB5 hA2).drew).trans ((hR.drew.set (q := an) (by simp [han]) 1).2.below (Nat.le_trans hA2.size hB5.size) (fun i hi e => by omega))
  · obtain ⟨f1, f2, f3, f4⟩ := four w2 C3 C1 C2 #[.int .i64 id, .int .i64 t, .int .i64 c, .int .i64 1, .slice (some ⟨w2.heap.size + 1, 0, none⟩) A A, .slice (some ⟨w2.heap.size + 1 + 1, 0, none⟩) A A, .slice (some ⟨w2.heap.size, 0, none⟩) A A, .bool false, .bool false] 4 3 33 54
    have hR := new_fin ⟨hA1, hA4⟩ hC1 hC2 hC3 f2 f3 f1 f4
    have hB5 : Below w2.heap.size w2 (((((w2.alloc (.cells C3 4)).alloc (.cells C1 3)).alloc (.cells C2 33)).alloc (.cells #[.int .i64 id, .int .i64 t, .int .i64 c, .int .i64 1, .slice (some ⟨w2.heap.size + 1, 0, none⟩) A A, .slice (some ⟨w2.heap.size + 1 + 1, 0, none⟩) A A, .slice (some ⟨w2.heap.size, 0, none⟩) A A, .bool false, .bool false] 54)).drew) := (below_alloc (below_alloc (below_alloc (below_alloc (Below.refl w2.heap.size w2) _) _) _) _).drew
    generalize ((((w2.alloc (.cells C3 4)).alloc (.cells C1 3)).alloc (.cells C2 33)).alloc (.cells #[.int .i64 id, .int .i64 t, .int .i64 c, .int .i64 1, .slice (some ⟨w2.heap.size + 1, 0, none⟩) A A, .slice (some ⟨w2.heap.size + 1 + 1, 0, none⟩) A A, .slice (some ⟨w2.heap.size, 0, none⟩) A A, .bool false, .bool false] 54)).drew = W5 at hR hB5 ⊢
    clear f1 f2 f3 f4
    generalize hs4 : w2.heap.size + 1 + 1 + 1 = rb at hR ⊢
    generalize hs2 : w2.heap.size + 1 + 1 = pb at hR ⊢
    generalize hs1 : w2.heap.size + 1 = sb at hR ⊢
    generalize hs3 : w2.heap.size = fb at hR ⊢
    have hsz := hA2.size
    have HS := Lib.hid (And.intro hs1 (And.intro hs2 (And.intro hs3 hs4)))
    clear hs1 hs2 hs3 hs4
    have k4 := hR.cell (q := 4) (u := .slice (some ⟨sb, 0, none⟩) A A) (by simp [eRs])
    have c0 := hR.state (q := an) (x := 0) (by simp [han])
    have fz : W5.frozen? ⟨sb, an, none⟩ = false := hR.st.free an
    have e15 : W5.cell? ⟨w.heap.size, 1, none⟩ = some (.int .i64 an) := by rw [hB5.cell (p := ⟨w.heap.size, 1, none⟩) hlt]; exact e1
    have hRS := hR.set (q := an) (by simp [han]) 1
    have HR5 := Lib.hid (And.intro hR (And.intro hB5 hRS))
    clear hR hB5 hRS e1 e2 e4 m1 m2 m3 hC1 hC2 hC3
    go_upto_region 4 with (fail)
    go_region
    all_goals
      go_wp2
      go_ret
      obtain ⟨hR, hB5, hRS, hO⟩ := HR5.out
      obtain ⟨q1, q2, q3, q4⟩ := HS.out
      refine ⟨rb, rfl, ⟨sb, pb, fb, ?_, fun b hb => ?_⟩, ?_⟩
      · first | exact hRS.drew | exact (hR.drew.set (q := an) (by simp [han]) 1).1
      · rcases hb with rfl | rfl | rfl | rfl <;> omega
      · have hB9 := (below_trans' hB5 hA2).trans (hO.below (Nat.le_trans hA2.size hB5.size) (fun i hi e => by omega))
        first | exact hB9.drew | exact ((below_trans' hB5 hA2).drew).trans ((hR.drew.set (q := an) (by simp [han]) 1).2.below (Nat.le_trans hA2.size hB5.size) (fun i hi e => by omega))
  · obtain ⟨f1, f2, f3, f4⟩ := four w2 C3 C2 C1 #[.int .i64 id, .int .i64 t, .int .i64 c, .int .i64 1, .slice (some ⟨w2.heap.size + 1 + 1, 0, none⟩) A A, .slice (some ⟨w2.heap.size + 1, 0, none⟩) A A, .slice (some ⟨w2.heap.size, 0, none⟩) A A, .bool false, .bool false] 4 33 3 54
    have hR := new_fin ⟨hA1, hA4⟩ hC1 hC2 hC3 f3 f2 f1 f4
    have hB5 : Below w2.heap.size w2 (((((w2.alloc (.cells C3 4)).alloc (.cells C2 33)).alloc (.cells C1 3)).alloc (.cells #[.int .i64 id, .int .i64 t, .int .i64 c, .int .i64 1, .slice (some ⟨w2.heap.size + 1 + 1, 0, none⟩) A A, .slice (some ⟨w2.heap.size + 1, 0, none⟩) A A, .slice (some ⟨w2.heap.size, 0, none⟩) A A, .bool false, .bool false] 54)).drew) := (below_alloc (below_alloc (below_alloc (below_alloc (Below.refl w2.heap.size w2) _) _) _) _).drew
    generalize ((((w2.alloc (.cells C3 4)).alloc (.cells C2 33)).alloc (.cells C1 3)).alloc (.cells #[.int .i64 id, .int .i64 t, .int .i64 c, .int .i64 1, .slice (some ⟨w2.heap.size + 1 + 1, 0, none⟩) A A, .slice (some ⟨w2.heap.size + 1, 0, none⟩) A A, .slice (some ⟨w2.heap.size, 0, none⟩) A A, .bool false, .bool false] 54)).drew = W5 at hR hB5 ⊢
    clear f1 f2 f3 f4
    generalize hs4 : w2.heap.size + 1 + 1 + 1 = rb at hR ⊢
    generalize hs1 : w2.heap.size + 1 + 1 = sb at hR ⊢
    generalize hs2 : w2.heap.size + 1 = pb at hR ⊢
    generalize hs3 : w2.heap.size = fb at hR ⊢
    have hsz := hA2.size
    have HS := Lib.hid (And.intro hs1 (And.intro hs2 (And.intro hs3 hs4)))
    clear hs1 hs2 hs3 hs4
    have k4 := hR.cell (q := 4) (u := .slice (some ⟨sb, 0, none⟩) A A) (by simp [eRs])
    have c0 := hR.state (q := an) (x := 0) (by simp [han])
    have fz : W5.frozen? ⟨sb, an, none⟩ = false := hR.st.free an
    have e15 : W5.cell? ⟨w.heap.size, 1, none⟩ = some (.int .i64 an) := by rw [hB5.cell (p := ⟨w.heap.size, 1, none⟩) hlt]; exact e1
    have hRS := hR.set (q := an) (by simp [han]) 1
    have HR5 := Lib.hid (And.intro hR (And.intro hB5 hRS))
    clear hR hB5 hRS e1 e2 e4 m1 m2 m3 hC1 hC2 hC3
    go_upto_region 4 with (fail)
    go_region
    all_goals
      go_wp2
      go_ret
      obtain ⟨hR, hB5, hRS, hO⟩ := HR5.out
      obtain ⟨q1, q2, q3, q4⟩ := HS.out
      refine ⟨rb, rfl, ⟨sb, pb, fb, ?_, fun b hb => ?_⟩, ?_⟩
      · first | exact hRS.drew | exact (hR.drew.set (q := an) (by simp [han]) 1).1
      · rcases hb with rfl | rfl | rfl | rfl <;> omega
      · have hB9 := (below_trans' hB5 hA2).trans (hO.below (Nat.le_trans hA2.size hB5.size) (fun i hi e => by omega))
        first | exact hB9.drew | exact ((below_trans' hB5 hA2).drew).trans ((hR.drew.set (q := an) (by simp [han]) 1).2.below (Nat.le_trans hA2.size hB5.size) (fun i hi e => by omega))
end Go.Proofs.Ytniggacgkhkgiaa.Job
