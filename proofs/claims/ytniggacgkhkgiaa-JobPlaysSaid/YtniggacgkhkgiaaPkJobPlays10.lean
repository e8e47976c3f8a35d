/- The law's Same says that messages with the same contents, as the document has them, are the same. Conditions: their slices lie in memory. -/
import Derived.Test.YtniggacgkhkgiaaPkJobPlays9
import Derived.Test.YtniggacgkhkgiaaPkJobPlays4
import Derived.Test.YtniggacgkhkgiaaPkJobPlays6
import Derived.Maps.RangeWalk
import Derived.Shelf.SlIterI.Nil
import Derived.Shelf.SortM.Plain
import Derived.Shelf.SortM.SortNone
import Derived.Ground.GgzProg
import Derived.Ground.SlgmProg
import Derived.Test.YtniggacgkhkgiaaProg
import Derived.Test.YtniggacgkhkgiaaPkJobPlays2
namespace Go.Sp
open Go.RowKit
/-- a part's contents, but its slice -/
def strp (p : Pt) : Int × Int × Int × Int × List Int × Bool := (p.a, p.t, p.j, p.n, p.cl, p.l)
end Go.Sp
namespace Go.Proofs.Ytniggacgkhkgiaa.Job
open Go.RowKit Go.Sp Msg Go.Sort

theorem same05_nil (w : World) : Calls Try.prog 54 #[.slice none 0 0, .slice none 0 0] w fun e w' => e = .returned (.bool true) ∧ w' = w := by
  go_enter Try.func54, Try.ntmps54
  go_wp2
  go_loopw [5] (fun i wr => i = .int .i64 0 ∧ wr = w) (fun i _ => (intOf i).toNat)
  case atStart => exact ⟨rfl, rfl⟩
  case round =>
    obtain ⟨rfl, rfl⟩ := hrel
    go_wp2
    go_ret
    exact ⟨rfl, rfl⟩

set_option maxRecDepth 100000 in
set_option maxHeartbeats 4000000 in
theorem samePart_any {w : World} {a t j n : Int} {cv1 cv2 : Value} {cl : List Int} {l : Bool} (h1 : RS w 1 eInt cv1 cl) (h2 : RS w 1 eInt cv2 cl) :
    Calls Try.prog 81 #[.agg #[.int .i64 a, .int .i64 t, .int .i64 j, .int .i64 n, cv1, .bool l], .agg #[.int .i64 a, .int .i64 t, .int .i64 j, .int .i64 n, cv2, .bool l]] w fun e w' => e = .returned (.bool true) ∧ Below w.heap.size w w' := by
  obtain ⟨_, a1, c1, rfl, _⟩ := id h1
  obtain ⟨_, a2, c2, rfl, _⟩ := id h2
  have ba : (a == a) = true := by simp
  have bt : (t == t) = true := by simp
  have bj : (j == j) = true := by simp
  have bn : (n == n) = true := by simp
  have bl : (l == l) = true := by simp
  have hA := below_alloc (below_alloc (Below.refl w.heap.size w) (.cells #[.int .i64 a, .int .i64 t, .int .i64 j, .int .i64 n, .slice a1 cl.length c1, .bool l] 33)) (.cells #[.int .i64 a, .int .i64 t, .int .i64 j, .int .i64 n, .slice a2 cl.length c2, .bool l] 33)
  have k1 := h1.only (only_of_below hA (fun _ => False)) (fun _ _ => id)
  have k2 := h2.only (only_of_below hA (fun _ => False)) (fun _ _ => id)
  clear h1 h2
  go_enter Try.func81, Try.ntmps81
  go_wp2_with fail
  refine (sameInts_any k1 k2).mono ?_
  rintro e w5 ⟨rfl, n5, rfl⟩
  rw [decide_eq_true rfl]
  have hB := belowN hA n5
  go_wp2
  go_ret
  exact ⟨rfl, hB⟩

set_option maxRecDepth 100000 in
set_option maxHeartbeats 4000000 in
theorem sameM_any {w : World} {k a t j c i n p1 p2 p3 p4 : Int} {p5 : Bool} {cl : List Int} {x1 x2 u1 u2 : Option Addr} {y1 y2 z1 z2 m : Nat} {qs1 qs2 : List Pt} (hc1 : RS w 1 eInt (.slice x1 cl.length y1) cl) (hc2 : RS w 1 eInt (.slice x2 cl.length y2) cl)
    (h1 : RS w 6 ePt (.slice u1 m z1) qs1) (h2 : RS w 6 ePt (.slice u2 m z2) qs2) (hm : qs1.length = m) (hs : qs1.map strp = qs2.map strp) (hr1 : ∀ p ∈ qs1, RS w 1 eInt p.cv p.cl) (hr2 : ∀ p ∈ qs2, RS w 1 eInt p.cv p.cl) :
    Calls Try.prog 31 #[.agg #[.int .i64 k, .int .i64 a, .int .i64 t, .int .i64 j, .int .i64 c, .int .i64 i, .int .i64 n, .int .i64 p1, .int .i64 p2, .int .i64 p3, .int .i64 p4, .slice x1 cl.length y1, .bool p5, .slice u1 m z1, .slice none 0 0], .agg #[.int .i64 k, .int .i64 a, .int .i64 t, .int .i64 j, .int .i64 c, .int .i64 i, .int .i64 n, .int .i64 p1, .int .i64 p2, .int .i64 p3, .int .i64 p4, .slice x2 cl.length y2, .bool p5, .slice u2 m z2, .slice none 0 0]] w fun e w' => e = .returned (.bool true) ∧ Below w.heap.size w w' := by
  have hm2 : qs2.length = m := by have := congrArg List.length hs; simp at this; omega
  have hl1 := h1.1
  unfold maxLen at hl1
  have b0 : (k != k) = false := by simp
  have b1 : (a != a) = false := by simp
  have b2 : (t != t) = false := by simp
  have b3 : (j != j) = false := by simp
  have b4 : (c != c) = false := by simp
  have b5 : (i != i) = false := by simp
  have b6 : (n != n) = false := by simp
  have b7 : ((m : Int) != (m : Int)) = false := by simp
  have hA := below_alloc (below_alloc (Below.refl w.heap.size w) (.cells #[.int .i64 k, .int .i64 a, .int .i64 t, .int .i64 j, .int .i64 c, .int .i64 i, .int .i64 n, .int .i64 p1, .int .i64 p2, .int .i64 p3, .int .i64 p4, .slice x1 cl.length y1, .bool p5, .slice u1 m z1, .slice none 0 0] 37)) (.cells #[.int .i64 k, .int .i64 a, .int .i64 t, .int .i64 j, .int .i64 c, .int .i64 i, .int .i64 n, .int .i64 p1, .int .i64 p2, .int .i64 p3, .int .i64 p4, .slice x2 cl.length y2, .bool p5, .slice u2 m z2, .slice none 0 0] 37)
  have g1 : ((w.alloc (.cells #[.int .i64 k, .int .i64 a, .int .i64 t, .int .i64 j, .int .i64 c, .int .i64 i, .int .i64 n, .int .i64 p1, .int .i64 p2, .int .i64 p3, .int .i64 p4, .slice x1 cl.length y1, .bool p5, .slice u1 m z1, .slice none 0 0] 37)).alloc (.cells #[.int .i64 k, .int .i64 a, .int .i64 t, .int .i64 j, .int .i64 c, .int .i64 i, .int .i64 n, .int .i64 p1, .int .i64 p2, .int .i64 p3, .int .i64 p4, .slice x2 cl.length y2, .bool p5, .slice u2 m z2, .slice none 0 0] 37)).heap[w.heap.size]? = some (.cells #[.int .i64 k, .int .i64 a, .int .i64 t, .int .i64 j, .int .i64 c, .int .i64 i, .int .i64 n, .int .i64 p1, .int .i64 p2, .int .i64 p3, .int .i64 p4, .slice x1 cl.length y1, .bool p5, .slice u1 m z1, .slice none 0 0] 37 (0, 0)) := ((below_alloc (Below.refl (w.alloc (.cells #[.int .i64 k, .int .i64 a, .int .i64 t, .int .i64 j, .int .i64 c, .int .i64 i, .int .i64 n, .int .i64 p1, .int .i64 p2, .int .i64 p3, .int .i64 p4, .slice x1 cl.length y1, .bool p5, .slice u1 m z1, .slice none 0 0] 37)).heap.size _) _).block _ (by simp)).trans (heap_new w _ rfl)
  have g2 : ((w.alloc (.cells #[.int .i64 k, .int .i64 a, .int .i64 t, .int .i64 j, .int .i64 c, .int .i64 i, .int .i64 n, .int .i64 p1, .int .i64 p2, .int .i64 p3, .int .i64 p4, .slice x1 cl.length y1, .bool p5, .slice u1 m z1, .slice none 0 0] 37)).alloc (.cells #[.int .i64 k, .int .i64 a, .int .i64 t, .int .i64 j, .int .i64 c, .int .i64 i, .int .i64 n, .int .i64 p1, .int .i64 p2, .int .i64 p3, .int .i64 p4, .slice x2 cl.length y2, .bool p5, .slice u2 m z2, .slice none 0 0] 37)).heap[w.heap.size + 1]? = some (.cells #[.int .i64 k, .int .i64 a, .int .i64 t, .int .i64 j, .int .i64 c, .int .i64 i, .int .i64 n, .int .i64 p1, .int .i64 p2, .int .i64 p3, .int .i64 p4, .slice x2 cl.length y2, .bool p5, .slice u2 m z2, .slice none 0 0] 37 (0, 0)) := heap_new _ _ (by simp)
  have k1 := hc1.only (only_of_below hA (fun _ => False)) (fun _ _ => id)
  have k2 := hc2.only (only_of_below hA (fun _ => False)) (fun _ _ => id)
  go_enter Try.func31, Try.ntmps31
  go_wp2_with fail
  refine (samePart_any k1 k2).mono ?_
  rintro e w3 ⟨rfl, hb3⟩
  have hA3 := below_trans' hb3 hA
  have g13 := (hb3.block _ (Array.getElem?_eq_some_iff.1 g1).1).trans g1
  have g23 := (hb3.block _ (Array.getElem?_eq_some_iff.1 g2).1).trans g2
  have c18 := cell_blk (w := w3) g13 (j := 13) (u := .slice u1 m z1) rfl
  have c28 := cell_blk (w := w3) g23 (j := 13) (u := .slice u2 m z2) rfl
  have c19 := cell_blk (w := w3) g13 (j := 14) (u := .slice none 0 0) rfl
  have c29 := cell_blk (w := w3) g23 (j := 14) (u := .slice none 0 0) rfl
  clear hA g1 g2 k1 k2 hc1 hc2 hb3
  go_wp2_with fail
  refine (same05_nil _).mono ?_
  rintro e w4 ⟨rfl, rfl⟩
  clear b0 b1 b2 b3 b4 b5 b6 c19 c29
  have HM := Lib.hid (And.intro hm hm2)
  clear hm hm2
  go_wp2
  clear c18 c28 b7
  go_loopw [81] (fun v wr => ∃ q : Nat, q ≤ m ∧ v = .int .i64 q ∧ Below w4.heap.size w4 wr) (fun v _ => m - (intOf v).toNat)
  case atStart => exact ⟨0, Nat.zero_le _, rfl, Below.refl _ _⟩
  case round =>
    obtain ⟨q, hq, rfl, hb⟩ := hrel
    have hbw := below_trans' hb hA3
    by_cases hqN : q < m
    · have e1 : wr.cell? ⟨w.heap.size, 13, none⟩ = some (.slice u1 m z1) := cell_blk ((hb.block _ (Array.getElem?_eq_some_iff.1 g13).1).trans g13) rfl
      have e2 : wr.cell? ⟨w.heap.size + 1, 13, none⟩ = some (.slice u2 m z2) := cell_blk ((hb.block _ (Array.getElem?_eq_some_iff.1 g23).1).trans g23) rfl
      obtain ⟨_, a1, c1, hv, f1⟩ := h1.only (only_of_below hbw (fun _ => False)) (fun _ _ => id)
      obtain ⟨d1, o1, rfl, hd1, hcl1⟩ := f1 (by rw [HM.out.1]; omega)
      simp only [Value.slice.injEq] at hv
      obtain ⟨rfl, _, _⟩ := hv
      obtain ⟨_, a2, c2, hv, f2⟩ := h2.only (only_of_below hbw (fun _ => False)) (fun _ _ => id)
      obtain ⟨d2, o2, rfl, hd2, hcl2⟩ := f2 (by rw [HM.out.2]; omega)
      simp only [Value.slice.injEq] at hv
      obtain ⟨rfl, _, _⟩ := hv
      obtain ⟨x, hx⟩ : ∃ x, qs1[q]? = some x := ⟨_, List.getElem?_eq_getElem (by rw [HM.out.1]; exact hqN)⟩
      obtain ⟨y, hy⟩ : ∃ y, qs2[q]? = some y := ⟨_, List.getElem?_eq_getElem (by rw [HM.out.2]; exact hqN)⟩
      have hxy : strp x = strp y := by
        have e := congrArg (fun l => l[q]?) hs
        simp only [List.getElem?_map, hx, hy, Option.map_some] at e
        exact Option.some.inj e
      have m1 := (hr1 x (List.mem_of_getElem? hx)).only (only_of_below hbw (fun _ => False)) (fun _ _ => id)
      have m2 := (hr2 y (List.mem_of_getElem? hy)).only (only_of_below hbw (fun _ => False)) (fun _ _ => id)
      have s0 := hcl1 q x 0 _ hx rfl
      have s1 := hcl1 q x 1 _ hx rfl
      have s2 := hcl1 q x 2 _ hx rfl
      have s3 := hcl1 q x 3 _ hx rfl
      have s4 := hcl1 q x 4 _ hx rfl
      have s5 := hcl1 q x 5 _ hx rfl
      have t0 := hcl2 q y 0 _ hy rfl
      have t1 := hcl2 q y 1 _ hy rfl
      have t2 := hcl2 q y 2 _ hy rfl
      have t3 := hcl2 q y 3 _ hy rfl
      have t4 := hcl2 q y 4 _ hy rfl
      have t5 := hcl2 q y 5 _ hy rfl
      rw [← Nat.add_assoc] at s0 s1 s2 s3 s4 s5 t0 t1 t2 t3 t4 t5
      rw [Nat.add_zero] at s0 t0
      obtain ⟨xa, xt, xj, xn, xcv, xcl, xl⟩ := x
      obtain ⟨ya, yt, yj, yn, ycv, ycl, yl⟩ := y
      simp only [strp, Prod.mk.injEq] at hxy
      obtain ⟨rfl, rfl, rfl, rfl, rfl, rfl⟩ := hxy
      simp only at m1 m2 s0 s1 s2 s3 s4 s5 t0 t1 t2 t3 t4 t5
      obtain ⟨_, v1, v2, hv, _⟩ := id m1
      subst hv
      obtain ⟨_, v3, v4, hv, _⟩ := id m2
      subst hv
      have HR := fun d os => samePart_any (w := grow (redrawn wr d) os) (a := xa) (t := xt) (j := xj) (n := xn) (l := xl) (m1.only (only_of_below (below_regrown wr d os) (fun _ => False)) (fun _ _ => id)) (m2.only (only_of_below (below_regrown wr d os) (fun _ => False)) (fun _ _ => id))
      have cQ := fun d os => Calls.regrown_of (HR d os)
      have E1 := fun d os => cell_regrown e1 d os
      have E2 := fun d os => cell_regrown e2 d os
      have S0 := fun d os => cell_regrown s0 d os
      have S1 := fun d os => cell_regrown s1 d os
      have S2 := fun d os => cell_regrown s2 d os
      have S3 := fun d os => cell_regrown s3 d os
      have S4 := fun d os => cell_regrown s4 d os
      have S5 := fun d os => cell_regrown s5 d os
      have T0 := fun d os => cell_regrown t0 d os
      have T1 := fun d os => cell_regrown t1 d os
      have T2 := fun d os => cell_regrown t2 d os
      have T3 := fun d os => cell_regrown t3 d os
      have T4 := fun d os => cell_regrown t4 d os
      have T5 := fun d os => cell_regrown t5 d os
      have HB := Lib.hid hb
      clear HR m1 m2 hcl1 hcl2 f1 f2 hx hy hb hbw h1 h2 hr1 hr2 hs g13 g23 hA3
      go_upto_region 6 with (fail)
      refine wp_region_quiet_below (by kernel_rfl) (by kernel_rfl) ?_
      repeat (first | go_big_quiet_step (exact cQ _ _) | quiet_step (exact cQ _ _))
      refine wpQuiet_nil ?_
      intro w2 hw2
      obtain ⟨p, rfl⟩ := hw2
      have hbr := below_regrown wr p.d p.os
      generalize grow (redrawn wr p.d) p.os = w2 at hbr ⊢
      clear cQ E1 E2 S0 S1 S2 S3 S4 S5 T0 T1 T2 T3 T4 T5 e1 e2 s0 s1 s2 s3 s4 s5 t0 t1 t2 t3 t4 t5
      have hb9 := HB.out.trans (hbr.mono HB.out.size)
      go_wp2
      exact ⟨⟨q + 1, by omega, by go_num, hb9⟩, by simp [intOf]; omega⟩
    · have hqe : q = m := by omega
      subst hqe
      go_wp2
      go_ret
      exact ⟨rfl, hbw⟩
end Go.Proofs.Ytniggacgkhkgiaa.Job
/- What slices.Clone at []int says of a slice that can be read. Conditions: the slice lies in memory. -/
namespace Go.Sp
open Go.RowKit
theorem eInt_len (x : Int) : (eInt x).length = 1 := rfl
end Go.Sp
namespace Go.Proofs.Ytniggacgkhkgiaa.Msg
open Go.RowKit Go.Sp

set_option maxRecDepth 100000 in
set_option maxHeartbeats 1000000 in
theorem cloneR_any {w : World} {v : Value} {xs : List Int} (h : RS w 1 eInt v xs) (hn : xs.length ≤ 1000000) :
    Calls Try.prog 82 #[v] w fun e w' => ∃ v', e = .returned v' ∧ RS w' 1 eInt v' xs ∧ (∀ g, v'.ownBlock = some g → w.heap.size ≤ g ∧ g < w'.heap.size) ∧ Below w.heap.size w w' := by
  obtain ⟨i0, z0, hi, hz, hz1, hz2, hz3⟩ := info_at (P := Try.prog) (e := 3) (f := (1, 8, 1)) (by kernel_rfl)
  obtain ⟨hm, a, c, rfl, hc⟩ := id h
  cases a with
  | none =>
    have h0 : xs = [] := by
      cases xs with
      | nil => rfl
      | cons x r => obtain ⟨b, o, e, _⟩ := hc (by simp); cases e
    subst h0
    have qn : ∀ (w : World) (c : Nat), (binOp .eql 31 (.slice none 0 c) (.slice none 0 0)).run Try.prog w = .ok (.bool true) w := fun w c => run_eql_nil_slice w _ _ none 0 0 0 c Try.underlying31
    go_enter Try.func82, Try.ntmps82
    go_wp2
    go_ret
    exact ⟨_, rfl, RS.nil _ _ _, fun g hg => by simp [Value.ownBlock] at hg, Below.refl _ _⟩
  | some ad =>
    have hnews : ∀ k u, (xs.flatMap eInt)[k]? = some u → w.cell? (ad.add k) = some u := by
      intro k u hk
      cases xs with
      | nil => simp at hk
      | cons x r =>
        obtain ⟨b, o, e, _, h3⟩ := hc (by simp)
        simp only [Option.some.injEq] at e
        subst e
        exact rs_news eInt_len h3 k u hk
    have h1 : ∀ u ∈ xs.flatMap eInt, u.oneCell' = true := by
      intro u hu
      obtain ⟨x, _, hx⟩ := List.mem_flatMap.1 hu
      simp [eInt] at hx
      subst hx
      rfl
    have qn : ∀ (w : World) (n c : Nat), (binOp .eql 31 (.slice (some ad) n c) (.slice none 0 0)).run Try.prog w = .ok (.bool false) w := fun w n c => Lib.run_eql_slice_nil w _ _ (some ad) n c 0 0 Try.underlying31
    go_enter Try.func82, Try.ntmps82
    go_wp2_with (at_builtin; refine halt ?_)
    refine Halt.go ?_
    refine wpList_appd (v := .slice (some ⟨w.heap.size, 0, none⟩) 0 0) rfl _ _ _ rfl Try.underlying31 hi hz hz1 hz2 hz3 rfl (sl_empty w _ 1) (m := xs.length) (news := xs.flatMap eInt) rfl (flat_length eInt_len xs) (fun k u hk => ?_) h1 (by unfold maxLen; omega) (by omega) ?_
    · have := hnews k u hk
      rw [World.cell?_alloc_lt _ _ _ (World.block_lt_of_cell? _ _ this)]; exact this
    rintro v7 w7 hs7 ho7 hv7
    have hb7 : Below w.heap.size w w7 := (below_alloc (Below.refl _ w) _).trans (ho7.below (by simp) (fun i hi e => by simp [Value.ownBlock] at e; omega))
    have hn7' : ∀ g, v7.ownBlock = some g → w.heap.size ≤ g := fun g hg => by
      rcases hv7 with e | e
      · rw [e] at hg; simp [Value.ownBlock] at hg; omega
      · rw [e] at hg; simp at hg; omega
    rw [Nat.zero_add, List.nil_append] at hs7
    have hn7 : ∀ g, v7.ownBlock = some g → w.heap.size ≤ g ∧ g < w7.heap.size := fun g hg => ⟨hn7' g hg, hs7.lt g hg⟩
    have hr7 := SL.rs eInt_len hs7
    go_wp2
    go_ret
    exact ⟨v7, rfl, hr7, hn7, hb7⟩

end Go.Proofs.Ytniggacgkhkgiaa.Msg
/- 'for k, v := range m' over a map that IMap describes, in a round that leaves the map as it is. No condition beyond those each lemma names. -/
namespace Go.Sp
open Go.RowKit Go.MapKept Go.ChangeMaps

/-- block r is an iterator over the map m at block b; S: the keys that were handed out -/
def IRng {α : Type} (w : World) (b r : Nat) (enc : α → Value) (m : List (Int × α)) (S : Int → Prop) (cnt : Nat) : Prop :=
  ∃ es clock since seen c0, w.heap[b]? = some (.map es clock) ∧ Stamped es clock ∧ (es.toList.map fun e => (e.key, e.val)).Perm (m.map fun p => (Value.int .i64 p.1, enc p.2)) ∧ KS m ∧ (∀ p ∈ m, (Lit.int .i64 p.1).wf = true) ∧
    w.heap[r]? = some (.mapIter (some b) since seen c0) ∧ (∀ x ∈ es.toList, x.born < since) ∧ since ≤ c0 ∧ since ≤ clock ∧ (leftOf es seen).size = cnt ∧ ∀ x ∈ es.toList, ∀ k, x.key = .int .i64 k → (seen.contains x.born = true ↔ S k)

section
variable {α : Type} {P : Program} {w : World} {b r : Nat} {enc : α → Value} {m : List (Int × α)} {S : Int → Prop} {cnt : Nat} {ops : Array Oper} {Q : Exit → Act → World → Prop} {a : Act} {rest : List Oper} {o : Oper}

theorem IRng.map (h : IRng w b r enc m S cnt) : IMap w.heap b enc m := by
  obtain ⟨es, clock, _, _, _, h1, h2, h3, h4, h5, _⟩ := h
  exact ⟨es, clock, h1, h2, h3, h4, h5⟩
theorem IRng.left (h : IRng w b r enc m S cnt) : w.rangeLeft b r = cnt := by
  obtain ⟨es, clock, since, seen, c0, h1, _, _, _, _, h6, _, _, _, h9, _⟩ := h
  simp only [World.rangeLeft, h1, h6]
  exact h9
theorem IRng.only {F : Nat → Prop} {w' : World} (h : IRng w b r enc m S cnt) (o : Only F w w') (hb : ¬ F b) (hr : ¬ F r) : IRng w' b r enc m S cnt := by
  obtain ⟨es, clock, since, seen, c0, h1, h2, h3, h4, h5, h6, h7⟩ := h
  exact ⟨es, clock, since, seen, c0, o.heap h1 hb, h2, h3, h4, h5, o.heap h6 hr, h7⟩
theorem IRng.heap {w' : World} (h : IRng w b r enc m S cnt) (e : w'.heap = w.heap) : IRng w' b r enc m S cnt := by
  obtain ⟨es, clock, since, seen, c0, h1, h2, h3, h4, h5, h6, h7⟩ := h
  exact ⟨es, clock, since, seen, c0, by rw [e]; exact h1, h2, h3, h4, h5, by rw [e]; exact h6, h7⟩

/-- 'range m' -/
theorem wpList_rangeI {t K E : TypeId} (hg : o.guard = none) (mo : Operand) (hop : o.op = Op.range t mo) (ht : P.underlying t = some (.map K E)) (hm : a.eval mo = .map (some b)) (h : IMap w.heap b enc m)
    (hK : ∀ w', IRng w' b w.heap.size enc m (fun _ => False) m.length → Below w.heap.size w w' → w'.heap.size = w.heap.size + 1 → wpList P ops Q rest (a.put o.dst (.pointer (some ⟨w.heap.size, 0, none⟩))) w') : wpList P ops Q (o :: rest) a w := by
  refine wpList_plain hg fun K' hK' => ?_
  have hlt := h.lt
  obtain ⟨es, clock, hb, hs, hp, hk, hw⟩ := h
  unfold Oper.wp
  simp [execOp, hop, hm, run_range_map w t K E b es clock ht hb, Result.andThen]
  refine hK' _ _ (hK _ ⟨es, clock, clock, #[], clock, (heap_alloc_old w _ hlt).trans hb, hs, hp, hk, hw, heap_alloc_new w _, ((stamped_iff es clock).1 hs).1, Nat.le_refl _, Nat.le_refl _, ?_, ?_⟩ ((Below.refl _ w).alloc (Nat.le_refl _) _) (by simp))
  · have h1 := hp.length_eq
    have h2 : leftOf es #[] = es := by unfold leftOf; exact Array.filter_eq_self.2 (fun x _ => by simp)
    rw [h2]
    simpa using h1
  · intro x _ k _; simp

/-- the step -/
theorem wpList_nextI (hg : o.guard = none) (it : Operand) (hop : o.op = Op.next it false) (hit : a.eval it = .pointer (some ⟨r, 0, none⟩)) (h : IRng w b r enc m S cnt)
    (hDone : cnt = 0 → (∀ p ∈ m, S p.1) → wpList P ops Q rest (a.put o.dst (.tuple #[.bool false])) w)
    (hMore : ∀ k v w' cnt', (k, v) ∈ m → ¬ S k → IRng w' b r enc m (fun j => S j ∨ j = k) cnt' → cnt' < cnt → Only (· = r) w w' → w'.heap.size = w.heap.size → (Instr.entry (.pointer (some ⟨r, 0, none⟩))).run P w' = .ok (.tuple #[.int .i64 k, enc v]) w' →
      wpList P ops Q rest (a.put o.dst (.tuple #[.bool true, .int .i64 k, enc v])) w') : wpList P ops Q (o :: rest) a w := by
  refine wpList_plain hg fun K' hK' => ?_
  unfold Oper.wp
  obtain ⟨es, clock, since, seen, c0, hb, hs, hp, hk, hw, hr, hold, hsc, hsk, rfl, hS⟩ := h
  have hne : b ≠ r := fun e => by rw [e, hr] at hb; cases hb
  rcases run_next_at (P := P) w o.type r b since c0 seen es clock hr hb hold hsc with ⟨h0, hrun⟩ | ⟨e, he, w1, hal, hrun⟩
  · simp [execOp, hop, hit, hrun, Result.andThen]
    refine hK' _ _ (hDone h0 fun p hpm => ?_)
    have h1 : (Value.int .i64 p.1, enc p.2) ∈ es.toList.map fun e => (e.key, e.val) := hp.mem_iff.2 (List.mem_map.2 ⟨p, hpm, rfl⟩)
    obtain ⟨x, hx, e1⟩ := List.mem_map.1 h1
    exact (hS x hx p.1 (congrArg Prod.fst e1)).1 (all_seen es seen h0 x hx)
  · obtain ⟨hem, hes⟩ := mem_left he
    obtain ⟨⟨k, v⟩, hpm, hkey, hval⟩ := keys_ne hp hem
    have hr1 : w1.heap[r]? = some (.mapIter (some b) since seen c0) := by rcases hal with rfl | rfl <;> exact hr
    have hb1 : w1.heap[b]? = some (.map es clock) := by rcases hal with rfl | rfl <;> exact hb
    have hset := heap_set (o' := .mapIter (some b) since (seen.push e.born) clock) hr1
    have hb' : (setBlock w1 r (.mapIter (some b) since (seen.push e.born) clock)).heap[b]? = some (.map es clock) := (hset.2 b hne).trans hb1
    have hst := (stamped_iff es clock).1 hs
    simp only at hkey hval
    have hen := run_entry_at (P := P) _ r b since seen es clock e hset.1 hb' hem hst.2.1
    rw [hkey, hval] at hrun hen
    simp [execOp, hop, hit, hrun, Result.andThen]
    refine hK' _ _ (hMore k v _ _ hpm (fun hSk => ?_) ⟨es, clock, since, seen.push e.born, clock, hb', hs, hp, hk, hw, hset.1, hold, hsk, hsk, rfl, fun x hx j hj => ?_⟩ (left_shrinks es seen e he) ?_ ?_ hen)
    · have := (hS e hem k hkey).2 hSk
      rw [hes] at this; cases this
    · rw [contains_push, Bool.or_eq_true, hS x hx j hj]
      have : (x.born == e.born) = true ↔ j = k := by
        rw [beq_iff_eq]
        constructor
        · intro hbe
          have := born_inj hst.2.1 hx hem hbe
          subst this
          rw [hkey] at hj; cases hj; rfl
        · intro e2
          have : x = e := entry_eq_of_key hst.2.2 hx hem (by rw [hj, hkey, e2])
          rw [this]
      rw [this]
    · rcases hal with rfl | rfl <;> exact ⟨rfl, rfl, rfl, by simp [setBlock], fun i _ hi => hset.2 i (fun e1 => hi (by rw [e1]))⟩
    · rcases hal with rfl | rfl <;> simp [setBlock]
end
end Go.Sp
/-
  DERIVED: THE SHELF's CONTRACTS AT THIS DUMP, IN PLAIN WORDS (tools/lay-plain.mjs out of 'YtniggacgkhkgiaaKeysTry.lean', which tools/lay-shelf.mjs wrote): THE SAME DECLARATIONS UNDER THE SAME NAMES: 'import', 'namespace', 'open', 'def', 'theorem' AND NOTHING ELSE: no command of the shelf's: FOR A HAND-IN. Each laying: the table of numbers ('.._ren') and one theorem, a field a fact of the dump's own or the kernel's comparison; each contract: ONE APPLICATION.
-/
namespace Go.Proofs
open Go.Shelf
def Try.sorted79_ren : Go.Shelf.Ren := ⟨fun | 6 => 79 | 8 => 115 | 9 => 116 | 11 => 127 | 13 => 129 | 12 => 128 | 23 => 143 | 24 => 144 | 14 => 134 | 15 => 135 | 16 => 136 | 17 => 137 | 18 => 138 | 19 => 139 | 20 => 140 | 21 => 141 | 22 => 142 | 25 => 149 | 26 => 150 | 27 => 151 | 28 => 152 | 29 => 153 | 30 => 154 | 31 => 157 | n => n, fun | 26 => 3 | 28 => 154 | 24 => 31 | 0 => 0 | 3 => 3 | 37 => 68 | 48 => 216 | 50 => 83 | 4 => 4 | 40 => 209 | 39 => 208 | 45 => 148 | 5 => 5 | 9 => 9 | 51 => 220 | 55 => 224 | 57 => 228 | 58 => 229 | 33 => 93 | n => n, fun | n => n⟩
theorem Try.sorted79 : Go.Proofs.SlLaysZI.n6 Try.prog Try.sorted79_ren := {
  mixed := by kernel_rfl
  f6 := ⟨Try.f79.name, by decide, Try.func79.trans (congrArg some (by kernel_rfl))⟩
  f8 := ⟨Try.f115.name, by decide, Try.func115.trans (congrArg some (by kernel_rfl))⟩
  f11 := ⟨Try.f127.name, by decide, Try.func127.trans (congrArg some (by kernel_rfl))⟩
  t0 := Try.underlying0
  a0 := Try.isAgg0
  z0 := Try.sizeOf0
  v0 := Try.zeroValue0
  t24 := Try.underlying31
  a24 := Try.isAgg31
  z24 := Try.sizeOf31
  v24 := Try.zeroValue31
  t26 := Try.underlying3
  a26 := Try.isAgg3
  z26 := Try.sizeOf3
  v26 := Try.zeroValue3
  t28 := Try.underlying154
  a28 := Try.isAgg154
  z28 := Try.sizeOf154
  v28 := Try.zeroValue154
  i26 := by kernel_rfl }
def Try.sort116_ren : Go.Shelf.Ren := ⟨fun | 5 => 116 | 8 => 129 | 7 => 128 | 19 => 143 | 20 => 144 | 10 => 134 | 11 => 135 | 12 => 136 | 13 => 137 | 14 => 138 | 15 => 139 | 16 => 140 | 17 => 141 | 18 => 142 | 30 => 149 | 31 => 150 | 32 => 151 | 33 => 152 | 34 => 153 | 35 => 154 | 40 => 157 | n => n, fun | 23 => 31 | 25 => 3 | 3 => 3 | 32 => 68 | 22 => 31 | 0 => 0 | 44 => 216 | 46 => 83 | 4 => 4 | 36 => 209 | 35 => 208 | 41 => 148 | 5 => 5 | 9 => 9 | 53 => 220 | 57 => 224 | 63 => 228 | 64 => 229 | n => n, fun | n => n⟩
theorem Try.sort116 : Go.Proofs.SlLaysM.n5 Try.prog Try.sort116_ren := {
  mixed := by kernel_rfl
  f5 := ⟨Try.f116.name, by decide, Try.func116.trans (congrArg some (by kernel_rfl))⟩
  f7 := ⟨Try.f128.name, by decide, Try.func128.trans (congrArg some (by kernel_rfl))⟩
  f8 := Try.func129.trans (congrArg some (by kernel_rfl))
  f10 := ⟨Try.f134.name, by decide, Try.func134.trans (congrArg some (by kernel_rfl))⟩
  f11 := ⟨Try.f135.name, by decide, Try.func135.trans (congrArg some (by kernel_rfl))⟩
  f12 := ⟨Try.f136.name, by decide, Try.func136.trans (congrArg some (by kernel_rfl))⟩
  f13 := ⟨Try.f137.name, by decide, Try.func137.trans (congrArg some (by kernel_rfl))⟩
  f14 := ⟨Try.f138.name, by decide, Try.func138.trans (congrArg some (by kernel_rfl))⟩
  f15 := ⟨Try.f139.name, by decide, Try.func139.trans (congrArg some (by kernel_rfl))⟩
  f16 := ⟨Try.f140.name, by decide, Try.func140.trans (congrArg some (by kernel_rfl))⟩
  f17 := ⟨Try.f141.name, by decide, Try.func141.trans (congrArg some (by kernel_rfl))⟩
  f18 := ⟨Try.f142.name, by decide, Try.func142.trans (congrArg some (by kernel_rfl))⟩
  f19 := Try.func143.trans (congrArg some (by kernel_rfl))
  f20 := Try.func144.trans (congrArg some (by kernel_rfl))
  f30 := ⟨Try.f149.name, by decide, Try.func149.trans (congrArg some (by kernel_rfl))⟩
  f31 := Try.func150.trans (congrArg some (by kernel_rfl))
  f32 := Try.func151.trans (congrArg some (by kernel_rfl))
  f33 := ⟨Try.f152.name, by decide, Try.func152.trans (congrArg some (by kernel_rfl))⟩
  f34 := ⟨Try.f153.name, by decide, Try.func153.trans (congrArg some (by kernel_rfl))⟩
  f35 := ⟨Try.f154.name, by decide, Try.func154.trans (congrArg some (by kernel_rfl))⟩
  f40 := ⟨Try.f157.name, by decide, Try.func157.trans (congrArg some (by kernel_rfl))⟩
  t0 := Try.underlying0
  a0 := Try.isAgg0
  z0 := Try.sizeOf0
  v0 := Try.zeroValue0
  t3 := Try.underlying3
  a3 := Try.isAgg3
  z3 := Try.sizeOf3
  v3 := Try.zeroValue3
  t4 := Try.underlying4
  a4 := Try.isAgg4
  z4 := Try.sizeOf4
  v4 := Try.zeroValue4
  t5 := Try.underlying5
  a5 := Try.isAgg5
  z5 := Try.sizeOf5
  v5 := Try.zeroValue5
  t9 := Try.underlying9
  a9 := Try.isAgg9
  z9 := Try.sizeOf9
  v9 := Try.zeroValue9
  t22 := Try.underlying31
  a22 := Try.isAgg31
  z22 := Try.sizeOf31
  v22 := Try.zeroValue31
  t23 := Try.underlying31
  a23 := Try.isAgg31
  z23 := Try.sizeOf31
  v23 := Try.zeroValue31
  t25 := Try.underlying3
  a25 := Try.isAgg3
  z25 := Try.sizeOf3
  v25 := Try.zeroValue3
  t32 := Try.underlying68
  a32 := Try.isAgg68
  z32 := Try.sizeOf68
  v32 := Try.zeroValue68
  t35 := Try.underlying208
  a35 := Try.isAgg208
  z35 := Try.sizeOf208
  v35 := Try.zeroValue208
  t36 := Try.underlying209
  a36 := Try.isAgg209
  z36 := Try.sizeOf209
  v36 := Try.zeroValue209
  t41 := Try.underlying148
  a41 := Try.isAgg148
  z41 := Try.sizeOf148
  v41 := Try.zeroValue148
  t44 := Try.underlying216
  a44 := Try.isAgg216
  z44 := Try.sizeOf216
  v44 := Try.zeroValue216
  t46 := Try.underlying83
  a46 := Try.isAgg83
  z46 := Try.sizeOf83
  v46 := Try.zeroValue83
  t53 := Try.underlying220
  a53 := Try.isAgg220
  z53 := Try.sizeOf220
  v53 := Try.zeroValue220
  t57 := Try.underlying224
  a57 := Try.isAgg224
  z57 := Try.sizeOf224
  v57 := Try.zeroValue224
  t63 := Try.underlying228
  a63 := Try.isAgg228
  z63 := Try.sizeOf228
  v63 := Try.zeroValue228
  t64 := Try.underlying229
  a64 := Try.isAgg229
  z64 := Try.sizeOf229
  v64 := Try.zeroValue229 }
def Try.keys80_ren : Go.Shelf.Ren := ⟨fun | 7 => 80 | 10 => 117 | n => n, fun | 23 => 139 | 26 => 3 | 3 => 136 | 28 => 154 | 0 => 0 | 27 => 153 | 33 => 93 | 4 => 4 | n => n, fun | n => n⟩
theorem Try.keys80 : Go.Proofs.SlLaysZI.n7 Try.prog Try.keys80_ren := {
  mixed := by kernel_rfl
  f7 := ⟨Try.f80.name, by decide, Try.func80.trans (congrArg some (by kernel_rfl))⟩
  f10 := ⟨Try.f117.name, by decide, Try.func117.trans (congrArg some (by kernel_rfl))⟩
  t0 := Try.underlying0
  a0 := Try.isAgg0
  z0 := Try.sizeOf0
  v0 := Try.zeroValue0
  t4 := Try.underlying4
  a4 := Try.isAgg4
  z4 := Try.sizeOf4
  v4 := Try.zeroValue4
  t23 := Try.underlying139
  a23 := Try.isAgg139
  z23 := Try.sizeOf139
  v23 := Try.zeroValue139
  t26 := Try.underlying3
  a26 := Try.isAgg3
  z26 := Try.sizeOf3
  v26 := Try.zeroValue3
  t27 := Try.underlying153
  a27 := Try.isAgg153
  z27 := Try.sizeOf153
  v27 := Try.zeroValue153
  t28 := Try.underlying154
  a28 := Try.isAgg154
  z28 := Try.sizeOf154
  v28 := Try.zeroValue154
  t33 := Try.underlying93
  a33 := Try.isAgg93
  z33 := Try.sizeOf93
  v33 := Try.zeroValue93 }
def Try.keys123_ren : Go.Shelf.Ren := ⟨fun | 7 => 123 | 10 => 133 | n => n, fun | 23 => 188 | 26 => 3 | 3 => 31 | 28 => 154 | 0 => 0 | 27 => 153 | 33 => 93 | 4 => 4 | n => n, fun | n => n⟩
theorem Try.keys123 : Go.Proofs.SlLaysZI.n7 Try.prog Try.keys123_ren := {
  mixed := by kernel_rfl
  f7 := ⟨Try.f123.name, by decide, Try.func123.trans (congrArg some (by kernel_rfl))⟩
  f10 := ⟨Try.f133.name, by decide, Try.func133.trans (congrArg some (by kernel_rfl))⟩
  t0 := Try.underlying0
  a0 := Try.isAgg0
  z0 := Try.sizeOf0
  v0 := Try.zeroValue0
  t4 := Try.underlying4
  a4 := Try.isAgg4
  z4 := Try.sizeOf4
  v4 := Try.zeroValue4
  t23 := Try.underlying188
  a23 := Try.isAgg188
  z23 := Try.sizeOf188
  v23 := Try.zeroValue188
  t26 := Try.underlying3
  a26 := Try.isAgg3
  z26 := Try.sizeOf3
  v26 := Try.zeroValue3
  t27 := Try.underlying153
  a27 := Try.isAgg153
  z27 := Try.sizeOf153
  v27 := Try.zeroValue153
  t28 := Try.underlying154
  a28 := Try.isAgg154
  z28 := Try.sizeOf154
  v28 := Try.zeroValue154
  t33 := Try.underlying93
  a33 := Try.isAgg93
  z33 := Try.sizeOf93
  v33 := Try.zeroValue93 }
end Go.Proofs
/- A map that IMap describes is one that the shelf's contracts on maps.Keys take; and the row that they hand back is the list of its keys. Conditions: as named. -/
namespace Go.Sp
open Go.RowKit Go.Maps Go.MapKept
open Go.WideElems (Fit rd rg)

def anyR (_ : Value) : Option (DataW Unit × List MemPlace) := some (.lit (.bool true), [])

theorem anyR_rd {P : Program} {k : TypeId} {x : MapEntry} {kl : Lit} (h : keyOf P k x.key = some kl) : rd P k anyR x = some (kl, .lit (.bool true)) := by
  simp [rd, h, anyR]

theorem insert_perm {H : Type} (x : Lit × DataW H) : ∀ l : List (Lit × DataW H), (DataW.insert x l).Perm (x :: l)
  | [] => by simp [DataW.insert]
  | y :: r => by
    unfold DataW.insert
    split
    · exact List.Perm.refl _
    · exact ((insert_perm x r).cons y).trans (List.Perm.swap _ _ _)

theorem foldr_perm {H : Type} : ∀ l : List (Lit × DataW H), (l.foldr DataW.insert []).Perm l
  | [] => by simp
  | x :: r => (insert_perm x _).trans ((foldr_perm r).cons x)

theorem IMap.owns {α : Type} {enc : α → Value} {m : List (Int × α)} {w : World} {b : Nat} (h : IMap w.heap b enc m) {P : Program} {k : TypeId} (hk : P.underlying k = some (.int .i64)) (hlen : m.length ≤ 1000000) :
    ∃ D0 : DataW Unit, w.ownsMap P k anyR b m.length D0 ∧ Maps.size D0 = m.length ∧ (intKeys D0).Perm (m.map Prod.fst) := by
  obtain ⟨es, clock, hb, hs, hp, hks, hwf⟩ := h
  have hl : es.size = m.length := by have := hp.length_eq; simpa using this
  have hr : ∀ x ∈ es.toList, ∃ p ∈ m, x.key = .int .i64 p.1 ∧ rd P k anyR x = some (.int .i64 p.1, .lit (.bool true)) := fun x hx => by
    obtain ⟨p, hpm, e1, _⟩ := keys_ne hp hx
    exact ⟨p, hpm, e1, anyR_rd (by rw [e1]; exact keyOf_int_mk hk (hwf p hpm))⟩
  refine ⟨_, ⟨es, clock, hb, ⟨by rw [hl]; unfold maxLen; omega, hs, fun x hx => ?_⟩, by omega, rfl⟩, ?_, ?_⟩
  · obtain ⟨p, _, _, e⟩ := hr x hx
    exact ⟨_, e⟩
  · show List.length _ = _
    rw [length_sorted]; simp [hl]
  · show (List.map _ _).Perm _
    refine ((foldr_perm _).map _).trans ?_
    rw [List.map_map]
    have e1 : es.toList.map ((fun p => intOf p.1) ∘ rg P k anyR) = (es.toList.map fun e => (e.key, e.val)).map fun q => match q.1 with | .int _ a => a | _ => 0 := by
      rw [List.map_map]
      refine List.map_congr_left fun x hx => ?_
      obtain ⟨p, _, e, hrd⟩ := hr x hx
      simp [WideElems.rg_of hrd, intOf, e]
    rw [e1]
    refine (hp.map _).trans ?_
    rw [List.map_map]
    exact List.Perm.refl _

theorem IMap.of_row {α : Type} {enc : α → Value} {m : List (Int × α)} {h : Array Obj} {b : Nat} (x : IMap h b enc m) {ss : List Int} (hp : ss.Perm (m.map Prod.fst)) {w' : World} {base : Nat} {e : TypeId} {v : Value}
    (hrow : w'.ownsRow base e 1 v ss.length ((ss.mergeSort (fun x y => decide (x ≤ y))).map encZ)) : SL w'.heap e 1 v m.length (m.map fun p => .int .i64 p.1) := by
  have hs : ss.mergeSort leI = m.map Prod.fst := by
    rw [mergeSort_of_perm_i hp]
    refine List.mergeSort_of_pairwise ?_
    have := x.ks
    refine List.pairwise_map.2 (this.imp fun {p q} hlt => ?_)
    simp [leI]; omega
  have hl : ss.length = m.length := by have := hp.length_eq; simpa using this
  rw [show (fun x y : Int => decide (x ≤ y)) = leI from rfl, hs, hl] at hrow
  have e2 : (m.map Prod.fst).map encZ = m.map fun p => Value.int .i64 p.1 := by rw [List.map_map]; rfl
  rw [e2] at hrow
  refine ⟨hrow.1, ?_⟩
  rcases hrow.2 with ⟨rfl, h0⟩ | ⟨g, cap, cur, rfl, _, hb, h1, h2, h3, h4⟩
  · exact .inl ⟨rfl, h0⟩
  · refine .inr ⟨g, 0, cap, cur, rfl, h1, h2, hb, by omega, fun j u hu => ?_⟩
    rw [← h4] at hu
    rw [Nat.zero_add]
    rw [List.getElem?_take] at hu
    split at hu
    · simpa using hu
    · simp at hu

end Go.Sp
/- The contracts of slices.Sorted(maps.Keys(m)) at this translation, over a map that IMap describes. Condition: the map holds at most maxLen keys. PRINTED BY wip/keys.py. -/
namespace Go.Proofs.Ytniggacgkhkgiaa
open Go.RowKit Go.Maps Go.Sort Go.Shelf Go.Sp

theorem sortsIn (m : Nat) : AnyZI.SortsIn Try.prog Try.sorted79_ren Fence.wide m :=
  ⟨fun blk off cap ss W hH hblk hsz => callsIn_wide.2 (AnyM.slices_Sort_int Try.sort116 blk off cap ss W hH hblk hsz),
   fun p cap W => callsIn_wide.2 (AnyM.slices_Sort_int_none Try.sort116 p cap W)⟩

/-- maps.Keys[map[int]*spoor/job.visit,int,*spoor/job.visit] -/
theorem keys_80 (mb : Option Nat) (W : World) : Calls Try.prog 80 #[.map mb] W fun e w' => e = .returned (.func (.func 117) #[] #[.pointer (some ⟨W.heap.size, 0, none⟩)]) ∧ W.alloc (.cells #[.map mb] 139) = w' :=
  ((callsIn_wide (n := 6)).1 (AnyZI.keys_in Try.keys80 Fence.wide 6 trivial rfl mb W)).mono fun _ _ ⟨h1, h2⟩ => ⟨h1, h2.symm⟩

set_option maxHeartbeats 1000000 in
theorem sorted_80 {α : Type} {enc : α → Value} {m : List (Int × α)} {w : World} {b : Nat} (h : IMap w.heap b enc m) (hlen : m.length ≤ 1000000) :
    Calls Try.prog 79 #[.func (.func 117) #[] #[.pointer (some ⟨w.heap.size, 0, none⟩)]] (w.alloc (.cells #[.map (some b)] 139)) fun e w' => ∃ v, e = .returned v ∧
      SL w'.heap 3 1 v m.length (m.map fun p => .int .i64 p.1) ∧ (∀ g, v.ownBlock = some g → w.heap.size ≤ g) ∧ Below w.heap.size w w' := by
  refine (callsIn_wide (n := 5)).1 ?_
  obtain ⟨D0, hown, hsz, hperm⟩ := h.owns (P := Try.prog) Try.underlying3 hlen
  have hbl := hown.lt
  have hseq : SeqGives Fence.wide 2 Try.prog 117 #[.pointer (some ⟨w.heap.size, 0, none⟩)] encZ (fun ss => ss.Perm (intKeys D0)) (Maps.size D0) (w.alloc (.cells #[.map (some b)] 139)) :=
    AnyZI.keys_gives (ρ := Try.keys80_ren) { Try.keys80 with } Fence.wide _ trivial rfl (by omega) w.heap.size b m.length D0 _ (by simp) (by simp) (by
      obtain ⟨es, clock, hb, Ft, hs, hD⟩ := hown
      exact ⟨es, clock, (Below.heap_alloc _ _ b hbl).trans hb, Ft, hs, hD⟩)
  have cS := AnyZI.sorted_in Try.sorted79 Fence.wide 5 trivial trivial trivial trivial rfl (by omega) (sortsIn _) (enters_of Try.func116 (by kernel_rfl) rfl) 117 #[.pointer (some ⟨w.heap.size, 0, none⟩)] trivial (enters_of Try.func117 (by kernel_rfl) rfl) _ _ (by rw [hsz]; unfold maxLen; omega) (by rw [hsz]; omega) _ hseq
  refine cS.mono ?_
  rintro e w' ⟨v, ss, rfl, hS, hrow, _, hb⟩
  exact ⟨v, rfl, h.of_row (hS.trans hperm) hrow, fun g hg => by have := (hrow.lt g hg).1; simp at this; omega, ((Below.refl _ w).alloc (Nat.le_refl _) _).trans (hb.mono (by simp))⟩

/-- maps.Keys[map[int][]int,int,[]int] -/
theorem keys_123 (mb : Option Nat) (W : World) : Calls Try.prog 123 #[.map mb] W fun e w' => e = .returned (.func (.func 133) #[] #[.pointer (some ⟨W.heap.size, 0, none⟩)]) ∧ W.alloc (.cells #[.map mb] 188) = w' :=
  ((callsIn_wide (n := 6)).1 (AnyZI.keys_in Try.keys123 Fence.wide 6 trivial rfl mb W)).mono fun _ _ ⟨h1, h2⟩ => ⟨h1, h2.symm⟩

set_option maxHeartbeats 1000000 in
theorem sorted_123 {α : Type} {enc : α → Value} {m : List (Int × α)} {w : World} {b : Nat} (h : IMap w.heap b enc m) (hlen : m.length ≤ 1000000) :
    Calls Try.prog 79 #[.func (.func 133) #[] #[.pointer (some ⟨w.heap.size, 0, none⟩)]] (w.alloc (.cells #[.map (some b)] 188)) fun e w' => ∃ v, e = .returned v ∧
      SL w'.heap 3 1 v m.length (m.map fun p => .int .i64 p.1) ∧ (∀ g, v.ownBlock = some g → w.heap.size ≤ g) ∧ Below w.heap.size w w' := by
  refine (callsIn_wide (n := 5)).1 ?_
  obtain ⟨D0, hown, hsz, hperm⟩ := h.owns (P := Try.prog) Try.underlying3 hlen
  have hbl := hown.lt
  have hseq : SeqGives Fence.wide 2 Try.prog 133 #[.pointer (some ⟨w.heap.size, 0, none⟩)] encZ (fun ss => ss.Perm (intKeys D0)) (Maps.size D0) (w.alloc (.cells #[.map (some b)] 188)) :=
    AnyZI.keys_gives (ρ := Try.keys123_ren) { Try.keys123 with } Fence.wide _ trivial rfl (by omega) w.heap.size b m.length D0 _ (by simp) (by simp) (by
      obtain ⟨es, clock, hb, Ft, hs, hD⟩ := hown
      exact ⟨es, clock, (Below.heap_alloc _ _ b hbl).trans hb, Ft, hs, hD⟩)
  have cS := AnyZI.sorted_in Try.sorted79 Fence.wide 5 trivial trivial trivial trivial rfl (by omega) (sortsIn _) (enters_of Try.func116 (by kernel_rfl) rfl) 133 #[.pointer (some ⟨w.heap.size, 0, none⟩)] trivial (enters_of Try.func133 (by kernel_rfl) rfl) _ _ (by rw [hsz]; unfold maxLen; omega) (by rw [hsz]; omega) _ hseq
  refine cS.mono ?_
  rintro e w' ⟨v, ss, rfl, hS, hrow, _, hb⟩
  exact ⟨v, rfl, h.of_row (hS.trans hperm) hrow, fun g hg => by have := (hrow.lt g hg).1; simp at this; omega, ((Below.refl _ w).alloc (Nat.le_refl _) _).trans (hb.mono (by simp))⟩

end Go.Proofs.Ytniggacgkhkgiaa
