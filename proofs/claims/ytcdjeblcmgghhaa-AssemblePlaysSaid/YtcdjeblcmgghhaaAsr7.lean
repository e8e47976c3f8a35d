/- The reference's Same says that two records with the same contents are the same. Conditions: the records' parts lie in memory, and name nobody. -/
import Derived.Test.YtcdjeblcmgghhaaAsr6
import Derived.Test.YtcdjeblcmgghhaaAny1
namespace Go.Proofs.Ytcdjeblcmgghhaa.Asm
open Go.RowKit Go.Sp Msg Go.Sort

theorem si_nil (w : World) : Calls Try.prog 64 #[.slice none 0 0, .slice none 0 0] w fun e w' => e = .returned (.bool true) ∧ w' = w := by
  go_enter Try.func64, Try.ntmps64
  go_wp2
  go_loopw [5] (fun i wr => i = .int .i64 0 ∧ wr = w) (fun i _ => (intOf i).toNat)
  case atStart => exact ⟨rfl, rfl⟩
  case round =>
    obtain ⟨rfl, rfl⟩ := hrel
    go_wp2
    go_ret
    exact ⟨rfl, rfl⟩

set_option maxRecDepth 100000 in
set_option maxHeartbeats 4000000 in
theorem same16_any {w : World} {t j c : Int} {b : Bool} {pv1 pv2 : Value} {qs1 qs2 : List Pd} (h1 : Pds w pv1 qs1) (h2 : Pds w pv2 qs2) (hc : qs1.map con = qs2.map con) (hl : qs1.length ≤ 1000) :
    Calls Try.prog 25 #[.agg #[.int .i64 t, .int .i64 j, .int .i64 c, .bool b, pv1], .agg #[.int .i64 t, .int .i64 j, .int .i64 c, .bool b, pv2]] w fun e w' => e = .returned (.bool true) ∧ Below w.heap.size w w' := by
  obtain ⟨a1, c1, rfl⟩ := h1.1.form
  obtain ⟨a2, c2, rfl⟩ := h2.1.form
  have hlen : qs2.length = qs1.length := by have := congrArg List.length hc; simpa using this.symm
  have hs2 := h2.1
  rw [hlen] at hs2 ⊢
  have HL := Lib.hid hlen
  have HC := Lib.hid hc
  clear hlen hc
  obtain ⟨n, hn⟩ : ∃ n, n = qs1.length := ⟨_, rfl⟩
  have hs1 := h1.1
  rw [← hn] at hs1 hs2 hl ⊢
  have HN := Lib.hid hn
  clear hn
  have hA := below_alloc (below_alloc (Below.refl w.heap.size w) (.cells #[.int .i64 t, .int .i64 j, .int .i64 c, .bool b, .slice a1 n c1] 50)) (.cells #[.int .i64 t, .int .i64 j, .int .i64 c, .bool b, .slice a2 n c2] 50)
  have hb1 : ((w.alloc (.cells #[.int .i64 t, .int .i64 j, .int .i64 c, .bool b, .slice a1 n c1] 50)).alloc (.cells #[.int .i64 t, .int .i64 j, .int .i64 c, .bool b, .slice a2 n c2] 50)).heap[w.heap.size]? = some (.cells #[.int .i64 t, .int .i64 j, .int .i64 c, .bool b, .slice a1 n c1] 50 (0, 0)) := ((below_alloc (Below.refl (w.alloc (.cells #[.int .i64 t, .int .i64 j, .int .i64 c, .bool b, .slice a1 n c1] 50)).heap.size _) _).block _ (by simp)).trans (heap_new w _ rfl)
  have hb2 : ((w.alloc (.cells #[.int .i64 t, .int .i64 j, .int .i64 c, .bool b, .slice a1 n c1] 50)).alloc (.cells #[.int .i64 t, .int .i64 j, .int .i64 c, .bool b, .slice a2 n c2] 50)).heap[w.heap.size + 1]? = some (.cells #[.int .i64 t, .int .i64 j, .int .i64 c, .bool b, .slice a2 n c2] 50 (0, 0)) := heap_new _ _ (by simp)
  have bt : (t != t) = false := by simp
  have bj : (j != j) = false := by simp
  have bc : (c != c) = false := by simp
  have bb : (b != b) = false := by simp
  have bn : ((n : Int) != (n : Int)) = false := by simp
  go_enter Try.func25, Try.ntmps25
  go_wp2
  generalize ((w.alloc (.cells #[.int .i64 t, .int .i64 j, .int .i64 c, .bool b, .slice a1 n c1] 50)).alloc (.cells #[.int .i64 t, .int .i64 j, .int .i64 c, .bool b, .slice a2 n c2] 50)) = w1 at hA hb1 hb2 ⊢
  have hl1 := (Array.getElem?_eq_some_iff.1 hb1).1
  have hl2 := (Array.getElem?_eq_some_iff.1 hb2).1
  clear bt bj bc bb bn
  go_loopw [5] (fun v wr => ∃ q : Nat, q ≤ n ∧ v = .int .i64 q ∧ Below w1.heap.size w1 wr) (fun v _ => n - (intOf v).toNat)
  case atStart => exact ⟨0, Nat.zero_le _, rfl, Below.refl _ _⟩
  case round =>
    obtain ⟨q, hq, rfl, hb⟩ := hrel
    have hbw := below_trans' hb hA
    have e1 : wr.cell? ⟨w.heap.size, 4, none⟩ = some (.slice a1 n c1) := cell_blk ((hb.block _ hl1).trans hb1) rfl
    by_cases hqN : q < n
    · have e2 : wr.cell? ⟨w.heap.size + 1, 4, none⟩ = some (.slice a2 n c2) := cell_blk ((hb.block _ hl2).trans hb2) rfl
      have k1 := hs1.only (only_of_below hbw (fun _ => False)) (fun _ _ => id)
      have k2 := hs2.only (only_of_below hbw (fun _ => False)) (fun _ _ => id)
      obtain ⟨d1, f1, cap1, hv, hd1, _⟩ := k1.form' (by omega)
      simp only [Value.slice.injEq] at hv
      obtain ⟨rfl, _, rfl⟩ := hv
      obtain ⟨d2, f2, cap2, hv, hd2, _⟩ := k2.form' (by omega)
      simp only [Value.slice.injEq] at hv
      obtain ⟨rfl, _, rfl⟩ := hv
      obtain ⟨x, hx⟩ : ∃ x, qs1[q]? = some x := ⟨_, List.getElem?_eq_getElem (by rw [← HN.out]; exact hqN)⟩
      obtain ⟨y, hy⟩ : ∃ y, qs2[q]? = some y := ⟨_, List.getElem?_eq_getElem (by rw [HL.out, ← HN.out]; exact hqN)⟩
      have hxy : con x = con y := by
        have e := congrArg (fun l => l[q]?) HC.out
        simp only [List.getElem?_map, hx, hy, Option.map_some] at e
        exact Option.some.inj e
      obtain ⟨m1, m2, _⟩ := h1.2 x (List.mem_of_getElem? hx)
      obtain ⟨m4, m5, _⟩ := h2.2 y (List.mem_of_getElem? hy)
      replace m1 := m1.only (only_of_below hbw (fun _ => False)) (fun _ _ => id)
      replace m4 := m4.only (only_of_below hbw (fun _ => False)) (fun _ _ => id)
      have p0 := k1.elem ePd_len hx (j := 0) (u := .int .i64 x.a) rfl
      have p1 := k1.elem ePd_len hx (j := 1) (u := x.sv) rfl
      have p2 := k1.elem ePd_len hx (j := 2) (u := x.cv) rfl
      have p3 := k1.elem ePd_len hx (j := 3) (u := .bool x.l) rfl
      have r0 := k2.elem ePd_len hy (j := 0) (u := .int .i64 y.a) rfl
      have r1 := k2.elem ePd_len hy (j := 1) (u := y.sv) rfl
      have r2 := k2.elem ePd_len hy (j := 2) (u := y.cv) rfl
      have r3 := k2.elem ePd_len hy (j := 3) (u := .bool y.l) rfl
      obtain ⟨xa, xsv, xsl, xcv, xcl, xl⟩ := x
      obtain ⟨ya, ysv, ysl, ycv, ycl, yl⟩ := y
      simp only [con, Prod.mk.injEq] at hxy
      obtain ⟨rfl, rfl, _, rfl⟩ := hxy
      simp only at m1 m2 m4 m5 p0 p1 p2 p3 r0 r1 r2 r3
      subst m2
      subst m5
      obtain ⟨s1, t1, e3⟩ := m1.form
      obtain ⟨s2, t2, e4⟩ := m4.form
      subst e3
      subst e4
      have m1 := SL.rs eSpn_len m1
      have m4 := SL.rs eSpn_len m4
      rw [← Nat.add_assoc] at p0 p1 p2 p3 r0 r1 r2 r3
      rw [Nat.add_zero] at p0 r0
      have ba : (xa != xa) = false := by simp
      have bl : (xl != xl) = false := by simp
      have hlr1 : w.heap.size < wr.heap.size := World.block_lt_of_cell? _ _ e1
      have hlr2 : w.heap.size + 1 < wr.heap.size := World.block_lt_of_cell? _ _ e2
      have HB := Lib.hid (And.intro hbw hb)
      clear hx hy k1 k2 hbw hb hb1 hb2 hA hs1 hs2 h1 h2
      go_upto_region 6 with (fail)
      go_region
      all_goals
        go_wp2_with fail
        refine (same28_any (xs := xsl) (ys := xsl) (m1.only ((((Only.refl (fun _ => False) wr).alloc _).alloc _).drew) (fun _ _ => id)) (m4.only ((((Only.refl (fun _ => False) wr).alloc _).alloc _).drew) (fun _ _ => id))).mono ?_
        rintro e w5 ⟨rfl, n5, rfl⟩
        rw [decide_eq_true rfl]
        go_wp2_with fail
        refine (si_nil _).mono ?_
        rintro e w6 ⟨rfl, rfl⟩
        go_wp2
        exact ⟨⟨q + 1, by omega, by go_num, belowN (below_alloc (below_alloc HB.out.2 _) _) _⟩, by simp [intOf]; omega⟩
    · have hqe : q = n := by omega
      subst hqe
      go_wp2
      go_ret
      exact ⟨rfl, hbw⟩
end Go.Proofs.Ytcdjeblcmgghhaa.Asm
