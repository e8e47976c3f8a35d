/- What the reference's Hear says of a Manifest, and of a Chunk, that is for it. Conditions: it lies in memory as Wr says; a chunk's spans were there before it. PRINTED BY wip/gen_asr2.py. -/
import Derived.Test.YtcdjeblcmgghhaaAsr1
import Derived.Deep.MidRow
import Derived.Deep.Upon
import Derived.Deep.RegionLaw
import Derived.BigRegion
import Derived.BigQuiet
namespace Go.Proofs.Ytcdjeblcmgghhaa.Asm
open Go.RowKit Go.Sp Msg Go.Sort

theorem only_setCells (b : Nat) : ∀ (vs : List Value) (o : Nat) (w : World), Only (· = b) w (w.setCells b o vs)
  | [], _, w => Only.refl _ w
  | v :: r, o, w => ((Only.refl (· = b) w).setCell (p := ⟨b, o, none⟩) (fun _ => rfl) v).trans (only_setCells b r (o + 1) _)

set_option maxHeartbeats 2000000 in
/-- the message is written -/
theorem set15m {w : World} {wb : Nat} {T : TypeId} {fr : Nat × Nat} {y0 y1 m0 m1 m2 m3 m4 m5 m6 m7 m8 m9 m10 m11 m12 m13 m14 hs cv : Value} (h : w.heap[wb]? = some (.cells #[y0, y1, m0, m1, m2, m3, m4, m5, m6, m7, m8, m9, m10, m11, m12, m13, m14, hs, cv] T fr)) (v0 v1 v2 v3 v4 v5 v6 v7 v8 v9 v10 v11 v12 v13 v14 : Value) :
    (w.setCells wb 2 [v0, v1, v2, v3, v4, v5, v6, v7, v8, v9, v10, v11, v12, v13, v14]).heap[wb]? = some (.cells #[y0, y1, v0, v1, v2, v3, v4, v5, v6, v7, v8, v9, v10, v11, v12, v13, v14, hs, cv] T fr) := by
  have g0 := (heap_setCell_cells (o := 2) h v0).trans (show _ = some (.cells #[y0, y1, v0, m1, m2, m3, m4, m5, m6, m7, m8, m9, m10, m11, m12, m13, m14, hs, cv] T fr) from rfl)
  have g1 := (heap_setCell_cells (o := 3) g0 v1).trans (show _ = some (.cells #[y0, y1, v0, v1, m2, m3, m4, m5, m6, m7, m8, m9, m10, m11, m12, m13, m14, hs, cv] T fr) from rfl)
  have g2 := (heap_setCell_cells (o := 4) g1 v2).trans (show _ = some (.cells #[y0, y1, v0, v1, v2, m3, m4, m5, m6, m7, m8, m9, m10, m11, m12, m13, m14, hs, cv] T fr) from rfl)
  have g3 := (heap_setCell_cells (o := 5) g2 v3).trans (show _ = some (.cells #[y0, y1, v0, v1, v2, v3, m4, m5, m6, m7, m8, m9, m10, m11, m12, m13, m14, hs, cv] T fr) from rfl)
  have g4 := (heap_setCell_cells (o := 6) g3 v4).trans (show _ = some (.cells #[y0, y1, v0, v1, v2, v3, v4, m5, m6, m7, m8, m9, m10, m11, m12, m13, m14, hs, cv] T fr) from rfl)
  have g5 := (heap_setCell_cells (o := 7) g4 v5).trans (show _ = some (.cells #[y0, y1, v0, v1, v2, v3, v4, v5, m6, m7, m8, m9, m10, m11, m12, m13, m14, hs, cv] T fr) from rfl)
  have g6 := (heap_setCell_cells (o := 8) g5 v6).trans (show _ = some (.cells #[y0, y1, v0, v1, v2, v3, v4, v5, v6, m7, m8, m9, m10, m11, m12, m13, m14, hs, cv] T fr) from rfl)
  have g7 := (heap_setCell_cells (o := 9) g6 v7).trans (show _ = some (.cells #[y0, y1, v0, v1, v2, v3, v4, v5, v6, v7, m8, m9, m10, m11, m12, m13, m14, hs, cv] T fr) from rfl)
  have g8 := (heap_setCell_cells (o := 10) g7 v8).trans (show _ = some (.cells #[y0, y1, v0, v1, v2, v3, v4, v5, v6, v7, v8, m9, m10, m11, m12, m13, m14, hs, cv] T fr) from rfl)
  have g9 := (heap_setCell_cells (o := 11) g8 v9).trans (show _ = some (.cells #[y0, y1, v0, v1, v2, v3, v4, v5, v6, v7, v8, v9, m10, m11, m12, m13, m14, hs, cv] T fr) from rfl)
  have g10 := (heap_setCell_cells (o := 12) g9 v10).trans (show _ = some (.cells #[y0, y1, v0, v1, v2, v3, v4, v5, v6, v7, v8, v9, v10, m11, m12, m13, m14, hs, cv] T fr) from rfl)
  have g11 := (heap_setCell_cells (o := 13) g10 v11).trans (show _ = some (.cells #[y0, y1, v0, v1, v2, v3, v4, v5, v6, v7, v8, v9, v10, v11, m12, m13, m14, hs, cv] T fr) from rfl)
  have g12 := (heap_setCell_cells (o := 14) g11 v12).trans (show _ = some (.cells #[y0, y1, v0, v1, v2, v3, v4, v5, v6, v7, v8, v9, v10, v11, v12, m13, m14, hs, cv] T fr) from rfl)
  have g13 := (heap_setCell_cells (o := 15) g12 v13).trans (show _ = some (.cells #[y0, y1, v0, v1, v2, v3, v4, v5, v6, v7, v8, v9, v10, v11, v12, v13, m14, hs, cv] T fr) from rfl)
  have g14 := (heap_setCell_cells (o := 16) g13 v14).trans (show _ = some (.cells #[y0, y1, v0, v1, v2, v3, v4, v5, v6, v7, v8, v9, v10, v11, v12, v13, v14, hs, cv] T fr) from rfl)
  exact g14

set_option maxRecDepth 100000 in
set_option maxHeartbeats 4000000 in
theorem wHear_mani {w0 w : World} {Rw : Nat → Prop} {wb : Nat} {t j c : Int} {man : Option (Int × List Pt)} {C : List Chk} {M : Ms} {cv : Value} {Cs : List (Chk × Value)} {pv : Value} {pa : Option Addr} {pc : Nat} {ps : List Pt}
    (h : Wr w0 w Rw wb t j man C M cv Cs) (hl : LikeIn w (.slice pa ps.length pc) (.mani t j c pv ps)) (hok : rightM (.mani t j c pv ps) = true) (hps : ps.length ≤ 4) (hnc : ∀ p ∈ ps, p.cv = .slice none 0 0 ∧ p.cl = []) (hpv : ∀ g, (Value.slice pa ps.length pc).ownBlock = some g → w0.heap.size ≤ g) :
    Calls Try.prog 18 #[.pointer (some ⟨wb, 0, none⟩), .agg #[.int .i64 7, .int .i64 0, .int .i64 t, .int .i64 j, .int .i64 c, .int .i64 0, .int .i64 0, .int .i64 0, .int .i64 0, .int .i64 0, .int .i64 0, .slice none 0 0, .bool false, .slice pa ps.length pc, .slice none 0 0]] w fun e w' => e = .returned (.bool man.isNone) ∧ ∃ Rw' M', Wr w0 w' Rw' wb t j (hearMan man (.mani t j c pv ps)) C M' cv Cs ∧ (∀ b, Rw' b → Rw b ∨ (Value.slice pa ps.length pc).ownBlock = some b) ∧ Only Rw w w' := by
  have hwl := h.wlt
  have k0 := h.cell (q := 0) (u := .int .i64 t) rfl
  have k1 := h.cell (q := 1) (u := .int .i64 j) rfl
  have hA := below_alloc (Below.refl w.heap.size w) (.cells #[.int .i64 7, .int .i64 0, .int .i64 t, .int .i64 j, .int .i64 c, .int .i64 0, .int .i64 0, .int .i64 0, .int .i64 0, .int .i64 0, .int .i64 0, .slice none 0 0, .bool false, .slice pa ps.length pc, .slice none 0 0] 34)
  have hbx := heap_new w (.cells #[.int .i64 7, .int .i64 0, .int .i64 t, .int .i64 j, .int .i64 c, .int .i64 0, .int .i64 0, .int .i64 0, .int .i64 0, .int .i64 0, .int .i64 0, .slice none 0 0, .bool false, .slice pa ps.length pc, .slice none 0 0] 34) rfl
  go_enter Try.func18, Try.ntmps18
  go_upto_region 1 with (fail)
  generalize (w.alloc (.cells #[.int .i64 7, .int .i64 0, .int .i64 t, .int .i64 j, .int .i64 c, .int .i64 0, .int .i64 0, .int .i64 0, .int .i64 0, .int .i64 0, .int .i64 0, .slice none 0 0, .bool false, .slice pa ps.length pc, .slice none 0 0] 34)) = W1 at hA hbx ⊢
  have f0 : W1.cell? ⟨wb, 0, none⟩ = some (.int .i64 t) := by rw [hA.cell (p := ⟨wb, 0, none⟩) hwl]; exact k0
  have f1 : W1.cell? ⟨wb, 1, none⟩ = some (.int .i64 j) := by rw [hA.cell (p := ⟨wb, 1, none⟩) hwl]; exact k1
  have K0 := fun d os => cell_regrown f0 d os
  have K1 := fun d os => cell_regrown f1 d os
  have c0 := fun d os => cell_regrown (cell_blk hbx (j := 0) (u := .int .i64 7) rfl) d os
  have c1 := fun d os => cell_regrown (cell_blk hbx (j := 1) (u := .int .i64 0) rfl) d os
  have c2 := fun d os => cell_regrown (cell_blk hbx (j := 2) (u := .int .i64 t) rfl) d os
  have c3 := fun d os => cell_regrown (cell_blk hbx (j := 3) (u := .int .i64 j) rfl) d os
  have c4 := fun d os => cell_regrown (cell_blk hbx (j := 4) (u := .int .i64 c) rfl) d os
  have c5 := fun d os => cell_regrown (cell_blk hbx (j := 5) (u := .int .i64 0) rfl) d os
  have c6 := fun d os => cell_regrown (cell_blk hbx (j := 6) (u := .int .i64 0) rfl) d os
  have c7 := fun d os => cell_regrown (cell_blk hbx (j := 7) (u := .int .i64 0) rfl) d os
  have c8 := fun d os => cell_regrown (cell_blk hbx (j := 8) (u := .int .i64 0) rfl) d os
  have c9 := fun d os => cell_regrown (cell_blk hbx (j := 9) (u := .int .i64 0) rfl) d os
  have c10 := fun d os => cell_regrown (cell_blk hbx (j := 10) (u := .int .i64 0) rfl) d os
  have c11 := fun d os => cell_regrown (cell_blk hbx (j := 11) (u := .slice none 0 0) rfl) d os
  have c12 := fun d os => cell_regrown (cell_blk hbx (j := 12) (u := .bool false) rfl) d os
  have c13 := fun d os => cell_regrown (cell_blk hbx (j := 13) (u := .slice pa ps.length pc) rfl) d os
  have c14 := fun d os => cell_regrown (cell_blk hbx (j := 14) (u := .slice none 0 0) rfl) d os
  have HA := Lib.hid (And.intro hA hbx)
  have HR := fun d os => r59_any (m := .mani t j c pv ps) (hl.below (below_trans' (below_regrown W1 d os) hA))
  rw [hok] at HR
  have cQ := fun d os => Calls.regrown_of (HR d os)
  have b6 : ((7 : Int) != 6) = true := by decide
  have b7 : ((7 : Int) != 7) = false := by decide
  have bt : (t != t) = false := by simp
  have bj : (j != j) = false := by simp
  clear hA hbx f0 f1 k0 k1 HR
  refine wp_region_quiet_below (by kernel_rfl) (by kernel_rfl) ?_
  repeat (first | go_big_quiet_step (exact cQ _ _) | quiet_step (exact cQ _ _))
  refine wpQuiet_nil ?_
  intro w2 hw2
  obtain ⟨p2, rfl⟩ := hw2
  have hbr := below_regrown W1 p2.d p2.os
  generalize grow (redrawn W1 p2.d) p2.os = w2 at hbr ⊢
  clear K0 K1 c0 c1 c2 c3 c4 c5 c6 c7 c8 c9 c10 c11 c12 c13 c14 cQ
  obtain ⟨hA, hbx⟩ := HA.out
  have hA2 := below_trans' hbr hA
  have hbx2 := (hbr.block _ (Array.getElem?_eq_some_iff.1 hbx).1).trans hbx
  have h2 := h.below hA2
  clear hbr hA hbx HA
  clear b6 b7 bt bj
  have e0 : w2.cell? ⟨w.heap.size, 0, none⟩ = some (.int .i64 7) := cell_blk hbx2 rfl
  cases man with
  | some x =>
    have e17 := h2.cell (q := 17) (u := .bool true) rfl
    go_wp2
    go_ret
    exact ⟨rfl, Rw, M, h2, fun b hb => .inl hb, only_of_below hA2 _⟩
  | none =>
    have e17 := h2.cell (q := 17) (u := .bool false) rfl
    have ff := froz_blk h2.blk 17
    have hb6 := (heap_setCell_cells (o := 17) h2.blk (.bool true)).trans (show _ = some (.cells (eAsr t j M true cv) 37 (0, 0)) from rfl)
    have hO6 : Only (· = wb) w2 (w2.setCell ⟨wb, 17, none⟩ (.bool true)) := (Only.refl (· = wb) w2).setCell (p := ⟨wb, 17, none⟩) (fun _ => rfl) _
    have hbx6 := hO6.heap hbx2 (by omega)
    go_upto_region 7 with (fail)
    generalize (w2.setCell ⟨wb, 17, none⟩ (.bool true)) = w3 at hb6 hO6 hbx6 ⊢
    have x0 : w3.cell? ⟨w.heap.size, 0, none⟩ = some (.int .i64 7) := cell_blk hbx6 rfl
    have x1 : w3.cell? ⟨w.heap.size, 1, none⟩ = some (.int .i64 0) := cell_blk hbx6 rfl
    have x2 : w3.cell? ⟨w.heap.size, 2, none⟩ = some (.int .i64 t) := cell_blk hbx6 rfl
    have x3 : w3.cell? ⟨w.heap.size, 3, none⟩ = some (.int .i64 j) := cell_blk hbx6 rfl
    have x4 : w3.cell? ⟨w.heap.size, 4, none⟩ = some (.int .i64 c) := cell_blk hbx6 rfl
    have x5 : w3.cell? ⟨w.heap.size, 5, none⟩ = some (.int .i64 0) := cell_blk hbx6 rfl
    have x6 : w3.cell? ⟨w.heap.size, 6, none⟩ = some (.int .i64 0) := cell_blk hbx6 rfl
    have x7 : w3.cell? ⟨w.heap.size, 7, none⟩ = some (.int .i64 0) := cell_blk hbx6 rfl
    have x8 : w3.cell? ⟨w.heap.size, 8, none⟩ = some (.int .i64 0) := cell_blk hbx6 rfl
    have x9 : w3.cell? ⟨w.heap.size, 9, none⟩ = some (.int .i64 0) := cell_blk hbx6 rfl
    have x10 : w3.cell? ⟨w.heap.size, 10, none⟩ = some (.int .i64 0) := cell_blk hbx6 rfl
    have x11 : w3.cell? ⟨w.heap.size, 11, none⟩ = some (.slice none 0 0) := cell_blk hbx6 rfl
    have x12 : w3.cell? ⟨w.heap.size, 12, none⟩ = some (.bool false) := cell_blk hbx6 rfl
    have x13 : w3.cell? ⟨w.heap.size, 13, none⟩ = some (.slice pa ps.length pc) := cell_blk hbx6 rfl
    have x14 : w3.cell? ⟨w.heap.size, 14, none⟩ = some (.slice none 0 0) := cell_blk hbx6 rfl
    have hth : w3.there wb 2 15 := fun q hq => by
      refine ⟨?_, froz_blk hb6 _⟩
      obtain ⟨u, hu⟩ : ∃ u, (eAsr t j M true cv)[2 + q]? = some u := ⟨_, Array.getElem?_eq_getElem (by show 2 + q < 19; omega)⟩
      rw [cell_blk hb6 hu]; rfl
    have hb7 := set15m hb6 (.int .i64 7) (.int .i64 0) (.int .i64 t) (.int .i64 j) (.int .i64 c) (.int .i64 0) (.int .i64 0) (.int .i64 0) (.int .i64 0) (.int .i64 0) (.int .i64 0) (.slice none 0 0) (.bool false) (.slice pa ps.length pc) (.slice none 0 0)
    have hO7 := only_setCells wb [.int .i64 7, .int .i64 0, .int .i64 t, .int .i64 j, .int .i64 c, .int .i64 0, .int .i64 0, .int .i64 0, .int .i64 0, .int .i64 0, .int .i64 0, .slice none 0 0, .bool false, .slice pa ps.length pc, .slice none 0 0] 2 w3
    clear e0 e17 ff hbx6 hbx2
    go_wp2_with (refine wpList_store_mid rfl 34 _ _ rfl wb 2 #[.int .i64 7, .int .i64 0, .int .i64 t, .int .i64 j, .int .i64 c, .int .i64 0, .int .i64 0, .int .i64 0, .int .i64 0, .int .i64 0, .int .i64 0, .slice none 0 0, .bool false, .slice pa ps.length pc, .slice none 0 0] rfl rfl hth (by kernel_rfl) (by simp [Value.oneCell']) ?_)
    go_ret
    have hO8 := hO6.trans hO7
    have hl2 := hl.below hA2
    refine ⟨rfl, fun b => Rw b ∨ (Value.slice pa ps.length pc).ownBlock = some b, ⟨7, 0, t, j, c, 0, 0, zPt, .slice pa ps.length pc, .slice none 0 0⟩, ⟨hb7, h2.sl.only hO8 (fun g hg e => sl_not h2.blk h2.sl (by decide) (by rw [hg, e])), h2.fs, h2.dat, fun x hx => ?_, .inl h2.rb, fun g hg => .inl (h2.rc g hg), fun b hb => ?_, h2.uq, h2.bel.trans (hO8.below h2.bel.size (fun i hi e => by have := (h2.lt _ h2.rb).1; omega))⟩, fun b hb => hb, ?_⟩
    · cases hx
      exact ⟨rfl, hl2.1.only hO8 (fun g hg e => sl_not h2.blk hl2.1 (by decide) (by rw [hg, e])), hps, hnc, fun g hg => .inr hg⟩
    · rcases hb with hb | hb
      · exact ⟨(h2.lt b hb).1, Nat.lt_of_lt_of_le (h2.lt b hb).2 hO8.size⟩
      · exact ⟨hpv b hb, Nat.lt_of_lt_of_le (hl2.1.lt b hb) hO8.size⟩
    · exact (only_of_below hA2 Rw).trans (hO8.mono fun b _ e => by rw [e]; exact h.rb)

end Go.Proofs.Ytcdjeblcmgghhaa.Asm
