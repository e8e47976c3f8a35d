/- The reference's keeper: New, Pin, Unpin, Forget. Conditions: it lies in memory as KfR says. -/
import Derived.Test.YtniggacgkhkgiaaKref0
import Derived.Test.YtniggacgkhkgiaaEvAll0
namespace Go.Sp
open Go.RowKit
theorem out_mem {m : List (Int × Unit)} {ps : List Int} (h : ∀ x, x ∈ ps ↔ hasK m x = true) (k : Int) : ∀ x, x ∈ ps.filter (fun y => decide (y ≠ k)) ↔ hasK (mdel k m) x = true := fun x => by
  rw [List.mem_filter, hasK_del, h x]
  by_cases e : x = k <;> simp [e]
theorem pin_mem {m : List (Int × Unit)} {ps : List Int} (h : ∀ x, x ∈ ps ↔ hasK m x = true) (k : Int) : ∀ x, x ∈ ps.filter (fun y => decide (y ≠ k)) ++ [k] ↔ hasK (mput k () m) x = true := fun x => by
  rw [List.mem_append, out_mem h k, hasK_put, hasK_del]
  by_cases e : x = k <;> simp [e]
theorem add_mem {m : List (Int × Unit)} {ps : List Int} (h : ∀ x, x ∈ ps ↔ hasK m x = true) (k : Int) : ∀ x, x ∈ ps ++ [k] ↔ hasK (mput k () m) x = true := fun x => by
  rw [List.mem_append, h x, hasK_put]
  by_cases e : x = k <;> simp [e]
theorem has_of {m : List (Int × Unit)} {ps : List Int} (h : ∀ x, x ∈ ps ↔ hasK m x = true) (k : Int) : ps.contains k = hasK m k := by
  cases e : hasK m k with
  | true => exact List.contains_iff_mem.2 ((h k).2 e)
  | false =>
    cases e2 : ps.contains k with
    | false => rfl
    | true => rw [(h k).1 (List.contains_iff_mem.1 e2)] at e; cases e
end Go.Sp
namespace Go.Proofs.Ytniggacgkhkgiaa.Kref
open Go.RowKit Go.Sp Msg Ev Pool Pref
section
variable {w w' w2 : World} {R Rp Rp' F : Nat → Prop} {rb pb q : Nat} {pv lv gv pv' lv' gv' : Value} {K K' : Kp} {ps ls ps' ls' : List Int} {k : Int}
/-- the pinned are another list that is new -/
theorem Kf.setPins {w5 : World} (h : Kf w R Rp rb pb pv lv gv K ps ls) (hb : Below w.heap.size w w5) (hs : SL w5.heap 3 1 pv' ps'.length (ps'.map Sp.zI)) (hn : ∀ g, pv'.ownBlock = some g → w.heap.size ≤ g) {m : List (Int × Unit)} (hm : ∀ x, x ∈ ps' ↔ hasK m x = true) :
    Kf (w5.setCell ⟨rb, 2, none⟩ pv') (fun b => R b ∨ (w.heap.size ≤ b ∧ b < (w5.setCell ⟨rb, 2, none⟩ pv').heap.size ∧ ¬ Rp b)) Rp rb pb pv' lv gv { K with pins := m } ps' ls ∧ Only R w (w5.setCell ⟨rb, 2, none⟩ pv') := by
  have h5 := h.below hb
  have hset : Only (· = rb) w5 (w5.setCell ⟨rb, 2, none⟩ pv') := (Only.refl (· = rb) w5).setCell (p := ⟨rb, 2, none⟩) (fun _ => rfl) _
  have hrz := h.rlt rb h.rr.1
  exact h.next (K' := { K with pins := m }) (F := (· = rb)) ((only_of_below hb (· = rb)).trans hset) (fun b hb => by rw [hb]; exact h.rr) ((heap_setCell_cells h5.blk _).trans rfl) (hs.only hset (fun g hg e => by have := hn g hg; omega)) (h5.lost.only hset (fun g hg e => h5.nb h5.lost (by rw [hg, e]))) (h5.gone.only hset (fun g hg e => h5.nb h5.gone (by rw [hg, e])))
    (fun g hg => .inr (hn g hg)) (fun g hg => .inl hg) (fun g hg => .inl hg) (fun g hg e => by have := hn g hg; have := h.lost.lt g e; omega) (fun g hg e => by have := hn g hg; have := h.gone.lt g e; omega) h.dlg hm h.lsm rfl rfl
/-- the lost are another list: a new slice, or the old one's block -/
theorem Kf.setLost {w5 : World} (h : Kf w R Rp rb pb pv lv gv K ps ls) (hO : Only (fun g => lv.ownBlock = some g) w w5) (hs : SL w5.heap 3 1 lv' ls'.length (ls'.map Sp.zI)) (hn : ∀ g, lv'.ownBlock = some g → lv.ownBlock = some g ∨ w.heap.size ≤ g) {m : List (Int × Unit)} (hm : ∀ x, x ∈ ls' ↔ hasK m x = true) :
    Kf (w5.setCell ⟨rb, 3, none⟩ lv') (fun b => R b ∨ (w.heap.size ≤ b ∧ b < (w5.setCell ⟨rb, 3, none⟩ lv').heap.size ∧ ¬ Rp b)) Rp rb pb pv lv' gv { K with lost := m } ps ls' ∧ Only R w (w5.setCell ⟨rb, 3, none⟩ lv') := by
  have hblk5 := hO.heap h.blk (h.nb h.lost)
  have hp5 := h.pins.only hO (fun g hg e => h.dpl g hg e)
  have hg5 := h.gone.only hO (fun g hg e => h.dlg g e hg)
  have hset : Only (· = rb) w5 (w5.setCell ⟨rb, 3, none⟩ lv') := (Only.refl (· = rb) w5).setCell (p := ⟨rb, 3, none⟩) (fun _ => rfl) _
  have hnb : ∀ {n : Nat} {v : Value} {cs : List Value}, SL w5.heap 3 1 v n cs → v.ownBlock ≠ some rb := fun x => sl_not hblk5 x (by decide)
  exact h.next (K' := { K with lost := m }) (F := fun b => lv.ownBlock = some b ∨ b = rb) ((hO.mono fun b _ e => .inl e).trans (hset.mono fun b _ e => .inr e)) (fun b hb => by
    rcases hb with hb | hb
    · exact h.rlv b hb
    · rw [hb]; exact h.rr) ((heap_setCell_cells hblk5 _).trans rfl) (hp5.only hset (fun g hg e => hnb hp5 (by rw [hg, e]))) (hs.only hset (fun g hg e => hnb hs (by rw [hg, e]))) (hg5.only hset (fun g hg e => hnb hg5 (by rw [hg, e])))
    (fun g hg => .inl hg) hn (fun g hg => .inl hg) (fun g hg e => by
      rcases hn g e with e | e
      · exact h.dpl g hg e
      · have := h.pins.lt g hg; omega) h.dpg (fun g hg e => by
      rcases hn g hg with e2 | e2
      · exact h.dlg g e2 e
      · have := h.gone.lt g e; omega) h.psm hm rfl rfl
/-- those that went are another list -/
theorem Kf.setGone {w5 : World} {gs : List Int} (h : Kf w R Rp rb pb pv lv gv K ps ls) (hO : Only (fun g => gv.ownBlock = some g) w w5) (hs : SL w5.heap 3 1 gv' gs.length (gs.map Sp.zI)) (hn : ∀ g, gv'.ownBlock = some g → gv.ownBlock = some g ∨ w.heap.size ≤ g) :
    Kf (w5.setCell ⟨rb, 4, none⟩ gv') (fun b => R b ∨ (w.heap.size ≤ b ∧ b < (w5.setCell ⟨rb, 4, none⟩ gv').heap.size ∧ ¬ Rp b)) Rp rb pb pv lv gv' { K with gone := gs } ps ls ∧ Only R w (w5.setCell ⟨rb, 4, none⟩ gv') := by
  have hblk5 := hO.heap h.blk (h.nb h.gone)
  have hp5 := h.pins.only hO (fun g hg e => h.dpg g hg e)
  have hg5 := h.lost.only hO (fun g hg e => h.dlg g hg e)
  have hset : Only (· = rb) w5 (w5.setCell ⟨rb, 4, none⟩ gv') := (Only.refl (· = rb) w5).setCell (p := ⟨rb, 4, none⟩) (fun _ => rfl) _
  have hnb : ∀ {n : Nat} {v : Value} {cs : List Value}, SL w5.heap 3 1 v n cs → v.ownBlock ≠ some rb := fun x => sl_not hblk5 x (by decide)
  exact h.next (K' := { K with gone := gs }) (F := fun b => gv.ownBlock = some b ∨ b = rb) ((hO.mono fun b _ e => .inl e).trans (hset.mono fun b _ e => .inr e)) (fun b hb => by
    rcases hb with hb | hb
    · exact h.rgv b hb
    · rw [hb]; exact h.rr) ((heap_setCell_cells hblk5 _).trans rfl) (hp5.only hset (fun g hg e => hnb hp5 (by rw [hg, e]))) (hg5.only hset (fun g hg e => hnb hg5 (by rw [hg, e]))) (hs.only hset (fun g hg e => hnb hs (by rw [hg, e])))
    (fun g hg => .inl hg) (fun g hg => .inl hg) hn h.dpl (fun g hg e => by
      rcases hn g e with e | e
      · exact h.dpg g hg e
      · have := h.pins.lt g hg; omega) (fun g hg e => by
      rcases hn g e with e2 | e2
      · exact h.dlg g hg e2
      · have := h.lost.lt g hg; omega) h.psm h.lsm rfl rfl

set_option maxRecDepth 100000 in
set_option maxHeartbeats 1000000 in
theorem pin_any (h : KfR w R rb K q) (hq : q ≤ 10000) (k : Int) : Calls Try.prog 49 #[.pointer (some ⟨rb, 0, none⟩), .int .i64 k] w fun e w' => e = .returned (.tuple #[]) ∧ KfO w R rb { K with pins := mput k () K.pins } (q + 1) w' := by
  obtain ⟨i0, z0, hi, hz, hz1, hz2, hz3⟩ := info_at (P := Try.prog) (e := 3) (f := (1, 8, 1)) (by kernel_rfl)
  obtain ⟨Rp, pb, pv, lv, gv, ps, ls, h, hq1, hq2⟩ := h
  have c2 := h.cell (j := 2) rfl
  have hlen : (ps.filter (fun y => decide (y ≠ k))).length ≤ ps.length := List.length_filter_le _ _
  have hmem := pin_mem h.psm k
  go_enter Try.func49, Try.ntmps49
  go_wp2_with fail
  refine (out_any (SL.ints h.pins) (by omega) k).mono ?_
  rintro e w1 ⟨v1, rfl, hs1, hn1, hb1⟩
  generalize ps.filter (fun y => decide (y ≠ k)) = os at hs1 hlen hmem
  go_wp2_with (at_builtin; refine halt ?_)
  refine Halt.go ?_
  refine wpList_appd (v := v1) rfl _ _ _ rfl Try.underlying31 hi hz hz1 hz2 hz3 rfl (hs1.alloc _) (m := 1) (news := [.int .i64 k]) rfl rfl (cells_new _ _ _ rfl) (by simp [Value.oneCell']) (by unfold maxLen; omega) (by omega) ?_
  rintro v5 w5 hs5 ho5 hv5
  have hb5 : Below w.heap.size w w5 := (hb1.alloc hb1.size _).trans (ho5.below (by have := hb1.size; simp; omega) (fun i hi e => by have := hn1 i e; omega))
  have hn5 : ∀ g, v5.ownBlock = some g → w.heap.size ≤ g := fun g hg' => by
    rcases hv5 with e | e
    · exact hn1 g (by rw [← e]; exact hg')
    · rw [e] at hg'; cases hg'; have := hb1.size; simp; omega
  obtain ⟨a5, c5, rfl⟩ := hs5.form
  have h5 := h.below hb5
  have f2 := froz_blk h5.blk 2
  have c2' := h5.cell (j := 2) rfl
  obtain ⟨hK, hO⟩ := h.setPins (ps' := os ++ [k]) hb5 (by rw [List.length_append, List.map_append]; exact hs5) hn5 hmem
  have HF := Lib.hid (show KfO w R rb { K with pins := mput k () K.pins } (q + 1) _ from ⟨_, ⟨Rp, pb, _, _, _, _, _, hK, by simp; omega, by omega⟩, fun b hb => hb.imp id And.left, hO⟩)
  clear hK hO h5 hs5 ho5 hv5 hn5 hb5 hs1 hn1 hb1 c2 h hmem
  go_wp2
  go_end0
  exact ⟨rfl, HF.out⟩
set_option maxRecDepth 100000 in
set_option maxHeartbeats 1000000 in
theorem unpin_any (h : KfR w R rb K q) (hq : q ≤ 10000) (k : Int) : Calls Try.prog 50 #[.pointer (some ⟨rb, 0, none⟩), .int .i64 k] w fun e w' => e = .returned (.tuple #[]) ∧ KfO w R rb { K with pins := mdel k K.pins } q w' := by
  obtain ⟨Rp, pb, pv, lv, gv, ps, ls, h, hq1, hq2⟩ := h
  have c2 := h.cell (j := 2) rfl
  have hlen : (ps.filter (fun y => decide (y ≠ k))).length ≤ ps.length := List.length_filter_le _ _
  have hmem := out_mem h.psm k
  go_enter Try.func50, Try.ntmps50
  go_wp2_with fail
  refine (out_any (SL.ints h.pins) (by omega) k).mono ?_
  rintro e w1 ⟨v1, rfl, hs1, hn1, hb1⟩
  generalize ps.filter (fun y => decide (y ≠ k)) = os at hs1 hlen hmem
  obtain ⟨a5, c5, rfl⟩ := hs1.form
  have h5 := h.below hb1
  have f2 := froz_blk h5.blk 2
  have c2' := h5.cell (j := 2) rfl
  obtain ⟨hK, hO⟩ := h.setPins (ps' := os) hb1 hs1 hn1 hmem
  have HF := Lib.hid (show KfO w R rb { K with pins := mdel k K.pins } q _ from ⟨_, ⟨Rp, pb, _, _, _, _, _, hK, by omega, hq2⟩, fun b hb => hb.imp id And.left, hO⟩)
  clear hK hO h5 hs1 hn1 hb1 c2 h hmem
  go_wp2
  go_end0
  exact ⟨rfl, HF.out⟩
set_option maxRecDepth 100000 in
set_option maxHeartbeats 1000000 in
theorem forget_any (h : KfR w R rb K q) (hq : q ≤ 10000) (hs : KS K.M) (hM : K.M.length ≤ 1000) (hL : ∀ p ∈ K.M, p.2.length ≤ 1000) (k : Int) : Calls Try.prog 51 #[.pointer (some ⟨rb, 0, none⟩), .int .i64 k] w fun e w' => e = .returned (.tuple #[]) ∧ KfO w R rb (forgetK K k) q w' := by
  have HU := unpin_any h hq k
  go_enter Try.func51, Try.ntmps51
  go_wp2_with fail
  refine HU.mono ?_
  rintro e w1 ⟨rfl, R1, ⟨Rp, pb, pv, lv, gv, ps, ls, h1, hq1, hq2⟩, hR1, hO1⟩
  clear HU h
  have c0 := h1.cell (j := 0) rfl
  obtain ⟨tv, av, us, hQ⟩ := h1.pool
  go_wp2_with fail
  refine (drop_any hQ hs hM hL k).mono ?_
  rintro e w3 ⟨⟨n3, rfl⟩, hQ3⟩
  obtain ⟨Rp3, h3, hRp3, hO3⟩ := h1.setPool hQ3
  have c3 := h3.cell (j := 3) rfl
  have hlen : (ls.filter (fun y => decide (y ≠ k))).length ≤ ls.length := List.length_filter_le _ _
  have hmem := out_mem h3.lsm k
  have hR3 : ∀ b, (R1 b ∨ Rp3 b) → R b ∨ w.heap.size ≤ b := fun b hb => by
    rcases hb with hb | hb
    · exact hR1 b hb
    · rcases hRp3 b hb with e | e
      · exact hR1 b (h1.rp b e)
      · exact .inr (Nat.le_trans hO1.size e)
  have hO13 : Only R w w3 := hO1.trans' hO3 fun i hi e => (hR1 i e).resolve_right (by omega)
  clear hQ hQ3 c0
  go_wp2_with fail
  refine (out_any (SL.ints h3.lost) (by omega) k).mono ?_
  rintro e w5 ⟨v5, rfl, hs5, hn5, hb5⟩
  generalize ls.filter (fun y => decide (y ≠ k)) = os at hs5 hlen hmem
  obtain ⟨a5, c5, rfl⟩ := hs5.form
  have h5 := h3.below hb5
  have f3 := froz_blk h5.blk 3
  have c3' := h5.cell (j := 3) rfl
  obtain ⟨hK, hO⟩ := h3.setLost (ls' := os) (only_of_below hb5 _) hs5 (fun g hg => .inr (hn5 g hg)) hmem
  have HF := Lib.hid (show KfO w R rb (forgetK K k) q _ from ⟨_, ⟨Rp3, pb, _, _, _, _, _, hK, by omega, by omega⟩, fun b hb => by
    rcases hb with hb | hb
    · exact hR3 b hb
    · exact .inr (Nat.le_trans hO13.size hb.1), hO13.trans' hO fun i hi e => (hR3 i e).resolve_right (by omega)⟩)
  clear hK hO h5 hs5 hn5 hb5 c3 h3 hmem h1
  go_wp2
  go_end0
  exact ⟨rfl, HF.out⟩
set_option maxRecDepth 100000 in
theorem new_any (w : World) (n : Nat) (sd : Int) : Calls Try.prog 46 #[.int .i64 n, .int .u64 sd] w fun e w' => ∃ rb R, e = .returned (.pointer (some ⟨rb, 0, none⟩)) ∧ KfR w' R rb (newK n sd) 0 ∧ (∀ b, R b → w.heap.size ≤ b) ∧ Below w.heap.size w w' := by
  have hA := below_alloc (below_alloc (Below.refl w.heap.size w) (.cells #[.int .i64 n, .slice none 0 0, .slice none 0 0] 112)) (.cells #[.pointer (some ⟨w.heap.size, 0, none⟩), .int .u64 sd, .slice none 0 0, .slice none 0 0, .slice none 0 0] 107)
  have hbp := ((below_alloc (Below.refl _ (w.alloc (.cells #[.int .i64 n, .slice none 0 0, .slice none 0 0] 112))) (.cells #[.pointer (some ⟨w.heap.size, 0, none⟩), .int .u64 sd, .slice none 0 0, .slice none 0 0, .slice none 0 0] 107)).block w.heap.size (by simp)).trans (heap_new w (.cells #[.int .i64 n, .slice none 0 0, .slice none 0 0] 112) rfl)
  have hbk := heap_new (w.alloc (.cells #[.int .i64 n, .slice none 0 0, .slice none 0 0] 112)) (.cells #[.pointer (some ⟨w.heap.size, 0, none⟩), .int .u64 sd, .slice none 0 0, .slice none 0 0, .slice none 0 0] 107) (b := w.heap.size + 1) (by simp)
  have hz : ((w.alloc (.cells #[.int .i64 n, .slice none 0 0, .slice none 0 0] 112)).alloc (.cells #[.pointer (some ⟨w.heap.size, 0, none⟩), .int .u64 sd, .slice none 0 0, .slice none 0 0, .slice none 0 0] 107)).heap.size = w.heap.size + 2 := by simp
  have HF := Lib.hid (And.intro hA (And.intro hbp (And.intro hbk hz)))
  clear hA hbp hbk hz
  go_enter Try.func46, Try.ntmps46
  go_wp2
  go_ret
  obtain ⟨hA, hbp, hbk, hz⟩ := HF.out
  generalize ((w.alloc (.cells #[.int .i64 n, .slice none 0 0, .slice none 0 0] 112)).alloc (.cells #[.pointer (some ⟨w.heap.size, 0, none⟩), .int .u64 sd, .slice none 0 0, .slice none 0 0, .slice none 0 0] 107)) = w2 at hA hbp hbk hz ⊢
  have hnil : ∀ g, (Value.slice none 0 0).ownBlock = some g → False := fun g hg => by simp [Value.ownBlock] at hg
  refine ⟨w.heap.size + 1, fun b => b = w.heap.size ∨ b = w.heap.size + 1, by first | rfl | simp, ⟨fun b => b = w.heap.size, w.heap.size, .slice none 0 0, .slice none 0 0, .slice none 0 0, [], [], ⟨hbk, ⟨.slice none 0 0, .slice none 0 0, [], ⟨hbp, SL.nil _ _ _, SL.nil _ _ _, fun i u p hu => by simp at hu, rfl, fun g hg => (hnil g hg).elim, fun g hg => (hnil g hg).elim, fun i u hu => by simp at hu, fun b hb => by rw [hb]; omega⟩⟩, SL.nil _ _ _, SL.nil _ _ _, SL.nil _ _ _, ⟨.inr rfl, fun e => by simp at e⟩, fun g hg => (hnil g hg).elim, fun g hg => (hnil g hg).elim, fun g hg => (hnil g hg).elim, fun g hg => (hnil g hg).elim, fun g hg => (hnil g hg).elim, fun g hg => (hnil g hg).elim, fun b hb => .inl hb, fun b hb => by rcases hb with hb | hb <;> omega, fun x => by simp [hasK, newK, mget], fun x => by simp [hasK, newK, mget]⟩, by simp, by simp⟩, fun b hb => by rcases hb with hb | hb <;> omega, hA⟩
end
end Go.Proofs.Ytniggacgkhkgiaa.Kref
