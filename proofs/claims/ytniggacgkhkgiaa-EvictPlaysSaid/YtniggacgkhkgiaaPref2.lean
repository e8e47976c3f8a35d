/- The walk of the reference's Drop at its pool. Conditions: the receiver lies in memory as Qrep says, its traces are rising and few. -/
import Derived.Test.YtniggacgkhkgiaaPref1
import Derived.Deep.RegionLaw
import Derived.BigRegion
import Derived.Deep.DeepCutAuto
namespace Go.Proofs.Ytniggacgkhkgiaa.Pref
open Go.RowKit Go.Sp Msg Ev
section
variable {w w' w2 : World} {R : Nat → Prop} {pb N : Nat} {M M2 : List (Int × List Spn)} {tv av T A : Value} {us us2 : List Value}
theorem QOut.same (h : Qrep w R pb N M tv av us) : QOut w R pb N M w := ⟨R, tv, av, us, h, fun _ hb => .inl hb, Only.refl _ _⟩
theorem eInt_map (xs : List Int) : xs.flatMap eInt = xs.map Sp.zI := by
  induction xs with
  | nil => rfl
  | cons x r ih => rw [List.flatMap_cons, ih]; rfl
theorem eVl_map (xs : List Value) : xs.flatMap eVl = xs := by
  induction xs with
  | nil => rfl
  | cons x r ih => rw [List.flatMap_cons, ih]; rfl

set_option maxRecDepth 100000 in
set_option maxHeartbeats 4000000 in
theorem drop_any (h : Qrep w R pb N M tv av us) (hs : KS M) (hM : M.length ≤ 1000) (hL : ∀ p ∈ M, p.2.length ≤ 1000) (k : Int) :
    Calls Try.prog 102 #[.pointer (some ⟨pb, 0, none⟩), .int .i64 k] w fun e w' => (∃ n : Nat, e = .returned (.int .i64 n)) ∧ QOut w R pb N (mdel k M) w' := by
  obtain ⟨i0, z0, hi, hz, hz1, hz2, hz3⟩ := info_at (P := Try.prog) (e := 3) (f := (1, 8, 1)) (by kernel_rfl)
  obtain ⟨i1, zz, gi, gz, gz1, gz2, gz3⟩ := info_at (P := Try.prog) (e := 35) (f := (1, 24, 1)) (by kernel_rfl)
  have HF := find_any h k
  have c2 := h.cell (j := 2) rfl
  go_enter Try.func102, Try.ntmps102
  go_wp2_with fail
  refine HF.mono ?_
  rintro e w1 ⟨rfl, ⟨rfl, hN⟩ | ⟨j, l, rfl, hj, hl⟩⟩
  · clear HF
    have HQ := Lib.hid (show QOut w R pb N (mdel k M) w by rw [mdel_no hN]; exact QOut.same h)
    clear hN
    go_wp2
    go_ret
    exact ⟨⟨0, rfl⟩, HQ.out⟩
  · clear HF
    have hjn := (List.getElem?_eq_some_iff.1 hj).1
    have hM2 := mdel_at hs hj
    obtain ⟨tb, toff, tcap, htv, _, htc1, _⟩ := h.st.form' (by omega)
    obtain ⟨ab, aoff, acap, hav, _, hac1, _⟩ := h.sa.form' (by omega)
    subst htv hav
    obtain ⟨u, hu⟩ := h.at hj
    have hcu : w.cell? ⟨ab, aoff + j, none⟩ = some u := h.sa.cell hu
    obtain ⟨ua, uc, rfl⟩ := (h.el j u _ hu hj).form
    have hll : l.length ≤ 1000 := hL (k, l) (List.mem_of_getElem? hj)
    have hb : decide ((j : Int) < 0) = false := decide_eq_false (by omega)
    have hul := h.ul
    have HJ := Lib.hid (And.intro hM2 (And.intro hu hj))
    clear hl hj hu hM2 hL
    go_wp2_with fail
    refine (buf_any w (n := l.length) (by omega)).mono ?_
    rintro e w1 ⟨rfl, rfl⟩
    generalize (l.length + 2) / 3 = bq
    go_upto_region 5 with (fail)
    have hst := h.st
    have hsa := h.sa
    have rT : RS w.drew 1 eInt (.slice (some ⟨tb, toff, none⟩) M.length tcap) (M.map Prod.fst) := SL.rs (w := w.drew) (enc := eInt) (fun _ => rfl) (by rw [eInt_map, List.length_map, List.map_map]; exact hst)
    obtain ⟨a2, k2, sl2, rT2, oT2⟩ := sliceI_tail rT (by simp) (i := j + 1) (by omega) htc1
    have rT1 : RS w.drew 1 eInt (.slice (some ⟨tb, toff, none⟩) j tcap) ((M.map Prod.fst).take j) := by
      have hlen : ((M.map Prod.fst).take j).length = j := by simp; omega
      have h1 := SL.pre (A := ((M.map Prod.fst).take j).map Sp.zI) (C := ((M.map Prod.fst).drop j).map Sp.zI) (i := j) (by rw [← List.map_append, List.take_append_drop, List.map_map]; exact hst) (by simp; omega) (by omega)
      exact SL.rs (w := w.drew) (enc := eInt) (fun _ => rfl) (by rw [eInt_map, hlen]; exact h1)
    have sl1 := fun w1 => slice_to w1 (b := tb) (o := toff) (N := M.length) (cap := tcap) (i := j) (by omega)
    have hw1 : IntKind.i64.wrap ((j : Int) + 1) = (j : Int) + 1 := i64_little (by omega) (by omega)
    replace sl2 : ∀ w1 : World, (Instr.sliceAt 31 (.slice (some ⟨tb, toff, none⟩) M.length tcap) (some (.int .i64 ((j : Int) + 1))) none none).run Try.prog w1 = .ok (.slice a2 (M.length - (j + 1)) k2) w1 := fun w1 => by
      have := sl2 w1
      rw [Int.natCast_add] at this
      exact this
    have q0 : w.drew.cell? ⟨pb, 1, none⟩ = some (.slice (some ⟨tb, toff, none⟩) M.length tcap) := h.cell rfl
    have hl1 : ((M.map Prod.fst).take j).length = j := by simp; omega
    have hl2 : ((M.map Prod.fst).drop (j + 1)).length = M.length - (j + 1) := by simp
    have hone : ∀ (xs : List Int), ∀ x ∈ xs, ∀ u ∈ eInt x, u.oneCell' = true := fun xs x _ u hu => by simp [eInt] at hu; subst hu; rfl
    have HB := Lib.hid h
    have hba : Below w.heap.size w (w.alloc (.cells #[] 3)).drew := (below_alloc (Below.refl _ w) _).drew
    have rT1a := (RS.heap (w' := w) rT1 rfl).only (only_of_below hba (fun _ => False)) (fun _ _ => id)
    have q0a : (w.alloc (.cells #[] 3)).drew.cell? ⟨pb, 1, none⟩ = some (.slice (some ⟨tb, toff, none⟩) M.length tcap) := (h.below hba).cell rfl
    have hpz := h.rlt pb h.rr
    clear hcu c2 hll h hs hsa
    have hmd : (mdel k M).length = j + (M.length - (j + 1)) := by rw [HJ.out.1, List.length_append, List.length_take, List.length_drop]; omega
    have HMD := Lib.hid hmd
    clear hmd
    go_cut [] (fun wx => ∃ T, wx.heap[pb]? = some (.cells #[.int .i64 N, T, .slice (some ⟨ab, aoff, none⟩) M.length acap] 112 (0, 0)) ∧ Only (· = pb) w wx ∧ SL wx.heap 3 1 T (mdel k M).length ((mdel k M).map fun p => .int .i64 p.1) ∧ ∀ g, T.ownBlock = some g → w.heap.size ≤ g)
    case first =>
      go_region_law
        (first
        | (refine step_appR (enc := eInt) (size := 1) (v := .slice a8 j c8) (xs := (M.map Prod.fst).drop (j + 1)) (fun _ => rfl) rfl _ _ _ rfl Try.underlying31 hi hz hz1 hz2 hz3 rfl hs8 rfl rT8 (hone _) (by rw [hl2]; unfold maxLen; omega) (by rw [hl2]; omega) ?_
           rintro v9 w9 hs9 ho9 hv9
           have hb9 : Below w.heap.size w w9 := hb8.trans (ho9.below hb8.size fun i hi e => by have := hn8 i e; omega)
           have hn9 : ∀ g, v9.ownBlock = some g → w.heap.size ≤ g := fun g hg => by
             rcases hv9 with e | e
             · exact hn8 g (by rw [← e]; exact hg)
             · rw [e] at hg; cases hg; exact hb8.size
           have hK9 := HB.out.below hb9
           have q9 : w9.cell? ⟨pb, 1, none⟩ = some (.slice (some ⟨tb, toff, none⟩) M.length tcap) := hK9.cell rfl
           have f9 := froz_blk hK9.blk 1
           rw [hl2] at hs9
           obtain ⟨a9, c9, rfl⟩ := hs9.form)
        | (refine step_appR (enc := eInt) (size := 1) (v := .slice (some ⟨w.heap.size, 0, none⟩) 0 0) (xs := (M.map Prod.fst).take j) (fun _ => rfl) rfl _ _ _ rfl Try.underlying31 hi hz hz1 hz2 hz3 rfl (sl_empty' w _ 1 rfl).drew rfl rT1a (hone _) (by rw [hl1]; unfold maxLen; omega) (by rw [hl1]; omega) ?_
           rintro v8 w8 hs8 ho8 hv8
           have hb7 := hba
           have hb8 : Below w.heap.size w w8 := hb7.trans (ho8.below hb7.size fun i hi e => by simp [Value.ownBlock] at e; omega)
           have hn8 : ∀ g, v8.ownBlock = some g → w.heap.size ≤ g := fun g hg => by
             rcases hv8 with e | e
             · rw [e] at hg; simp [Value.ownBlock] at hg; omega
             · rw [e] at hg; cases hg; exact hb7.size
           have rT8 := (RS.heap (w' := w) rT2 rfl).only (w' := w8) (only_of_below hb8 (fun _ => False)) (fun _ _ => id)
           have q8 : w8.cell? ⟨pb, 1, none⟩ = some (.slice (some ⟨tb, toff, none⟩) M.length tcap) := (HB.out.below hb8).cell rfl
           rw [Nat.zero_add, hl1] at hs8
           obtain ⟨a8, c8, rfl⟩ := hs8.form))
      all_goals (
        have hset : Only (· = pb) w9 (w9.setCell ⟨pb, 1, none⟩ (.slice a9 (j + (M.length - (j + 1))) c9)) := (Only.refl (· = pb) w9).setCell (p := ⟨pb, 1, none⟩) (fun _ => rfl) _
        have hblk : (w9.setCell ⟨pb, 1, none⟩ (.slice a9 (j + (M.length - (j + 1))) c9)).heap[pb]? = some (.cells #[.int .i64 N, .slice a9 (j + (M.length - (j + 1))) c9, .slice (some ⟨ab, aoff, none⟩) M.length acap] 112 (0, 0)) := (heap_setCell_cells hK9.blk _).trans rfl
        have hO10 := (only_of_below hb9 (· = pb)).trans hset
        have hs10 := hs9.only hset (fun g hg e => by have := hn9 g hg; omega)
        generalize w9.setCell ⟨pb, 1, none⟩ (.slice a9 (j + (M.length - (j + 1))) c9) = w10 at hblk hO10 hs10 ⊢
        clear hs9 ho9 hv9 hb9 hK9 q9 f9 hs8 ho8 hv8 hb7 hb8 hn8 rT8 q8 hset
        go_wp2_with fail
        go_meet
        refine ⟨_, hblk, hO10, ?_, hn9⟩
        rw [HMD.out]
        have e : (mdel k M).map (fun p => Value.int .i64 p.1) = [] ++ ((M.map Prod.fst).take j).flatMap eInt ++ ((M.map Prod.fst).drop (j + 1)).flatMap eInt := by
          rw [HJ.out.1, eInt_map, eInt_map, List.map_append, List.nil_append, List.map_take, List.map_drop, List.map_take, List.map_drop, List.map_map]; rfl
        rw [e]; exact hs10)
    case rest =>
      obtain ⟨T, hblk, hO5, hT5, hTn⟩ := hcut
      clear rT rT1 rT2 sl1 sl2 q0 hba rT1a q0a hone hl1 hl2 oT2 hst
      have hK := HB.out
      have hs5 := hK.sa.only hO5 (fun g hg e => sl_not hK.blk hK.sa (by decide) (by rw [hg, e]))
      have rT : RS wc.drew 1 eVl (.slice (some ⟨ab, aoff, none⟩) M.length acap) us := SL.rs (w := wc.drew) (e := 35) (enc := eVl) (fun _ => rfl) (by rw [eVl_map, hul]; exact hs5)
      obtain ⟨a2, k2, sl2, rT2, _⟩ := sliceV_tail rT hul (i := j + 1) (by omega) hac1
      have rT1 : RS wc.drew 1 eVl (.slice (some ⟨ab, aoff, none⟩) j acap) (us.take j) := by
        have hlen : (us.take j).length = j := by simp; omega
        have h1 := SL.pre (A := us.take j) (C := us.drop j) (i := j) (by rw [List.take_append_drop]; exact hs5) hlen (by omega)
        exact SL.rs (w := wc.drew) (e := 35) (enc := eVl) (fun _ => rfl) (by rw [eVl_map, hlen]; exact h1)
      have sl1 := fun w1 => sliceV_to w1 (b := ab) (o := aoff) (N := M.length) (cap := acap) (i := j) (by omega)
      replace sl2 : ∀ w1 : World, (Instr.sliceAt 110 (.slice (some ⟨ab, aoff, none⟩) M.length acap) (some (.int .i64 ((j : Int) + 1))) none none).run Try.prog w1 = .ok (.slice a2 (M.length - (j + 1)) k2) w1 := fun w1 => by
        have := sl2 w1
        rw [Int.natCast_add] at this
        exact this
      have q0 : wc.drew.cell? ⟨pb, 2, none⟩ = some (.slice (some ⟨ab, aoff, none⟩) M.length acap) := cell_blk (show wc.drew.heap[pb]? = _ from hblk) rfl
      have hl1 : (us.take j).length = j := by simp; omega
      have hl2 : (us.drop (j + 1)).length = M.length - (j + 1) := by simp; omega
      have hone : ∀ x ∈ us, ∀ u ∈ eVl x, u.oneCell' = true := fun x hx u hu => by
        have hu' : u = x := by simpa [eVl] using hu
        rw [hu']
        obtain ⟨i, hi, e⟩ := List.mem_iff_getElem.1 hx
        obtain ⟨_, _, e2⟩ := (hK.el i x _ (by rw [List.getElem?_eq_getElem hi, e]) (List.getElem?_eq_getElem (by omega))).form
        rw [e2]; rfl
      have hba : Below wc.heap.size wc (wc.alloc (.cells #[] 35)).drew := (below_alloc (Below.refl _ wc) _).drew
      have rT1a := (RS.heap (w' := wc) rT1 rfl).only (only_of_below hba (fun _ => False)) (fun _ _ => id)
      have hpzc : pb < wc.heap.size := Nat.lt_of_lt_of_le hpz hO5.size
      have q0a : (wc.alloc (.cells #[] 35)).drew.cell? ⟨pb, 2, none⟩ = some (.slice (some ⟨ab, aoff, none⟩) M.length acap) := cell_blk ((hba.block _ hpzc).trans hblk) rfl
      have HC := Lib.hid (And.intro hblk (And.intro hO5 (And.intro hT5 hTn)))
      clear hblk hO5 hT5 hTn hK hs5 rT
      go_upto_region 6 with (fail)
      go_cut [] (fun wx => QOut w R pb N (mdel k M) wx)
      case first =>
        go_region_law
          (first
          | (refine step_appR (enc := eVl) (size := 1) (v := .slice a8 j c8) (xs := us.drop (j + 1)) (fun _ => rfl) rfl _ _ _ rfl Try.underlying110 gi gz gz1 gz2 gz3 rfl hs8 rfl rT8 (fun x hx => hone x (List.mem_of_mem_drop hx)) (by rw [hl2]; unfold maxLen; omega) (by rw [hl2]; omega) ?_
             rintro v9 w9 hs9 ho9 hv9
             have hb9 : Below wc.heap.size wc w9 := hb8.trans (ho9.below hb8.size fun i hi e => by have := hn8 i e; omega)
             have hn9 : ∀ g, v9.ownBlock = some g → wc.heap.size ≤ g := fun g hg => by
               rcases hv9 with e | e
               · exact hn8 g (by rw [← e]; exact hg)
               · rw [e] at hg; cases hg; exact hb8.size
             have hK9 := (hb9.block _ hpzc).trans HC.out.1
             have q9 : w9.cell? ⟨pb, 2, none⟩ = some (.slice (some ⟨ab, aoff, none⟩) M.length acap) := cell_blk hK9 rfl
             have f9 := froz_blk hK9 2
             rw [hl2] at hs9
             obtain ⟨a9, c9, rfl⟩ := hs9.form)
          | (refine step_appR (enc := eVl) (size := 1) (v := .slice (some ⟨wc.heap.size, 0, none⟩) 0 0) (xs := us.take j) (fun _ => rfl) rfl _ _ _ rfl Try.underlying110 gi gz gz1 gz2 gz3 rfl (sl_empty' wc _ 1 rfl).drew rfl rT1a (fun x hx => hone x (List.mem_of_mem_take hx)) (by rw [hl1]; unfold maxLen; omega) (by rw [hl1]; omega) ?_
             rintro v8 w8 hs8 ho8 hv8
             have hb8 : Below wc.heap.size wc w8 := hba.trans (ho8.below hba.size fun i hi e => by simp [Value.ownBlock] at e; omega)
             have hn8 : ∀ g, v8.ownBlock = some g → wc.heap.size ≤ g := fun g hg => by
               rcases hv8 with e | e
               · rw [e] at hg; simp [Value.ownBlock] at hg; omega
               · rw [e] at hg; cases hg; exact hba.size
             have rT8 := (RS.heap (w' := wc) rT2 rfl).only (w' := w8) (only_of_below hb8 (fun _ => False)) (fun _ _ => id)
             have q8 : w8.cell? ⟨pb, 2, none⟩ = some (.slice (some ⟨ab, aoff, none⟩) M.length acap) := cell_blk ((hb8.block _ hpzc).trans HC.out.1) rfl
             rw [Nat.zero_add, hl1] at hs8
             obtain ⟨a8, c8, rfl⟩ := hs8.form))
        all_goals (
          have hset : Only (· = pb) w9 (w9.setCell ⟨pb, 2, none⟩ (.slice a9 (j + (M.length - (j + 1))) c9)) := (Only.refl (· = pb) w9).setCell (p := ⟨pb, 2, none⟩) (fun _ => rfl) _
          have hblk : (w9.setCell ⟨pb, 2, none⟩ (.slice a9 (j + (M.length - (j + 1))) c9)).heap[pb]? = some (.cells #[.int .i64 N, T, .slice a9 (j + (M.length - (j + 1))) c9] 112 (0, 0)) := (heap_setCell_cells hK9 _).trans rfl
          have hO9 := (only_of_below hb9 (· = pb)).trans hset
          have hs10 := hs9.only hset (fun g hg e => by have := hn9 g hg; omega)
          generalize w9.setCell ⟨pb, 2, none⟩ (.slice a9 (j + (M.length - (j + 1))) c9) = w10 at hblk hO9 hs10 ⊢
          clear hs9 ho9 hv9 hb9 hK9 q9 f9 hs8 ho8 hv8 hb8 hn8 rT8 q8 hset
          go_wp2_with fail
          go_meet
          obtain ⟨_, hO5, hT5, hTn⟩ := HC.out
          have hK := HB.out
          have hO10 := hO5.trans hO9
          have hul' := hul
          refine hK.next (us2 := us.take j ++ us.drop (j + 1)) hO10 hblk (hT5.only hO9 (fun g hg e => by have := hTn g hg; omega)) (by rw [HMD.out]; rw [eVl_map, eVl_map, List.nil_append] at hs10; exact hs10) hTn (fun g hg => Nat.le_trans hO5.size (hn9 g hg)) (fun i u p hu hp => ?_) (fun i u hu g hg => .inl ?_)
          · rw [HJ.out.1, cut_at M hjn] at hp
            rw [cut_at us (by omega)] at hu
            by_cases hij : i < j
            · rw [if_pos hij] at hu hp; exact hK.elA hO10 hu hp
            · rw [if_neg hij] at hu hp; exact hK.elA hO10 hu hp
          · rw [cut_at us (by omega)] at hu
            by_cases hij : i < j
            · rw [if_pos hij] at hu; exact hK.re i u hu g hg
            · rw [if_neg hij] at hu; exact hK.re _ u hu g hg)
      case rest =>
        clear rT1 rT2 sl1 sl2 q0 hba rT1a q0a hone hl1 hl2
        go_wp2
        go_ret
        exact ⟨⟨bq, rfl⟩, hcut⟩
end
end Go.Proofs.Ytniggacgkhkgiaa.Pref
