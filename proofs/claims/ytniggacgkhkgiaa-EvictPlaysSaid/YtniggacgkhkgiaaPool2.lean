/- What a store to the pool's list of free buffers, to a trace's chain, to a buffer does; New. Conditions: it lies in memory as Prep says. -/
import Derived.Test.YtniggacgkhkgiaaPool1
namespace Go.Proofs.Ytniggacgkhkgiaa.Pool
open Go.RowKit Go.Sp Msg
section
variable {w w1 w2 : World} {R : Nat → Prop} {pb bb mb N : Nat} {fv fv' v v' : Value} {bf : List Bf} {fr fr' : List Int} {m : Rows}

/-- the list of free buffers is another one -/
theorem Prep.setFree (h : Prep w R pb bb mb fv bf fr m) (hO : Only (fun g => fv.ownBlock = some g) w w1) (hs : SL w1.heap 3 1 fv' fr'.length (fr'.map Sp.zI)) (hn : fv'.ownBlock = fv.ownBlock ∨ ∃ g, fv'.ownBlock = some g ∧ w.heap.size ≤ g) :
    Prep (w1.setCell ⟨pb, 1, none⟩ fv') (fun b => R b ∨ fv'.ownBlock = some b) pb bb mb fv' bf fr' m ∧ Only R w (w1.setCell ⟨pb, 1, none⟩ fv') := by
  have hp1 : w1.heap[pb]? = _ := hO.heap h.blk h.fp
  have hset : Only (· = pb) w1 (w1.setCell ⟨pb, 1, none⟩ fv') := (Only.refl (· = pb) w1).setCell (fun _ => rfl) _
  have hO2 : Only (fun b => fv.ownBlock = some b ∨ b = pb) w (w1.setCell ⟨pb, 1, none⟩ fv') := (hO.mono fun b _ e => .inl e).trans (hset.mono fun b _ e => .inr e)
  have hnp : fv'.ownBlock ≠ some pb := sl_not hp1 hs (by decide)
  have hno : ∀ g, fv'.ownBlock = some g → fv.ownBlock = some g ∨ w.heap.size ≤ g := fun g hg => by
    rcases hn with e | ⟨g', e, hle⟩
    · exact .inl (by rw [← e]; exact hg)
    · rw [e] at hg; cases hg; exact .inr hle
  refine ⟨⟨?_, h.bfs.only hO2 (fun g hg e => ?_), hs.only hset (fun g hg e => hnp (by rw [hg, e])), h.mp.only hO2 (fun e => ?_), fun k v l e => (h.sl k v l e).only hO2 (fun g hg e2 => ?_), fun k v l e g hg => .inl (h.own k v l e g hg), h.dis, fun k v l e g hg e2 => ?_, fun g hg => .inr hg, .inl h.rp, .inl h.rb, .inl h.rm, fun b hb => ?_⟩, (hO2.mono fun b _ e => ?_)⟩
  · exact (heap_setCell_cells hp1 fv').trans rfl
  · simp [Value.ownBlock] at hg
    subst hg
    rcases e with e | e
    · exact h.fb e
    · exact h.bp e
  · rcases e with e | e
    · exact h.fm e
    · exact h.pm e
  · rcases e2 with e2 | e2
    · exact h.fd k v l e g hg e2
    · exact h.np e (by rw [hg, e2])
  · rcases hno g e2 with e3 | e3
    · exact h.fd k v l e g hg e3
    · have := (h.sl k v l e).lt g hg; omega
  · rcases hb with hb | hb
    · exact Nat.lt_of_lt_of_le (h.rlt b hb) hO2.size
    · exact Nat.lt_of_lt_of_le (hs.lt b hb) hset.size
  · rcases e with e | e
    · exact h.fo b e
    · rw [e]; exact h.rp

/-- a trace's chain is another one -/
theorem Prep.setRow {k : Int} {l' : List Int} (h : Prep w R pb bb mb fv bf fr m) (hvR : ∀ g, v.ownBlock = some g → R g) (hvp : v.ownBlock ≠ some pb) (hvm : v.ownBlock ≠ some mb) (hvb : v.ownBlock ≠ some bb) (hvf : ∀ g, v.ownBlock = some g → fv.ownBlock ≠ some g)
    (hvd : ∀ k' v' l', k' ≠ k → mget k' m = some (v', l') → ∀ g, v.ownBlock = some g → v'.ownBlock ≠ some g) (hO : Only (fun g => v.ownBlock = some g) w w1) (hs : SL w1.heap 3 1 v' l'.length (l'.map Sp.zI)) (hn : v'.ownBlock = v.ownBlock ∨ ∃ g, v'.ownBlock = some g ∧ w.heap.size ≤ g)
    (hI : IMap w2.heap mb Prod.fst (mput k (v', l') m)) (hO2 : Only (· = mb) w1 w2) :
    Prep w2 (fun b => R b ∨ v'.ownBlock = some b) pb bb mb fv bf fr (mput k (v', l') m) ∧ Only R w w2 := by
  have hm1 : IMap w1.heap mb Prod.fst m := h.mp.only hO hvm
  have hO3 : Only (fun b => v.ownBlock = some b ∨ b = mb) w w2 := (hO.mono fun b _ e => .inl e).trans (hO2.mono fun b _ e => .inr e)
  have hnm : v'.ownBlock ≠ some mb := sl_map hm1 hs
  have hno : ∀ g, v'.ownBlock = some g → v.ownBlock = some g ∨ w.heap.size ≤ g := fun g hg => by
    rcases hn with e | ⟨g', e, hle⟩
    · exact .inl (by rw [← e]; exact hg)
    · rw [e] at hg; cases hg; exact .inr hle
  have hne : ∀ k' x l, k' ≠ k → mget k' m = some (x, l) → ∀ g, v'.ownBlock = some g → x.ownBlock ≠ some g := fun k' x l hk e g hg e2 => by
    rcases hno g hg with e3 | e3
    · exact hvd k' x l hk e g e3 e2
    · have := (h.sl k' x l e).lt g e2; omega
  refine ⟨⟨hO3.heap h.blk (fun e => ?_), h.bfs.only hO3 (fun g hg e => ?_), h.free.only hO3 (fun g hg e => ?_), hI, fun k' x l e => ?_, fun k' x l e g hg => ?_, fun k1 x1 l1 k2 x2 l2 hk e1 e2 g hg => ?_, fun k' x l e g hg e2 => ?_, fun g hg => .inl (h.fo g hg), .inl h.rp, .inl h.rb, .inl h.rm, fun b hb => ?_⟩, (hO3.mono fun b _ e => ?_)⟩
  · rcases e with e | e
    · exact hvp e
    · exact h.pm e.symm
  · simp [Value.ownBlock] at hg
    subst hg
    rcases e with e | e
    · exact hvb e
    · exact h.bm e
  · rcases e with e | e
    · exact hvf g e hg
    · exact h.fm (by rw [hg, e])
  · rw [mget_mput] at e
    by_cases hk : k' = k
    · rw [if_pos hk] at e; cases e
      exact hs.only hO2 (fun g hg e => hnm (by rw [hg, e]))
    · rw [if_neg hk] at e
      exact (h.sl k' x l e).only hO3 (fun g hg e2 => by
        rcases e2 with e2 | e2
        · exact hvd k' x l hk e g e2 hg
        · exact h.nm e (by rw [hg, e2]))
  · rw [mget_mput] at e
    by_cases hk : k' = k
    · rw [if_pos hk] at e; cases e
      exact .inr hg
    · rw [if_neg hk] at e
      exact .inl (h.own k' x l e g hg)
  · rw [mget_mput] at e1 e2
    by_cases h1 : k1 = k
    · rw [if_pos h1] at e1; cases e1
      rw [if_neg (fun e => hk (h1.trans e.symm))] at e2
      exact hne k2 x2 l2 (fun e => hk (h1.trans e.symm)) e2 g hg
    · rw [if_neg h1] at e1
      by_cases h2 : k2 = k
      · rw [if_pos h2] at e2; cases e2
        exact fun e => hne k1 x1 l1 h1 e1 g e hg
      · rw [if_neg h2] at e2
        exact h.dis k1 x1 l1 k2 x2 l2 hk e1 e2 g hg
  · rw [mget_mput] at e
    by_cases hk : k' = k
    · rw [if_pos hk] at e; cases e
      rcases hno g hg with e3 | e3
      · exact hvf g e3 e2
      · have := h.free.lt g e2; omega
    · rw [if_neg hk] at e
      exact h.fd k' x l e g hg e2
  · rcases hb with hb | hb
    · exact Nat.lt_of_lt_of_le (h.rlt b hb) hO3.size
    · exact Nat.lt_of_lt_of_le (hs.lt b hb) hO2.size
  · rcases e with e | e
    · exact hvR b e
    · rw [e]; exact h.rm

/-- a trace has no chain more -/
theorem Prep.del (h : Prep w R pb bb mb fv bf fr m) (k : Int) (hI : IMap w1.heap mb Prod.fst (mdel k m)) (hO : Only (· = mb) w w1) : Prep w1 R pb bb mb fv bf fr (mdel k m) ∧ Only R w w1 := by
  have hd : ∀ {j v l}, mget j (mdel k m) = some (v, l) → mget j m = some (v, l) := by
    intro j v l e
    rw [mget_mdel] at e
    split at e
    · cases e
    · exact e
  exact ⟨⟨hO.heap h.blk (fun e => h.pm e.symm), h.bfs.only hO (fun g hg e => by simp [Value.ownBlock] at hg; exact h.bm (hg.trans e)), h.free.only hO (fun g hg e => h.fm (by rw [hg, e])), hI, fun k v l e => (h.sl k v l (hd e)).only hO (fun g hg e1 => h.nm (hd e) (by rw [hg, e1])), fun k v l e => h.own k v l (hd e), fun k v l k' v' l' hk e e' => h.dis k v l k' v' l' hk (hd e) (hd e'), fun k v l e => h.fd k v l (hd e), h.fo, h.rp, h.rb, h.rm, fun b hb => Nat.lt_of_lt_of_le (h.rlt b hb) hO.size⟩, hO.mono fun b _ e => by rw [e]; exact h.rm⟩

/-- a buffer is another one -/
theorem Prep.setBuf (h : Prep w R pb bb mb fv bf fr m) {q : Nat} {y y' : Bf} (hq : bf[q]? = some y) {p s vs ws : List Value} (hy : eBf y = p ++ (ws ++ s)) (hy' : eBf y' = p ++ (vs ++ s)) (hl : ws.length = vs.length) :
    Prep (w.setCells bb (q * 10 + p.length) vs) R pb bb mb fv (bf.set q y') fr m ∧ Only R w (w.setCells bb (q * 10 + p.length) vs) := by
  have hO : Only (· = bb) w (w.setCells bb (q * 10 + p.length) vs) := only_setCells _ _ _ _
  have hs := SL.putElem eBf_len h.bfs hq hy hy' hl
  rw [Nat.zero_add] at hs
  have hlen : (bf.set q y').length = bf.length := List.length_set
  exact ⟨⟨by rw [hlen]; exact hO.heap h.blk (fun e => h.bp e.symm), by rw [hlen]; exact hs, h.free.only hO (fun g hg e => h.fb (by rw [hg, e])), h.mp.only hO (fun e => h.bm e.symm), fun k v l e => (h.sl k v l e).only hO (fun g hg e1 => h.nb e (by rw [hg, e1])), h.own, h.dis, h.fd, h.fo, h.rp, h.rb, h.rm, fun b hb => Nat.lt_of_lt_of_le (h.rlt b hb) hO.size⟩, hO.mono fun b _ e => by rw [e]; exact h.rb⟩
theorem Prep.mono (h : Prep w R pb bb mb fv bf fr m) {R' : Nat → Prop} (hR : ∀ b, R b → R' b) (hl : ∀ b, R' b → b < w.heap.size) : Prep w R' pb bb mb fv bf fr m :=
  ⟨h.blk, h.bfs, h.free, h.mp, h.sl, fun k v l e g hg => hR g (h.own k v l e g hg), h.dis, h.fd, fun g hg => hR g (h.fo g hg), hR _ h.rp, hR _ h.rb, hR _ h.rm, hl⟩
end

set_option maxRecDepth 100000 in
set_option maxHeartbeats 2000000 in
theorem new_yes (w : World) {n : Nat} (h1 : 1 ≤ n) (h16 : n ≤ 16) : Calls Try.prog 92 #[.int .i64 n] w fun e w' => ∃ pb R bb mb fv, e = .returned (.tuple #[.pointer (some ⟨pb, 0, none⟩), .int .i64 0]) ∧ Prep w' R pb bb mb fv (List.replicate n zBf) ((List.range n).map fun i : Nat => (i : Int)) [] ∧ (∀ b, R b → w.heap.size ≤ b) ∧ Below w.heap.size w w' := by
  obtain ⟨i0, z0, hi, hz, hz1, hz2, hz3⟩ := info_at (P := Try.prog) (e := 3) (f := (1, 8, 1)) (by kernel_rfl)
  obtain ⟨ib, hib, hzb, hzb1, hzb2⟩ := info_parts (P := Try.prog) (e := 195) (z := .agg (eBf zBf).toArray) (size := 10) (bytes := 104) (by kernel_rfl)
  have hmk := run_makeSlice (P := Try.prog) (w := w) 187 195 ib (.agg (eBf zBf).toArray) Try.underlying187 hib hzb .i64 .i64 (n : Int) (n : Int) (by omega) (Int.le_refl _) (by rw [hzb1]; omega) (by rw [hzb2]; omega) (by omega)
  have hmm := @run_makeMap Try.prog
  simp only [Int.toNat_natCast, hzb1] at hmk
  have hC : (madeCells (Value.agg (eBf zBf).toArray).cells (n * 10)).toList = (List.replicate n zBf).flatMap eBf := made_flat eBf_len (by omega) (by simp [Value.cells]) n
  generalize madeCells (Value.agg (eBf zBf).toArray).cells (n * 10) = C at hmk hC
  have b1 : decide ((n : Int) < 1) = false := decide_eq_false (by omega)
  have b2 : decide (16 < (n : Int)) = false := decide_eq_false (by omega)
  have b1' : decide (n < 1) = false := decide_eq_false (by omega)
  have b2' : decide (16 < n) = false := decide_eq_false (by omega)
  have hb0 := heap_new w (.cells C 195) rfl
  have hA := below_alloc (below_alloc (below_alloc (Below.refl w.heap.size w) (.cells C 195)) (.map #[] 0)) (.cells #[.slice (some ⟨w.heap.size, 0, none⟩) n n, .slice none 0 0, .map (some (w.heap.size + 1))] 190)
  have hCs : C.size = n * 10 := by rw [← Array.length_toList, hC, flat_length eBf_len]; simp
  have hP0 : Prep (((w.alloc (.cells C 195)).alloc (.map #[] 0)).alloc (.cells #[.slice (some ⟨w.heap.size, 0, none⟩) n n, .slice none 0 0, .map (some (w.heap.size + 1))] 190)) (fun b => w.heap.size ≤ b ∧ b < w.heap.size + 3) (w.heap.size + 1 + 1) w.heap.size (w.heap.size + 1) (.slice none 0 0) (List.replicate n zBf) [] [] := by
    have hlr : (List.replicate n zBf).length = n := by simp
    have hz3 : (((w.alloc (.cells C 195)).alloc (.map #[] 0)).alloc (.cells #[.slice (some ⟨w.heap.size, 0, none⟩) n n, .slice none 0 0, .map (some (w.heap.size + 1))] 190)).heap.size = w.heap.size + 3 := by simp
    have hbb : (((w.alloc (.cells C 195)).alloc (.map #[] 0)).alloc (.cells #[.slice (some ⟨w.heap.size, 0, none⟩) n n, .slice none 0 0, .map (some (w.heap.size + 1))] 190)).heap[w.heap.size]? = some (.cells C 195 (0, 0)) := by
      rw [heap_old _ _ (by simp; omega), heap_old _ _ (by simp)]; exact hb0
    refine ⟨?_, ?_, SL.nil _ _ _, ?_, fun k v l e => by simp [mget] at e, fun k v l e => by simp [mget] at e, fun k v l k' v' l' _ e => by simp [mget] at e, fun k v l e => by simp [mget] at e, fun g hg => by simp [Value.ownBlock] at hg, by omega, by omega, by omega, fun b hb => by rw [hz3]; exact hb.2⟩
    · rw [hlr]; exact heap_new _ _ (by simp)
    · rw [hlr]
      refine ⟨by rw [flat_length eBf_len, hlr], .inr ⟨w.heap.size, 0, n, C, rfl, Nat.le_refl _, by unfold maxLen; omega, hbb, by omega, fun j u hu => ?_⟩⟩
      rw [Nat.zero_add, ← Array.getElem?_toList, hC]
      exact hu
    · exact (IMap.made' _ _ (by simp)).alloc _
  generalize hW : (((w.alloc (.cells C 195)).alloc (.map #[] 0)).alloc (.cells #[.slice (some ⟨w.heap.size, 0, none⟩) n n, .slice none 0 0, .map (some (w.heap.size + 1))] 190)) = W at hA hP0
  have HW := Lib.hid hW
  clear hW hb0 hCs hC hib hzb hzb1 hzb2
  go_enter Try.func92, Try.ntmps92
  go_wp2
  rw [HW.out]
  clear HW hmk hmm
  go_loopw [18] (fun v wr => ∃ (q : Nat) (fv : Value) (R : Nat → Prop), q ≤ n ∧ v = .int .i64 q ∧ Prep wr R (w.heap.size + 1 + 1) w.heap.size (w.heap.size + 1) fv (List.replicate n zBf) ((List.range q).map fun i : Nat => (i : Int)) [] ∧ (∀ b, R b → w.heap.size ≤ b) ∧ Below w.heap.size w wr) (fun v _ => n - (intOf v).toNat)
  case atStart => exact ⟨0, _, _, Nat.zero_le _, rfl, hP0, fun b hb => hb.1, hA⟩
  case round =>
    clear hP0 hA
    obtain ⟨q, fv, R, hq, rfl, hP, hR, hb⟩ := hrel
    by_cases hqN : q < n
    · have hfr := hP.free
      have hln : ((List.range q).map fun i : Nat => (i : Int)).length = q := by simp
      rw [hln] at hfr
      obtain ⟨fa, fc, rfl⟩ := hfr.form
      have c1 := hP.c1
      have hpz := hP.rlt _ hP.rp
      have hP4 := fun o => hP.below (below_alloc (Below.refl wr.heap.size wr) o)
      go_wp2_with (at_builtin; refine halt ?_)
      refine Halt.go ?_
      refine wpList_appd (v := .slice fa q fc) rfl _ _ _ rfl Try.underlying31 hi hz hz1 hz2 hz3 rfl (hfr.alloc _) (m := 1) (news := [.int .i64 (q : Int)]) rfl rfl (cells_new _ _ _ rfl) (by simp [Value.oneCell']) (by unfold maxLen; omega) (by omega) ?_
      rintro v8 w8 hs8 ho8 hv8
      obtain ⟨a8, cp8, rfl⟩ := hs8.form
      have hO8 : Only (fun g => (Value.slice fa q fc).ownBlock = some g) wr w8 := (only_of_below (below_alloc (Below.refl wr.heap.size wr) _) _).trans ho8
      have hsl8 : SL w8.heap 3 1 (.slice a8 (q + 1) cp8) ((List.range (q + 1)).map fun i : Nat => (i : Int)).length (((List.range (q + 1)).map fun i : Nat => (i : Int)).map Sp.zI) := by
        have : ((List.range (q + 1)).map fun i : Nat => (i : Int)).length = q + 1 := by simp
        rw [this, List.range_succ, List.map_append, List.map_append]
        exact hs8
      obtain ⟨hP9, hO9⟩ := hP.setFree hO8 hsl8 (by
        rcases hv8 with e | e
        · exact .inl e
        · exact .inr ⟨_, e, by simp⟩)
      have hR9 : ∀ g, (Value.slice a8 (q + 1) cp8).ownBlock = some g → w.heap.size ≤ g := fun g hg => by
        rcases hv8 with e | e
        · rw [e] at hg; exact hR g (hP.fo g hg)
        · rw [e] at hg; cases hg; have := hb.size; simp; omega
      have hB9 : Below w.heap.size w (w8.setCell ⟨w.heap.size + 1 + 1, 1, none⟩ (.slice a8 (q + 1) cp8)) := hb.trans (hO9.below hb.size fun i hi e => by have := hR i e; omega)
      have hp8 := ho8.heap (hP4 _).blk (hP4 (.cells #[.int .i64 (q : Int)] 3)).fp
      have e1 : w8.cell? ⟨w.heap.size + 1 + 1, 1, none⟩ = some (.slice fa q fc) := cell_blk hp8 rfl
      have fz := froz_blk hp8 1
      have H9 := Lib.hid (And.intro hP9 (And.intro hR9 hB9))
      clear hO8 hsl8 hP9 hO9 hR9 hB9 hs8 ho8 hv8 hfr hln c1 hpz hP4 hp8
      go_wp2
      obtain ⟨hP9, hR9, hB9⟩ := H9.out
      exact ⟨⟨q + 1, _, _, by omega, by go_num, hP9, fun b hb => by
        rcases hb with hb | hb
        · exact hR b hb
        · exact hR9 b hb, hB9⟩, by simp [intOf]; omega⟩
    · have hqe : q = n := by omega
      subst hqe
      go_wp2
      go_returns
      exact ⟨_, _, _, _, _, rfl, hP, hR, hb⟩
end Go.Proofs.Ytniggacgkhkgiaa.Pool
