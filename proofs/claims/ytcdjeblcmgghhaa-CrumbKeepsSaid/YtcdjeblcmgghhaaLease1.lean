/- What lease.Leases.Tick does. Conditions: the receiver lies in memory as Lrep says; at most a million traces are held. -/
import Derived.Test.YtcdjeblcmgghhaaLease0
import Derived.Test.YtcdjeblcmgghhaaKeys
import Derived.Deep.LoopGhost
import Derived.Lib.Hide
namespace Go.Proofs.Ytcdjeblcmgghhaa.Lease
open Go.RowKit Go.Sp

/-- one trace's turn -/
def tick1 (s : List (Int × (Int × Int)) × List (Int × Int) × List Int) (k : Int) : List (Int × (Int × Int)) × List (Int × Int) × List Int :=
  let h := (mget k s.1).getD (0, 0)
  let H := mput k (h.1, wrap64 (h.2 - 1)) s.1
  if 0 < wrap64 (h.2 - 1) then (H, s.2.1, s.2.2) else (mdel k H, mput k (max ((mget k s.2.1).getD 0) h.1) s.2.1, s.2.2 ++ [k])

def tickAll (H : List (Int × (Int × Int))) (O : List (Int × Int)) : List (Int × (Int × Int)) × List (Int × Int) × List Int :=
  (H.map Prod.fst).foldl tick1 (H, O, [])

def eG (k : Int) : Value := .int .i64 k

section
variable {w w' : World} {lb hb ob : Nat} {ticks : Int} {H : List (Int × (Int × Int))} {O : List (Int × Int)}

structure TRel (w0 w1 wr : World) (lb hb ob : Nat) (ticks : Int) (s : List (Int × (Int × Int)) × List (Int × Int) × List Int) (gone : Value) : Prop where
  rep : Lrep wr lb hb ob ticks s.1 s.2.1
  own : SL wr.heap 3 1 gone s.2.2.length (s.2.2.map eG)
  new : ∀ g, gone.ownBlock = some g → w1.heap.size ≤ g
  only : Only (fun k => k = hb ∨ k = ob) w1 wr

set_option maxRecDepth 100000 in
set_option maxHeartbeats 1000000 in
theorem tick_any (h : Lrep w lb hb ob ticks H O) (hn : H.length ≤ 1000000) :
    Calls Try.prog 35 #[.pointer (some ⟨lb, 0, none⟩)] w fun e w' => ∃ v, e = .returned v ∧
      Lrep w' lb hb ob ticks (tickAll H O).1 (tickAll H O).2.1 ∧ SL w'.heap 3 1 v (tickAll H O).2.2.length ((tickAll H O).2.2.map eG) ∧
      (∀ g, v.ownBlock = some g → w.heap.size ≤ g) ∧ Only (fun k => k = hb ∨ k = ob) w w' := by
  have c1 := h.c1
  have hlbw : lb < w.heap.size := (Array.getElem?_eq_some_iff.1 h.blk).1
  obtain ⟨i0, z0, hi, hz, hz1, hz2, hz3⟩ := info_at (P := Try.prog) (e := 3) (f := (1, 8, 1)) (by kernel_rfl)
  go_enter Try.func35, Try.ntmps35
  go_wp2_with (first
    | (go_at_call 66; refine (keys_66 _ _).mono ?_; rintro e w' ⟨rfl, rfl⟩)
    | (go_at_call 65; refine (sorted_66 h.mh hn).mono ?_; rintro e w1 ⟨v, rfl, hsl, hnew, hbel⟩; obtain ⟨a, cap, rfl⟩ := hsl.form))
  go_loopw [2, 15] (fun gone i wr => ∃ k : Nat, k ≤ H.length ∧ i = .int .i64 k ∧ TRel w w1 wr lb hb ob ticks (((H.map Prod.fst).take k).foldl tick1 (H, O, [])) gone ∧ (((H.map Prod.fst).take k).foldl tick1 (H, O, [])).2.2.length ≤ k) (fun _ i _ => H.length - (intOf i).toNat)
  case atStart => exact ⟨0, Nat.zero_le _, rfl, ⟨h.only (only_of_below hbel (fun _ => False)) id id id, SL.nil _ _ _, fun g hg => by simp [Value.ownBlock] at hg, Only.refl _ _⟩, by simp⟩
  case round =>
    obtain ⟨k, hk, rfl, hT, hg⟩ := hrel
    by_cases hlt : k < H.length
    · obtain ⟨b, off, cap', hv, hb1, _, _⟩ := hsl.form' (by omega)
      simp only [Value.slice.injEq, true_and] at hv
      obtain ⟨rfl, rfl⟩ := hv
      have hkk : (H.map Prod.fst)[k]? = some H[k].1 := by simp [hlt]
      have hkw0 : (Lit.int .i64 H[k].1).wf = true := h.mh.keys_wf _ (List.getElem_mem hlt)
      have hc0 : (H.map fun p => Value.int .i64 p.1)[k]? = some (.int .i64 H[k].1) := by simp [hlt]
      generalize H[k].1 = kk at hkk hkw0 hc0
      have hstep : ((H.map Prod.fst).take (k + 1)).foldl tick1 (H, O, []) = tick1 (((H.map Prod.fst).take k).foldl tick1 (H, O, [])) kk := by
        rw [List.take_add_one, hkk, Option.toList_some, List.foldl_append]; rfl
      generalize hs : ((H.map Prod.fst).take k).foldl tick1 (H, O, []) = s at hT hg hstep
      obtain ⟨H1, O1, g1⟩ := s
      have hnb : w.heap.size ≤ b := hnew b rfl
      have hcell : wr.cell? ⟨b, off + k, none⟩ = some (.int .i64 kk) := (hsl.only hT.only (fun g hg e => by simp [Value.ownBlock] at hg; have := h.mh.lt; have := h.mo.lt; omega)).cell hc0
      have hR := hT.rep
      generalize hx : (mget kk H1).getD (0, 0) = x
      obtain ⟨j, l⟩ := x
      have hl := look_held hR kk hx
      have r1 := hR.c1
      have hlb : lb < wr.heap.size := (Array.getElem?_eq_some_iff.1 hR.blk).1
      have hkw : (Lit.int .i64 kk).wf = true := hkw0
      clear hs hkk hc0
      have HS := Lib.hid hstep
      clear hstep
      have HX := Lib.hid hx
      clear hx
      go_wp2
      have hA1 : Only (fun _ => False) wr (wr.alloc (.cells #[.int .i64 j, .int .i64 (wrap64 (l - 1))] 144)) := (Only.refl _ wr).alloc _
      have hx1 : (wr.alloc (.cells #[.int .i64 j, .int .i64 (wrap64 (l - 1))] 144)).heap[wr.heap.size]? = some (.cells #[.int .i64 j, .int .i64 (wrap64 (l - 1))] 144 (0, 0)) := heap_new wr _ rfl
      generalize wr.alloc (.cells #[.int .i64 j, .int .i64 (wrap64 (l - 1))] 144) = W1 at hA1 hx1 ⊢
      have hR1 := hR.only hA1 id id id
      have q1 := hR1.c1
      have q2 : W1.cell? ⟨wr.heap.size, 0, none⟩ = some (.int .i64 j) := by simp [World.cell?, hx1]
      have q3 : W1.cell? ⟨wr.heap.size, 1, none⟩ = some (.int .i64 (wrap64 (l - 1))) := by simp [World.cell?, hx1]
      go_still_tail 6, (by kernel_rfl)
      refine wpList_upd (enc := eH) (j, wrap64 (l - 1)) rfl _ _ _ _ rfl Try.underlying140 Try.underlying3 rfl rfl rfl hkw (by exact hR1.mh) ?_
      rintro w2 hm2 ho2
      have hA2 : Only (· = hb) W1 w2 := ⟨ho2.os, ho2.tape, ho2.output, ho2.size, ho2.block⟩
      have hR2 := hR1.putH hm2 hA2
      have hx2 := hA2.heap hx1 (fun e => by have := hR.mh.lt; omega)
      have b0 : w2.cell? ⟨wr.heap.size, 0, none⟩ = some (.int .i64 j) := by simp [World.cell?, hx2]
      have b1 : w2.cell? ⟨wr.heap.size, 1, none⟩ = some (.int .i64 (wrap64 (l - 1))) := by simp [World.cell?, hx2]
      have r2 := hR2.c1
      have hB2 : Only (· = hb) wr w2 := (hA1.mono (G := (· = hb)) fun _ _ h => h.elim).trans hA2
      clear ho2 q1 q2 q3
      by_cases hp : 0 < wrap64 (l - 1)
      · go_wp2
        refine ⟨⟨k + 1, by omega, by go_num, ?_⟩, by simp [intOf]; omega⟩
        rw [HS.out]
        have e1 : tick1 (H1, O1, g1) kk = (mput kk (j, wrap64 (l - 1)) H1, O1, g1) := by simp only [tick1, HX.out]; rw [if_pos hp]
        rw [e1]
        exact ⟨⟨hR2, hT.own.only hB2 (fun g hg e => by have := hT.new g hg; have := h.mh.lt; have := hbel.size; omega), hT.new, hT.only.trans (hB2.mono fun _ _ h => .inl h)⟩, Nat.le_succ_of_le hg⟩
      · go_wp2_with (at_delete; refine wpList_dele (enc := eH) rfl _ _ _ _ rfl Try.underlying140 Try.underlying3 rfl rfl (by exact hR2.mh) ?_; rintro w3 hm3 ho3)
        have hR3 := hR2.putH hm3 ho3
        have hx3 := ho3.heap hx2 (fun e => by have := hR.mh.lt; omega)
        have b3 : w3.cell? ⟨wr.heap.size, 0, none⟩ = some (.int .i64 j) := by simp [World.cell?, hx3]
        have r3 := hR3.c2
        generalize hy : (mget kk O1).getD 0 = y
        have hlo := look_over (hR3.heap (w' := w3.drew) rfl) kk hy
        clear r2 b0 b1
        have HY := Lib.hid hy
        clear hy
        go_still_tail 14, (by kernel_rfl)
        refine wpList_upd (enc := eI) (max y j) rfl _ _ _ _ rfl Try.underlying94 Try.underlying3 rfl rfl rfl hkw (by exact hR3.mo) ?_
        rintro w4 hm4 ho4
        have hA4 : Only (· = ob) w3 w4 := ⟨ho4.os, ho4.tape, ho4.output, ho4.size, ho4.block⟩
        have hR4 := hR3.putO hm4 hA4
        have hB4 : Only (fun k => k = hb ∨ k = ob) wr w4 := ((hB2.trans ho3).mono (G := fun k => k = hb ∨ k = ob) fun _ _ h => .inl h).trans (hA4.mono fun _ _ h => .inr h)
        have hown4 : SL w4.heap 3 1 u2 g1.length (g1.map eG) := hT.own.only hB4 (fun g hg e => by have := hT.new g hg; have := h.mh.lt; have := h.mo.lt; have := hbel.size; omega)
        have hlen : g1.length ≤ k := hg
        clear ho4 hlo r3 b3
        go_wp2_with (at_builtin; refine wpList_appd (v := u2) rfl _ _ _ rfl Try.underlying28 hi hz hz1 hz2 hz3 rfl (hown4.alloc _) (m := 1) (news := [.int .i64 kk]) rfl rfl (cells_new _ _ _ rfl) (by simp [Value.oneCell']) (by unfold maxLen; omega) (by omega) ?_; rintro v5 w5 hs5 ho5 hv5)
        refine ⟨⟨k + 1, by omega, by go_num, ?_⟩, by simp [intOf]; omega⟩
        rw [HS.out]
        have e1 : tick1 (H1, O1, g1) kk = (mdel kk (mput kk (j, wrap64 (l - 1)) H1), mput kk (max y j) O1, g1 ++ [kk]) := by simp only [tick1, HX.out, HY.out]; rw [if_neg (by omega)]
        rw [e1]
        have hN5 : Only (fun k => u2.ownBlock = some k) w4 w5 := ((Only.refl _ w4).alloc _).trans' ho5 (fun i hi e => e)
        refine ⟨⟨hR4.only hN5 (fun e => ?_) (fun e => ?_) (fun e => ?_), by simpa [eG] using hs5, fun g hg => ?_, (hT.only.trans hB4).trans' hN5 (fun i hi e => absurd hi (by have := hT.new i e; omega))⟩, by simp; omega⟩
        · have := hT.new _ e; have := hlbw; have := hbel.size; omega
        · have := hT.new _ e; have := h.mh.lt; have := hbel.size; omega
        · have := hT.new _ e; have := h.mo.lt; have := hbel.size; omega
        · rcases hv5 with e | e
          · exact hT.new g (by rw [← e]; exact hg)
          · rw [e] at hg; cases hg; have := hT.only.size; have := hB4.size; simp; omega
    · have hke : k = H.length := by omega
      subst hke
      have hall : ((H.map Prod.fst).take H.length) = H.map Prod.fst := List.take_of_length_le (by simp)
      rw [hall] at hT
      clear hg hall
      go_wp2
      go_ret
      exact ⟨_, rfl, hT.rep, hT.own, fun g hg => Nat.le_trans hbel.size (hT.new g hg), (only_of_below hbel _).trans hT.only⟩

end
end Go.Proofs.Ytcdjeblcmgghhaa.Lease
