/- What assemble's part answers. Conditions: the assembler lies in memory as Arep says. -/
import Derived.Test.YtcdjeblcmgghhaaAsm4
namespace Go.Proofs.Ytcdjeblcmgghhaa.Asm
open Go.RowKit Go.Sp Msg

section
variable {w : World} {R D : Nat → Prop} {ab rm : Nat} {t j : Int} {md : Option ManD} {rows : List (Int × Nat)} {g : Int → Ro} {C : List Chk}

def POut (w : World) (r : List Spn × Bool) (e : Ending) (w' : World) : Prop := ∃ v, e = .returned (.tuple #[v, .bool r.2]) ∧ SL w'.heap 63 3 v r.1.length (r.1.flatMap eSpn) ∧ (∀ g', v.ownBlock = some g' → w.heap.size ≤ g' ∧ g' < w'.heap.size) ∧ Below w.heap.size w w'

set_option maxRecDepth 100000 in
set_option maxHeartbeats 4000000 in
theorem part_any (h : Arep w R D ab rm t j md rows g) (T : Tie rows g C) {a t' j' n : Int} {ca : Option Addr} {cn cc : Nat} {l : Bool} :
    Calls Try.prog 61 #[.pointer (some ⟨ab, 0, none⟩), .agg #[.int .i64 a, .int .i64 t', .int .i64 j', .int .i64 n, .slice ca cn cc, .bool l]] w fun e w' => POut w (partR t C a n) e w' := by
  obtain ⟨i0, z0, hi, hz, hz1, hz2, hz3⟩ := info_at (P := Try.prog) (e := 63) (f := (3, 32, 3)) (by kernel_rfl)
  go_enter Try.func61, Try.ntmps61
  go_wp2
  have hA := below_alloc (Below.refl w.heap.size w) (.cells #[.int .i64 a, .int .i64 t', .int .i64 j', .int .i64 n, .slice ca cn cc, .bool l] 65)
  have hbx : (w.alloc (.cells #[.int .i64 a, .int .i64 t', .int .i64 j', .int .i64 n, .slice ca cn cc, .bool l] 65)).heap[w.heap.size]? = some (.cells #[.int .i64 a, .int .i64 t', .int .i64 j', .int .i64 n, .slice ca cn cc, .bool l] 65 (0, 0)) := heap_new _ _ rfl
  generalize (w.alloc (.cells #[.int .i64 a, .int .i64 t', .int .i64 j', .int .i64 n, .slice ca cn cc, .bool l] 65)) = w0 at hA hbx ⊢
  have h0 := h.below hA
  have k0 := h0.c3
  have e0 : w0.cell? ⟨w.heap.size, 0, none⟩ = some (.int .i64 a) := by simp [World.cell?, hbx]
  have lk := fun n => (h0.drewN n).look a
  cases hk : mget a rows with
  | none =>
    have HP := Lib.hid (show partR t C a n = ([], false) by unfold partR; rw [T.partL_none hk])
    rw [hk] at lk
    replace lk : ∀ n, (Instr.lookup 116 (.map (some rm)) (.int .i64 a) false).run Try.prog (w0.drewN n) = .ok (.pointer none) (w0.drewN n) := lk
    go_quiet (fail)
    clear lk
    go_wp2
    go_quiet (fail)
    go_wp2
    go_ret2
    rw [HP.out]
    exact ⟨_, rfl, SL.nil _ _ _, fun g' hg' => by simp [Value.ownBlock] at hg', by repeat (first | exact hA | apply below_alloc | apply belowN)⟩
  | some b =>
    rw [hk] at lk
    replace lk : ∀ n, (Instr.lookup 116 (.map (some rm)) (.int .i64 a) false).run Try.prog (w0.drewN n) = .ok (.pointer (some ⟨b, 0, none⟩)) (w0.drewN n) := lk
    go_quiet (fail)
    have h1 := h0.drewN nq
    have hA1 := belowN hA nq
    have hbx1 : (w0.drewN nq).heap[w.heap.size]? = _ := hbx
    generalize w0.drewN nq = w1 at h1 hA1 hbx1 ⊢
    clear lk h0 k0 e0 hA hbx
    have hrow := h1.row a b hk
    have f0 : w1.cell? ⟨b, 0, none⟩ = some (.int .i64 (g a).tot) := by simp [World.cell?, hrow.1]
    have f1 : w1.cell? ⟨b, 1, none⟩ = some (.map (some (g a).m)) := by simp [World.cell?, hrow.1]
    obtain ⟨_, _, _, ht0, ht1⟩ := T.first hk
    have hks := hrow.2.ks
    go_wp2
    have ln : ∀ n ty, (Builtin.len_ #[167] ty #[.map (some (g a).m)]).run Try.prog (w1.drewN n) = .ok (.int .i64 (g a).ch.length) (w1.drewN n) := fun n ty => ((h1.drewN n).row a b hk).2.len (P := Try.prog) Try.underlying167
    by_cases hn : (g a).ch.length = (g a).tot.toNat
    · have HL := Lib.hid (T.partL_full hk hks hn)
      have hch : ((g a).ch.length : Int) = (g a).tot := by omega
      have b1 : ((g a).tot != (g a).tot) = false := by simp
      rw [hch] at ln
      clear hch
      go_quiet (fail)
      have h2 := h1.drewN nq
      have hA2 := belowN hA1 nq
      have hbx2 : (w1.drewN nq).heap[w.heap.size]? = _ := hbx1
      have f0' : (w1.drewN nq).cell? ⟨b, 0, none⟩ = some (.int .i64 (g a).tot) := f0
      generalize w1.drewN nq = w2 at h2 hA2 hbx2 f0' ⊢
      clear ln f0 f1 hrow h1 hA1 hbx1
      have hfull := (full_iff hks _ (T.keys hk hks)).1 hn
      have hsml := T.small hk
      have hcnk := fun i x hx => (h2.chk a b i x hk hx)
      generalize hN : (g a).tot.toNat = N at *
      have hTN : (g a).tot = N := by omega
      rw [hTN] at f0'
      have hN5 : N ≤ 500 := by omega
      clear hTN hN hn ht0 ht1 hks
      go_wp2
      have h2b := hA2.size
      go_loopw [4, 33] (fun v i wr => ∃ q : Nat, q ≤ N ∧ i = .int .i64 q ∧ SL wr.heap 63 3 v (rowL (g a).ch q).length ((rowL (g a).ch q).flatMap eSpn) ∧ (∀ g', v.ownBlock = some g' → w2.heap.size ≤ g') ∧ Below w2.heap.size w2 wr) (fun _ i _ => N - (intOf i).toNat)
      case atStart => exact ⟨0, Nat.zero_le _, rfl, SL.nil _ _ _, fun g' hg' => by simp [Value.ownBlock] at hg', Below.refl _ _⟩
      case round =>
        obtain ⟨q, hq, rfl, hs, hnw, hb⟩ := hrel
        have h3 := h2.below hb
        have hlen := rowL_len hsml q
        by_cases hqN : q < N
        · have f1 : wr.cell? ⟨b, 1, none⟩ = some (.map (some (g a).m)) := by simp [World.cell?, (h3.row a b hk).1]
          have hsm := hfull q hqN
          obtain ⟨x, hx⟩ := Option.isSome_iff_exists.1 hsm
          have hrs := h3.chk a b _ x hk hx
          have hx2 := hsml _ x hx
          have lk := h3.lookc false hk (q : Int)
          rw [hx] at lk
          replace lk : (Instr.lookup 167 (.map (some (g a).m)) (.int .i64 q) false).run Try.prog wr = .ok x.1 wr := lk
          have hrl : rowL (g a).ch (q + 1) = rowL (g a).ch q ++ x.2 := by rw [rowL_succ, hx]; rfl
          have HRL := Lib.hid hrl
          have hvx := hrs.1
          obtain ⟨xv, xl⟩ := x
          replace hx2 : xl.length ≤ 2 := hx2
          obtain ⟨_, xa, xc, hv, _⟩ := id hvx
          simp only at hv
          subst hv
          generalize rowL (g a).ch q = L at *
          clear hrl hsm hx hrs
          go_wp2_with (at_builtin; refine halt ?_)
          refine Halt.go ?_
          refine wpList_app rfl _ _ _ rfl (SL.appendR eSpn_len hs Try.underlying32 hi hz hz1 hz2 hz3 hvx (fun x _ => eSpn_one x) (by unfold maxLen; omega) (by omega)) ?_
          rintro v7 w7 ⟨hs7, ho7, hv7⟩
          replace ho7 : Only (fun k => u4.ownBlock = some k) wr w7 := ho7
          replace hv7 : v7.ownBlock = u4.ownBlock ∨ v7.ownBlock = some wr.heap.size := hv7
          have hb7 : Below w2.heap.size w2 w7 := hb.trans (ho7.below hb.size (fun i hi e => by have := hnw i e; omega))
          have hn7 : ∀ g', v7.ownBlock = some g' → w2.heap.size ≤ g' := fun g' hg' => by
            rcases hv7 with e | e
            · exact hnw g' (by rw [← e]; exact hg')
            · rw [e] at hg'; cases hg'; exact hb.size
          go_wp2
          exact ⟨⟨q + 1, by omega, by go_num, by rw [HRL.out, List.length_append, List.flatMap_append]; exact hs7, hn7, hb7⟩, by simp [intOf]; omega⟩
        · have hqe : q = N := by omega
          subst hqe
          have hr := SL.rs eSpn_len hs
          have hlt := hs.lt
          obtain ⟨a6, c6, rfl⟩ := hs.form
          have hbx3 := (hb.block w.heap.size (Array.getElem?_eq_some_iff.1 hbx2).1).trans hbx2
          have e3 : wr.cell? ⟨w.heap.size, 3, none⟩ = some (.int .i64 n) := by simp [World.cell?, hbx3]
          have k3 := h3.c0
          have HR := row_any t hr
          have hPR : partR t C a n = (rowL (g a).ch q, decide (((rowL (g a).ch q).length : Int) = n) && rowOk t (rowL (g a).ch q) 0) := by unfold partR; rw [HL.out]
          have HPR := Lib.hid hPR
          have hbw : Below w.heap.size w wr := below_trans' hb hA2
          clear hPR
          generalize rowL (g a).ch q = L at *
          have hn8 : ∀ g', (Value.slice a6 L.length c6).ownBlock = some g' → w.heap.size ≤ g' := fun g' hg' => Nat.le_trans h2b (hnw g' hg')
          by_cases hc : (L.length : Int) = n
          · have b2 : ((L.length : Int) == n) = true := by simp [hc]
            go_wp2_with fail
            refine HR.mono ?_
            rintro e w4 ⟨rfl, hb4⟩
            go_wp2
            go_ret2
            rw [HPR.out]
            exact ⟨_, by rw [decide_eq_true hc]; rfl, hs.only (only_of_below hb4 (fun _ => False)) (fun _ _ => id), fun g' hg' => ⟨hn8 g' hg', Nat.lt_of_lt_of_le (hlt g' hg') hb4.size⟩, below_trans' hb4 hbw⟩
          · have b2 : ((L.length : Int) == n) = false := by simp [hc]
            go_wp2
            go_ret2
            rw [HPR.out]
            exact ⟨_, by rw [decide_eq_false hc]; rfl, hs, fun g' hg' => ⟨hn8 g' hg', hlt g' hg'⟩, hbw⟩
    · have HP := Lib.hid (show partR t C a n = ([], false) by unfold partR; rw [T.partL_lack hk hks hn])
      have b1 : (((g a).ch.length : Int) != (g a).tot) = true := by simp; omega
      go_quiet (fail)
      go_wp2
      go_ret2
      rw [HP.out]
      exact ⟨_, rfl, SL.nil _ _ _, fun g' hg' => by simp [Value.ownBlock] at hg', by repeat (first | exact hA1 | apply below_alloc | apply belowN)⟩
end
end Go.Proofs.Ytcdjeblcmgghhaa.Asm
