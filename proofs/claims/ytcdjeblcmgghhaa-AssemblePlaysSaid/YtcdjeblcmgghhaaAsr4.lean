/- What the reference's part answers. Conditions: it lies in memory as Wr says; few chunks are kept; the part names nobody. -/
import Derived.Test.YtcdjeblcmgghhaaAsr3
import Derived.Test.YtcdjeblcmgghhaaAsm5
namespace Go.Sp
open Go.RowKit
theorem partR_lack {t : Int} {C : List Chk} {a n : Int} (h : partL C a = none) : (partR t C a n).2 = false := by rw [partR_none h]
end Go.Sp
namespace Go.Proofs.Ytcdjeblcmgghhaa.Asm
open Go.RowKit Go.Sp Msg Go.Sort

def WPart (w : World) (r : List Spn × Bool) (e : Ending) (w' : World) : Prop := ∃ v, e = .returned (.tuple #[v, .bool r.2]) ∧ (∃ x y z, v = .slice x y z) ∧ (r.2 = true → SL w'.heap 63 3 v r.1.length (r.1.flatMap eSpn)) ∧ (∀ g', v.ownBlock = some g' → w.heap.size ≤ g' ∧ g' < w'.heap.size) ∧ Below w.heap.size w w'
theorem WPart.no {w w' : World} {r : List Spn × Bool} (h : r.2 = false) (hb : Below w.heap.size w w') : WPart w r (.returned (.tuple #[.slice none 0 0, .bool false])) w' :=
  ⟨.slice none 0 0, by rw [h], ⟨_, _, _, rfl⟩, fun e => (by rw [h] at e; cases e), fun g hg => (by simp [Value.ownBlock] at hg), hb⟩

set_option maxRecDepth 100000 in
set_option maxHeartbeats 4000000 in
theorem wPart_any {w0 w : World} {Rw : Nat → Prop} {wb : Nat} {t j a t' j' n : Int} {l : Bool} {man : Option (Int × List Pt)} {C : List Chk} {M : Ms} {cv : Value} {Cs : List (Chk × Value)}
    (h : Wr w0 w Rw wb t j man C M cv Cs) (hCl : C.length ≤ 1000) :
    Calls Try.prog 62 #[.pointer (some ⟨wb, 0, none⟩), .agg #[.int .i64 a, .int .i64 t', .int .i64 j', .int .i64 n, .slice none 0 0, .bool l]] w fun e w' => WPart w (partR t C a n) e w' := by
  obtain ⟨i0, z0, hi, hz, hz1, hz2, hz3⟩ := info_at (P := Try.prog) (e := 63) (f := (3, 32, 3)) (by kernel_rfl)
  have hCs : Cs.length ≤ 1000 := by have := congrArg List.length h.fs; simp at this; omega
  have U := h.uq
  go_enter Try.func62, Try.ntmps62
  go_wp2
  have hA := below_alloc (Below.refl w.heap.size w) (.cells #[.int .i64 a, .int .i64 t', .int .i64 j', .int .i64 n, .slice none 0 0, .bool l] 30)
  have hbx := heap_new w (.cells #[.int .i64 a, .int .i64 t', .int .i64 j', .int .i64 n, .slice none 0 0, .bool l] 30) rfl
  generalize (w.alloc (.cells #[.int .i64 a, .int .i64 t', .int .i64 j', .int .i64 n, .slice none 0 0, .bool l] 30)) = w1 at hA hbx ⊢
  have h1 := h.below hA
  have hbl : w.heap.size < w1.heap.size := (Array.getElem?_eq_some_iff.1 hbx).1
  obtain ⟨ca, cc, rfl⟩ := h1.sl.form
  go_loopw [6, 7, 8] (fun v nv iv wr => ∃ (i : Nat) (m : Int), i ≤ 500 ∧ iv = .int .i64 i ∧ nv = .int .i64 m ∧ PIv C a i m ∧ SL wr.heap 63 3 v (outTo C a i).length ((outTo C a i).flatMap eSpn) ∧ (∀ g', v.ownBlock = some g' → w1.heap.size ≤ g') ∧ Below w1.heap.size w1 wr) (fun _ _ iv _ => 501 - (intOf iv).toNat)
  case atStart => exact ⟨0, 0, Nat.zero_le _, rfl, rfl, ⟨.inl ⟨rfl, rfl⟩, fun k hk => by omega⟩, SL.nil _ _ _, fun g' hg' => by simp [Value.ownBlock] at hg', Below.refl _ _⟩
  case round =>
    obtain ⟨i, m, hi5, rfl, rfl, hP, hs, hnw, hb⟩ := hrel
    have hol := outTo_len U a i
    have hm5 : m = 0 ∨ (1 ≤ m ∧ m ≤ 500 ∧ (i : Int) ≤ m) := by
      rcases hP.st with ⟨_, h⟩ | ⟨_, _, _, _, h1, h2, h3⟩
      · exact .inl h
      · exact .inr ⟨h1, h2, h3⟩
    by_cases hin : m = 0 ∨ (i : Int) < m
    · have hcond : ((m == 0) = true) ∨ ((m == 0) = false ∧ decide ((i : Int) < m) = true) := by
        by_cases e : m = 0
        · exact .inl (by simp [e])
        · exact .inr ⟨by simp [e], decide_eq_true (hin.resolve_left e)⟩
      have hi50 : m ≠ 0 → i < 500 := fun e => by have := hin.resolve_left e; omega
      have hi51 : i < 500 := by
        rcases hP.st with ⟨h0, _⟩ | ⟨_, _, _, _, h1, h2, h3⟩
        · omega
        · exact hi50 (by omega)
      obtain ⟨va, vc, rfl⟩ := hs.form
      have HPV := Lib.hid (And.intro hP hin)
      have HX := Lib.hid (Nat.le_refl i)
      clear hin hi50 hm5 hP
      obtain ⟨L0, hL0⟩ : ∃ L0, L0 = outTo C a i := ⟨_, rfl⟩
      rw [← hL0] at hs hol hnw ⊢
      have HL0 := Lib.hid hL0
      clear hL0
      rcases hcond with b1 | ⟨b1, b2⟩
      all_goals
        go_wp2
        obtain ⟨wo, rfl⟩ : ∃ wo : World, wo = wr := ⟨_, rfl⟩
        go_loopw [6, 7, 9, 10] (fun v nv fv kv wi => ∃ (k : Nat) (fb : Bool) (mm : Int), k ≤ Cs.length ∧ kv = .int .i64 k ∧ fv = .bool fb ∧ fb = !(atF C a i k).isEmpty ∧ nv = .int .i64 mm ∧ mm = atN m (atF C a i k) ∧ SL wi.heap 63 3 v (L0 ++ (atF C a i k).flatMap fun c => c.xs).length ((L0 ++ (atF C a i k).flatMap fun c => c.xs).flatMap eSpn) ∧ (∀ g', v.ownBlock = some g' → w1.heap.size ≤ g') ∧ Below w1.heap.size w1 wi) (fun _ _ _ kv _ => Cs.length - (intOf kv).toNat)
        case atStart => exact ⟨0, _, _, Nat.zero_le _, rfl, rfl, rfl, rfl, rfl, by simpa [atF] using hs, hnw, hb⟩
        case round =>
          clear hs hnw hb
          obtain ⟨k, fb, mm, hk, rfl, rfl, hfb, rfl, hmm, hs, hnw, hb⟩ := hrel
          have hr := h1.below hb
          have hFl := atF_xs U a i k
          have e18 := hr.cell (q := 18) (u := .slice ca Cs.length cc) rfl
          by_cases hkN : k < Cs.length
          · have e0 : wr.cell? ⟨w.heap.size, 0, none⟩ = some (.int .i64 a) := cell_blk ((hb.block _ hbl).trans hbx) rfl
            obtain ⟨cb, co, cap, hv, _⟩ := hr.sl.form' (by omega)
            simp only [Value.slice.injEq] at hv
            obtain ⟨rfl, _, rfl⟩ := hv
            obtain ⟨⟨d, dv⟩, hx⟩ : ∃ x, Cs[k]? = some x := ⟨_, List.getElem?_eq_getElem hkN⟩
            have hdC : C[k]? = some d := by rw [← h.fs, List.getElem?_map, hx]; rfl
            have hdv := (h.dat _ (List.mem_of_getElem? hx)).only (only_of_below hr.bel (fun _ => False)) (fun _ _ => id)
            have hd2 := (U.rg d (List.mem_of_getElem? hdC)).2.2.2
            have g1 := hr.sl.elem (eCk_len t j) hx (j := 1) (u := .int .i64 d.a) rfl
            have g5 := hr.sl.elem (eCk_len t j) hx (j := 5) (u := .int .i64 d.i) rfl
            have g6 := hr.sl.elem (eCk_len t j) hx (j := 6) (u := .int .i64 d.n) rfl
            have g14 := hr.sl.elem (eCk_len t j) hx (j := 14) (u := dv) rfl
            rw [← Nat.add_assoc] at g1 g5 g6 g14
            have HF := Lib.hid (atF_succ (a := a) (i := (i : Int)) hdC)
            have HFB := Lib.hid hfb
            have HMM := Lib.hid hmm
            simp only at hdv
            obtain ⟨_, da, dc, hdf, _⟩ := id hdv
            subst hdf
            have hwr := hr.wlt
            clear hx hdC hfb hmm hr
            generalize atF C a i k = F at hs HF HFB HMM hFl
            obtain ⟨vb, vd, rfl⟩ := hs.form
            by_cases ha : d.a = a
            · have ba : (d.a == a) = true := by simp [ha]
              by_cases hdi : d.i = (i : Int)
              · have bi : (d.i == (i : Int)) = true := by simp [hdi]
                have HF2 := Lib.hid (show atF C a i (k + 1) = F ++ [d] by rw [HF.out]; simp [mtc, ha, hdi])
                clear ha hdi
                go_upto_region 10 with (fail)
                go_quiet (fail)
                have hs9 : SL (wr.drewN nq).heap 63 3 (.slice vb (L0 ++ F.flatMap fun c => c.xs).length vd) (L0 ++ F.flatMap fun c => c.xs).length ((L0 ++ F.flatMap fun c => c.xs).flatMap eSpn) := hs
                have hb9 : Below w1.heap.size w1 (wr.drewN nq) := belowN hb nq
                have hd9 := hdv.only ((Only.refl (fun _ => False) wr).drewN nq) (fun _ _ => id)
                have f18 : (wr.drewN nq).cell? ⟨wb, 18, none⟩ = some (.slice (some ⟨cb, co, none⟩) Cs.length cc) := e18
                have f6 : (wr.drewN nq).cell? ⟨cb, co + k * 15 + 6, none⟩ = some (.int .i64 d.n) := g6
                have f14 : (wr.drewN nq).cell? ⟨cb, co + k * 15 + 14, none⟩ = some (.slice da d.xs.length dc) := g14
                generalize wr.drewN nq = w9 at hs9 hb9 hd9 f18 f6 f14 ⊢
                have HLL := Lib.hid (show (L0 ++ F.flatMap fun c => c.xs) ++ d.xs = L0 ++ (F ++ [d]).flatMap fun c => c.xs by simp)
                have hLl : (L0 ++ F.flatMap fun c => c.xs).length ≤ 3000 := by rw [List.length_append]; omega
                generalize (L0 ++ F.flatMap fun c => c.xs) = L1 at hs9 HLL hLl hnw ⊢
                clear e18 e0 g1 g5 g6 g14 hs hb hdv
                go_wp2_with (at_builtin; refine halt ?_)
                refine Halt.go ?_
                refine wpList_app rfl _ _ _ rfl (SL.appendR eSpn_len hs9 Try.underlying32 hi hz hz1 hz2 hz3 hd9 (fun x _ => eSpn_one x) (by unfold maxLen; omega) (by omega)) ?_
                rintro v7 w7 ⟨hs7, ho7, hv7⟩
                replace ho7 : Only (fun k => (Value.slice vb L1.length vd).ownBlock = some k) w9 w7 := ho7
                replace hv7 : v7.ownBlock = (Value.slice vb L1.length vd).ownBlock ∨ v7.ownBlock = some w9.heap.size := hv7
                have hb7 : Below w1.heap.size w1 w7 := hb9.trans (ho7.below hb9.size (fun i hi e => by have := hnw i e; omega))
                have hn7 : ∀ g', v7.ownBlock = some g' → w1.heap.size ≤ g' := fun g' hg' => by
                  rcases hv7 with e | e
                  · exact hnw g' (by rw [← e]; exact hg')
                  · rw [e] at hg'; cases hg'; exact hb9.size
                have hr7 := h1.below hb7
                have p18 := hr7.cell (q := 18) (u := .slice (some ⟨cb, co, none⟩) Cs.length cc) rfl
                have p6 : w7.cell? ⟨cb, co + k * 15 + 6, none⟩ = some (.int .i64 d.n) := by rw [hb7.cell (p := ⟨cb, co + k * 15 + 6, none⟩) (h1.lt _ (h1.rc _ rfl)).2, ← hb9.cell (p := ⟨cb, co + k * 15 + 6, none⟩) (h1.lt _ (h1.rc _ rfl)).2]; exact f6
                clear ho7 hv7 hs9 hb9 hd9 hnw f18 f6 f14 hr7
                go_wp2
                exact ⟨⟨k + 1, true, d.n, by omega, by go_num, rfl, by rw [HF2.out]; simp, rfl, by rw [HF2.out]; simp [atN], by rw [HF2.out, ← HLL.out, List.length_append, List.flatMap_append]; exact hs7, hn7, hb7⟩, by simp [intOf]; omega⟩
              · have bi : (d.i == (i : Int)) = false := by simp [hdi]
                have HF2 := Lib.hid (show atF C a i (k + 1) = F by rw [HF.out]; simp [mtc, ha, hdi])
                clear ha hdi
                go_upto_region 10 with (fail)
                go_quiet (fail)
                have hs9 : SL (wr.drewN nq).heap 63 3 (.slice vb (L0 ++ F.flatMap fun c => c.xs).length vd) (L0 ++ F.flatMap fun c => c.xs).length ((L0 ++ F.flatMap fun c => c.xs).flatMap eSpn) := hs
                have hb9 : Below w1.heap.size w1 (wr.drewN nq) := belowN hb nq
                generalize wr.drewN nq = w9 at hs9 hb9 ⊢
                clear e18 e0 g1 g5 g6 g14 hs hb hdv
                go_wp2
                exact ⟨⟨k + 1, fb, mm, by omega, by go_num, rfl, by rw [HF2.out]; exact HFB.out, rfl, by rw [HF2.out]; exact HMM.out, by rw [HF2.out]; exact hs9, hnw, hb9⟩, by simp [intOf]; omega⟩
            · have ba : (d.a == a) = false := by simp [ha]
              have HF2 := Lib.hid (show atF C a i (k + 1) = F by rw [HF.out]; simp [mtc, ha])
              clear ha
              go_upto_region 10 with (fail)
              go_quiet (fail)
              have hs9 : SL (wr.drewN nq).heap 63 3 (.slice vb (L0 ++ F.flatMap fun c => c.xs).length vd) (L0 ++ F.flatMap fun c => c.xs).length ((L0 ++ F.flatMap fun c => c.xs).flatMap eSpn) := hs
              have hb9 : Below w1.heap.size w1 (wr.drewN nq) := belowN hb nq
              generalize wr.drewN nq = w9 at hs9 hb9 ⊢
              clear e18 e0 g1 g5 g6 g14 hs hb hdv
              go_wp2
              exact ⟨⟨k + 1, fb, mm, by omega, by go_num, rfl, by rw [HF2.out]; exact HFB.out, rfl, by rw [HF2.out]; exact HMM.out, by rw [HF2.out]; exact hs9, hnw, hb9⟩, by simp [intOf]; omega⟩
          · have hke : k = Cs.length := by omega
            have hCC : Cs.length = C.length := by have := congrArg List.length h.fs; simpa using this
            rw [hke, hCC, atF_all U] at hs hfb hmm
            obtain ⟨hP, hin⟩ := HPV.out
            have hbw := below_trans' hb hA
            cases hc : chkAt C a i with
            | none =>
              rw [hc] at hfb
              simp at hfb
              subst hfb
              have HPR := Lib.hid (partR_none (t := t) (n := n) (hP.lack U hin hc))
              clear hs hmm hb hr hP hin hc hke hCC hA hbx h1
              go_wp2
              go_ret2
              rw [HPR.out]
              exact WPart.no rfl hbw
            | some c =>
              have hn := hP.next U hin hc
              have e : ((some c).toList.flatMap fun c => c.xs) = c.xs := by simp
              have hO := outTo_succ C a i
              rw [hc, ← HL0.out] at hO
              rw [hc, e] at hs
              rw [hc] at hfb hmm
              simp at hfb
              simp [atN] at hmm
              subst hfb
              subst hmm
              have HN := Lib.hid (And.intro hn hO)
              clear hn hO hr hP hin hc hke hCC e
              go_wp2
              exact ⟨⟨i + 1, c.n, by omega, by go_num, rfl, HN.out.1, by rw [HN.out.2]; exact hs, hnw, hb⟩, by simp [intOf]; omega⟩
    · have hm0 : m ≠ 0 := fun e => hin (.inl e)
      have hge : ¬ (i : Int) < m := fun e => hin (.inr e)
      have hL := hP.full hm0 hge
      have b1 : (m == 0) = false := by simp [hm0]
      have b2 : decide ((i : Int) < m) = false := decide_eq_false hge
      clear hin hm5 hP
      generalize outTo C a i = L at hs hol hL hnw ⊢
      have HPR := Lib.hid (partR_some (t := t) (n := n) hL)
      have hbw := below_trans' hb hA
      have hLl : L.length ≤ 1000 := by omega
      have e3 : wr.cell? ⟨w.heap.size, 3, none⟩ = some (.int .i64 n) := cell_blk ((hb.block _ hbl).trans hbx) rfl
      obtain ⟨va, vc, rfl⟩ := hs.form
      have hlt := hs.lt
      clear hL hol
      by_cases hc : (L.length : Int) = n
      · have b3 : ((L.length : Int) != n) = false := by simp [hc]
        have HC := Lib.hid (decide_eq_true hc)
        clear hc
        go_wp2
        clear e3
        obtain ⟨wt, rfl⟩ : ∃ wt : World, wt = wr := ⟨_, rfl⟩
        go_loopw [11] (fun v wi => ∃ q : Nat, q ≤ L.length ∧ v = .int .i64 q ∧ Below wt.heap.size wt wi ∧ rowOk t (L.drop q) q = rowOk t L 0) (fun v _ => L.length - (intOf v).toNat)
        case atStart => exact ⟨0, Nat.zero_le _, rfl, Below.refl _ _, by simp⟩
        case round =>
          obtain ⟨q, hq, rfl, hb3, hJ⟩ := hrel
          have hs3 := hs.only (only_of_below hb3 (fun _ => False)) (fun _ _ => id)
          by_cases hqN : q < L.length
          · have hr := (h1.below hb).below hb3
            have k0 := hr.cell (q := 0) (u := .int .i64 t) rfl
            obtain ⟨sb, so, sc, hv, _⟩ := hs3.form' (by omega)
            simp only [Value.slice.injEq] at hv
            obtain ⟨rfl, _, rfl⟩ := hv
            obtain ⟨⟨xt, xq, xs⟩, hx⟩ : ∃ x, L[q]? = some x := ⟨_, List.getElem?_eq_getElem hqN⟩
            have g0 := hs3.elem eSpn_len hx (j := 0) (u := .int .i64 xt) rfl
            have g1 := hs3.elem eSpn_len hx (j := 1) (u := .int .i64 xq) rfl
            rw [← Nat.add_assoc] at g0 g1
            rw [Nat.add_zero] at g0
            rw [rowOk_drop hx] at hJ
            simp only at hJ
            have HJ := Lib.hid hJ
            have HB := Lib.hid (And.intro (below_trans' (below_trans' hb3 hb) hA) hb3)
            have K0 := fun d os => cell_regrown k0 d os
            have G0 := fun d os => cell_regrown g0 d os
            have G1 := fun d os => cell_regrown g1 d os
            clear hJ hx hr hb3 hs3 k0 g0 g1
            by_cases ht : xt = t
            · have bt : (xt != t) = false := by simp [ht]
              by_cases hqq : xq = (q : Int) + 1
              · have bq : (xq != (q : Int) + 1) = false := by simp [hqq]
                have HE := Lib.hid (show rowOk t (L.drop (q + 1)) (q + 1) = rowOk t L 0 by rw [← HJ.out, decide_eq_true ht, decide_eq_true hqq]; rfl)
                clear ht hqq
                go_upto_region 21 with (fail)
                refine wp_region_quiet_below (by kernel_rfl) (by kernel_rfl) ?_
                repeat (first | go_big_quiet_step (fail) | quiet_step (fail))
                refine wpQuiet_nil ?_
                intro w2 hw2
                obtain ⟨p2, rfl⟩ := hw2
                have hbr := below_regrown wr p2.d p2.os
                generalize grow (redrawn wr p2.d) p2.os = w9 at hbr ⊢
                have hb9 := HB.out.2.trans (hbr.mono HB.out.2.size)
                clear K0 G0 G1
                go_wp2
                exact ⟨⟨q + 1, by omega, by go_num, hb9, HE.out⟩, by simp [intOf]; omega⟩
              · have bq : (xq != (q : Int) + 1) = true := by simp [hqq]
                have HE := Lib.hid (show rowOk t L 0 = false by rw [← HJ.out, decide_eq_false hqq]; simp)
                clear ht hqq
                go_upto_region 21 with (fail)
                refine wp_region_quiet_below (by kernel_rfl) (by kernel_rfl) ?_
                repeat (first | go_big_quiet_step (fail) | quiet_step (fail))
                refine wpQuiet_nil ?_
                intro w2 hw2
                obtain ⟨p2, rfl⟩ := hw2
                have hbr := below_regrown wr p2.d p2.os
                generalize grow (redrawn wr p2.d) p2.os = w9 at hbr ⊢
                have hb9 := below_trans' hbr HB.out.1
                clear K0 G0 G1
                go_wp2
                go_ret2
                rw [HPR.out, HE.out]
                exact WPart.no (by simp) hb9
            · have bt : (xt != t) = true := by simp [ht]
              have HE := Lib.hid (show rowOk t L 0 = false by rw [← HJ.out, decide_eq_false ht]; simp)
              clear ht
              go_upto_region 21 with (fail)
              refine wp_region_quiet_below (by kernel_rfl) (by kernel_rfl) ?_
              repeat (first | go_big_quiet_step (fail) | quiet_step (fail))
              refine wpQuiet_nil ?_
              intro w2 hw2
              obtain ⟨p2, rfl⟩ := hw2
              have hbr := below_regrown wr p2.d p2.os
              generalize grow (redrawn wr p2.d) p2.os = w9 at hbr ⊢
              have hb9 := below_trans' hbr HB.out.1
              clear K0 G0 G1
              go_wp2
              go_ret2
              rw [HPR.out, HE.out]
              exact WPart.no (by simp) hb9
          · have hqe : q = L.length := by omega
            subst hqe
            rw [List.drop_length] at hJ
            have HJ := Lib.hid (show rowOk t L 0 = true by rw [← hJ]; simp [rowOk])
            have hbe := below_trans' hb3 hbw
            have hz := hA.size
            clear hJ
            go_wp2
            go_ret2
            rw [HPR.out, HJ.out, HC.out]
            exact ⟨_, rfl, ⟨_, _, _, rfl⟩, fun _ => hs3, fun g hg => ⟨Nat.le_trans hz (hnw g hg), Nat.lt_of_lt_of_le (hlt g hg) hb3.size⟩, hbe⟩
      · have b3 : ((L.length : Int) != n) = true := by simp [hc]
        have HC := Lib.hid (decide_eq_false hc)
        clear hc
        go_wp2
        go_ret2
        rw [HPR.out, HC.out]
        exact WPart.no rfl hbw
end Go.Proofs.Ytcdjeblcmgghhaa.Asm
