/- EvictAll: a trace that isn't lost has all spans that were written of it since it was forgotten, in order; the law answers true for every input. Conditions: the argument can be read. UNDER WAY: not whole. -/
import Derived.Test.YtniggacgkhkgiaaEvAll1
import Derived.Test.YtniggacgkhkgiaaEvFull
namespace Go.Proofs.Ytniggacgkhkgiaa.Ev
open Go.RowKit Go.Sp Msg Pool Hash
theorem fewE_all {os : List OpE} (h : fewE os = true) : os.length ≤ 200 := by
  simp only [fewE, Bool.and_eq_true, decide_eq_true_eq] at h
  exact h.2

set_option maxRecDepth 100000 in
set_option maxHeartbeats 4000000 in
theorem all_any {H : Type} {enc : TypeId × Value → H} {base : Nat} {d : DataW H} {ps : List MemPlace} (n s : Int) (v : Value) (w : World) (_ : (Lit.int .i64 n).wf = true) (_ : (Lit.int .u64 s).wf = true)
    (u : Value.okWide Try.prog w .any base 95 v) (kk : DataW.Trod enc Try.prog w 0 (fun _ => true) true 95 v d ps) (z : (d.weights Try.prog 95).all (· ≤ reachBytes) = true) :
    Calls Try.prog 11 #[.int .i64 n, .int .u64 s, v] w fun e w' => e = .returned (.bool true) ∧ Below w.heap.size w w' := by
  obtain ⟨A, eA, hA1, hA16⟩ := addModL 1 n 16 (by omega) (by omega) (by omega) (by omega)
  obtain ⟨os, hos, hoQ, _⟩ := arg_slice (size := 3) (elt := eOpE) (Q := fun o => (Lit.int .i64 o.t).wf = true ∧ o.s.size ≤ 140737488351232) Try.underlying95 (by kernel_rfl) (by omega) (fun m ds h => rd_opE h) u kk z
  have hA : 1 ≤ A ∧ A ≤ 16 := by omega
  clear u kk z hA1 hA16
  have hol := hos.1
  unfold maxLen at hol
  obtain ⟨_, oa, oc, rfl, _⟩ := id hos
  obtain ⟨io, zo, hio, hzo, ho1, ho2, ho3⟩ := info_at (P := Try.prog) (e := 89) (f := (3, 32, 3)) (by kernel_rfl)
  have hmm := @run_makeMap Try.prog
  go_enter Try.func11, Try.ntmps11
  go_upto_region 2 with fail
  rw [eA]
  clear eA
  go_wp2_with fail
  refine (awake_any _).mono ?_
  rintro e w1 ⟨rfl, hb1⟩
  go_wp2_with fail
  refine (fewE_any (hos.only (only_of_below hb1 (fun _ => False)) (fun _ _ => id))).mono ?_
  rintro e w2 ⟨rfl, hb2⟩
  have hw2 := below_trans' hb2 hb1
  clear hb1 hb2
  cases hf : fewE os with
  | false =>
    go_wp2_with fail
    refine (awake_any _).mono ?_
    rintro e w3 ⟨rfl, hb3⟩
    have hw3 := below_trans' hb3 hw2
    go_wp2
    go_ret
    exact ⟨rfl, hw3⟩
  | true =>
    have h200 := fewE_all hf
    clear hf
    go_wp2_with fail
    refine (new_yes w2 s hA.1 hA.2).mono ?_
    rintro e w3 ⟨kb, R0, rfl, hK3, hR3, hb3⟩
    have hw3 := below_trans' hb3 hw2
    have hA4 := below_alloc (Below.refl w3.heap.size w3) (.map #[] 0)
    have hM4 : Wm (w3.alloc (.map #[] 0)) (fun b => b = w3.heap.size) w3.heap.size [] :=
      ⟨IMap.made w3 _, fun k v l e => by simp [mget] at e, fun k v l e => by simp [mget] at e, fun k v l k' v' l' _ e => by simp [mget] at e, rfl, fun b hb => by rw [hb]; simp⟩
    have hS4 : Sk w (w3.alloc (.map #[] 0)) (fun b => b = w3.heap.size) kb (newK A s) := ⟨R0, hK3.below hA4, fun b hb => ⟨Nat.le_trans hw2.size (hR3 b hb), fun e => by have := hK3.lt b hb; omega⟩, below_trans' hA4 hw3⟩
    have hz4 : w.heap.size ≤ w3.heap.size := hw3.size
    clear hK3 hR3 hb3 hw3 hA4 hw2
    go_wp2
    generalize (w3.alloc (.map #[] 0)) = w4 at hM4 hS4 ⊢
    generalize w3.heap.size = wb at hM4 hS4 hz4 ⊢
    clear hmm
    go_loopw [41] (fun v wr => ∃ (q : Nat) (K : Kp) (m : SRows) (R : Nat → Prop), q ≤ os.length ∧ v = .int .i64 q ∧ Sk w wr R kb K ∧ Wm wr R wb m ∧ (∀ b, R b → w.heap.size ≤ b) ∧ Nums K ∧ K.gone.length ≤ q ∧ WrOk K (wS m) ∧ (∀ k v l, mget k m = some (v, l) → l.length ≤ q)) (fun v _ => os.length - (intOf v).toNat)
    case atStart => exact ⟨0, newK A s, [], _, Nat.zero_le _, rfl, hS4, hM4, fun b hb => by rw [hb]; exact hz4, fun p hp => by simp [newK] at hp, by simp [newK], fun t _ => rfl, fun k v l e => by simp [mget] at e⟩
    case round =>
      clear hM4 hS4 hz4
      obtain ⟨q, K, m, R, hq, rfl, hS, hM, hR, hn, hg, hW, hl⟩ := hrel
      have hbw := hS.bel
      by_cases hqN : q < os.length
      · obtain ⟨_, a', c', hv, h2⟩ := id (hos.only (only_of_below hbw (fun _ => False)) (fun _ _ => id))
        obtain ⟨ob, oo, ha, hob, hcl⟩ := h2 (by omega)
        simp only [Value.slice.injEq] at hv
        obtain ⟨hv1, hv2, hv3⟩ := hv
        clear hv2 hv3
        rw [ha] at hv1
        subst hv1
        obtain ⟨o, hx⟩ : ∃ x, os[q]? = some x := ⟨_, List.getElem?_eq_getElem hqN⟩
        have hin := hoQ o (List.mem_of_getElem? hx)
        have g0 := hcl q o 0 _ hx rfl
        have g1 := hcl q o 1 _ hx rfl
        have g2 := hcl q o 2 _ hx rfl
        rw [← Nat.add_assoc] at g0 g1 g2
        rw [Nat.add_zero] at g0
        obtain ⟨ok, ot, ostr⟩ := o
        simp only at g0 g1 g2 hin
        have hA4 := below_alloc (Below.refl wr.heap.size wr) (.cells #[.int .i64 ok, .int .i64 ot, .string ostr] 100)
        have hbx4 := heap_new wr (.cells #[.int .i64 ok, .int .i64 ot, .string ostr] 100) rfl
        have hxz : wr.heap.size < (wr.alloc (.cells #[.int .i64 ok, .int .i64 ot, .string ostr] 100)).heap.size := by simp
        have hS4 := (hS.turn (X' := fun b => R b ∨ b = wr.heap.size) (fun b hb e => by
          rcases e with e | e
          · exact e
          · omega)).step hA4
        have hM4 := hM.below hA4
        have hxR : ¬ R wr.heap.size := fun e => by have := hM.rlt _ e; omega
        have hxw : w.heap.size ≤ wr.heap.size := hbw.size
        have hL := Lib.hid (And.intro hin (And.intro hW hl))
        clear hcl hx h2 ha hS hM hA4 hin hW hl hbw
        go_wp2_with fail
        generalize (wr.alloc (.cells #[.int .i64 ok, .int .i64 ot, .string ostr] 100)) = w4 at hbx4 hxz hS4 hM4 ⊢
        generalize wr.heap.size = xb at hbx4 hxz hS4 hxR hxw ⊢
        refine (hS4.lost ot).mono ?_
        rintro e w' ⟨rfl, rfl⟩
        have c0 := cell_blk hbx4 (j := 0) (u := .int .i64 ok) rfl
        have c1 := cell_blk hbx4 (j := 1) (u := .int .i64 ot) rfl
        have c2 := cell_blk hbx4 (j := 2) (u := .string ostr) rfl
        clear g0 g1 g2
        have HD := do_any ⟨ok, ot, ostr⟩ hS4 (fun b e => by
          rcases e with e | e
          · exact hM4.rlt b e
          · rw [e]; exact hxz) hn (by omega) hL.out.1.1
        obtain ⟨D, hD⟩ : ∃ D, D = doK K ⟨ok, ot, ostr⟩ := ⟨_, rfl⟩
        have HW := Lib.hid (hL.out.2.1.next ⟨ok, ot, ostr⟩)
        have HN := Lib.hid (And.intro (hn.doK ⟨ok, ot, ostr⟩) (gone_do K ⟨ok, ot, ostr⟩))
        have HDD := Lib.hid hD
        rw [← hD] at HD HW HN
        obtain ⟨K', ⟨x1, x2, x3⟩, err⟩ := D
        simp only at HD
        obtain ⟨lo, hlo⟩ : ∃ lo, lo = hasK K.lost ot := ⟨_, rfl⟩
        rw [← hlo]
        have HLO := Lib.hid hlo
        clear hD hlo hn
        go_wp2_with fail
        refine HD.mono ?_
        rintro e w5 ⟨rfl, hS5, hO5⟩
        have hbx5 := hO5.heap hbx4 (fun e => e.2 (.inr rfl))
        have hM5 := hM4.only hO5 (fun b hb e => e.2 (.inl hb))
        have hA6 := below_alloc (Below.refl w5.heap.size w5) (.cells #[.int .i64 x1, .int .i64 x2, .string x3] 89)
        have hby6 := heap_new w5 (.cells #[.int .i64 x1, .int .i64 x2, .string x3] 89) rfl
        have hbx6 := (hA6.block _ (Array.getElem?_eq_some_iff.1 hbx5).1).trans hbx5
        have hM6 := hM5.below hA6
        have hyR : ¬ R w5.heap.size := fun e => by have := hM5.rlt _ e; omega
        have hyx : w5.heap.size ≠ xb := by have := (Array.getElem?_eq_some_iff.1 hbx5).1; omega
        have hS6 := (hS5.turn (X' := fun b => (R b ∨ b = xb) ∨ b = w5.heap.size) (fun b hb e => by
          rcases e with e | e
          · exact e
          · omega)).step hA6
        have hyw : w.heap.size ≤ w5.heap.size := hS5.bel.size
        clear HD hS4 hM4 hbx4 hxz hS5 hO5 hbx5 hM5 hA6 c0 c1 c2
        go_upto_region 13 with (fail)
        generalize (w5.alloc (.cells #[.int .i64 x1, .int .i64 x2, .string x3] 89)) = w6 at hby6 hbx6 hM6 hS6 ⊢
        generalize w5.heap.size = yb at hby6 hyR hyx hS6 hyw ⊢
        have c0 := cell_blk hbx6 (j := 0) (u := .int .i64 ok) rfl
        have c1 := cell_blk hbx6 (j := 1) (u := .int .i64 ot) rfl
        have HX := Lib.hid (And.intro hbx6 (And.intro hby6 hM6.rw'))
        by_cases h1 : ok = 1
        case' pos =>
          by_cases h2 : err = 0
          case' pos =>
            have hlf : lo = false := by
              rw [HLO.out]
              cases hk : hasK K.lost ot with
              | false => rfl
              | true =>
                exfalso
                have e1 := write_lost (s := ostr) hk
                have e2 : doK K ⟨1, ot, ostr⟩ = writeK K ot ostr := by unfold doK; rw [if_pos rfl]
                rw [← e2, ← h1, ← HDD.out] at e1
                exact e1 h2
            have HK := Lib.hid (And.intro h1 h2)
            clear HLO
            subst h1 h2 hlf
            have d0 := cell_blk hby6 (j := 0) (u := .int .i64 x1) rfl
            have d1 := cell_blk hby6 (j := 1) (u := .int .i64 x2) rfl
            have d2 := cell_blk hby6 (j := 2) (u := .string x3) rfl
            obtain ⟨v0, l0, hl, hs0, hv0, hl0, hv0m, hv0d⟩ := hM6.look ot
            obtain ⟨va, vc, rfl⟩ := hs0.form
            have hle0 : l0.length ≤ q := by rw [hl0]; exact Wm.len hL.out.2.2 ot
            have HL0 := Lib.hid hl0
            clear hl0
            go_upto_region 16 with (fail)
            have hsD := hs0.drew
            have hMD := hM6.heap (w' := w6.drew) rfl
            have e1 := hl w6.drew hMD.mp
            have e2 := hl ((w6.alloc (.cells #[.int .i64 x1, .int .i64 x2, .string x3] 89)).drew) (hMD.below (below_alloc (Below.refl w6.drew.heap.size w6.drew) _)).mp
            have q1 : w6.drew.cell? ⟨xb, 1, none⟩ = some (.int .i64 ot) ∧ w6.drew.cell? ⟨yb, 0, none⟩ = some (.int .i64 x1) ∧ w6.drew.cell? ⟨yb, 1, none⟩ = some (.int .i64 x2) ∧ w6.drew.cell? ⟨yb, 2, none⟩ = some (.string x3) := ⟨c1, d0, d1, d2⟩
            have hwt := hL.out.1.1
            clear c0 c1 d0 d1 d2 hl
            go_region_held3 (fun w' => w'.cell? ⟨xb, 1, none⟩ = some (.int .i64 ot) ∧ w'.cell? ⟨yb, 0, none⟩ = some (.int .i64 x1) ∧ w'.cell? ⟨yb, 1, none⟩ = some (.int .i64 x2) ∧ w'.cell? ⟨yb, 2, none⟩ = some (.string x3)) (first | exact q1 | exact ⟨cell_alloc q1.1 _, cell_alloc q1.2.1 _, cell_alloc q1.2.2.1 _, cell_alloc q1.2.2.2 _⟩ | exact q8 | exact q9)
              ( (refine step_appd (v := .slice va l0.length vc) (n := l0.length) (m := 1) (c := 1) (news := eSpn (x1, x2, x3)) rfl _ _ _ rfl Try.underlying35 hio hzo ho1 ho2 ho3 rfl (by first | exact hsD | exact hsD.alloc _) (by omega) rfl rfl (cells_new _ _ _ rfl) (by simp [Value.oneCell', eSpn]) (by unfold maxLen; omega) (by omega) rfl ?_
                 intro b8 o8 c8 w8 hs8 ho8 hv8
                 have hO8 : Only (fun g => (Value.slice va l0.length vc).ownBlock = some g) w6.drew w8 := (only_of_below (below_alloc (Below.refl _ w6.drew) _) _).trans ho8
                 have hs8' : SL w8.heap 89 3 (.slice (some ⟨b8, o8, none⟩) (l0.length + 1) c8) (l0 ++ [(x1, x2, x3)]).length ((l0 ++ [(x1, x2, x3)]).flatMap eSpn) := by
                   rw [List.length_append, List.flatMap_append]; exact hs8
                 obtain ⟨w9, hrun9, hI9, hO9⟩ := (hMD.mp.only hO8 hv0m).update (P := Try.prog) Try.underlying114 Try.underlying3 (k := ot) hwt ((.slice (some ⟨b8, o8, none⟩) (l0.length + 1) c8 : Value), l0 ++ [(x1, x2, x3)])
                 have hbx8 := hO8.heap (show w6.drew.heap[xb]? = _ from HX.out.1) (fun e => hxR (hv0 _ e))
                 have hby8 := hO8.heap (show w6.drew.heap[yb]? = _ from HX.out.2.1) (fun e => hyR (hv0 _ e))
                 have hbx9 := hO9.heap hbx8 (fun e => hxR (by rw [e]; exact HX.out.2.2))
                 have hby9 := hO9.heap hby8 (fun e => hyR (by rw [e]; exact HX.out.2.2))
                 have q8 : w8.cell? ⟨xb, 1, none⟩ = some (.int .i64 ot) ∧ w8.cell? ⟨yb, 0, none⟩ = some (.int .i64 x1) ∧ w8.cell? ⟨yb, 1, none⟩ = some (.int .i64 x2) ∧ w8.cell? ⟨yb, 2, none⟩ = some (.string x3) := ⟨cell_blk hbx8 rfl, cell_blk hby8 rfl, cell_blk hby8 rfl, cell_blk hby8 rfl⟩
                 have q9 : w9.cell? ⟨xb, 1, none⟩ = some (.int .i64 ot) ∧ w9.cell? ⟨yb, 0, none⟩ = some (.int .i64 x1) ∧ w9.cell? ⟨yb, 1, none⟩ = some (.int .i64 x2) ∧ w9.cell? ⟨yb, 2, none⟩ = some (.string x3) := ⟨cell_blk hbx9 rfl, cell_blk hby9 rfl, cell_blk hby9 rfl, cell_blk hby9 rfl⟩))
            all_goals (
              have hnw : ∀ g, (Value.slice (some ⟨b8, o8, none⟩) (l0.length + 1) c8).ownBlock = some g → R g ∨ w6.heap.size ≤ g := fun g hg => by
                simp [Value.ownBlock] at hg
                subst hg
                rcases hv8 with e | e
                · exact .inl (hv0 _ e)
                · exact .inr (by rw [e]; simp)
              obtain ⟨hM7, hO7⟩ := hMD.setRow (k := ot) hv0 hv0m hv0d hO8 hs8' (by
                rcases hv8 with e | e
                · exact .inl (by rw [e]; rfl)
                · exact .inr ⟨b8, rfl, by rw [e]; simp⟩) hI9 hO9
              have hS7 := ((hS6.turn (X' := fun b => R b ∨ (Value.slice (some ⟨b8, o8, none⟩) (l0.length + 1) c8).ownBlock = some b) (fun b hb e => by
                rcases e with e | e
                · exact .inl (.inl e)
                · rcases hnw b e with e | e
                  · exact .inl (.inl e)
                  · omega)).step ((Below.refl _ w6).drew)).only hO7 (fun b hb => ⟨.inl hb, hR b hb⟩)
              have hR7 : ∀ b, (R b ∨ (Value.slice (some ⟨b8, o8, none⟩) (l0.length + 1) c8).ownBlock = some b) → w.heap.size ≤ b := fun b hb => by
                rcases hb with hb | hb
                · exact hR b hb
                · rcases hnw b hb with hb | hb
                  · exact hR b hb
                  · exact Nat.le_trans hS6.bel.size hb
              have HF := Lib.hid (show WrOk K' (wS (mput ot ((.slice (some ⟨b8, o8, none⟩) (l0.length + 1) c8 : Value), l0 ++ [(x1, x2, x3)]) m)) ∧ ∀ k v l, mget k (mput ot ((.slice (some ⟨b8, o8, none⟩) (l0.length + 1) c8 : Value), l0 ++ [(x1, x2, x3)]) m) = some (v, l) → l.length ≤ q + 1 from ⟨by
                  have e1 : wS (mput ot ((.slice (some ⟨b8, o8, none⟩) (l0.length + 1) c8 : Value), l0 ++ [(x1, x2, x3)]) m) = wrNext (wS m) ⟨1, ot, ostr⟩ (x1, x2, x3) 0 := by
                    rw [wS, mmap_mput _ _ _ hM6.mp.ks, HL0.out]; rfl
                  rw [e1]; exact HW.out, fun k v l e => by
                  rw [mget_mput] at e
                  split at e
                  · cases e; simp; exact hle0
                  · exact Nat.le_succ_of_le (hL.out.2.2 k v l e)⟩)
              have c0 : w9.cell? ⟨xb, 0, none⟩ = some (.int .i64 1) := cell_blk hbx9 rfl
              clear hMD hO8 hs8' hs8 ho8 hv8 hI9 hO9 hrun9 hbx8 hby8 hbx9 hby9 q1 q8 q9 hsD e1 e2 hS6 hM6 hbx6 hby6 hnw hv0 hv0m hv0d hs0 hO7
              generalize hm7 : mput ot ((.slice (some ⟨b8, o8, none⟩) (l0.length + 1) c8 : Value), l0 ++ [(x1, x2, x3)]) m = m7 at hM7 HF ⊢
              obtain ⟨R7, hR7e⟩ : ∃ R7 : Nat → Prop, R7 = (fun b => R b ∨ (Value.slice (some ⟨b8, o8, none⟩) (l0.length + 1) c8).ownBlock = some b) := ⟨_, rfl⟩
              rw [← hR7e] at hM7 hS7
              have hR7' : ∀ b, R7 b → w.heap.size ≤ b := fun b hb => hR7 b (by rw [hR7e] at hb; exact hb)
              clear hR7e hR7 hm7
              go_upto_region 19 with (fail)
              generalize w9 = w7 at hM7 hS7 ⊢)
          case' neg =>
            have b2 : (err == 0) = false := by simp [h2]
            have HF := Lib.hid (show WrOk K' (wS m) ∧ ∀ k v l, mget k m = some (v, l) → l.length ≤ q + 1 from ⟨by
                have e1 : wS m = wrNext (wS m) ⟨ok, ot, ostr⟩ (x1, x2, x3) err := by
                  unfold wrNext; rw [decide_eq_false h2, h1]; rfl
                rw [e1]; exact HW.out, fun k v l e => Nat.le_succ_of_le (hL.out.2.2 k v l e)⟩)
            have hS7 := hS6.turn (X' := R) (fun b hb e => .inl (.inl e))
            have hM7 := hM6
            have hR7' := hR
            have HK := Lib.hid h1
            clear hS6 hM6 h2 hbx6 hby6
            subst h1
            cases lo
            all_goals (
              clear HLO
              go_upto_region 19 with (fail)
              generalize w6 = w7 at hM7 hS7 ⊢
              generalize hm7 : m = m7 at hM7 HF ⊢
              generalize hR7e : R = R7 at hM7 hS7 hR7' ⊢)
        case' neg =>
          have b1 : (ok == 1) = false := by simp [h1]
          by_cases h4 : ok = 4
          case' pos =>
            subst h4
            have HF := Lib.hid (show WrOk K' (wS (mdel ot m)) ∧ ∀ k v l, mget k (mdel ot m) = some (v, l) → l.length ≤ q + 1 from ⟨by
                have e1 : wS (mdel ot m) = wrNext (wS m) ⟨4, ot, ostr⟩ (x1, x2, x3) err := by
                  rw [wS, mmap_mdel _ _ hM6.mp.ks]; rfl
                rw [e1]; exact HW.out, fun k v l e => by
                rw [mget_mdel] at e
                split at e
                · cases e
                · exact Nat.le_succ_of_le (hL.out.2.2 k v l e)⟩)
            have hR7' := hR
            have HK := Lib.hid (And.intro hM6 hS6)
            have hm6 := hM6.mp
            clear hS6 hM6 h1 hbx6 hby6
            go_wp2_with (at_delete; refine halt ?_)
            refine Halt.go ?_
            refine wpList_dele (enc := Prod.fst) rfl _ _ _ _ rfl Try.underlying114 Try.underlying3 rfl rfl (by exact hm6) ?_
            rintro w7 hI7 hO7
            obtain ⟨hM7, hO7r⟩ := HK.out.1.del ot hI7 hO7
            have hS7 := (HK.out.2.turn (X' := R) (fun b hb e => .inl (.inl e))).only hO7r (fun b hb => ⟨hb, hR b hb⟩)
            clear hI7 hO7 hO7r HK hm6 c0 c1
            go_upto_region 19 with (fail)
            generalize hm7 : mdel ot m = m7 at hM7 HF ⊢
            generalize hR7e : R = R7 at hM7 hS7 hR7' ⊢
          case' neg =>
            have b4 : (ok == 4) = false := by simp [h4]
            have HF := Lib.hid (show WrOk K' (wS m) ∧ ∀ k v l, mget k m = some (v, l) → l.length ≤ q + 1 from ⟨by
                have e1 : wS m = wrNext (wS m) ⟨ok, ot, ostr⟩ (x1, x2, x3) err := by
                  unfold wrNext; rw [decide_eq_false h1, decide_eq_false h4]; rfl
                rw [e1]; exact HW.out, fun k v l e => Nat.le_succ_of_le (hL.out.2.2 k v l e)⟩)
            have hS7 := hS6.turn (X' := R) (fun b hb e => .inl (.inl e))
            have hM7 := hM6
            have hR7' := hR
            clear hS6 hM6 h1 h4 hbx6 hby6
            go_upto_region 19 with (fail)
            generalize w6 = w7 at hM7 hS7 ⊢
            generalize hm7 : m = m7 at hM7 HF ⊢
            generalize hR7e : R = R7 at hM7 hS7 hR7' ⊢
        all_goals (
          have hn' := HN.out.1
          have hg' : K'.gone.length ≤ q + 1 := Nat.le_trans HN.out.2 (by omega)
          have HQ := Lib.hid (And.intro hqN (And.intro hn' hg'))
          have hS8 := hS7.turn (X' := fun b => R7 b ∨ b = w7.heap.size) (fun b hb e => by
            rcases e with e | e
            · exact e
            · omega)
          have hw8 : w.heap.size ≤ w7.heap.size := hS7.bel.size
          have hnR : ¬ R7 w7.heap.size := fun e => by have := hM7.rlt _ e; omega
          have hm7 := hM7.mp
          clear hn' hg' HN HW HDD hS7
          go_wp2_with (at_range; refine wpList_rangeI rfl _ rfl Try.underlying114 rfl hm7 ?_; intro w8 hr8 hb8 hs8)
          have hM9 := hM7.below hb8
          have hS9 := hS8.step hb8
          clear hm7 hM7 hS8 hb8 hs8
          generalize w7.heap.size = rb at hr8 hM9 hS9 hw8 hnR ⊢
          try go_frame
          go_loopw [15, 16] (fun _ _ wr => ∃ S cnt, IRng wr wb rb Prod.fst m7 S cnt ∧ Sk w wr (fun b => R7 b ∨ b = rb) kb K' ∧ Wm wr R7 wb m7) (fun _ _ wr => wr.rangeLeft wb rb)
          case atStart => exact ⟨_, _, hr8, hS9, hM9⟩
          case round =>
            clear hr8 hM9 hS9
            obtain ⟨S, cnt, hrg, hS9, hM9⟩ := hrel
            go_wp2_with (at_next; refine wpList_nextI rfl _ rfl rfl hrg ?_ ?_)
            · intro hc hall
              go_wp2
              exact ⟨⟨q + 1, K', m7, R7, by have := HQ.out.1; omega, by have := HQ.out.1; go_num, hS9.turn (fun b _ hb => .inl hb), hM9, hR7', HQ.out.2.1, HQ.out.2.2, HF.out.1, HF.out.2⟩, by have := HQ.out.1; simp [intOf] <;> omega⟩
            · intro k v l w10 cnt1 hmem hnS hrg1 hlt hO1 hsz1 hen
              have hget := mget_of_mem hM9.mp.ks hmem
              have hS10 := hS9.only hO1 (fun b hb => ⟨.inr hb, by rw [hb]; exact hw8⟩)
              have hM10 := hM9.only hO1 (fun b hb e => hnR (by rw [← e]; exact hb))
              have hlen : l.length ≤ 201 := Nat.le_trans (HF.out.2 k v l hget) (by omega)
              have HG := Lib.hid (show lgetA k (wS m7) = l by rw [lgetA, mget_mmap, hget]; rfl)
              have HS := Lib.hid (And.intro hrg.left hlt)
              have HV := Lib.hid hget
              clear hmem hnS hS9 hM9 hrg hlt hO1 hsz1
              go_wp2_with fail
              refine (hS10.lost k).mono ?_
              rintro e w11 ⟨rfl, rfl⟩
              cases hlk : hasK K'.lost k with
              | true =>
                clear hlk
                go_wp2
                exact ⟨⟨_, cnt1, hrg1, hS10, hM10⟩, by rw [hrg1.left, HS.out.1]; exact HS.out.2⟩
              | false =>
                have HLK := Lib.hid hlk
                clear hlk
                go_wp2_with fail
                refine (hS10.spans k).mono ?_
                rintro e w12 ⟨⟨v12, rfl, hs12, hn12⟩, hb12⟩
                have hS12 := hS10.step hb12
                have hM12 := hM10.below hb12
                have hrg12 := hrg1.only (only_of_below hb12 (fun _ => False)) id id
                have hl48 := hS12.inv.2.2.2.1 k
                have hu := SL.rs (enc := eSpn) (fun _ => rfl) hs12
                have hv := SL.rs (enc := eSpn) (fun _ => rfl) (hM12.sl k v l HV.out)
                have HE := Lib.hid (show decide (lgetA k K'.M = l) = true by rw [HF.out.1 k HLK.out, HG.out]; simp)
                clear hS10 hM10 hrg1 hs12 hn12 hb12 hl48
                go_wp2_with fail
                refine (same28_any hu hv).mono ?_
                rintro e w13 ⟨rfl, n13, rfl⟩
                rw [HE.out]
                have hrg13 := hrg12.heap (w' := w12.drewN n13) rfl
                have hS13 := hS12.only (F := fun _ => False) ((Only.refl _ w12).drewN n13) (fun b hb => hb.elim)
                have hM13 := hM12.heap (w' := w12.drewN n13) rfl
                clear hrg12 hS12 hM12 hu hv
                generalize w12.drewN n13 = w13 at hrg13 hS13 hM13 ⊢
                go_wp2
                exact ⟨⟨_, cnt1, hrg13, hS13, hM13⟩, by rw [hrg13.left, HS.out.1]; exact HS.out.2⟩)
      · go_wp2
        go_ret
        exact ⟨rfl, hbw⟩
end Go.Proofs.Ytniggacgkhkgiaa.Ev
