/- EvictCoherent: whenever a trace goes, none that stays with buffers, and isn't pinned, is worth less; what is pinned stays as it is; the law answers true for every input. Conditions: the argument can be read. -/
import Derived.Test.YtniggacgkhkgiaaEvCoh1
import Derived.Test.YtniggacgkhkgiaaEvAll
namespace Go.Proofs.Ytniggacgkhkgiaa.Ev
open Go.RowKit Go.Sp Msg Pool Hash

set_option maxRecDepth 100000 in
set_option maxHeartbeats 4000000 in
theorem coh_any {H : Type} {enc : TypeId × Value → H} {base : Nat} {d : DataW H} {ps : List MemPlace} (n s : Int) (v : Value) (w : World) (_ : (Lit.int .i64 n).wf = true) (_ : (Lit.int .u64 s).wf = true)
    (u : Value.okWide Try.prog w .any base 95 v) (kk : DataW.Trod enc Try.prog w 0 (fun _ => true) true 95 v d ps) (z : (d.weights Try.prog 95).all (· ≤ reachBytes) = true) :
    Calls Try.prog 10 #[.int .i64 n, .int .u64 s, v] w fun e w' => e = .returned (.bool true) ∧ Below w.heap.size w w' := by
  obtain ⟨A, eA, hA1, hA16⟩ := addModL 1 n 16 (by omega) (by omega) (by omega) (by omega)
  obtain ⟨os, hos, hoQ, _⟩ := arg_slice (size := 3) (elt := eOpE) (Q := fun o => (Lit.int .i64 o.t).wf = true ∧ o.s.size ≤ 140737488351232) Try.underlying95 (by kernel_rfl) (by omega) (fun m ds h => rd_opE h) u kk z
  have hA : 1 ≤ A ∧ A ≤ 16 := by omega
  clear u kk z hA1 hA16
  have hol := hos.1
  unfold maxLen at hol
  obtain ⟨_, oa, oc, rfl, _⟩ := id hos
  have hmm := @run_makeMap Try.prog
  go_enter Try.func10, Try.ntmps10
  go_upto_region 2 with fail
  rw [eA]
  clear eA
  go_wp2_with fail
  refine (awake_any _).mono ?_
  rintro e w1 ⟨rfl, hb1⟩
  go_wp2_with fail
  refine (fewE_any (hos.only (only_of_below hb1 (fun _ => False)) (fun _ _ => id))).mono ?_
  rintro e w2 ⟨rfl, hb2⟩
  have hw2 := below_trans' hb2 hb1
  clear hb1 hb2
  cases hf : fewE os with
  | false =>
    go_wp2_with fail
    refine (awake_any _).mono ?_
    rintro e w3 ⟨rfl, hb3⟩
    have hw3 := below_trans' hb3 hw2
    go_wp2
    go_ret
    exact ⟨rfl, hw3⟩
  | true =>
    have h200 := fewE_all hf
    clear hf
    go_wp2_with fail
    refine (new_yes w2 s hA.1 hA.2).mono ?_
    rintro e w3 ⟨kb, R0, rfl, hK3, hR3, hb3⟩
    have hS3 : Sk w w3 (fun _ => False) kb (newK A s) := ⟨R0, hK3, fun b hb => ⟨Nat.le_trans hw2.size (hR3 b hb), id⟩, below_trans' hb3 hw2⟩
    clear hK3 hR3 hb3 hw2
    go_wp2
    go_loopw [49] (fun v wr => ∃ (q : Nat) (K : Kp), q ≤ os.length ∧ v = .int .i64 q ∧ Sk w wr (fun _ => False) kb K ∧ Nums K ∧ K.gone.length ≤ q ∧ K.N = A ∧ K.seed = s) (fun v _ => os.length - (intOf v).toNat)
    case atStart => exact ⟨0, newK A s, Nat.zero_le _, rfl, hS3, fun p hp => by simp [newK] at hp, by simp [newK], rfl, rfl⟩
    case round =>
      clear hS3
      obtain ⟨q, K, hq, rfl, hS, hn, hg, hKN, hKs⟩ := hrel
      have hbw := hS.bel
      by_cases hqN : q < os.length
      · obtain ⟨_, a', c', hv, h2⟩ := id (hos.only (only_of_below hbw (fun _ => False)) (fun _ _ => id))
        obtain ⟨ob, oo, ha, hob, hcl⟩ := h2 (by omega)
        simp only [Value.slice.injEq] at hv
        obtain ⟨hv1, hv2, hv3⟩ := hv
        clear hv2 hv3
        rw [ha] at hv1
        subst hv1
        obtain ⟨o, hx⟩ : ∃ x, os[q]? = some x := ⟨_, List.getElem?_eq_getElem hqN⟩
        have hin := hoQ o (List.mem_of_getElem? hx)
        have g0 := hcl q o 0 _ hx rfl
        have g1 := hcl q o 1 _ hx rfl
        have g2 := hcl q o 2 _ hx rfl
        rw [← Nat.add_assoc] at g0 g1 g2
        rw [Nat.add_zero] at g0
        obtain ⟨ok, ot, ostr⟩ := o
        simp only at g0 g1 g2 hin
        have hA4 := below_alloc (Below.refl wr.heap.size wr) (.cells #[.int .i64 ok, .int .i64 ot, .string ostr] 100)
        have hbx4 := heap_new wr (.cells #[.int .i64 ok, .int .i64 ot, .string ostr] 100) rfl
        have hS4 := (hS.turn (X' := fun b => b = wr.heap.size) (fun b hb e => by omega)).step hA4
        have hxw : w.heap.size ≤ wr.heap.size := hbw.size
        have HIN := Lib.hid hin
        have HK := Lib.hid (And.intro hn (And.intro hKN hKs))
        obtain ⟨sd, hsd⟩ : ∃ sd, sd = K.seed := ⟨_, rfl⟩
        clear hcl hx h2 ha hS hA4 hin hbw hKN hKs hn
        go_wp2_with fail
        generalize (wr.alloc (.cells #[.int .i64 ok, .int .i64 ot, .string ostr] 100)) = w4 at hbx4 hS4 ⊢
        generalize wr.heap.size = xb at hbx4 hS4 hxw ⊢
        clear g0 g1 g2 hsd
        refine (hS4.evictedL (by omega)).mono ?_
        rintro e w5 ⟨a5, c5, rfl, _, _, hb5⟩
        have hbx5 := (hb5.block _ (Array.getElem?_eq_some_iff.1 hbx4).1).trans hbx4
        have hS5 := hS4.step hb5
        have hA6 := below_alloc (Below.refl w5.heap.size w5) (.map #[] 0)
        have hM6 : Wm (w5.alloc (.map #[] 0)) (fun b => b = w5.heap.size) w5.heap.size [] :=
          ⟨IMap.made w5 _, fun k v l e => by simp [mget] at e, fun k v l e => by simp [mget] at e, fun k v l k' v' l' _ e => by simp [mget] at e, rfl, fun b hb => by rw [hb]; simp⟩
        have hS6 := (hS5.turn (X' := fun b => b = xb ∨ b = w5.heap.size) (fun b hb e => by
          rcases e with e | e
          · exact e
          · omega)).step hA6
        have hbx6 := (hA6.block _ (Array.getElem?_eq_some_iff.1 hbx5).1).trans hbx5
        have hwx : xb ≠ w5.heap.size := by have := (Array.getElem?_eq_some_iff.1 hbx5).1; omega
        have hww : w.heap.size ≤ w5.heap.size := hS5.bel.size
        have hwz : w5.heap.size < (w5.alloc (.map #[] 0)).heap.size := by simp
        clear hS4 hbx4 hb5 hbx5 hS5 hA6
        go_wp2_with fail
        generalize (w5.alloc (.map #[] 0)) = w6 at hM6 hS6 hbx6 hwz ⊢
        generalize w5.heap.size = wb at hM6 hS6 hwx hww hwz ⊢
        refine (hS6.traces).mono ?_
        rintro e w7 ⟨⟨v7, rfl, hr7, hn7⟩, hb7⟩
        have hS7 := hS6.step hb7
        have hM7 := hM6.below hb7
        have hbx7 := (hb7.block _ (Array.getElem?_eq_some_iff.1 hbx6).1).trans hbx6
        have hv7 : v7.ownBlock ≠ some wb := fun e => by have := hn7 _ e; omega
        have hwz7 : wb < w7.heap.size := Nat.lt_of_lt_of_le hwz hb7.size
        have hk16 := hS7.inv.2.2.2.2.2.2
        obtain ⟨ks, hks⟩ : ∃ ks, ks = K.M.map Prod.fst := ⟨_, rfl⟩
        have hkl : ks.length ≤ 16 := by rw [hks, List.length_map]; exact hk16
        rw [← hks] at hr7
        have HKS := Lib.hid hks
        clear hS6 hM6 hbx6 hwz hb7 hk16 hks hn7 hmm
        obtain ⟨_, a7, c7, rfl, _⟩ := id hr7
        go_wp2
        go_loopw [60] (fun i wy => ∃ (j : Nat) (m : SRows) (R : Nat → Prop), j ≤ ks.length ∧ i = .int .i64 j ∧ Sk w wy (fun b => b = xb ∨ R b) kb K ∧ Wm wy R wb m ∧ (∀ b, R b → b = wb ∨ w7.heap.size ≤ b) ∧ Only (· = wb) w7 wy ∧ PinM K (ks.take j) m) (fun i _ => ks.length - (intOf i).toNat)
        case atStart => exact ⟨0, [], _, Nat.zero_le _, rfl, hS7, hM7, fun b hb => .inl hb, Only.refl _ _, PinM.nil K⟩
        case round =>
          clear hS7 hM7
          obtain ⟨j, m, R, hj, rfl, hS8, hM8, hR8, hO8, hP8⟩ := hrel
          have hr8 := hr7.only hO8 (fun g hg e => hv7 (by rw [hg, e]))
          have hbx8 := hO8.heap hbx7 hwx
          by_cases hjn : j < ks.length
          · obtain ⟨_, a8, c8, hv, h2⟩ := hr8
            obtain ⟨ob8, oo8, ha, hob8, hcl⟩ := h2 (by omega)
            simp only [Value.slice.injEq, true_and] at hv
            obtain ⟨hv1, hv3⟩ := hv
            subst hv3
            rw [ha] at hv1
            subst hv1
            obtain ⟨t, ht⟩ : ∃ x, ks[j]? = some x := ⟨_, List.getElem?_eq_getElem hjn⟩
            have g0 := hcl j t 0 _ ht rfl
            rw [Nat.mul_one, Nat.add_zero] at g0
            have hT : ks.take (j + 1) = ks.take j ++ [t] := by rw [List.take_add_one, ht]; rfl
            have htr : 1 ≤ t ∧ t ≤ 65535 := by
              have hm := List.mem_of_getElem? ht
              rw [HKS.out] at hm
              obtain ⟨p, hp, rfl⟩ := List.mem_map.1 hm
              exact HK.out.1 p hp
            have HT := Lib.hid hT
            have HP := Lib.hid hP8
            have HO := Lib.hid (And.intro hO8 (And.intro hR8 hbx8))
            clear hcl h2 ha ht hT hP8 hO8 hR8 hbx8
            go_wp2_with fail
            refine (hS8.pinned t).mono ?_
            rintro e w9 ⟨rfl, rfl⟩
            clear g0
            cases hpt : hasK K.pins t with
            | false =>
              have HPT := Lib.hid hpt
              clear hpt
              go_wp2
              exact ⟨⟨j + 1, m, R, by omega, by go_num, hS8, hM8, HO.out.2.1, HO.out.1, by rw [HT.out]; exact HP.out.skip HPT.out⟩, by simp [intOf]; omega⟩
            | true =>
              have HPT := Lib.hid hpt
              clear hpt
              go_wp2_with fail
              refine (hS8.spans t).mono ?_
              rintro e w9 ⟨⟨v9, rfl, hs9, hn9⟩, hb9⟩
              have hM9 := hM8.below hb9
              obtain ⟨a9, c9, rfl⟩ := hs9.form
              obtain ⟨w10, hrun, hI, hO⟩ := hM9.mp.update (P := Try.prog) Try.underlying114 Try.underlying3 (k := t) (WalkArith.wf_i64 (by omega)) ((.slice a9 (lgetA t K.M).length c9 : Value), lgetA t K.M)
              dsimp only at hrun
              obtain ⟨hM10, hO10⟩ := hM8.setRow (k := t) (v := .slice none 0 0) (fun g hg => by simp [Value.ownBlock] at hg) (by simp [Value.ownBlock]) (fun k' v' l' _ _ g hg => by simp [Value.ownBlock] at hg) (only_of_below hb9 _) hs9 (by
                cases a9 with
                | none => exact .inl rfl
                | some p => exact .inr ⟨p.block, rfl, hn9 _ rfl⟩) hI hO
              have hS10 := ((hS8.turn (X' := fun b => b = xb ∨ (R b ∨ (Value.slice a9 (lgetA t K.M).length c9).ownBlock = some b)) (fun b hb e => by
                rcases e with e | e | e
                · exact .inl e
                · exact .inr e
                · have := hn9 b e; omega)).step hb9).only hO (fun b hb => ⟨.inr (.inl (by rw [hb]; exact hM8.rw')), by rw [hb]; exact hww⟩)
              have H10 := Lib.hid (And.intro hM10 (And.intro hS10 (And.intro ((HO.out.1.trans (only_of_below hb9 _)).trans hO) (show ∀ b, (R b ∨ (Value.slice a9 (lgetA t K.M).length c9).ownBlock = some b) → b = wb ∨ w7.heap.size ≤ b from fun b hb => by
                rcases hb with hb | hb
                · exact HO.out.2.1 b hb
                · exact .inr (Nat.le_trans HO.out.1.size (hn9 b hb))))))
              clear hM9 hs9 hn9 hb9 hI hO hM10 hO10 hS10 hS8 hM8
              go_wp2
              exact ⟨⟨j + 1, _, _, by omega, by go_num, H10.out.2.1, H10.out.1, H10.out.2.2.2, H10.out.2.2.1, by rw [HT.out]; exact HP.out.put _ HPT.out⟩, by simp [intOf]; omega⟩
          · have hje : j = ks.length := by omega
            subst hje
            rw [List.take_length] at hP8
            have c0 := cell_blk hbx8 (j := 0) (u := .int .i64 ok) rfl
            have c1 := cell_blk hbx8 (j := 1) (u := .int .i64 ot) rfl
            have c2 := cell_blk hbx8 (j := 2) (u := .string ostr) rfl
            have HD := do_any ⟨ok, ot, ostr⟩ hS8 (fun b e => by
              rcases e with e | e
              · rw [e]; exact (Array.getElem?_eq_some_iff.1 hbx8).1
              · exact hM8.rlt b e) HK.out.1 (by omega) HIN.out.1
            obtain ⟨D, hD⟩ : ∃ D, D = doK K ⟨ok, ot, ostr⟩ := ⟨_, rfl⟩
            have hC := do_coh ⟨ok, ot, ostr⟩ HK.out.1
            have hNn := HK.out.1.doK ⟨ok, ot, ostr⟩
            have hGn := gone_do K ⟨ok, ot, ostr⟩
            rw [← hD] at HD hC hNn hGn
            obtain ⟨K', ⟨x1, x2, x3⟩, err⟩ := D
            simp only at HD hC hNn hGn
            obtain ⟨⟨new, hnew, hgok⟩, hpin, hN', hs'⟩ := hC
            have HP := Lib.hid hP8
            have HC := Lib.hid (And.intro hgok (And.intro hpin (And.intro hN' hs')))
            have hwy : w.heap.size ≤ xb := hxw
            have hwxb : ¬ R xb := fun e => by
              rcases hR8 xb e with e | e
              · exact hwx e
              · have := (Array.getElem?_eq_some_iff.1 hbx7).1; omega
            clear hD hP8 hgok hpin hN' hs' hr8 hR8 hO8 hr7 hbx7 hv7 hwz7
            go_wp2_with fail
            refine HD.mono ?_
            rintro e w11 ⟨rfl, hS11, hO11⟩
            have hbx11 := hO11.heap hbx8 (fun e => e.2 (.inl rfl))
            have hM11 := hM8.only hO11 (fun b hb e => e.2 (.inr hb))
            clear HD hS8 hM8 hbx8 hO11 c0 c1 c2
            go_wp2_with fail
            refine (hS11.evictedL (by omega)).mono ?_
            rintro e w12 ⟨a12, c12, rfl, hc12, hr12, hb12⟩
            have hS12 := hS11.step hb12
            have hM12 := hM11.below hb12
            have hbx12 := (hb12.block _ (Array.getElem?_eq_some_iff.1 hbx11).1).trans hbx11
            have hnl : K'.gone.length = K.gone.length + new.length := by rw [hnew, List.length_append]
            obtain ⟨a13, c13, hsl, hr13⟩ := slice_tail hr12 rfl (i := K.gone.length) (by omega) hc12
            have hdr : K'.gone.drop K.gone.length = new := by rw [hnew, List.drop_left]
            rw [hdr] at hr13
            have HNL := Lib.hid hnl
            have hln : K'.gone.length - K.gone.length = new.length := by omega
            rw [hln] at hsl hr13
            have hNL : new.length ≤ 1 := by omega
            clear hS11 hM11 hbx11 hb12 hr12 hdr hnew hnl hln
            go_wp2
            clear hsl
            go_loopw [82] (fun i wy => ∃ p : Nat, p ≤ new.length ∧ i = .int .i64 p ∧ Below w12.heap.size w12 wy) (fun i _ => new.length - (intOf i).toNat)
            case atStart => exact ⟨0, Nat.zero_le _, rfl, Below.refl _ _⟩
            case round =>
              obtain ⟨p, hp, rfl, hb14⟩ := hrel
              have hS14 := hS12.step hb14
              have hM14 := hM12.below hb14
              by_cases hpn : p < new.length
              · obtain ⟨_, a14, c14, hv, h2⟩ := hr13.only (only_of_below hb14 (fun _ => False)) (fun _ _ => id)
                obtain ⟨ob14, oo14, ha, hob14, hcl⟩ := h2 (by omega)
                simp only [Value.slice.injEq, true_and] at hv
                obtain ⟨hv1, hv3⟩ := hv
                subst hv3
                rw [ha] at hv1
                subst hv1
                obtain ⟨g, hgx⟩ : ∃ x, new[p]? = some x := ⟨_, List.getElem?_eq_getElem hpn⟩
                have g0 := hcl p g 0 _ hgx rfl
                rw [Nat.mul_one, Nat.add_zero] at g0
                have hG := HC.out.1 g (List.mem_of_getElem? hgx)
                have hng : mget g m = none := by
                  cases e : mget g m with
                  | none => rfl
                  | some y =>
                    obtain ⟨v, l⟩ := y
                    have := (HP.out.of e).1
                    rw [hG.2.1] at this; cases this
                have hlk := hM14.tells g
                rw [hng] at hlk
                replace hlk : (Instr.lookup 114 (.map (some wb)) (.int .i64 g) true).run Try.prog wr = .ok (.tuple #[.slice none 0 0, .bool false]) wr := hlk
                have HG := Lib.hid hG
                clear hcl h2 ha hgx hng hG hM14
                go_wp2_with fail
                clear hlk g0
                refine (hS14.lost g).mono ?_
                rintro e w15 ⟨rfl, rfl⟩
                rw [HG.out.2.2.1]
                go_wp2_with fail
                refine (hS14.traces).mono ?_
                rintro e w15 ⟨⟨v15, rfl, hr15, hn15⟩, hb15⟩
                have hb15' := below_trans' hb15 hb14
                obtain ⟨k2, hk2⟩ : ∃ k2, k2 = K'.M.map Prod.fst := ⟨_, rfl⟩
                have hk16 := hS14.inv.2.2.2.2.2.2
                have hkl2 : k2.length ≤ 16 := by rw [hk2, List.length_map]; exact hk16
                rw [← hk2] at hr15
                have HK2 := Lib.hid hk2
                clear hk2 hk16 hn15 hb15 hS14 hb14
                obtain ⟨_, a15, c15, rfl, _⟩ := id hr15
                go_wp2
                go_loopw [102] (fun i wy => ∃ x : Nat, x ≤ k2.length ∧ i = .int .i64 x ∧ Below w12.heap.size w12 wy ∧ Below w15.heap.size w15 wy) (fun i _ => k2.length - (intOf i).toNat)
                case atStart => exact ⟨0, Nat.zero_le _, rfl, hb15', Below.refl _ _⟩
                case round =>
                  clear hb15'
                  obtain ⟨x, hx, rfl, hb16, hb17⟩ := hrel
                  by_cases hxn : x < k2.length
                  · have hM16 := hM12.below hb16
                    obtain ⟨_, a16, c16, hv, h2⟩ := hr15.only (only_of_below hb17 (fun _ => False)) (fun _ _ => id)
                    obtain ⟨ob16, oo16, ha, hob16, hcl⟩ := h2 (by omega)
                    simp only [Value.slice.injEq, true_and] at hv
                    obtain ⟨hv1, hv3⟩ := hv
                    subst hv3
                    rw [ha] at hv1
                    subst hv1
                    obtain ⟨t, ht⟩ : ∃ y, k2[x]? = some y := ⟨_, List.getElem?_eq_getElem hxn⟩
                    have g0 := hcl x t 0 _ ht rfl
                    rw [Nat.mul_one, Nat.add_zero] at g0
                    have hlk := hM16.tells t
                    have HT := Lib.hid (List.mem_of_getElem? ht)
                    clear hcl h2 ha ht hM16
                    cases hmt : mget t m with
                    | some y =>
                      obtain ⟨vy, ly⟩ := y
                      rw [hmt] at hlk
                      replace hlk : (Instr.lookup 114 (.map (some wb)) (.int .i64 t) true).run Try.prog wr = .ok (.tuple #[vy, .bool true]) wr := hlk
                      clear hmt
                      go_wp2
                      exact ⟨⟨x + 1, by omega, by go_num, hb16, hb17⟩, by simp [intOf]; omega⟩
                    | none =>
                      rw [hmt] at hlk
                      replace hlk : (Instr.lookup 114 (.map (some wb)) (.int .i64 t) true).run Try.prog wr = .ok (.tuple #[.slice none 0 0, .bool false]) wr := hlk
                      have hp1 : ∃ p ∈ K'.M, p.1 = t := by
                        have h1 := HT.out
                        rw [HK2.out] at h1
                        obtain ⟨p, h2, h3⟩ := List.mem_map.1 h1
                        exact ⟨p, h2, h3⟩
                      have htr : 1 ≤ t ∧ t ≤ 65535 := by
                        obtain ⟨p, h2, rfl⟩ := hp1
                        exact hNn p h2
                      have hgr := HG.out.1
                      have HLS := Lib.hid (show lessP s t g = false from by
                        have h3 : (mget t K'.M).isSome = true := by
                          obtain ⟨p, h2, rfl⟩ := hp1
                          cases e : mget p.1 K'.M with
                          | some _ => rfl
                          | none => exact absurd rfl (mget_none.1 e p h2)
                        rcases HG.out.2.2.2 t h3 with ⟨h4, h5⟩ | h4
                        · refine absurd ⟨h4, ?_⟩ (HP.out.free hmt)
                          rw [HKS.out]
                          obtain ⟨l, hl⟩ := Option.isSome_iff_exists.1 h5
                          exact List.mem_map.2 ⟨_, mget_mem hl, rfl⟩
                        · rw [HK.out.2.2] at h4; exact h4)
                      clear hmt hp1
                      go_wp2_with fail
                      refine (refless_any _ s (by omega) (by omega)).mono ?_
                      rintro e w18 ⟨rfl, hb18⟩
                      rw [HLS.out]
                      have hb19 := below_trans' hb18 hb16
                      have hb20 := below_trans' hb18 hb17
                      clear hlk g0 hb16 hb17 hb18
                      go_wp2
                      exact ⟨⟨x + 1, by omega, by go_num, hb19, hb20⟩, by simp [intOf]; omega⟩
                  · go_wp2
                    exact ⟨⟨p + 1, by omega, by go_num, hb16⟩, by simp [intOf]; omega⟩
              · have hbx14 := (hb14.block _ (Array.getElem?_eq_some_iff.1 hbx12).1).trans hbx12
                have hm14 := hM14.mp
                have hxr : xb ≠ wr.heap.size := by have := (Array.getElem?_eq_some_iff.1 hbx14).1; omega
                have hnR : ¬ R wr.heap.size := fun e => by have := hM14.rlt _ e; omega
                have hS15 := hS14.turn (X' := fun b => (b = xb ∨ R b) ∨ b = wr.heap.size) (fun b hb e => by
                  rcases e with e | e
                  · exact e
                  · omega)
                have hwr : w.heap.size ≤ wr.heap.size := hS14.bel.size
                clear hS14 hS12 hM12 hbx12 hr13
                go_wp2_with (at_range; refine wpList_rangeI rfl _ rfl Try.underlying114 rfl hm14 ?_; intro w20 hr20 hb20 hs20)
                have hS20 := hS15.step hb20
                have hM20 := hM14.below hb20
                have hbx20 := (hb20.block _ (Array.getElem?_eq_some_iff.1 hbx14).1).trans hbx14
                clear hS15 hM14 hbx14 hm14 hb20 hs20 hb14
                generalize wr.heap.size = rb at hr20 hS20 hxr hnR hwr ⊢
                try go_frame
                go_loopw [24, 25] (fun _ _ wz => ∃ S cnt, IRng wz wb rb Prod.fst m S cnt ∧ Sk w wz (fun b => (b = xb ∨ R b) ∨ b = rb) kb K' ∧ Wm wz R wb m ∧ wz.heap[xb]? = some (.cells #[.int .i64 ok, .int .i64 ot, .string ostr] 100 (0, 0))) (fun _ _ wz => wz.rangeLeft wb rb)
                case atStart => exact ⟨_, _, hr20, hS20, hM20, hbx20⟩
                case round =>
                  clear hr20 hS20 hM20 hbx20
                  obtain ⟨S, cnt, hrg, hS21, hM21, hbx21⟩ := hrel
                  go_wp2_with (at_next; refine wpList_nextI rfl _ rfl rfl hrg ?_ ?_)
                  · intro hc hall
                    have hu := hS21.inv.2.2.1
                    rw [HC.out.2.2.1, HK.out.2.1] at hu
                    go_wp2_with fail
                    refine (hS21.used).mono ?_
                    rintro e w22 ⟨rfl, hb22⟩
                    generalize usedM K'.M = U at hu ⊢
                    have b1 : decide ((A : Int) < (U : Int)) = false := decide_eq_false (by omega)
                    have b2 : decide (A < U) = false := decide_eq_false (by omega)
                    go_wp2
                    exact ⟨⟨q + 1, K', by omega, by go_num, (hS21.step hb22).turn (fun b _ hb => hb.elim), hNn, by omega, by rw [HC.out.2.2.1, HK.out.2.1], by rw [HC.out.2.2.2, HK.out.2.2]⟩, by simp [intOf] <;> omega⟩
                  · intro k v l w23 cnt1 hmem hnS hrg1 hlt hO1 hsz1 hen
                    have hget := mget_of_mem hM21.mp.ks hmem
                    have hS23 := hS21.only hO1 (fun b hb => ⟨.inr hb, by rw [hb]; exact hwr⟩)
                    have hM23 := hM21.only hO1 (fun b hb e => hnR (by rw [← e]; exact hb))
                    have hbx23 := hO1.heap hbx21 hxr
                    have c0 := cell_blk hbx23 (j := 0) (u := .int .i64 ok) rfl
                    have HS := Lib.hid (And.intro hrg.left hlt)
                    have HV := Lib.hid hget
                    have HG := Lib.hid (HP.out.of hget)
                    clear hmem hnS hS21 hM21 hbx21 hrg hlt hO1 hsz1 hget
                    by_cases h4 : ok = 4
                    · subst h4
                      go_wp2
                      exact ⟨⟨_, cnt1, hrg1, hS23, hM23, hbx23⟩, by rw [hrg1.left, HS.out.1]; exact HS.out.2⟩
                    · have b4 : (ok != 4) = true := by simp [h4]
                      have H4 := Lib.hid h4
                      clear h4
                      go_wp2_with fail
                      refine (hS23.spans k).mono ?_
                      rintro e w24 ⟨⟨v24, rfl, hs24, hn24⟩, hb24⟩
                      have hS24 := hS23.step hb24
                      have hM24 := hM23.below hb24
                      have hbx24 := (hb24.block _ (Array.getElem?_eq_some_iff.1 hbx23).1).trans hbx23
                      have hrg24 := hrg1.only (only_of_below hb24 (fun _ => False)) id id
                      have hu := SL.rs (enc := eSpn) (fun _ => rfl) hs24
                      have hv := SL.rs (enc := eSpn) (fun _ => rfl) (hM24.sl k v l HV.out)
                      have HE := Lib.hid (show decide (lgetA k K'.M = l) = true by rw [HC.out.2.1 k H4.out HG.out.1, HG.out.2]; simp)
                      clear hS23 hM23 hbx23 hrg1 hs24 hn24 hb24 c0
                      go_wp2_with fail
                      refine (same28_any hu hv).mono ?_
                      rintro e w25 ⟨rfl, n25, rfl⟩
                      rw [HE.out]
                      have hrg25 := hrg24.heap (w' := w24.drewN n25) rfl
                      have hS25 := hS24.only (F := fun _ => False) ((Only.refl _ w24).drewN n25) (fun b hb => hb.elim)
                      have hM25 := hM24.heap (w' := w24.drewN n25) rfl
                      have hbx25 : (w24.drewN n25).heap[xb]? = _ := hbx24
                      clear hrg24 hS24 hM24 hbx24 hu hv
                      generalize w24.drewN n25 = w25 at hrg25 hS25 hM25 hbx25 ⊢
                      go_wp2
                      exact ⟨⟨_, cnt1, hrg25, hS25, hM25, hbx25⟩, by rw [hrg25.left, HS.out.1]; exact HS.out.2⟩
      · go_wp2
        go_ret
        exact ⟨rfl, hbw⟩
end Go.Proofs.Ytniggacgkhkgiaa.Ev
