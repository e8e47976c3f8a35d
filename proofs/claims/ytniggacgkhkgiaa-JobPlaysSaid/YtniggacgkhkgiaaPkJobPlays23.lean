/- JobPlays: in every order of messages how far a job is, whom it visits, and what is still to be said, is the document's; the law answers true for every input. Conditions: the arguments can be read. -/
import Derived.Test.YtniggacgkhkgiaaPkJobPlays21
import Derived.Test.YtniggacgkhkgiaaPkJobPlays22
import Derived.Test.YtniggacgkhkgiaaRows
import Derived.WalkKit
import Derived.ProofKit
import Derived.OpenShut
import Derived.ShutString
import Derived.ChangeOld
import Derived.Below
import Derived.SizedLaws
namespace Go.Proofs.Ytniggacgkhkgiaa.Job
open Go.RowKit Go.Sp Msg Go.Sort

theorem keepc {w w' : World} {a : Addr} {u : Value} (hb : Below w.heap.size w w') (h : w.cell? a = some u) : w'.cell? a = some u := by
  rw [hb.cell (World.block_lt_of_cell? _ _ h)]; exact h
theorem likeTrig (w : World) (a t c : Int) : Calls Try.prog 19 #[.iface 23 (.agg #[.int .i64 a, .int .i64 t, .int .i64 c])] w fun e w' => e = .returned (.agg #[.int .i64 1, .int .i64 a, .int .i64 t, .int .i64 0, .int .i64 c, .int .i64 0, .int .i64 0, .int .i64 0, .int .i64 0, .int .i64 0, .int .i64 0, .slice none 0 0, .bool false, .slice none 0 0, .slice none 0 0]) ∧ Below w.heap.size w w' :=
  (like_trig w a t c).mono fun e w' ⟨h1, h2⟩ => ⟨h1, h2⟩
section
variable {w0 w w' w1 : World} {jb rb sb pb fb : Nat} {J : Jb} {r : Rs}
theorem Pair.man {pv : Value} {ps : List Pt} (h : Pair w0 w jb rb sb pb fb J r) (hp : PtsNew w1 w pv ps (partsJ J)) : Calls Try.prog 19 #[.iface 62 (.agg #[.int .i64 J.tr, .int .i64 J.id, .int .i64 J.cl, pv])] w fun e w7 => ∃ u1 z1, e = .returned (.agg #[.int .i64 7, .int .i64 0, .int .i64 J.tr, .int .i64 J.id, .int .i64 J.cl, .int .i64 0, .int .i64 0, .int .i64 0, .int .i64 0, .int .i64 0, .int .i64 0, .slice none 0 0, .bool false, .slice u1 ps.length z1, .slice none 0 0]) ∧
      LikeIn w7 (.slice u1 ps.length z1) (.mani J.tr J.id J.cl pv ps) ∧ Below w.heap.size w w7 := by
  have hl : ps.length ≤ 1000000 := by
    have h1 := congrArg List.length hp.st
    have h2 := keys_len h.rel.ks h.rel.rg (by omega)
    have h4 := h.rj.l4
    simp [partsJ] at h1
    omega
  refine (like_any (m := .mani J.tr J.id J.cl pv ps) hp.pts hl).mono ?_
  rintro e w7 ⟨pv7, rfl, hl7, _, hb7⟩
  have hl' : SL w7.heap 33 6 pv7 ps.length (ps.flatMap ePt) ∧ ∀ p ∈ ps, RS w7 1 eInt p.cv p.cl := hl7
  obtain ⟨u1, z1, rfl⟩ := hl'.1.form
  exact ⟨u1, z1, rfl, hl7, hb7⟩
theorem Pair.man2 {pv : Value} {ps : List Pt} {u1 : Option Addr} {z1 : Nat} (h : Pair w0 w jb rb sb pb fb J r) (hf : J.full = true) (hp : PtsNew w1 w pv ps (partsJ J)) (hl : LikeIn w (.slice u1 ps.length z1) (.mani J.tr J.id J.cl pv ps)) :
    Calls Try.prog 33 #[.pointer (some ⟨rb, 0, none⟩)] w fun e w' => ∃ u2 z2, e = .returned (.agg #[.int .i64 7, .int .i64 0, .int .i64 J.tr, .int .i64 J.id, .int .i64 J.cl, .int .i64 0, .int .i64 0, .int .i64 0, .int .i64 0, .int .i64 0, .int .i64 0, .slice none 0 0, .bool false, .slice u2 ps.length z2, .slice none 0 0]) ∧ Below w.heap.size w w' ∧
      Calls Try.prog 31 #[.agg #[.int .i64 7, .int .i64 0, .int .i64 J.tr, .int .i64 J.id, .int .i64 J.cl, .int .i64 0, .int .i64 0, .int .i64 0, .int .i64 0, .int .i64 0, .int .i64 0, .slice none 0 0, .bool false, .slice u1 ps.length z1, .slice none 0 0], .agg #[.int .i64 7, .int .i64 0, .int .i64 J.tr, .int .i64 J.id, .int .i64 J.cl, .int .i64 0, .int .i64 0, .int .i64 0, .int .i64 0, .int .i64 0, .int .i64 0, .slice none 0 0, .bool false, .slice u2 ps.length z2, .slice none 0 0]] w' fun e w'' => e = .returned (.bool true) ∧ Below w'.heap.size w' w'' := by
  refine (rMani_any h.rj h.pf).mono ?_
  rintro e w' ⟨pv2, rfl, hs, hn, hb⟩
  obtain ⟨u2, z2, rfl, hpo⟩ := pairOut_man (a := 0) (h.step hb) hf (hp.below hb) hs
  have hln : ps.length = (visPts r r.st.length).length := by
    have h1 := congrArg List.length (hp.st.trans (h.rel.parts h.inv hf).symm)
    simpa using h1
  have hl8 : LikeIn w' (.slice u1 ps.length z1) (.mani J.tr J.id J.cl pv ps) := hl.below hb
  obtain ⟨u3, z3, qs3, e3, h1, h2, h3, h4⟩ := hpo.lk _ _ hl8
  simp only [likeM, Ms.mk.injEq] at e3
  obtain ⟨_, _, _, _, _, _, _, _, e4, _⟩ := e3
  rw [← hln] at hpo h1 h2 e4 ⊢
  rw [← e4] at h1
  exact ⟨u2, z2, by rw [h.rel.tr, h.rel.id, h.rel.cl], hb, hpo.same (Below.refl _ _) h1 h2 h3 h4⟩
end
theorem fewJ_all {os : List OpJ} (h : fewJ os = true) : os.length ≤ 200 ∧ ∀ o ∈ os, o.cs.length ≤ 20 := by
  simp only [fewJ, Bool.and_eq_true, decide_eq_true_eq, List.all_eq_true] at h
  refine ⟨h.2, fun o ho => ?_⟩
  have := h.1 o ho
  simp only [fewJO, Bool.and_eq_true, decide_eq_true_eq] at this
  omega

set_option maxRecDepth 100000 in
set_option maxHeartbeats 4000000 in
theorem plays_any {H : Type} {enc : TypeId × Value → H} {base : Nat} {d1 d2 : DataW H} {ps1 ps2 : List MemPlace} (id_ ag : Int) (v1 v2 : Value) (w : World) (_ : (Lit.int .i64 id_).wf = true) (_ : (Lit.int .i64 ag).wf = true)
    (u1 : Value.okWide Try.prog w .any base 23 v1) (k1 : DataW.Trod enc Try.prog w 0 (fun _ => true) true 23 v1 d1 ps1) (z1 : (d1.weights Try.prog 23).all (· ≤ reachBytes) = true)
    (u2 : Value.okWide Try.prog w .any base 24 v2) (k2 : DataW.Trod enc Try.prog w 0 (fun _ => true) true 24 v2 d2 ps2) (z2 : (d2.weights Try.prog 24).all (· ≤ reachBytes) = true) :
    Calls Try.prog 3 #[.int .i64 id_, .int .i64 ag, v1, v2] w fun e w' => e = .returned (.bool true) ∧ Below w.heap.size w w' := by
  obtain ⟨ta, tt, tc, rfl⟩ := arg_trig u1 k1 z1
  obtain ⟨os, hos, hoQ, _⟩ := arg_slice (size := 6) (elt := eOpJ) (Q := fun o => RS w 1 eInt o.cv o.cs) Try.underlying24 (by kernel_rfl) (by omega) (fun m ds h => rd_opJ h) u2 k2 z2
  clear u1 k1 z1 u2 k2 z2
  have hol := hos.1
  unfold maxLen at hol
  obtain ⟨_, oa, oc, rfl, _⟩ := id hos
  go_enter Try.func3, Try.ntmps3
  go_wp2_with fail
  have hT := below_alloc (Below.refl w.heap.size w) (.cells #[.int .i64 ta, .int .i64 tt, .int .i64 tc] 23)
  have hbt := heap_new w (.cells #[.int .i64 ta, .int .i64 tt, .int .i64 tc] 23) rfl
  generalize (w.alloc (.cells #[.int .i64 ta, .int .i64 tt, .int .i64 tc] 23)) = w0 at hT hbt ⊢
  refine (awake_any _).mono ?_
  rintro e w1 ⟨rfl, hb1⟩
  have hbt1 := (hb1.block _ (Array.getElem?_eq_some_iff.1 hbt).1).trans hbt
  have hw1 := below_trans' hb1 hT
  clear hT hbt hb1
  go_wp2_with fail
  refine (fewJ_any (hos.only (only_of_below hw1 (fun _ => False)) (fun _ _ => id)) (fun o ho => (hoQ o ho).only (only_of_below hw1 (fun _ => False)) (fun _ _ => id))).mono ?_
  rintro e w2 ⟨rfl, hb2⟩
  have hbt2 := (hb2.block _ (Array.getElem?_eq_some_iff.1 hbt1).1).trans hbt1
  have hw2 := below_trans' hb2 hw1
  clear hbt1 hw1 hb2
  cases hf : fewJ os with
  | false =>
    go_wp2_with fail
    refine (awake_any _).mono ?_
    rintro e w3 ⟨rfl, hb3⟩
    have hw3 := below_trans' hb3 hw2
    clear hbt2
    go_wp2
    go_ret
    exact ⟨rfl, hw3⟩
  | true =>
    obtain ⟨hos200, hcs20⟩ := fewJ_all hf
    clear hf
    have c0 := cell_blk hbt2 (j := 0) (u := .int .i64 ta) rfl
    have c1 := cell_blk hbt2 (j := 1) (u := .int .i64 tt) rfl
    have c2 := cell_blk hbt2 (j := 2) (u := .int .i64 tc) rfl
    cases hn : newOk id_ ag ta tt tc with
    | false =>
      have hN := Lib.hid hn
      clear hn hbt2
      go_wp2_with fail
      refine (new_no _ id_ ag ta tt tc hN.out).mono ?_
      rintro e w3 ⟨rfl, hb3⟩
      have d0 := keepc hb3 c0
      have d1 := keepc hb3 c1
      have d2 := keepc hb3 c2
      have hw3 := below_trans' hb3 hw2
      clear c0 c1 c2 hb3 hw2
      go_wp2_with fail
      refine (likeTrig _ ta tt tc).mono ?_
      rintro e w4 ⟨rfl, hb4⟩
      have hw4 := below_trans' hb4 hw3
      clear d0 d1 d2 hb4 hw3
      go_wp2_with fail
      refine (new13_no _ hN.out).mono ?_
      rintro e w5 ⟨rfl, hb5⟩
      have hw5 := below_trans' hb5 hw4
      clear hb5 hw4
      go_wp2
      go_ret
      exact ⟨rfl, hw5⟩
    | true =>
      obtain ⟨A, rfl⟩ : ∃ A : Nat, ag = A := ⟨ag.toNat, by have := newOk_iff.1 hn; omega⟩
      have hN := Lib.hid hn
      clear hn hbt2
      go_wp2_with fail
      refine (new_yes _ id_ A ta tt tc hN.out).mono ?_
      rintro e w3 ⟨jb, R, rfl, hJ3, hR3, hb3⟩
      have d0 := keepc hb3 c0
      have d1 := keepc hb3 c1
      have d2 := keepc hb3 c2
      have hw3 := below_trans' hb3 hw2
      clear c0 c1 c2 hb3
      go_wp2_with fail
      refine (likeTrig _ ta tt tc).mono ?_
      rintro e w4 ⟨rfl, hb4⟩
      have hw4 := below_trans' hb4 hw3
      clear d0 d1 d2
      go_wp2_with fail
      refine (new13_yes _ hN.out).mono ?_
      rintro e w5 ⟨rb, rfl, ⟨sb, pb, fb, hR5, hro⟩, hb5⟩
      have hP : Pair w w5 jb rb sb pb fb (newJ id_ A ta tt tc) (newR id_ A ta tt tc) := by
        have hok := newOk_iff.1 hN.out
        have h0 : 0 ≤ ta := by
          have h1 := hok.1
          simp only [rightM, Bool.and_eq_true, wi, decide_eq_true_eq] at h1
          omega
        refine ⟨⟨R, (hJ3.below hb4).below hb5, fun b hb => ⟨Nat.le_trans hw2.size (hR3 b hb), fun e => ?_⟩, below_trans' hb5 hw4⟩, hR5, fun b hb => Nat.le_trans hw4.size (hro b hb), fun p hp => ?_, rel_new (by omega) h0 (by omega), inv_new _ _ _ _ _⟩
        · have := hJ3.lt b hb
          have := hro b e
          have := hb4.size
          omega
        · simp only [newR, List.mem_replicate] at hp
          rw [hp.2]
          exact RS.nil _ _ _
      generalize newJ id_ A ta tt tc = J at hP
      generalize newR id_ A ta tt tc = r at hP
      clear hJ3 hR3 hR5 hro hb5 hb4 hw4 hw3 hw2 hN
      go_wp2
      go_loopw [52] (fun v wr => ∃ (q : Nat) (J : Jb) (r : Rs), q ≤ os.length ∧ v = .int .i64 q ∧ Pair w wr jb rb sb pb fb J r) (fun v _ => os.length - (intOf v).toNat)
      case atStart => exact ⟨0, J, r, Nat.zero_le _, rfl, hP⟩
      case round =>
        clear hP
        clear J r
        obtain ⟨q, J, r, hq, rfl, hP⟩ := hrel
        obtain ⟨wo, hwo⟩ : ∃ wo : World, wo = wr := ⟨_, rfl⟩
        subst hwo
        have hbw := hP.bel
        by_cases hqN : q < os.length
        · obtain ⟨_, a', c', hv, h2⟩ := id (hos.only (only_of_below hbw (fun _ => False)) (fun _ _ => id))
          obtain ⟨ob, oo, ha, hob, hcl⟩ := h2 (by omega)
          simp only [Value.slice.injEq] at hv
          obtain ⟨hv1, hv2, hv3⟩ := hv
          clear hv2 hv3
          rw [ha] at hv1
          subst hv1
          obtain ⟨o, hx⟩ : ∃ x, os[q]? = some x := ⟨_, List.getElem?_eq_getElem hqN⟩
          have hin := hoQ o (List.mem_of_getElem? hx)
          have hcs := hcs20 o (List.mem_of_getElem? hx)
          have g0 := hcl q o 0 _ hx rfl
          have g1 := hcl q o 1 _ hx rfl
          have g2 := hcl q o 2 _ hx rfl
          have g3 := hcl q o 3 _ hx rfl
          have g4 := hcl q o 4 _ hx rfl
          have g5 := hcl q o 5 _ hx rfl
          rw [← Nat.add_assoc] at g0 g1 g2 g3 g4 g5
          rw [Nat.add_zero] at g0
          obtain ⟨ok, oA, oT, oJ, ocv, ocs, ol⟩ := o
          simp only at g0 g1 g2 g3 g4 g5 hcs hin
          obtain ⟨_, ca, cc, hv1, _⟩ := id hin
          subst hv1
          have hA4 := below_alloc (Below.refl wo.heap.size wo) (.cells #[.int .i64 ok, .int .i64 oA, .int .i64 oT, .int .i64 oJ, .slice ca ocs.length cc, .bool ol] 40)
          have HP := Lib.hid (And.intro hP (And.intro hbw hin))
          clear hcl hx h2 ha hP hbw hin
          go_wp2_with fail
          generalize (wo.alloc (.cells #[.int .i64 ok, .int .i64 oA, .int .i64 oT, .int .i64 oJ, .slice ca ocs.length cc, .bool ol] 40)) = W4 at hA4 ⊢
          refine (messageJ3_any W4 (o := ⟨ok, oA, oT, oJ, .slice ca ocs.length cc, ocs, ol⟩) (HP.out.2.2.only (only_of_below (below_trans' hA4 HP.out.2.1) (fun _ => False)) (fun _ _ => id))).mono ?_
          rintro e w5 ⟨m, rfl, hmo, him, hsm, hnew, hb5⟩
          obtain ⟨hP, hbw, hin⟩ := HP.out
          have hB5 := below_trans' hb5 hA4
          obtain ⟨hba, him6⟩ := msgJ_facts (w := w) (wr := wo) (w5 := w5) (K := fun b => Rown rb sb pb fb b ∨ (wo.heap.size ≤ b ∧ b < w5.heap.size)) hmo hin him (fun t j c pv ps e g hg => Nat.le_trans hA4.size (hnew t j c pv ps e g hg)) (fun b h1 h2 => .inr ⟨h1, h2⟩)
          have HH := hP.hear1 hB5 him hsm him6
          clear HP hmo hnew hb5 hA4 hin hP hbw g0 g1 g2 g3 g4 g5 him6 him hB5
          go_wp2_with fail
          refine HH.mono ?_
          rintro e w6 ⟨rfl, hH6, him6⟩
          clear HH
          go_wp2_with fail
          refine (like_any him6 hsm).mono ?_
          rintro e w7 ⟨pv7, rfl, hl7, hpn7, hb7⟩
          obtain ⟨pv8, hlk, hl8, hf8, hpn8⟩ := like_form hl7
          rw [hlk]
          have HH := (hH6.step hb7).hear2 hl8 hf8 hba
          clear hl7 hlk hl8 hf8 hba hH6 him6 hsm hb7 hpn7 hpn8
          go_wp2_with fail
          refine HH.mono ?_
          rintro e w8 ⟨rfl, hP8⟩
          clear HH
          generalize hearJ J m = J at hP8
          generalize rHear r m = r at hP8
          go_wp2_with fail
          refine (rOuts_any hP8.rj hP8.pf).mono ?_
          rintro e w9 ⟨vt, vm, hd, pv, lp, rfl, hOq, hHd⟩
          have hP9 := hP8.step hOq.bel
          obtain ⟨L, hL⟩ : ∃ L, L = hd ++ outR r r.st.length := ⟨_, rfl⟩
          rw [← hL] at hOq
          have hto := hOq.to
          have hms := hOq.ms
          have hpp := hOq.pp
          obtain ⟨n, hn⟩ : ∃ n, n = L.length := ⟨_, rfl⟩
          rw [← hn] at hto hms
          obtain ⟨ta1, tz, rfl⟩ := hto.form
          obtain ⟨ma1, mz, rfl⟩ := hms.form
          have HN := Lib.hid (And.intro hn hL)
          clear hP8 hOq hn hL
          go_wp2_with fail
          refine (hP9.sj.outs).mono ?_
          rintro e w10 ⟨⟨vg, outs, rfl, hOn⟩, hb10, hS10⟩
          have hP10 := hP9.step hb10
          obtain ⟨ga1, gz, rfl⟩ := hOn.sl.form
          have hpp10 := hpp.only (only_of_below hb10 (fun _ => False)) (fun _ _ => id)
          replace hto := hto.only (only_of_below hb10 (fun _ => False)) (fun _ _ => id)
          replace hms := hms.only (only_of_below hb10 (fun _ => False)) (fun _ _ => id)
          have hsl := hOn.sl
          obtain ⟨hlen, hl5, hpo⟩ := hP10.outs hOn hpp10 hHd
          rw [← HN.out.2, ← HN.out.1] at hlen
          rw [← HN.out.2] at hpo
          rw [hlen] at hsl hl5 ⊢
          have HO := Lib.hid hpo
          replace HN := Lib.hid hlen
          clear hHd hb10 hS10 hP9 hOn hpp hpp10 hlen hpo
          go_wp2_with fail
          have hP11 := hP10.step (Below.refl w10.heap.size w10).drew
          have hB11 := (Below.refl w10.heap.size w10).drew
          have q0 : w10.drew.cell? ⟨rb, 3, none⟩ = some (.int .i64 J.ph) := by rw [← hP10.rel.ph]; exact hP10.rj.cell (q := 3) rfl
          have q1 : w10.drew.cell? ⟨rb, 1, none⟩ = some (.int .i64 J.tr) := by rw [← hP10.rel.tr]; exact hP10.rj.cell (q := 1) rfl
          have q2 : w10.drew.cell? ⟨rb, 8, none⟩ = some (.bool J.kept) := by rw [← hP10.rel.kept]; exact hP10.rj.cell (q := 8) rfl
          have b1 : ((n : Int) != (n : Int)) = false := by simp
          have b2 : (J.ph != J.ph) = false := by simp
          have b3 : (J.tr != J.tr) = false := by simp
          have b4 : (J.kept != J.kept) = false := by simp
          have HM := Lib.hid (And.intro hto (And.intro hms (And.intro hsl hP10)))
          clear hto hms hsl hP10
          go_region_held3 (fun w' => w'.cell? ⟨rb, 3, none⟩ = some (.int .i64 J.ph) ∧ w'.cell? ⟨rb, 1, none⟩ = some (.int .i64 J.tr) ∧ w'.cell? ⟨rb, 8, none⟩ = some (.bool J.kept)) (first | exact ⟨q0, q1, q2⟩ | exact ⟨r0, r1, r2⟩ | exact ⟨s0, s1, s2⟩ | exact ⟨t0, t1, t2⟩)
            (first
            | (go_at_call 25
               refine (hP11.sj.phase).mono ?_
               rintro e w' ⟨rfl, rfl⟩)
            | (go_at_call 26
               refine (hP11.sj.trace).mono ?_
               rintro e w' ⟨rfl, rfl⟩)
            | (go_at_call 28
               refine (hP11.sj.visited).mono ?_
               rintro e w12 ⟨⟨v12, rfl, hr12, hn12⟩, hb12, hS12⟩
               have hP12 := hP11.step hb12
               have r0 := keepc hb12 q0
               have r1 := keepc hb12 q1
               have r2 := keepc hb12 q2)
            | (go_at_call 29
               refine (rVisited_any hP12.rj).mono ?_
               rintro e w13 ⟨v13, rfl, hr13, hn13, hb13⟩
               have hP13 := hP12.step hb13
               rw [hP13.rel.visited] at hr13
               have hr12' := hr12.only (only_of_below hb13 (fun _ => False)) (fun _ _ => id)
               have s0 := keepc hb13 r0
               have s1 := keepc hb13 r1
               have s2 := keepc hb13 r2)
            | (go_at_call 27
               refine (sameInts_any hr12' hr13).mono ?_
               rintro e w14 ⟨rfl, q14, rfl⟩
               rw [decide_eq_true rfl]
               have hb14 := belowN (Below.refl w13.heap.size w13) q14
               have hP14 := hP13.step hb14
               have t0 := keepc hb14 s0
               have t1 := keepc hb14 s1
               have t2 := keepc hb14 s2)
            | (go_at_call 30
               refine (hP14.sj.stored).mono ?_
               rintro e w' ⟨rfl, rfl⟩))
          have hB14 := below_trans' hb14 (below_trans' hb13 (below_trans' hb12 hB11))
          generalize w13.drewN q14 = w14 at hP14 hB14 ⊢
          clear hP11 hB11 hr12 hr12' hr13 hn12 hn13 hb12 hb13 hb14 hS12 hP12 hP13 q0 q1 q2 r0 r1 r2 s0 s1 s2 t0 t1 t2 b1 b2 b3 b4
          obtain ⟨hto, hms, hsl, hP10⟩ := HM.out
          clear HM hP10
          go_wp2_with fail
          go_loopw [114] (fun v wr => ∃ p : Nat, p ≤ n ∧ v = .int .i64 p ∧ Below w14.heap.size w14 wr) (fun v _ => n - (intOf v).toNat)
          case atStart => exact ⟨0, Nat.zero_le _, rfl, Below.refl _ _⟩
          case round =>
            obtain ⟨p, hp, rfl, hbp⟩ := hrel
            have hP15 := hP14.step hbp
            by_cases hpn : p < n
            · go_wp2_with fail
              have hbr := below_trans' hbp hB14
              obtain ⟨x, hx⟩ : ∃ x, outs[p]? = some x := ⟨_, List.getElem?_eq_getElem (by rw [HN.out]; exact hpn)⟩
              obtain ⟨y, hy, k, t, j, c, u, z, m, qs, hpo⟩ := HO.out p x hx
              have hpo2 := hpo.step hbr.drew
              have hey := hpo.eq
              subst hey
              obtain ⟨xa, xg⟩ := x
              obtain ⟨gb, gf, gc, eg, _⟩ := hsl.form' (by omega)
              obtain ⟨tb, tf, tcp, et, _⟩ := hto.form' (by omega)
              obtain ⟨mb, mf, mc, em, _⟩ := hms.form' (by omega)
              simp only [Value.slice.injEq] at eg et em
              obtain ⟨rfl, _, rfl⟩ := eg
              obtain ⟨rfl, _, rfl⟩ := et
              obtain ⟨rfl, _, rfl⟩ := em
              have hg := (hsl.only (only_of_below hbr (fun _ => False)) (fun _ _ => id))
              have ht := (hto.only (only_of_below hbr (fun _ => False)) (fun _ _ => id))
              have hm := (hms.only (only_of_below hbr (fun _ => False)) (fun _ _ => id))
              have ga := hg.elem (enc := eOut) eOut_len hx (j := 0) (u := .int .i64 xa) rfl
              have gm := hg.elem (enc := eOut) eOut_len hx (j := 1) (u := val xg) rfl
              have tb0 : wr.cell? ⟨tb, tf + p, none⟩ = some (.int .i64 xa) := ht.cell (j := p) (u := .int .i64 xa) (by rw [List.getElem?_map, List.getElem?_map, hy]; rfl)
              have o0 := hm.elem (enc := fun y : Int × Ms => eMs y.2) (fun _ => rfl) hy (j := 0) (u := .int .i64 k) rfl
              have o1 := hm.elem (enc := fun y : Int × Ms => eMs y.2) (fun _ => rfl) hy (j := 1) (u := .int .i64 0) rfl
              have o2 := hm.elem (enc := fun y : Int × Ms => eMs y.2) (fun _ => rfl) hy (j := 2) (u := .int .i64 t) rfl
              have o3 := hm.elem (enc := fun y : Int × Ms => eMs y.2) (fun _ => rfl) hy (j := 3) (u := .int .i64 j) rfl
              have o4 := hm.elem (enc := fun y : Int × Ms => eMs y.2) (fun _ => rfl) hy (j := 4) (u := .int .i64 c) rfl
              have o5 := hm.elem (enc := fun y : Int × Ms => eMs y.2) (fun _ => rfl) hy (j := 5) (u := .int .i64 0) rfl
              have o6 := hm.elem (enc := fun y : Int × Ms => eMs y.2) (fun _ => rfl) hy (j := 6) (u := .int .i64 0) rfl
              have o7 := hm.elem (enc := fun y : Int × Ms => eMs y.2) (fun _ => rfl) hy (j := 7) (u := .int .i64 0) rfl
              have o8 := hm.elem (enc := fun y : Int × Ms => eMs y.2) (fun _ => rfl) hy (j := 8) (u := .int .i64 0) rfl
              have o9 := hm.elem (enc := fun y : Int × Ms => eMs y.2) (fun _ => rfl) hy (j := 9) (u := .int .i64 0) rfl
              have o10 := hm.elem (enc := fun y : Int × Ms => eMs y.2) (fun _ => rfl) hy (j := 10) (u := .int .i64 0) rfl
              have o11 := hm.elem (enc := fun y : Int × Ms => eMs y.2) (fun _ => rfl) hy (j := 11) (u := .slice none 0 0) rfl
              have o12 := hm.elem (enc := fun y : Int × Ms => eMs y.2) (fun _ => rfl) hy (j := 12) (u := .bool false) rfl
              have o13 := hm.elem (enc := fun y : Int × Ms => eMs y.2) (fun _ => rfl) hy (j := 13) (u := .slice u m z) rfl
              have o14 := hm.elem (enc := fun y : Int × Ms => eMs y.2) (fun _ => rfl) hy (j := 14) (u := .slice none 0 0) rfl
              rw [← Nat.add_assoc] at ga gm o0 o1 o2 o3 o4 o5 o6 o7 o8 o9 o10 o11 o12 o13 o14
              rw [Nat.add_zero] at ga o0
              have k0 : wr.drew.cell? ⟨gb, gf + p * 2, none⟩ = some (.int .i64 xa) ∧ wr.drew.cell? ⟨tb, tf + p, none⟩ = some (.int .i64 xa) ∧ wr.drew.cell? ⟨gb, gf + p * 2 + 1, none⟩ = some (val xg) ∧ wr.drew.cell? ⟨mb, mf + p * 15, none⟩ = some (.int .i64 k) ∧ wr.drew.cell? ⟨mb, mf + p * 15 + 1, none⟩ = some (.int .i64 0) ∧ wr.drew.cell? ⟨mb, mf + p * 15 + 2, none⟩ = some (.int .i64 t) ∧ wr.drew.cell? ⟨mb, mf + p * 15 + 3, none⟩ = some (.int .i64 j) ∧ wr.drew.cell? ⟨mb, mf + p * 15 + 4, none⟩ = some (.int .i64 c) ∧ wr.drew.cell? ⟨mb, mf + p * 15 + 5, none⟩ = some (.int .i64 0) ∧ wr.drew.cell? ⟨mb, mf + p * 15 + 6, none⟩ = some (.int .i64 0) ∧ wr.drew.cell? ⟨mb, mf + p * 15 + 7, none⟩ = some (.int .i64 0) ∧ wr.drew.cell? ⟨mb, mf + p * 15 + 8, none⟩ = some (.int .i64 0) ∧ wr.drew.cell? ⟨mb, mf + p * 15 + 9, none⟩ = some (.int .i64 0) ∧ wr.drew.cell? ⟨mb, mf + p * 15 + 10, none⟩ = some (.int .i64 0) ∧ wr.drew.cell? ⟨mb, mf + p * 15 + 11, none⟩ = some (.slice none 0 0) ∧ wr.drew.cell? ⟨mb, mf + p * 15 + 12, none⟩ = some (.bool false) ∧ wr.drew.cell? ⟨mb, mf + p * 15 + 13, none⟩ = some (.slice u m z) ∧ wr.drew.cell? ⟨mb, mf + p * 15 + 14, none⟩ = some (.slice none 0 0) := ⟨ga, tb0, gm, o0, o1, o2, o3, o4, o5, o6, o7, o8, o9, o10, o11, o12, o13, o14⟩
              have b1 : (xa != xa) = false := by simp
              have hbp' := hbp.drew
              have HL := Lib.hid (And.intro hto (And.intro hms hsl))
              clear hpo hx hy hg ht hm hto hms hsl hbr hP15 ga tb0 gm o0 o1 o2 o3 o4 o5 o6 o7 o8 o9 o10 o11 o12 o13 o14
              go_region_held3 (fun w' => w'.cell? ⟨gb, gf + p * 2, none⟩ = some (.int .i64 xa) ∧ w'.cell? ⟨tb, tf + p, none⟩ = some (.int .i64 xa) ∧ w'.cell? ⟨gb, gf + p * 2 + 1, none⟩ = some (val xg) ∧ w'.cell? ⟨mb, mf + p * 15, none⟩ = some (.int .i64 k) ∧ w'.cell? ⟨mb, mf + p * 15 + 1, none⟩ = some (.int .i64 0) ∧ w'.cell? ⟨mb, mf + p * 15 + 2, none⟩ = some (.int .i64 t) ∧ w'.cell? ⟨mb, mf + p * 15 + 3, none⟩ = some (.int .i64 j) ∧ w'.cell? ⟨mb, mf + p * 15 + 4, none⟩ = some (.int .i64 c) ∧ w'.cell? ⟨mb, mf + p * 15 + 5, none⟩ = some (.int .i64 0) ∧ w'.cell? ⟨mb, mf + p * 15 + 6, none⟩ = some (.int .i64 0) ∧ w'.cell? ⟨mb, mf + p * 15 + 7, none⟩ = some (.int .i64 0) ∧ w'.cell? ⟨mb, mf + p * 15 + 8, none⟩ = some (.int .i64 0) ∧ w'.cell? ⟨mb, mf + p * 15 + 9, none⟩ = some (.int .i64 0) ∧ w'.cell? ⟨mb, mf + p * 15 + 10, none⟩ = some (.int .i64 0) ∧ w'.cell? ⟨mb, mf + p * 15 + 11, none⟩ = some (.slice none 0 0) ∧ w'.cell? ⟨mb, mf + p * 15 + 12, none⟩ = some (.bool false) ∧ w'.cell? ⟨mb, mf + p * 15 + 13, none⟩ = some (.slice u m z) ∧ w'.cell? ⟨mb, mf + p * 15 + 14, none⟩ = some (.slice none 0 0)) (first | exact k0 | exact k7 | exact k8)
                (first
                | (go_at_call 19
                   refine (hpo2.like (Below.refl _ _)).mono ?_
                   rintro e w7 ⟨u7, z7, qs7, rfl, h71, h72, h73, h74, hb7⟩
                   have k7 : w7.cell? ⟨gb, gf + p * 2, none⟩ = some (.int .i64 xa) ∧ w7.cell? ⟨tb, tf + p, none⟩ = some (.int .i64 xa) ∧ w7.cell? ⟨gb, gf + p * 2 + 1, none⟩ = some (val xg) ∧ w7.cell? ⟨mb, mf + p * 15, none⟩ = some (.int .i64 k) ∧ w7.cell? ⟨mb, mf + p * 15 + 1, none⟩ = some (.int .i64 0) ∧ w7.cell? ⟨mb, mf + p * 15 + 2, none⟩ = some (.int .i64 t) ∧ w7.cell? ⟨mb, mf + p * 15 + 3, none⟩ = some (.int .i64 j) ∧ w7.cell? ⟨mb, mf + p * 15 + 4, none⟩ = some (.int .i64 c) ∧ w7.cell? ⟨mb, mf + p * 15 + 5, none⟩ = some (.int .i64 0) ∧ w7.cell? ⟨mb, mf + p * 15 + 6, none⟩ = some (.int .i64 0) ∧ w7.cell? ⟨mb, mf + p * 15 + 7, none⟩ = some (.int .i64 0) ∧ w7.cell? ⟨mb, mf + p * 15 + 8, none⟩ = some (.int .i64 0) ∧ w7.cell? ⟨mb, mf + p * 15 + 9, none⟩ = some (.int .i64 0) ∧ w7.cell? ⟨mb, mf + p * 15 + 10, none⟩ = some (.int .i64 0) ∧ w7.cell? ⟨mb, mf + p * 15 + 11, none⟩ = some (.slice none 0 0) ∧ w7.cell? ⟨mb, mf + p * 15 + 12, none⟩ = some (.bool false) ∧ w7.cell? ⟨mb, mf + p * 15 + 13, none⟩ = some (.slice u m z) ∧ w7.cell? ⟨mb, mf + p * 15 + 14, none⟩ = some (.slice none 0 0) := ⟨keepc hb7 k0.1, keepc hb7 k0.2.1, keepc hb7 k0.2.2.1, keepc hb7 k0.2.2.2.1, keepc hb7 k0.2.2.2.2.1, keepc hb7 k0.2.2.2.2.2.1, keepc hb7 k0.2.2.2.2.2.2.1, keepc hb7 k0.2.2.2.2.2.2.2.1, keepc hb7 k0.2.2.2.2.2.2.2.2.1, keepc hb7 k0.2.2.2.2.2.2.2.2.2.1, keepc hb7 k0.2.2.2.2.2.2.2.2.2.2.1, keepc hb7 k0.2.2.2.2.2.2.2.2.2.2.2.1, keepc hb7 k0.2.2.2.2.2.2.2.2.2.2.2.2.1, keepc hb7 k0.2.2.2.2.2.2.2.2.2.2.2.2.2.1, keepc hb7 k0.2.2.2.2.2.2.2.2.2.2.2.2.2.2.1, keepc hb7 k0.2.2.2.2.2.2.2.2.2.2.2.2.2.2.2.1, keepc hb7 k0.2.2.2.2.2.2.2.2.2.2.2.2.2.2.2.2.1, keepc hb7 k0.2.2.2.2.2.2.2.2.2.2.2.2.2.2.2.2.2⟩)
                | (go_at_call 31
                   refine (hpo2.same hb7 h71 h72 h73 h74).mono ?_
                   rintro e w8 ⟨rfl, hb8⟩
                   have k8 : w8.cell? ⟨gb, gf + p * 2, none⟩ = some (.int .i64 xa) ∧ w8.cell? ⟨tb, tf + p, none⟩ = some (.int .i64 xa) ∧ w8.cell? ⟨gb, gf + p * 2 + 1, none⟩ = some (val xg) ∧ w8.cell? ⟨mb, mf + p * 15, none⟩ = some (.int .i64 k) ∧ w8.cell? ⟨mb, mf + p * 15 + 1, none⟩ = some (.int .i64 0) ∧ w8.cell? ⟨mb, mf + p * 15 + 2, none⟩ = some (.int .i64 t) ∧ w8.cell? ⟨mb, mf + p * 15 + 3, none⟩ = some (.int .i64 j) ∧ w8.cell? ⟨mb, mf + p * 15 + 4, none⟩ = some (.int .i64 c) ∧ w8.cell? ⟨mb, mf + p * 15 + 5, none⟩ = some (.int .i64 0) ∧ w8.cell? ⟨mb, mf + p * 15 + 6, none⟩ = some (.int .i64 0) ∧ w8.cell? ⟨mb, mf + p * 15 + 7, none⟩ = some (.int .i64 0) ∧ w8.cell? ⟨mb, mf + p * 15 + 8, none⟩ = some (.int .i64 0) ∧ w8.cell? ⟨mb, mf + p * 15 + 9, none⟩ = some (.int .i64 0) ∧ w8.cell? ⟨mb, mf + p * 15 + 10, none⟩ = some (.int .i64 0) ∧ w8.cell? ⟨mb, mf + p * 15 + 11, none⟩ = some (.slice none 0 0) ∧ w8.cell? ⟨mb, mf + p * 15 + 12, none⟩ = some (.bool false) ∧ w8.cell? ⟨mb, mf + p * 15 + 13, none⟩ = some (.slice u m z) ∧ w8.cell? ⟨mb, mf + p * 15 + 14, none⟩ = some (.slice none 0 0) := ⟨keepc hb8 k7.1, keepc hb8 k7.2.1, keepc hb8 k7.2.2.1, keepc hb8 k7.2.2.2.1, keepc hb8 k7.2.2.2.2.1, keepc hb8 k7.2.2.2.2.2.1, keepc hb8 k7.2.2.2.2.2.2.1, keepc hb8 k7.2.2.2.2.2.2.2.1, keepc hb8 k7.2.2.2.2.2.2.2.2.1, keepc hb8 k7.2.2.2.2.2.2.2.2.2.1, keepc hb8 k7.2.2.2.2.2.2.2.2.2.2.1, keepc hb8 k7.2.2.2.2.2.2.2.2.2.2.2.1, keepc hb8 k7.2.2.2.2.2.2.2.2.2.2.2.2.1, keepc hb8 k7.2.2.2.2.2.2.2.2.2.2.2.2.2.1, keepc hb8 k7.2.2.2.2.2.2.2.2.2.2.2.2.2.2.1, keepc hb8 k7.2.2.2.2.2.2.2.2.2.2.2.2.2.2.2.1, keepc hb8 k7.2.2.2.2.2.2.2.2.2.2.2.2.2.2.2.2.1, keepc hb8 k7.2.2.2.2.2.2.2.2.2.2.2.2.2.2.2.2.2⟩))
              have hbf := below_trans' hb8 (below_trans' hb7 hbp')
              obtain ⟨hto, hms, hsl⟩ := HL.out
              clear k0 k7 k8 hb7 hb8 hbp' h71 h72 h73 h74 hpo2 b1 HL
              go_wp2
              exact ⟨⟨p + 1, by omega, by go_num, hbf⟩, by simp [intOf]; omega⟩
            · clear hto hms hsl HO HN hP14 hB14
              go_wp2_with fail
              have hJR := hP15.sj
              obtain ⟨R15, h15, _⟩ := hJR
              refine (mani_any h15).mono ?_
              rintro e w16 ⟨⟨xt, xi, xc, pa, pn, pc, rfl, hman⟩, hb16⟩
              have hP16 := hP15.step hb16
              have hA17 := below_alloc (Below.refl w16.heap.size w16) (.cells #[.int .i64 xt, .int .i64 xi, .int .i64 xc, .slice pa pn pc] 62)
              have hbx := heap_new w16 (.cells #[.int .i64 xt, .int .i64 xi, .int .i64 xc, .slice pa pn pc] 62) rfl
              have hP17 := hP16.step hA17
              have e7 := hP17.rj.cell (q := 7) (u := .bool r.full) rfl
              rw [hP17.rel.full] at e7
              have hz17 : w16.heap.size < (w16.alloc (.cells #[.int .i64 xt, .int .i64 xi, .int .i64 xc, .slice pa pn pc] 62)).heap.size := by simp
              clear hP15 h15 hb16 hbp
              cases hfl : J.full with
              | false =>
                rw [hfl] at e7
                clear hman hfl hA17 hbx hP16
                go_upto_region 24 with (fail)
                generalize (w16.alloc (.cells #[.int .i64 xt, .int .i64 xi, .int .i64 xc, .slice pa pn pc] 62)) = W17 at e7 hP17 hz17 ⊢
                go_wp2
                exact ⟨⟨q + 1, J, r, by omega, by go_num, hP17⟩, by simp [intOf]; omega⟩
              | true =>
                obtain ⟨rfl, rfl, rfl, ps, hpt⟩ := hman hfl
                have hpt17 := hpt.below hA17
                rw [hfl] at e7
                have HF := Lib.hid hfl
                clear hman hfl hP16 hpt hA17
                go_upto_region 24 with (fail)
                generalize (w16.alloc (.cells #[.int .i64 J.tr, .int .i64 J.id, .int .i64 J.cl, .slice pa pn pc] 62)) = W17 at e7 hP17 hbx hpt17 hz17 ⊢
                have x0 : W17.cell? ⟨w16.heap.size, 0, none⟩ = some (.int .i64 J.tr) := cell_blk hbx rfl
                have x1 : W17.cell? ⟨w16.heap.size, 1, none⟩ = some (.int .i64 J.id) := cell_blk hbx rfl
                have x2 : W17.cell? ⟨w16.heap.size, 2, none⟩ = some (.int .i64 J.cl) := cell_blk hbx rfl
                have x3 : W17.cell? ⟨w16.heap.size, 3, none⟩ = some (.slice pa pn pc) := cell_blk hbx rfl
                clear hbx
                go_wp2_with fail
                refine (hP17.man hpt17).mono ?_
                rintro e w18 ⟨u18, z18, rfl, hl18, hb18⟩
                have hP18 := hP17.step hb18
                have hpt18 := hpt17.below hb18
                clear hP17 hpt17 hb18 x0 x1 x2 x3 e7
                go_wp2_with fail
                refine (hP18.man2 HF.out hpt18 hl18).mono ?_
                rintro e w19 ⟨u19, z19, rfl, hb19, hSame⟩
                have hP19 := hP18.step hb19
                clear hP18 hpt18 hl18 hb19
                go_wp2_with fail
                refine hSame.mono ?_
                rintro e w20 ⟨rfl, hb20⟩
                have hP20 := hP19.step hb20
                clear hP19 hb20 hSame
                go_wp2
                exact ⟨⟨q + 1, J, r, by omega, by go_num, hP20⟩, by simp [intOf]; omega⟩
        · go_wp2
          go_ret
          exact ⟨rfl, hbw⟩
end Go.Proofs.Ytniggacgkhkgiaa.Job
/- The row of the law JobPlays: for every input it answers true, and the input reads as it did. No condition beyond the row's own. PRINTED BY wip/row.py out of the walk Job.plays_any. -/
namespace Go.Proofs.Ytniggacgkhkgiaa.jobPlaysRow
open Go.ChangeShapes Go.WideShapes Go.ChangeAt Go.RowKit
open Go.ChangeMaps (open_string shut_string)
set_option linter.unusedVariables false
theorem own : ownKnob Try.prog.godebug = none := by kernel_rfl
theorem laidOut : laidOutB Try.prog = true := by kernel_rfl
set_option maxRecDepth 100000 in
set_option maxHeartbeats 1000000 in
theorem lifted (os : Os) (started : os.Started) (H : Type) (enc : TypeId × Value → H) :
    ReturnsInHanded {} Try.checked os 3 .any (Rows.jobPlaysSpec.pre6 enc Try.prog Try.f3 Rows.jobPlaysRow.domain false) (Rows.jobPlaysSpec.post enc Try.prog Try.f3 false true false false) := by
  refine returnsInHanded_of_change_sized (C := Try.checked) own started (by kernel_rfl) Try.func3
    (ChangeSpec.witness6 (enc := enc) (C := Try.checked) false ⟨#[], #[.int .i64 0, .int .i64 0, .agg #[.int .i64 0, .int .i64 0, .int .i64 0], .slice none 0 0], []⟩ 8 (by kernel_rfl) (by kernel_rfl) (by kernel_rfl) (by kernel_rfl)) ?_
  intro W base args ds gs before hval0 hW hcnd hsz0 _
  have hsz : (DataW.weightsEach Try.prog (Try.f3.params.toList ++ Rows.jobPlaysSpec.plain.varTypes Try.prog) (ds ++ gs)).all (· ≤ reachBytes) = true := hsz0
  have hval : ∀ (j : Nat) t v, Try.f3.params[j]? = some t → args[j]? = some v → Value.okWide Try.prog W .any base t v := hval0
  have hW' := hW
  obtain ⟨p, q, hA0, hV, rfl, hfz, hnd⟩ := hW
  have hA : DataW.TrodAll enc Try.prog W 0 (fun _ => true) true Try.f3.params.toList args.toList ds p := hA0
  rw [Try.params3] at hA hval hsz
  obtain ⟨v0, vs0, d0, ds0, p0, q0, hargs, rfl, rfl, h0, r0⟩ := trodAll_cons hA
  obtain ⟨v1, vs1, d1, ds1, p1, q1, rfl, rfl, rfl, h1, r1⟩ := trodAll_cons r0
  obtain ⟨v2, vs2, d2, ds2, p2, q2, rfl, rfl, rfl, h2, r2⟩ := trodAll_cons r1
  obtain ⟨v3, vs3, d3, ds3, p3, q3, rfl, rfl, rfl, h3, r3⟩ := trodAll_cons r2
  obtain ⟨rfl, rfl, rfl⟩ := trodAll_nil r3
  obtain rfl : args = #[v0, v1, v2, v3] := by cases args; simp_all
  obtain ⟨rfl, rfl⟩ := trodVars_none hV
  obtain ⟨a0, rfl, rfl, rfl, w0⟩ := open_int Try.underlying3 (hval 0 3 v0 rfl rfl) h0
  obtain ⟨a1, rfl, rfl, rfl, w1⟩ := open_int Try.underlying3 (hval 1 3 v1 rfl rfl) h1
  have k2 := h2
  have lt2 : ∀ x ∈ p2, x.block < W.heap.size := by obtain ⟨m, hm⟩ := k2; exact DataW.trod_lt m _ _ _ hm
  have u2 := (hval 2 23 v2 rfl rfl)
  have z2 : ((DataW.weights Try.prog 23 d2).all (· ≤ reachBytes)) = true := Sp.weights_at hsz (j := 2) rfl rfl
  have k3 := h3
  have lt3 : ∀ x ∈ p3, x.block < W.heap.size := by obtain ⟨m, hm⟩ := k3; exact DataW.trod_lt m _ _ _ hm
  have u3 := (hval 3 24 v3 rfl rfl)
  have z3 : ((DataW.weights Try.prog 24 d3).all (· ≤ reachBytes)) = true := Sp.weights_at hsz (j := 3) rfl rfl
  clear hA0 hval0 hsz0 hsz
  refine (Job.plays_any a0 a1 v2 v3 W w0 w1 u2 k2 z2 u3 k3 z3).mono fun e W' ⟨he, bel⟩ => ?_
  subst he
  exact ⟨_, rfl, _, _, _, [], _, [], hW', trodAll_mk1 (shut_bool Try.underlying4 _), (trodAll_cons_mk (shut_int Try.underlying3 w0) (trodAll_cons_mk (shut_int Try.underlying3 w1) (trodAll_cons_mk (Below.trod laidOut (by kernel_rfl) (of_decide_eq_true (by kernel_rfl)) k2 bel lt2) (trodAll_cons_mk (Below.trod laidOut (by kernel_rfl) (of_decide_eq_true (by kernel_rfl)) k3 bel lt3) trodAll_mk0)))), rfl, bel.frame _, fun h => by cases h⟩
theorem over : Rows.jobPlaysRow.holds Try.pinned (OpenSpec.ofChange Rows.jobPlaysSpec) :=
  OpenClaim.holds_of_wide 3 Try.f3 rfl rfl rfl rfl rfl rfl rfl ⟨rfl, rfl, rfl, rfl, rfl⟩ rfl rfl rfl rfl rfl (by kernel_rfl) Try.func3 (by kernel_rfl)
    (of_decide_eq_true (by kernel_rfl)) (by unfold Func.isWrapper; first | (rw [if_pos (by decide +kernel)]; kernel_rfl) | (rw [if_neg (by decide +kernel)]; exact ⟨rfl, rfl⟩))
    (fun os started H enc _ => lifted os started H enc)
end Go.Proofs.Ytniggacgkhkgiaa.jobPlaysRow
namespace Go.Proofs.Ytniggacgkhkgiaa
/-- The row. -/
theorem jobPlays_holds : Rows.JobPlaysSaid := jobPlaysRow.over
#print axioms jobPlays_holds
end Go.Proofs.Ytniggacgkhkgiaa
