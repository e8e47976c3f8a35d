/- EvictPlays: in every order of calls what is there, refused, pinned, lost and gone is the document's; the law answers true for every input. Conditions: the argument can be read. -/
import Derived.Test.YtniggacgkhkgiaaKref2
import Derived.Test.YtniggacgkhkgiaaEvAll
import Derived.Deep.RegionHeld3
import Derived.Deep.DeepCutAuto
import Derived.Deep.CutBlock
namespace Go.Proofs.Ytniggacgkhkgiaa.Ev
open Go.RowKit Go.Sp Msg Pool Hash

/-- both keepers side by side: the program's, and the reference's, whose blocks are R -/
def Both (w0 w : World) (R : Nat → Prop) (kb rb : Nat) (K : Kp) (q : Nat) : Prop := Sk w0 w R kb K ∧ Kref.KfR w R rb K q ∧ ∀ b, R b → w0.heap.size ≤ b
theorem Both.step {w0 w w' : World} {R : Nat → Prop} {kb rb q : Nat} {K : Kp} (h : Both w0 w R kb rb K q) (o : Below w.heap.size w w') : Both w0 w' R kb rb K q := ⟨h.1.step o, h.2.1.below o, h.2.2⟩
/-- behind a call of the reference -/
theorem Both.ref {w0 w w' : World} {R R0 : Nat → Prop} {kb rb q' : Nat} {K' K2 : Kp} (h : Sk w0 w R0 kb K2) (hR0 : ∀ b, R b → R0 b) (hR : ∀ b, R b → w0.heap.size ≤ b) (ho : Kref.KfO w R rb K' q' w') : ∃ R', Kref.KfR w' R' rb K' q' ∧ (∀ b, R' b → R b ∨ w.heap.size ≤ b) ∧ (∀ b, R' b → w0.heap.size ≤ b) ∧ Only R w w' ∧ Sk w0 w' (fun b => R0 b ∨ R' b) kb K2 := by
  obtain ⟨R', h1, h2, h3⟩ := ho
  have hb := h.bel.size
  refine ⟨R', h1, h2, fun b hb' => ?_, h3, ((h.turn (X' := fun b => R0 b ∨ R' b) (fun b hb' e => ?_)).only h3 (fun b hb' => ⟨.inl (hR0 b hb'), hR b hb'⟩))⟩
  · rcases h2 b hb' with e | e
    · exact hR b e
    · omega
  · rcases e with e | e
    · exact e
    · rcases h2 b e with e | e
      · exact hR0 b e
      · omega

set_option maxRecDepth 100000 in
set_option maxHeartbeats 8000000 in
theorem plays_any {H : Type} {enc : TypeId × Value → H} {base : Nat} {d : DataW H} {ps : List MemPlace} (n s : Int) (v : Value) (w : World) (_ : (Lit.int .i64 n).wf = true) (_ : (Lit.int .u64 s).wf = true)
    (u : Value.okWide Try.prog w .any base 95 v) (kk : DataW.Trod enc Try.prog w 0 (fun _ => true) true 95 v d ps) (z : (d.weights Try.prog 95).all (· ≤ reachBytes) = true) :
    Calls Try.prog 9 #[.int .i64 n, .int .u64 s, v] w fun e w' => e = .returned (.bool true) ∧ Below w.heap.size w w' := by
  obtain ⟨os, hos, hoQ, _⟩ := arg_slice (size := 3) (elt := eOpE) (Q := fun o => (Lit.int .i64 o.t).wf = true ∧ o.s.size ≤ 140737488351232) Try.underlying95 (by kernel_rfl) (by omega) (fun m ds h => rd_opE h) u kk z
  clear u kk z
  have hol := hos.1
  unfold maxLen at hol
  obtain ⟨_, oa, oc, rfl, _⟩ := id hos
  go_enter Try.func9, Try.ntmps9
  go_wp2_with fail
  refine (awake_any _).mono ?_
  rintro e w1 ⟨rfl, hb1⟩
  go_wp2_with fail
  refine (fewE_any (hos.only (only_of_below hb1 (fun _ => False)) (fun _ _ => id))).mono ?_
  rintro e w2 ⟨rfl, hb2⟩
  have hw2 := below_trans' hb2 hb1
  clear hb1 hb2
  cases hf : fewE os with
  | false =>
    go_wp2_with fail
    refine (awake_any _).mono ?_
    rintro e w3 ⟨rfl, hb3⟩
    have hw3 := below_trans' hb3 hw2
    go_wp2
    go_ret
    exact ⟨rfl, hw3⟩
  | true =>
    have h200 := fewE_all hf
    clear hf
    by_cases hA : 1 ≤ n ∧ n ≤ 16
    · obtain ⟨A, rfl⟩ : ∃ A : Nat, n = A := ⟨n.toNat, by omega⟩
      have hA' : 1 ≤ A ∧ A ≤ 16 := by omega
      have b1 : decide ((A : Int) < 1) = false := decide_eq_false (by omega)
      have b2 : decide (16 < (A : Int)) = false := decide_eq_false (by omega)
      have b3 : decide (A < 1) = false := decide_eq_false (by omega)
      have b4 : decide (16 < A) = false := decide_eq_false (by omega)
      clear hA
      go_wp2_with fail
      refine (new_yes w2 s hA'.1 hA'.2).mono ?_
      rintro e w3 ⟨kb, R0, rfl, hK3, hR3, hb3⟩
      have hS3 : Sk w w3 (fun _ => False) kb (newK A s) := ⟨R0, hK3, fun b hb => ⟨Nat.le_trans hw2.size (hR3 b hb), id⟩, below_trans' hb3 hw2⟩
      clear hK3 hR3 hb3 hw2
      go_wp2_with fail
      refine (Kref.new_any w3 A s).mono ?_
      rintro e w4 ⟨rb, R4, rfl, hKf4, hR4, hb4⟩
      have hB4 : Both w w4 R4 kb rb (newK A s) 0 := ⟨(hS3.turn (X' := R4) (fun b hb e => by have := hR4 b e; omega)).step hb4, hKf4, fun b hb => Nat.le_trans hS3.bel.size (hR4 b hb)⟩
      clear hS3 hKf4 hR4 hb4
      go_wp2
      go_loopw [47] (fun v wr => ∃ (q : Nat) (K : Kp) (R : Nat → Prop), q ≤ os.length ∧ v = .int .i64 q ∧ Both w wr R kb rb K q ∧ Nums K ∧ K.gone.length ≤ q ∧ K.N = A ∧ K.seed = s) (fun v _ => os.length - (intOf v).toNat)
      case atStart => exact ⟨0, newK A s, R4, Nat.zero_le _, rfl, hB4, fun p hp => by simp [newK] at hp, by simp [newK], rfl, rfl⟩
      case round =>
        clear hB4
        obtain ⟨q, K, R, hq, rfl, hB, hn, hg, hKN, hKs⟩ := hrel
        have hbw := hB.1.bel
        by_cases hqN : q < os.length
        · obtain ⟨_, a', c', hv, h2⟩ := id (hos.only (only_of_below hbw (fun _ => False)) (fun _ _ => id))
          obtain ⟨ob, oo, ha, hob, hcl⟩ := h2 (by omega)
          simp only [Value.slice.injEq] at hv
          obtain ⟨hv1, hv2, hv3⟩ := hv
          clear hv2 hv3
          rw [ha] at hv1
          subst hv1
          obtain ⟨o, hx⟩ : ∃ x, os[q]? = some x := ⟨_, List.getElem?_eq_getElem hqN⟩
          have hin := hoQ o (List.mem_of_getElem? hx)
          have g0 := hcl q o 0 _ hx rfl
          have g1 := hcl q o 1 _ hx rfl
          have g2 := hcl q o 2 _ hx rfl
          rw [← Nat.add_assoc] at g0 g1 g2
          rw [Nat.add_zero] at g0
          obtain ⟨ok, ot, ostr⟩ := o
          simp only at g0 g1 g2 hin
          have hA4 := below_alloc (Below.refl wr.heap.size wr) (.cells #[.int .i64 ok, .int .i64 ot, .string ostr] 100)
          have hbx4 := heap_new wr (.cells #[.int .i64 ok, .int .i64 ot, .string ostr] 100) rfl
          have hS4 := (hB.1.turn (X' := fun b => R b ∨ b = wr.heap.size) (fun b hb e => by
            rcases e with e | e
            · exact e
            · omega)).step hA4
          have hKf4 := hB.2.1.below hA4
          have hRw := hB.2.2
          have hxR : ¬ R wr.heap.size := fun e => by have := hB.2.1.lt _ e; omega
          have hxw : w.heap.size ≤ wr.heap.size := hbw.size
          have hxz : wr.heap.size < (wr.alloc (.cells #[.int .i64 ok, .int .i64 ot, .string ostr] 100)).heap.size := by simp
          have HK := Lib.hid (And.intro hn (And.intro hKN (And.intro hKs hin)))
          have hwf := hin.1
          clear hcl hx h2 ha hA4 hbw hKN hKs hB hin
          go_wp2_with fail
          clear g0 g1 g2
          generalize (wr.alloc (.cells #[.int .i64 ok, .int .i64 ot, .string ostr] 100)) = w4 at hbx4 hS4 hKf4 hxz ⊢
          generalize wr.heap.size = xb at hbx4 hS4 hxR hxw hxz ⊢
          have HD := do_any ⟨ok, ot, ostr⟩ hS4 (fun b e => by
            rcases e with e | e
            · exact hKf4.lt b e
            · rw [e]; exact hxz) hn (by omega) hwf
          have hinv : Kinv K := hS4.inv
          obtain ⟨D, hD⟩ : ∃ D, D = doK K ⟨ok, ot, ostr⟩ := ⟨_, rfl⟩
          rw [← hD] at HD
          obtain ⟨K', ⟨x1, x2, x3⟩, err⟩ := D
          simp only at HD
          refine HD.mono ?_
          rintro e w5 ⟨rfl, hS5, hO5⟩
          have hbx5 := hO5.heap hbx4 (fun e => e.2 (.inr rfl))
          have hKf5 := hKf4.only hO5 (fun b hb e => e.2 (.inl hb))
          have hA6 := below_alloc (Below.refl w5.heap.size w5) (.cells #[.int .i64 x1, .int .i64 x2, .string x3] 89)
          have hA7 := below_alloc hA6 (.cells #[.int .i64 0, .int .i64 0, .string ⟨#[]⟩] 89)
          have hbs7 := ((below_alloc (Below.refl _ (w5.alloc (.cells #[.int .i64 x1, .int .i64 x2, .string x3] 89))) (.cells #[.int .i64 0, .int .i64 0, .string ⟨#[]⟩] 89)).block w5.heap.size (by simp)).trans (heap_new w5 (.cells #[.int .i64 x1, .int .i64 x2, .string x3] 89) rfl)
          have hbt7 := heap_new (w5.alloc (.cells #[.int .i64 x1, .int .i64 x2, .string x3] 89)) (.cells #[.int .i64 0, .int .i64 0, .string ⟨#[]⟩] 89) (b := w5.heap.size + 1) (by simp)
          have hbx7 := (hA7.block _ (Array.getElem?_eq_some_iff.1 hbx5).1).trans hbx5
          have hS7 := (hS5.turn (X' := fun b => (R b ∨ b = xb) ∨ b = w5.heap.size + 1) (fun b hb e => by
            rcases e with e | e
            · exact e
            · omega)).step hA7
          have hKf7 := hKf5.below hA7
          have hsR : ¬ R w5.heap.size := fun e => by have := hKf5.lt _ e; omega
          have htR : ¬ R (w5.heap.size + 1) := fun e => by have := hKf5.lt _ e; omega
          have hxs : xb < w5.heap.size := (Array.getElem?_eq_some_iff.1 hbx5).1
          have hsw : w.heap.size ≤ w5.heap.size := hS5.bel.size
          clear HD hS4 hKf4 hbx4 hxz hS5 hO5 hbx5 hKf5 hA6 hA7
          go_upto_region 12 with (fail)
          generalize ((w5.alloc (.cells #[.int .i64 x1, .int .i64 x2, .string x3] 89)).alloc (.cells #[.int .i64 0, .int .i64 0, .string ⟨#[]⟩] 89)) = w7 at hbs7 hbt7 hbx7 hS7 hKf7 ⊢
          generalize w5.heap.size = sb at hbs7 hbt7 hsR htR hxs hsw hS7 ⊢
          have c0 := cell_blk hbx7 (j := 0) (u := .int .i64 ok) rfl
          have c1 := cell_blk hbx7 (j := 1) (u := .int .i64 ot) rfl
          have c2 := cell_blk hbx7 (j := 2) (u := .string ostr) rfl
          go_upto_block 2 with (fail)
          have HN := Lib.hid (And.intro (hn.doK ⟨ok, ot, ostr⟩) (And.intro (gone_do K ⟨ok, ot, ostr⟩) (do_coh ⟨ok, ot, ostr⟩ hn).2.2))
          rw [← hD] at HN
          go_cut [15] (fun v wx => v = .int .i64 err ∧ ∃ R2, Kref.KfR wx R2 rb K' (q + 1) ∧ (∀ b, R2 b → w.heap.size ≤ b) ∧ Sk w wx R2 kb K' ∧ wx.heap[xb]? = some (.cells #[.int .i64 ok, .int .i64 ot, .string ostr] 100 (0, 0)) ∧ wx.heap[sb]? = some (.cells #[.int .i64 x1, .int .i64 x2, .string x3] 89 (0, 0)) ∧ wx.heap[sb + 1]? = some (.cells #[.int .i64 x1, .int .i64 x2, .string x3] 89 (0, 0)))
          case first =>
            as_aux_lemma =>
              by_cases k1 : ok = 1
              · subst k1
                have hD1 : writeK K ot ostr = (K', (x1, x2, x3), err) := by rw [hD]; unfold doK; rw [if_pos rfl]
                have HW := Kref.write_any (s := ostr) (k := ot) hKf7 (by omega) hinv hn (by omega)
                rw [hD1] at HW
                have f0 := froz_blk hbt7 0
                have f1 := froz_blk hbt7 1
                have f2 := froz_blk hbt7 2
                go_wp2_with fail
                refine HW.mono ?_
                rintro e w8 ⟨rfl, hO8⟩
                obtain ⟨R8, hKf8, hR8, hRw8, hO8, hS8⟩ := Both.ref hS7 (fun b hb => .inl (.inl hb)) hRw hO8
                have hbx8 := hO8.heap hbx7 hxR
                have hbs8 := hO8.heap hbs7 hsR
                have hbt8 := hO8.heap hbt7 htR
                have f0 := froz_blk hbt8 0
                have f1 := froz_blk hbt8 1
                have f2 := froz_blk hbt8 2
                have e0 := cell_blk hbt8 (j := 0) (u := .int .i64 0) rfl
                have e1 := cell_blk hbt8 (j := 1) (u := .int .i64 0) rfl
                have e2 := cell_blk hbt8 (j := 2) (u := .string ⟨#[]⟩) rfl
                have hset : Only (· = sb + 1) w8 (((w8.setCell ⟨sb + 1, 0, none⟩ (.int .i64 x1)).setCell ⟨sb + 1, 1, none⟩ (.int .i64 x2)).setCell ⟨sb + 1, 2, none⟩ (.string x3)) :=
                  (((Only.refl (· = sb + 1) _).setCell (p := ⟨sb + 1, 0, none⟩) (fun _ => rfl) _).setCell (p := ⟨sb + 1, 1, none⟩) (fun _ => rfl) _).setCell (p := ⟨sb + 1, 2, none⟩) (fun _ => rfl) _
                have ht8 : ¬ R8 (sb + 1) := fun e => by
                  rcases hR8 _ e with e | e
                  · exact htR e
                  · have := (Array.getElem?_eq_some_iff.1 hbt7).1; omega
                have HF := Lib.hid (And.intro (hKf8.only hset (fun b hb e => ht8 (by rw [← e]; exact hb))) (And.intro hRw8 (And.intro ((hS8.only hset (fun b hb => ⟨.inl (.inr hb), by rw [hb]; omega⟩)).turn (X' := R8) (fun b _ hb => .inr hb)) (And.intro (hset.heap hbx8 (by omega)) (And.intro (hset.heap hbs8 (by omega)) (res3 hbt8 (.int .i64 x1) (.int .i64 x2) (.string x3)))))))
                clear HW hKf7 hS7 hbx7 hbs7 hbt7 hKf8 hS8 hO8 hbx8 hbs8 hbt8 hset
                go_wp2
                go_meet
                exact ⟨rfl, R8, HF.out⟩
              · have hD2 : (K', (x1, x2, x3), err) = if ok = 2 then ({ K with pins := mput ot () K.pins }, zSpn, 0) else if ok = 3 then ({ K with pins := mdel ot K.pins }, zSpn, 0) else if ok = 4 then (forgetK K ot, zSpn, 0) else (K, zSpn, 0) := by
                  rw [hD]; unfold doK; rw [if_neg k1]
                have b1 : (ok == 1) = false := by simp [k1]
                have HZ := Lib.hid (And.intro hbx7 (And.intro hbs7 (And.intro hbt7 hS7)))
                have hxR' := hxR
                have hq1 : q ≤ 10000 := by omega
                by_cases k2 : ok = 2
                · subst k2
                  rw [if_pos rfl] at hD2
                  cases hD2
                  have HP := Kref.pin_any hKf7 hq1 ot
                  clear hbx7 hbs7 hbt7 hS7
                  go_wp2_with fail
                  refine HP.mono ?_
                  rintro e w8 ⟨rfl, hO8⟩
                  obtain ⟨hbx7, hbs7, hbt7, hS7⟩ := HZ.out
                  obtain ⟨R8, hKf8, hR8, hRw8, hO8, hS8⟩ := Both.ref hS7 (fun b hb => .inl (.inl hb)) hRw hO8
                  have HF := Lib.hid (And.intro hKf8 (And.intro hRw8 (And.intro (hS8.turn (X' := R8) (fun b _ hb => .inr hb)) (And.intro (hO8.heap hbx7 hxR) (And.intro (hO8.heap hbs7 hsR) (hO8.heap hbt7 htR))))))
                  clear HP hKf7 hS7 hbx7 hbs7 hbt7 hKf8 hS8 hO8
                  go_wp2
                  go_meet
                  exact ⟨rfl, R8, HF.out⟩
                · rw [if_neg k2] at hD2
                  have b2 : (ok == 2) = false := by simp [k2]
                  by_cases k3 : ok = 3
                  · subst k3
                    rw [if_pos rfl] at hD2
                    cases hD2
                    have HP := Kref.unpin_any hKf7 hq1 ot
                    clear hbx7 hbs7 hbt7 hS7
                    go_wp2_with fail
                    refine HP.mono ?_
                    rintro e w8 ⟨rfl, hO8⟩
                    obtain ⟨hbx7, hbs7, hbt7, hS7⟩ := HZ.out
                    obtain ⟨R8, hKf8, hR8, hRw8, hO8, hS8⟩ := Both.ref hS7 (fun b hb => .inl (.inl hb)) hRw hO8
                    have HF := Lib.hid (And.intro (hKf8.le (q' := q + 1) (by omega)) (And.intro hRw8 (And.intro (hS8.turn (X' := R8) (fun b _ hb => .inr hb)) (And.intro (hO8.heap hbx7 hxR) (And.intro (hO8.heap hbs7 hsR) (hO8.heap hbt7 htR))))))
                    clear HP hKf7 hS7 hbx7 hbs7 hbt7 hKf8 hS8 hO8
                    go_wp2
                    go_meet
                    exact ⟨rfl, R8, HF.out⟩
                  · rw [if_neg k3] at hD2
                    have b3 : (ok == 3) = false := by simp [k3]
                    by_cases k4 : ok = 4
                    · subst k4
                      rw [if_pos rfl] at hD2
                      cases hD2
                      have HP := Kref.forget_any hKf7 hq1 hinv.1 (by have := hinv.2.2.2.2.2.2; omega) hinv.len ot
                      clear hbx7 hbs7 hbt7 hS7
                      go_wp2_with fail
                      refine HP.mono ?_
                      rintro e w8 ⟨rfl, hO8⟩
                      obtain ⟨hbx7, hbs7, hbt7, hS7⟩ := HZ.out
                      obtain ⟨R8, hKf8, hR8, hRw8, hO8, hS8⟩ := Both.ref hS7 (fun b hb => .inl (.inl hb)) hRw hO8
                      have HF := Lib.hid (And.intro (hKf8.le (q' := q + 1) (by omega)) (And.intro hRw8 (And.intro (hS8.turn (X' := R8) (fun b _ hb => .inr hb)) (And.intro (hO8.heap hbx7 hxR) (And.intro (hO8.heap hbs7 hsR) (hO8.heap hbt7 htR))))))
                      clear HP hKf7 hS7 hbx7 hbs7 hbt7 hKf8 hS8 hO8
                      go_wp2
                      go_meet
                      exact ⟨rfl, R8, HF.out⟩
                    · rw [if_neg k4] at hD2
                      have b4 : (ok == 4) = false := by simp [k4]
                      cases hD2
                      have HF := Lib.hid (And.intro (hKf7.le (q' := q + 1) (by omega)) (And.intro hRw (And.intro (hS7.turn (X' := R) (fun b _ hb => .inl (.inl hb))) (And.intro hbx7 (And.intro hbs7 hbt7)))))
                      clear hKf7 hS7 hbx7 hbs7 hbt7
                      go_wp2
                      go_meet
                      exact ⟨rfl, R, HF.out⟩
          case rest =>
            as_aux_lemma =>
              clear hS7 hKf7 hbx7 hbs7 hbt7 c0 c1 c2 hD
              obtain ⟨rfl, R2, hKf, hRw2, hS, hbx, hbs, hbt⟩ := hcut
              go_wp2_with fail
              obtain ⟨Rp, pb, pv, lv, gv, qs, ls, hKr, hq1, hq2⟩ := id hKf
              obtain ⟨tv, av, us, hQ⟩ := hKr.pool
              have hiv : Kinv K' := hS.inv
              have hKN' : K'.N = A := HN.out.2.2.1.trans HK.out.2.1
              have hgl : K'.gone.length ≤ 1000 := by have := HN.out.2.1; omega
              have hBd := (Below.refl wc.heap.size wc).drew
              have hSd := hS.step hBd
              have hKd := hKr.below hBd
              have hQd := hQ.below hBd
              have HS := Lib.hid (show ∀ W, Below wc.heap.size wc W → (W.cell? ⟨xb, 1, none⟩ = some (.int .i64 ot) ∧ W.cell? ⟨sb, 0, none⟩ = some (.int .i64 x1) ∧ W.cell? ⟨sb, 1, none⟩ = some (.int .i64 x2) ∧ W.cell? ⟨sb, 2, none⟩ = some (.string x3) ∧ W.cell? ⟨sb + 1, 0, none⟩ = some (.int .i64 x1) ∧ W.cell? ⟨sb + 1, 1, none⟩ = some (.int .i64 x2) ∧ W.cell? ⟨sb + 1, 2, none⟩ = some (.string x3) ∧ W.cell? ⟨rb, 0, none⟩ = some (.pointer (some ⟨pb, 0, none⟩)) ∧ W.cell? ⟨rb, 2, none⟩ = some pv ∧ W.cell? ⟨rb, 3, none⟩ = some lv ∧ W.cell? ⟨rb, 4, none⟩ = some gv ∧ W.cell? ⟨pb, 1, none⟩ = some tv) from fun W hW => by
                have h1 := hKr.below hW
                have h2 := hQ.below hW
                have y1 := (hW.block _ (Array.getElem?_eq_some_iff.1 hbx).1).trans hbx
                have y2 := (hW.block _ (Array.getElem?_eq_some_iff.1 hbs).1).trans hbs
                have y3 := (hW.block _ (Array.getElem?_eq_some_iff.1 hbt).1).trans hbt
                exact ⟨cell_blk y1 rfl, cell_blk y2 rfl, cell_blk y2 rfl, cell_blk y2 rfl, cell_blk y3 rfl, cell_blk y3 rfl, cell_blk y3 rfl, h1.cell rfl, h1.cell rfl, h1.cell rfl, h1.cell rfl, h2.cell rfl⟩)
              have q0 := HS.out _ hBd
              have gs := guard_spn
              have qe : ∀ w' : World, (Op.equalIn 10000 89 (.agg #[.int .i64 x1, .int .i64 x2, .string x3]) (.agg #[.int .i64 x1, .int .i64 x2, .string x3])).run Try.prog w' = .ok true w' := fun w' => by
                have := eq_spn (x1, x2, x3) (x1, x2, x3) w'
                rw [decide_eq_true rfl] at this
                exact this
              have HP1 := hSd.pinned ot
              have HP2 := Kref.in_any (SL.ints hKd.pins) (by omega) ot
              rw [has_of hKd.psm] at HP2
              have HL1 := hSd.lost ot
              have HL2 := Kref.in_any (SL.ints hKd.lost) (by omega) ot
              rw [has_of hKd.lsm] at HL2
              generalize hasK K'.pins ot = bp at HP1 HP2
              generalize hasK K'.lost ot = bl at HL1 HL2
              have b1 : (err != err) = false := by simp
              have b2 : (bp != bp) = false := by simp
              have b3 : (bl != bl) = false := by simp
              have hu := hiv.2.2.1
              have hA16 := hA'.2
              obtain ⟨U, hU⟩ : ∃ U, U = usedM K'.M := ⟨_, rfl⟩
              obtain ⟨f, hf⟩ : ∃ f, f = K'.N - usedM K'.M := ⟨_, rfl⟩
              have hw1 : IntKind.i64.wrap ((A : Int) - (f : Int)) = (U : Int) := by rw [i64_little (by omega) (by omega)]; omega
              have b4 : ((U : Int) != (U : Int)) = false := by simp
              have HU := Lib.hid (And.intro hU hf)
              have HZ := Lib.hid (And.intro hKf (And.intro hRw2 (And.intro hS (And.intro hbx hiv))))
              have hN16 := hiv.2.2.2.2.2.1
              have hlen := hiv.len
              clear hU hf hKf hRw2 hS hbx hbs hbt hKr hQ hiv hu
              go_region_held3 (fun W => W.cell? ⟨xb, 1, none⟩ = some (.int .i64 ot) ∧ W.cell? ⟨sb, 0, none⟩ = some (.int .i64 x1) ∧ W.cell? ⟨sb, 1, none⟩ = some (.int .i64 x2) ∧ W.cell? ⟨sb, 2, none⟩ = some (.string x3) ∧ W.cell? ⟨sb + 1, 0, none⟩ = some (.int .i64 x1) ∧ W.cell? ⟨sb + 1, 1, none⟩ = some (.int .i64 x2) ∧ W.cell? ⟨sb + 1, 2, none⟩ = some (.string x3) ∧ W.cell? ⟨rb, 0, none⟩ = some (.pointer (some ⟨pb, 0, none⟩)) ∧ W.cell? ⟨rb, 2, none⟩ = some pv ∧ W.cell? ⟨rb, 3, none⟩ = some lv ∧ W.cell? ⟨rb, 4, none⟩ = some gv ∧ W.cell? ⟨pb, 1, none⟩ = some tv) (first | exact q0 | exact q1 | exact q2 | exact q3 | exact q4 | exact q5 | exact q6 | exact q7 | exact q8)
                (first
                | (go_at_call 52
                   refine HP1.mono ?_
                   rintro e w' ⟨rfl, rfl⟩
                   have i1 : True := trivial)
                | (go_at_call 53
                   have i2' := i2
                   refine HL2.mono ?_
                   rintro e w' ⟨rfl, rfl⟩)
                | (go_at_call 53
                   refine HP2.mono ?_
                   rintro e w' ⟨rfl, rfl⟩)
                | (go_at_call 41
                   refine HL1.mono ?_
                   rintro e w' ⟨rfl, rfl⟩
                   have i2 : True := trivial)
                | (go_at_call 55
                   refine (hSd.spans ot).mono ?_
                   rintro e w21 ⟨⟨v21, rfl, hs21, hn21⟩, hb21⟩
                   have hB21 := below_trans' hb21 hBd
                   have q1 := HS.out _ hB21
                   have hS21 := hSd.step hb21
                   have hQ21 := hQd.below hb21
                   have hr21 := SL.rs (enc := eSpn) (fun _ => rfl) hs21)
                | (go_at_call 56
                   refine (Pref.of_any hQ21 ot).mono ?_
                   rintro e w' ⟨rfl, u22, rfl, hs22, _⟩
                   have hr22 := SL.rs (enc := eSpn) (fun _ => rfl) hs22)
                | (go_at_call 54
                   refine (same28_any hr21 hr22).mono ?_
                   rintro e w23 ⟨rfl, n23, rfl⟩
                   rw [decide_eq_true rfl]
                   have hb23 := belowN (Below.refl w21.heap.size w21) n23
                   have hB23 := below_trans' hb23 hB21
                   have q2 := HS.out _ hB23
                   have hS23 := hS21.step hb23
                   have hQ23 := hQ21.below hb23)
                | (go_at_call 43
                   refine (hS23.used).mono ?_
                   rintro e w24 ⟨rfl, hb24⟩
                   rw [← HU.out.1]
                   have hB24 := below_trans' hb24 hB23
                   have q3 := HS.out _ hB24
                   have hS24 := hS23.step hb24
                   have hQ24 := hQ23.below hb24)
                | (go_at_call 57
                   refine (Pref.free_any hQ24 hN16 hS24.inv.2.2.1 hlen).mono ?_
                   rintro e w25 ⟨rfl, hb25⟩
                   rw [← HU.out.2]
                   have hB25 := below_trans' hb25 hB24
                   have q4 := HS.out _ hB25
                   have hS25 := hS24.step hb25
                   have hQ25 := hQ24.below hb25)
                | (go_at_call 44
                   refine (hS25.traces).mono ?_
                   rintro e w26 ⟨⟨v26, rfl, hr26, hn26⟩, hb26⟩
                   have hB26 := below_trans' hb26 hB25
                   have q5 := HS.out _ hB26
                   have hS26 := hS25.step hb26
                   have hK26 := hKd.below (below_trans' hb26 (below_trans' hb25 (below_trans' hb24 (below_trans' hb23 hb21))))
                   have ht26 : RS w26 1 eInt tv (K'.M.map Prod.fst) := SL.ints (by rw [List.length_map, List.map_map]; exact (hQ25.below hb26).st))
                | (go_at_call 27
                   refine (sameInts_any hr28 hg28).mono ?_
                   rintro e w29 ⟨rfl, n29, rfl⟩
                   rw [decide_eq_true rfl]
                   have hb29 := belowN (Below.refl w28.heap.size w28) n29
                   have hB29 := below_trans' hb29 hB28
                   have q8 := HS.out _ hB29)
                | (go_at_call 27
                   refine (sameInts_any hr26 ht26).mono ?_
                   rintro e w27 ⟨rfl, n27, rfl⟩
                   rw [decide_eq_true rfl]
                   have hb27 := belowN (Below.refl w26.heap.size w26) n27
                   have hB27 := below_trans' hb27 hB26
                   have q6 := HS.out _ hB27
                   have hS27 := hS26.step hb27
                   have hK27 := hK26.below hb27)
                | (go_at_call 42
                   refine (hS27.evicted hgl).mono ?_
                   rintro e w28 ⟨⟨v28, rfl, hr28, hn28⟩, hb28⟩
                   have hB28 := below_trans' hb28 hB27
                   have q7 := HS.out _ hB28
                   have hg28 := SL.ints (hK27.below hb28).gone))
              obtain ⟨hKf, hRw2, hS, hbx, hiv⟩ := HZ.out
              have hKf30 := hKf.below hB29
              have hS30 := hS.step hB29
              generalize w28.drewN n29 = w30 at hKf30 hS30 ⊢
              clear hKf hS hbx q0 q1 q2 q3 q4 q5 q6 q7 q8 hB21 hB23 hB24 hB25 hB26 hB27 hB28 hB29 hSd hKd hQd HS HP1 HP2 HL1 HL2 hS21 hS23 hS24 hS25 hS26 hS27 hQ21 hQ23 hQ24 hQ25 hK26 hK27 hr21 hr22 hr26 ht26 hr28 hg28 hs21 hs22 hb21 hb23 hb24 hb25 hb26 hb27 hb28 hb29 hw1 b1 b2 b3 b4 gs qe hn21 hn26 hn28
              go_wp2
              exact ⟨⟨q + 1, K', R2, by omega, by go_num, ⟨hS30, hKf30, hRw2⟩, HN.out.1, by have := HN.out.2.1; omega, hKN', by rw [HN.out.2.2.2]; exact HK.out.2.2.1⟩, by simp [intOf] <;> omega⟩
        · go_wp2
          go_ret
          exact ⟨rfl, hbw⟩
    · go_wp2_with fail
      refine (new_no w2 s hA).mono ?_
      rintro e w3 ⟨rfl, rfl⟩
      by_cases h1 : n < 1
      · have b1 : decide (n < 1) = true := decide_eq_true h1
        go_wp2
        go_ret
        exact ⟨rfl, hw2⟩
      · have b1 : decide (n < 1) = false := decide_eq_false h1
        have b2 : decide (16 < n) = true := decide_eq_true (by omega)
        go_wp2
        go_ret
        exact ⟨rfl, hw2⟩
end Go.Proofs.Ytniggacgkhkgiaa.Ev
