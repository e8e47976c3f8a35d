/- AssemblePlays: in every order of messages what is kept, what is missing, and the record, is the document's; the law answers true for every input. Conditions: the arguments can be read. -/
import Derived.Test.YtcdjeblcmgghhaaAsmPair
namespace Go.Sp
open Go.RowKit
theorem fewL_all {os : List OpD} (h : fewL os = true) : os.length ≤ 100 ∧ ∀ o ∈ os, o.cs.length ≤ 20 := by
  simp only [fewL, Bool.and_eq_true, decide_eq_true_eq, List.all_eq_true] at h
  refine ⟨h.2, fun o ho => ?_⟩
  have := h.1 o ho
  simp only [fewO, Bool.and_eq_true, decide_eq_true_eq] at this
  omega
end Go.Sp
namespace Go.Proofs.Ytcdjeblcmgghhaa.Asm
open Go.RowKit Go.Sp Msg Go.Sort

/-- what is told of the message of a call -/
theorem msg_facts {w w5 : World} {o : OpD} {m : Mg} {t j : Int} {K : Nat → Prop} {n0 : Nat} (h : MsgOf o m) (hin : OpIn w o) (hcs : o.cs.length ≤ 1000) (him : InMem w5 m) (hpv : ∀ g pv ps, m = .mani o.t o.j o.i pv ps → pv.ownBlock = some g → n0 ≤ g) (hK : ∀ b, n0 ≤ b → b < w5.heap.size → K b) :
    Small m ∧ NoCr m ∧ Base0 w m ∧ (hearOk t j m = true → MOwn (fun b => w.heap.size ≤ b ∧ ¬ K b) m) ∧ ∀ w6, Only (fun b => w.heap.size ≤ b ∧ ¬ K b) w5 w6 → InMem w6 m := by
  rcases h with ⟨hk, rfl⟩ | ⟨hk, pv, rfl⟩
  · unfold makeM at him ⊢
    have hx := hin.1
    split <;> try exact ⟨trivial, trivial, trivial, fun _ => trivial, fun _ _ => trivial⟩
    split <;> try exact ⟨trivial, trivial, trivial, fun _ => trivial, fun _ _ => trivial⟩
    split
    · exact ⟨trivial, trivial, trivial, fun _ g hg => by simp [Value.ownBlock] at hg, fun _ _ => RS.nil _ _ _⟩
    split <;> try exact ⟨trivial, trivial, trivial, fun _ => trivial, fun _ _ => trivial⟩
    split <;> try exact ⟨trivial, trivial, trivial, fun _ => trivial, fun _ _ => trivial⟩
    rename_i n1 n2 n3 n4 n5
    split
    · rename_i n6
      have him5 : RS w5 3 eSpn o.sv o.xs := by
        rw [if_neg n1, if_neg n2, if_neg n3, if_neg n4, if_neg n5, if_pos n6] at him
        exact him
      have hno : 0 < o.xs.length → ∀ g, o.sv.ownBlock = some g → ¬ (w.heap.size ≤ g ∧ ¬ K g) := fun hn g hg e => by
        obtain ⟨_, a, c, e1, h2⟩ := hx
        obtain ⟨b, off, rfl, hb, _⟩ := h2 hn
        rw [e1] at hg
        simp [Value.ownBlock] at hg
        omega
      exact ⟨trivial, trivial, hx, fun _ => hno, fun w6 o6 => RS.only' him5 o6 hno⟩
    split <;> try exact ⟨trivial, trivial, trivial, fun _ => trivial, fun _ _ => trivial⟩
    split <;> try exact ⟨trivial, trivial, trivial, fun _ => trivial, fun _ _ => trivial⟩
    split <;> exact ⟨trivial, trivial, trivial, fun _ => trivial, fun _ _ => trivial⟩
  · have hl := partsTo_len o.t o.j o.l o.cs o.cs.length
    have hnil := partsTo_nil o.t o.j o.l o.cs o.cs.length
    have hp : Pts w5 pv (partsTo o.t o.j o.l o.cs o.cs.length) := him
    have hno : 0 < (partsTo o.t o.j o.l o.cs o.cs.length).length → ∀ g, pv.ownBlock = some g → ¬ (w.heap.size ≤ g ∧ ¬ K g) := fun hn g hg e => by
      obtain ⟨_, a, c, e1, h2⟩ := hp.1
      obtain ⟨b, off, rfl, hb, _⟩ := h2 hn
      have hg' := hpv g pv _ rfl hg
      rw [e1] at hg
      simp [Value.ownBlock] at hg
      subst hg
      exact e.2 (hK _ hg' hb)
    refine ⟨show _ ≤ 1000000 by omega, hnil, show _ ≤ 1000000 by omega, fun hok => ⟨fun g hg e => ?_, fun p hp g hg e => ?_⟩, fun w6 o6 => ⟨RS.only' hp.1 o6 hno, fun p hpm => by rw [(hnil p hpm).1, (hnil p hpm).2]; exact RS.nil _ _ _⟩⟩
    · have h1 : (wi o.t 1 65535 && (wi o.j 1 1073741824 && (wi o.i 0 3 && partsOk o.t o.j (partsTo o.t o.j o.l o.cs o.cs.length)))) = true := by
        unfold hearOk at hok
        simp only [Bool.and_eq_true] at hok
        exact hok.1
      simp only [Bool.and_eq_true] at h1
      have h3 := h1.2.2.2
      unfold partsOk at h3
      simp only [Bool.and_eq_true, decide_eq_true_eq] at h3
      exact hno h3.2.1 g hg e
    · rw [(hnil p hp).1] at hg; simp [Value.ownBlock] at hg

theorem like_form {w : World} {pv' : Value} {m : Mg} (h : LikeIn w pv' m) : ∃ pv'', likeM pv' m = likeM pv'' m ∧ LikeIn w pv'' m ∧ (∃ x y z, pv'' = .slice x y z) ∧ ∀ g, pv''.ownBlock = some g → pv'.ownBlock = some g := by
  cases m with
  | mani t j c pv ps =>
    have h' : SL w.heap 30 6 pv' ps.length (ps.flatMap ePt) ∧ ∀ p ∈ ps, RS w 1 eInt p.cv p.cl := h
    obtain ⟨a, c, e⟩ := h'.1.form
    exact ⟨pv', rfl, h, ⟨_, _, _, e⟩, fun _ hg => hg⟩
  | _ => exact ⟨.slice none 0 0, rfl, h, ⟨_, _, _, rfl⟩, fun g hg => by simp [Value.ownBlock] at hg⟩
theorem wRecord_any {w0 w : World} {Rw : Nat → Prop} {wb : Nat} {t j : Int} {man : Option (Int × List Pt)} {C : List Chk} {M : Ms} {cv : Value} {Cs : List (Chk × Value)} (h : Wr w0 w Rw wb t j man C M cv Cs) (hCl : C.length ≤ 1000) {r : Rec} (hr : recM t j C man = r) :
    Calls Try.prog 24 #[.pointer (some ⟨wb, 0, none⟩)] w fun e w' => RecIs w' r e ∧ Below w.heap.size w w' := by
  subst hr
  cases man with
  | none => exact wRecord_none h
  | some x => exact wRecord_some (c := x.1) (ps := x.2) h hCl

set_option maxRecDepth 100000 in
set_option maxHeartbeats 4000000 in
theorem plays_any {H : Type} {enc : TypeId × Value → H} {base : Nat} {d : DataW H} {ps : List MemPlace} (t j : Int) (v : Value) (w : World) (_ : (Lit.int .i64 t).wf = true) (_ : (Lit.int .i64 j).wf = true)
    (u : Value.okWide Try.prog w .any base 22 v) (kk : DataW.Trod enc Try.prog w 0 (fun _ => true) true 22 v d ps) (z : (d.weights Try.prog 22).all (· ≤ reachBytes) = true) :
    Calls Try.prog 3 #[.int .i64 t, .int .i64 j, v] w fun e w' => e = .returned (.bool true) ∧ Below w.heap.size w w' := by
  obtain ⟨os, hos, hoQ, _⟩ := arg_slice (size := 9) (elt := eOpD) Try.underlying22 (by kernel_rfl) (by omega) (fun m ds h => rd_opD h) u kk z
  clear u kk z
  have hol := hos.1
  unfold maxLen at hol
  obtain ⟨_, oa, oc, rfl, _⟩ := id hos
  go_enter Try.func3, Try.ntmps3
  go_wp2_with fail
  refine (awake_any _).mono ?_
  rintro e w1 ⟨rfl, hb1⟩
  go_wp2_with fail
  refine (fewL_any (hos.only (only_of_below hb1 (fun _ => False)) (fun _ _ => id)) (fun o ho => ⟨(hoQ o ho).1.only (only_of_below hb1 (fun _ => False)) (fun _ _ => id), (hoQ o ho).2.only (only_of_below hb1 (fun _ => False)) (fun _ _ => id)⟩)).mono ?_
  rintro e w2 ⟨rfl, hb2⟩
  have hw2 := below_trans' hb2 hb1
  clear hb1 hb2
  cases hf : fewL os with
  | false =>
    go_wp2_with fail
    refine (awake_any _).mono ?_
    rintro e w3 ⟨rfl, hb3⟩
    have hw3 := below_trans' hb3 hw2
    go_wp2
    go_ret
    exact ⟨rfl, hw3⟩
  | true =>
    obtain ⟨hos100, hcs20⟩ := fewL_all hf
    clear hf
    go_wp2_with fail
    refine (new_any _ t j).mono ?_
    rintro e w3 ⟨ab, R, rfl, hAs, hR, hb3⟩
    have hw3 := below_trans' hb3 hw2
    have hA4 := below_alloc (Below.refl w3.heap.size w3) (.cells (eAsr t j (likeM (.slice none 0 0) .none) false (.slice none 0 0)) 37)
    have hb4 := heap_new w3 (.cells (eAsr t j (likeM (.slice none 0 0) .none) false (.slice none 0 0)) 37) rfl
    have hS3 : St w w3 (fun b => b = w3.heap.size) ab t j none [] := ⟨R, hAs, fun b hb => ⟨Nat.le_trans hw2.size (hR b hb), fun e => by have := hAs.lt b hb; omega⟩, hw3⟩
    have hS4 := hS3.step hA4
    have hz4 : w3.heap.size < (w3.alloc (.cells (eAsr t j (likeM (.slice none 0 0) .none) false (.slice none 0 0)) 37)).heap.size := by simp
    have hW4 : Wr w (w3.alloc (.cells (eAsr t j (likeM (.slice none 0 0) .none) false (.slice none 0 0)) 37)) (fun b => b = w3.heap.size) w3.heap.size t j none [] (likeM (.slice none 0 0) .none) (.slice none 0 0) [] :=
      ⟨hb4, SL.nil _ _ _, rfl, by simp, fun x hx => (by cases hx), rfl, fun g hg => (by simp [Value.ownBlock] at hg), fun b hb => (by subst hb; exact ⟨hw3.size, hz4⟩), Uq.nil, below_trans' hA4 hw3⟩
    clear hS3 hAs hR hb3 hw2 hA4 hb4
    simp only [eAsr, likeM, zPt] at hS4 hW4
    go_wp2
    generalize (w3.alloc (.cells #[.int .i64 t, .int .i64 j, .int .i64 0, .int .i64 0, .int .i64 0, .int .i64 0, .int .i64 0, .int .i64 0, .int .i64 0, .int .i64 0, .int .i64 0, .int .i64 0, .int .i64 0, .slice none 0 0, .bool false, .slice none 0 0, .slice none 0 0, .bool false, .slice none 0 0] 37)) = w4 at hS4 hW4 hz4 ⊢
    generalize w3.heap.size = wb at hS4 hW4 hz4 ⊢
    clear hw3
    go_loopw [33] (fun v wr => ∃ (q : Nat) (man : Option (Int × List Pt)) (C : List Chk) (M : Ms) (cv : Value) (Cs : List (Chk × Value)) (Rw : Nat → Prop), q ≤ os.length ∧ v = .int .i64 q ∧ St w wr Rw ab t j man C ∧ Wr w wr Rw wb t j man C M cv Cs ∧ C.length ≤ q) (fun v _ => os.length - (intOf v).toNat)
    case atStart => exact ⟨0, none, [], _, _, [], _, Nat.zero_le _, rfl, hS4, hW4, Nat.le_refl _⟩
    case round =>
      clear hS4 hW4 hz4
      obtain ⟨q, man, C, M, cv, Cs, Rw, hq, rfl, hS, hW, hCq⟩ := hrel
      have hbw := hW.bel
      by_cases hqN : q < os.length
      · obtain ⟨_, a', c', hv, h2⟩ := id (hos.only (only_of_below hbw (fun _ => False)) (fun _ _ => id))
        obtain ⟨ob, oo, ha, hob, hcl⟩ := h2 (by omega)
        simp only [Value.slice.injEq] at hv
        obtain ⟨hv1, hv2, hv3⟩ := hv
        clear hv2 hv3
        rw [ha] at hv1
        subst hv1
        obtain ⟨o, hx⟩ : ∃ x, os[q]? = some x := ⟨_, List.getElem?_eq_getElem hqN⟩
        have hin := hoQ o (List.mem_of_getElem? hx)
        have hcs := hcs20 o (List.mem_of_getElem? hx)
        have g0 := hcl q o 0 _ hx rfl
        have g1 := hcl q o 1 _ hx rfl
        have g2 := hcl q o 2 _ hx rfl
        have g3 := hcl q o 3 _ hx rfl
        have g4 := hcl q o 4 _ hx rfl
        have g5 := hcl q o 5 _ hx rfl
        have g6 := hcl q o 6 _ hx rfl
        have g7 := hcl q o 7 _ hx rfl
        have g8 := hcl q o 8 _ hx rfl
        rw [← Nat.add_assoc] at g0 g1 g2 g3 g4 g5 g6 g7 g8
        rw [Nat.add_zero] at g0
        obtain ⟨ok, oA, oT, oJ, oI, oN, osv, oxs, ocv, ocs, ol⟩ := o
        simp only at g0 g1 g2 g3 g4 g5 g6 g7 g8 hcs
        have hxs : RS w 3 eSpn osv oxs := hin.1
        have hcr : RS w 1 eInt ocv ocs := hin.2
        obtain ⟨_, sa, sc, hv1, _⟩ := id hxs
        subst hv1
        obtain ⟨_, ca, cc, hv1, _⟩ := id hcr
        subst hv1
        have hA4 := below_alloc (Below.refl wr.heap.size wr) (.cells #[.int .i64 ok, .int .i64 oA, .int .i64 oT, .int .i64 oJ, .int .i64 oI, .int .i64 oN, .slice sa oxs.length sc, .slice ca ocs.length cc, .bool ol] 39)
        have hA4w := below_trans' hA4 hbw
        have HP := Lib.hid (And.intro hS (And.intro hW (And.intro hbw hin)))
        clear hcl hx h2 ha hS hW hbw hin
        go_wp2_with fail
        generalize (wr.alloc (.cells #[.int .i64 ok, .int .i64 oA, .int .i64 oT, .int .i64 oJ, .int .i64 oI, .int .i64 oN, .slice sa oxs.length sc, .slice ca ocs.length cc, .bool ol] 39)) = W4 at hA4 hA4w ⊢
        refine (message_any W4 (hxs.only (only_of_below hA4w (fun _ => False)) (fun _ _ => id)) (hcr.only (only_of_below hA4w (fun _ => False)) (fun _ _ => id)) (by omega)).mono ?_
        rintro e w5 ⟨m, rfl, hmo, him, hpv, hb5⟩
        obtain ⟨hS, hW, hbw, hin⟩ := HP.out
        have hB5 := below_trans' hb5 hA4
        have hS5 := (hS.turn (K' := fun b => Rw b ∨ (wr.heap.size ≤ b ∧ b < w5.heap.size)) (fun b hb e => by rcases e with e | e; exact e; omega)).step hB5
        obtain ⟨hsm, hnc, hba, hmw, him6⟩ := msg_facts (t := t) (j := j) (K := fun b => Rw b ∨ (wr.heap.size ≤ b ∧ b < w5.heap.size)) (n0 := wr.heap.size) hmo hin (show ocs.length ≤ 1000 by omega) him (fun g pv ps e1 e2 => Nat.le_trans hA4.size (hpv g pv ps e1 e2)) (fun b h1 h2 => .inr ⟨h1, h2⟩)
        have hW5 := hW.below hB5
        have hlt5 : ∀ b, (Rw b ∨ (wr.heap.size ≤ b ∧ b < w5.heap.size)) → b < w5.heap.size := fun b e => by
          rcases e with e | e
          · have := (hW5.lt b e).2; exact this
          · exact e.2
        clear HP hmo hpv hb5 hA4 hA4w hin hxs hcr hS hW hbw g0 g1 g2 g3 g4 g5 g6 g7 g8 hB5
        obtain ⟨bb, hbb⟩ : ∃ b, b = (hearOk t j m && hearB man C m) := ⟨_, rfl⟩
        obtain ⟨man', hman⟩ : ∃ x, x = bif hearOk t j m then hearMan man m else man := ⟨_, rfl⟩
        obtain ⟨C', hC'⟩ : ∃ x, x = bif hearOk t j m then hearC C m else C := ⟨_, rfl⟩
        have hCl' : C'.length ≤ q + 1 := by
          rw [hC']
          have := hearC_len C m
          cases hearOk t j m with
          | true => simp only [cond_true]; omega
          | false => simp only [cond_false]; omega
        have HH := hS5.hears hlt5 him hsm hmw hnc
        rw [← hbb, ← hman, ← hC'] at HH
        have HBB := Lib.hid (And.intro hbb (And.intro hman hC'))
        clear hbb hman hC'
        go_wp2_with fail
        refine HH.mono ?_
        rintro e w6 ⟨rfl, hS6, hO6⟩
        have hbel6 : Below w.heap.size w w6 := by
          obtain ⟨_, _, _, h⟩ := id hS6
          exact h
        have hW6 := hW5.only hO6 (fun b hb e => e.2 (.inl hb)) hbel6
        have hin6 := him6 w6 hO6
        clear HH hS5 hW5 hlt5 him hmw him6 hO6
        go_wp2_with fail
        refine (like_any hin6 hsm).mono ?_
        rintro e w7 ⟨pv7, rfl, hl7, hpn7, hb7⟩
        obtain ⟨pv8, hlk, hl8, hf8, hpn8⟩ := like_form hl7
        rw [hlk]
        have hS7 := (hS6.turn (K' := fun b => Rw b ∨ w6.heap.size ≤ b) (fun b hb e => by rcases e with e | e; exact .inl e; omega)).step hb7
        have hW7 := hW6.below hb7
        have HH := wHears hW7 hl8 hf8 hba hnc (fun g hg => Nat.le_trans hbel6.size (hpn7 g (hpn8 g hg))) (by omega)
        rw [← HBB.out.1, ← HBB.out.2.1, ← HBB.out.2.2] at HH
        have hz6 := hb7.size
        clear hl7 hlk hl8 hf8 hba hnc hS6 hW6 hin6 hsm hb7 hbel6
        go_wp2_with fail
        refine HH.mono ?_
        rintro e w8 ⟨rfl, Rw', M', cv', Cs', hW8, hRw', hO8⟩
        have hS8 := (hS7.only hO8 (fun b e => .inl e) hW8.bel).turn (K' := Rw') (fun b _ e => by
          rcases hRw' b e with e | e | e
          · exact .inl e
          · exact .inr (Nat.le_trans hz6 e)
          · exact .inr (hpn7 b (hpn8 b e)))
        have b1 : (bb != bb) = false := by simp
        clear HH hS7 hW7 hRw' hO8 hpn7 hpn8 HBB hz6
        go_wp2_with fail
        refine (hS8.missing rfl).mono ?_
        rintro e w9 ⟨v9, rfl, hr9, _, hb9, hS9⟩
        have hW9 := hW8.below hb9
        clear hS8 hW8 hb9
        go_wp2_with fail
        refine (wMissing_any hW9 (by omega)).mono ?_
        rintro e w10 ⟨v10, rfl, hr10, _, hb10⟩
        have hS10 := hS9.step hb10
        have hW10 := hW9.below hb10
        have hr9' := hr9.only (only_of_below hb10 (fun _ => False)) (fun _ _ => id)
        clear hS9 hW9 hr9 hb10
        go_wp2_with fail
        refine (sameInts_any hr9' hr10).mono ?_
        rintro e w11 ⟨rfl, q11, rfl⟩
        rw [decide_eq_true rfl]
        have hbn := belowN (Below.refl w10.heap.size w10) q11
        have hS11 := hS10.step hbn
        have hW11 := hW10.below hbn
        generalize w10.drewN q11 = w11 at hS11 hW11 ⊢
        have hrl := recM_len (t := t) (j := j) (C := C') (man := man') (fun x hx => (hW11.mn x hx).2.2.1)
        obtain ⟨r, hr⟩ : ∃ r, recM t j C' man' = r := ⟨_, rfl⟩
        rw [hr] at hrl
        obtain ⟨rt, rj, rc, rwh, rl, rok⟩ := r
        simp only at hrl
        clear hS10 hW10 hr9' hr10 hbn b1
        go_wp2_with fail
        refine (hS11.record hr).mono ?_
        rintro e w12 ⟨⟨pv1, qs1, rfl, hP1, hc1⟩, hb12, hS12⟩
        simp only at hc1
        obtain ⟨x1, y1, rfl⟩ := hP1.1.form
        have hW12 := hW11.below hb12
        have hA13 := below_alloc (Below.refl w12.heap.size w12) (.cells #[.int .i64 rt, .int .i64 rj, .int .i64 rc, .bool rwh, .slice x1 qs1.length y1] 50)
        have hbx13 := heap_new w12 (.cells #[.int .i64 rt, .int .i64 rj, .int .i64 rc, .bool rwh, .slice x1 qs1.length y1] 50) rfl
        have hS13 := hS12.step hA13
        have hW13 := hW12.below hA13
        clear hS11 hW11 hb12 hS12 hW12
        go_wp2_with fail
        generalize (w12.alloc (.cells #[.int .i64 rt, .int .i64 rj, .int .i64 rc, .bool rwh, .slice x1 qs1.length y1] 50)) = W13 at hA13 hbx13 hS13 hW13 ⊢
        refine (wRecord_any hW13 (by omega) hr).mono ?_
        rintro e w14 ⟨⟨pv2, qs2, rfl, hP2, hc2⟩, hb14⟩
        simp only at hc2
        obtain ⟨x2, y2, rfl⟩ := hP2.1.form
        have hbx14 := (hb14.block _ (Array.getElem?_eq_some_iff.1 hbx13).1).trans hbx13
        have hA15 := below_alloc (Below.refl w14.heap.size w14) (.cells #[.int .i64 rt, .int .i64 rj, .int .i64 rc, .bool rwh, .slice x2 qs2.length y2] 50)
        have hbx15 := (hA15.block _ (Array.getElem?_eq_some_iff.1 hbx14).1).trans hbx14
        have hby15 := heap_new w14 (.cells #[.int .i64 rt, .int .i64 rj, .int .i64 rc, .bool rwh, .slice x2 qs2.length y2] 50) rfl
        have hB15 : Below w12.heap.size w12 (w14.alloc (.cells #[.int .i64 rt, .int .i64 rj, .int .i64 rc, .bool rwh, .slice x2 qs2.length y2] 50)) := below_trans' hA15 (below_trans' hb14 hA13)
        have hS15 := (hS13.step hb14).step hA15
        have hW15 := (hW13.below hb14).below hA15
        have hP1' : Pds (w14.alloc (.cells #[.int .i64 rt, .int .i64 rj, .int .i64 rc, .bool rwh, .slice x2 qs2.length y2] 50)) (.slice x1 qs1.length y1) qs1 := ⟨hP1.1.only (only_of_below hB15 (fun _ => False)) (fun _ _ => id), fun x hx => ⟨(hP1.2 x hx).1.only (only_of_below hB15 (fun _ => False)) (fun _ _ => id), (hP1.2 x hx).2⟩⟩
        have hP2' : Pds (w14.alloc (.cells #[.int .i64 rt, .int .i64 rj, .int .i64 rc, .bool rwh, .slice x2 qs2.length y2] 50)) (.slice x2 qs2.length y2) qs2 := ⟨hP2.1.only (only_of_below hA15 (fun _ => False)) (fun _ _ => id), fun x hx => ⟨(hP2.2 x hx).1.only (only_of_below hA15 (fun _ => False)) (fun _ _ => id), (hP2.2 x hx).2⟩⟩
        have b1 : (rok != rok) = false := by simp
        have hq1 : qs1.length ≤ 1000 := by have := congrArg List.length hc1; simp at this; omega
        clear hA13 hbx13 hS13 hW13 hb14 hbx14 hA15 hB15 hP1 hP2
        go_upto_region 13 with (fail)
        generalize (w14.alloc (.cells #[.int .i64 rt, .int .i64 rj, .int .i64 rc, .bool rwh, .slice x2 qs2.length y2] 50)) = W15 at hbx15 hby15 hS15 hW15 hP1' hP2' ⊢
        have x10 : W15.cell? ⟨w12.heap.size, 0, none⟩ = some (.int .i64 rt) := cell_blk hbx15 rfl
        have x11 : W15.cell? ⟨w12.heap.size, 1, none⟩ = some (.int .i64 rj) := cell_blk hbx15 rfl
        have x12 : W15.cell? ⟨w12.heap.size, 2, none⟩ = some (.int .i64 rc) := cell_blk hbx15 rfl
        have x13 : W15.cell? ⟨w12.heap.size, 3, none⟩ = some (.bool rwh) := cell_blk hbx15 rfl
        have x14 : W15.cell? ⟨w12.heap.size, 4, none⟩ = some (.slice x1 qs1.length y1) := cell_blk hbx15 rfl
        have y10 : W15.cell? ⟨w14.heap.size, 0, none⟩ = some (.int .i64 rt) := cell_blk hby15 rfl
        have y11 : W15.cell? ⟨w14.heap.size, 1, none⟩ = some (.int .i64 rj) := cell_blk hby15 rfl
        have y12 : W15.cell? ⟨w14.heap.size, 2, none⟩ = some (.int .i64 rc) := cell_blk hby15 rfl
        have y13 : W15.cell? ⟨w14.heap.size, 3, none⟩ = some (.bool rwh) := cell_blk hby15 rfl
        have y14 : W15.cell? ⟨w14.heap.size, 4, none⟩ = some (.slice x2 qs2.length y2) := cell_blk hby15 rfl
        clear hbx15 hby15
        go_wp2_with fail
        refine (same16_any hP1' hP2' (hc1.trans hc2.symm) hq1).mono ?_
        rintro e w16 ⟨rfl, hb16⟩
        have hS16 := hS15.step hb16
        have hW16 := hW15.below hb16
        clear hS15 hW15 hP1' hP2' hb16 x10 x11 x12 x13 x14 y10 y11 y12 y13 y14 hc1 hc2
        go_wp2
        exact ⟨⟨q + 1, man', C', M', cv', Cs', Rw', by omega, by go_num, hS16, hW16, hCl'⟩, by simp [intOf]; omega⟩
      · go_wp2
        go_ret
        exact ⟨rfl, hbw⟩
end Go.Proofs.Ytcdjeblcmgghhaa.Asm
