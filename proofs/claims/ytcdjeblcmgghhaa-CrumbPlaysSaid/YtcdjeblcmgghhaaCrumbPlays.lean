/- CrumbPlays: in every order of calls the crumbs are the reference's; the law answers true for every input. Conditions: the argument can be read. -/
import Derived.Test.YtcdjeblcmgghhaaCrumbPair
import Derived.Test.YtcdjeblcmgghhaaArgs
import Derived.Deep.RegionHeld3
namespace Go.Proofs.Ytcdjeblcmgghhaa.Crumb
open Go.RowKit Go.Sp

/-- (kind, trace, agent) -/
def eOp (x : Int × Int × Int) : List Value := [.int .i64 x.1, .int .i64 x.2.1, .int .i64 x.2.2]
theorem eOp_len (x : Int × Int × Int) : (eOp x).length = 3 := rfl

set_option maxRecDepth 100000 in
theorem rd_op {w : World} {m : Nat} {ds : List Value} (h : Rd Try.prog w m 108 ds) : ∃ x : Int × Int × Int, eOp x = ds ∧ (Lit.int .i64 x.2.1).wf = true := by
  obtain ⟨hl, hf⟩ := rd_struct h Try.underlying108
  have hc : Try.prog.cellsOf 108 = 3 := by kernel_rfl
  have hi : Try.prog.cellsOf 3 = 1 := by kernel_rfl
  rw [hc] at hl
  match ds, hl with
  | [a, b, c], _ =>
    simp [hi] at hf
    obtain ⟨⟨m1, f1⟩, ⟨m2, f2⟩, ⟨m3, f3⟩⟩ := hf
    obtain ⟨x1, e1, _⟩ := rd_int f1 Try.underlying3
    obtain ⟨x2, e2, w2⟩ := rd_int f2 Try.underlying3
    obtain ⟨x3, e3, _⟩ := rd_int f3 Try.underlying3
    simp at e1 e2 e3
    subst e1 e2 e3
    exact ⟨(x1, x2, x3), rfl, w2⟩

theorem addM_len {n : Int} {M M' : PL} {t a c : Int} (h : addM n M t a = (c, M')) : M'.length ≤ M.length + 1 := by
  have : (addM n M t a).2.length ≤ M.length + 1 := by
    unfold addM
    split
    · simp
    · split
      · simp
      · split
        · simp
        · exact mput_length_le
  rw [h] at this; exact this

theorem pr_start {w2 W3 : World} {R : Nat → Prop} {s cb rb : Nat} {n : Int} (h : Cr w2 R cb n []) (hR : ∀ b, R b → s ≤ b) (hs : s ≤ w2.heap.size) (hrb : rb = w2.heap.size) (hW : W3 = w2.alloc (.cells #[.int .i64 n, .slice none 0 0, .slice none 0 0] 106)) :
    Pr s (fun _ => False) W3 cb rb n [] [] := by
  subst hW; subst hrb
  have hA : Only (fun _ => False) w2 (w2.alloc (.cells #[.int .i64 n, .slice none 0 0, .slice none 0 0] 106)) := (Only.refl _ _).alloc _
  refine ⟨R, (· = w2.heap.size), .slice none 0 0, .slice none 0 0, [], h.only hA (fun _ _ => id), ⟨heap_new _ _ rfl, SL.nil _ _ _, SL.nil _ _ _, fun i u p hu => by simp at hu, rfl, fun g hg => by simp [Value.ownBlock] at hg, fun g hg => by simp [Value.ownBlock] at hg, fun i u hu => by simp at hu, fun b hb => by subst hb; simp⟩, fun b hb e => by have := h.lt b hb; omega, fun b hb => ⟨?_, id⟩⟩
  rcases hb with hb | hb
  · exact hR b hb
  · omega

theorem belowN {B : Nat} {x y : World} (h : Below B x y) (q : Nat) : Below B x (y.drewN q) := ⟨h.os, h.tape, h.output, h.size, h.block⟩

set_option maxRecDepth 100000 in
set_option maxHeartbeats 4000000 in
theorem plays_any {H : Type} {enc : TypeId × Value → H} {base : Nat} {d : DataW H} {ps : List MemPlace} (n : Int) (v : Value) (w : World) (_ : (Lit.int .i64 n).wf = true)
    (u : Value.okWide Try.prog w .any base 101 v) (k : DataW.Trod enc Try.prog w 0 (fun _ => true) true 101 v d ps) (z : (d.weights Try.prog 101).all (· ≤ reachBytes) = true) :
    Calls Try.prog 10 #[.int .i64 n, v] w fun e w' => e = .returned (.bool true) ∧ Below w.heap.size w w' := by
  obtain ⟨xs, hrs, hQ, _⟩ := arg_slice (size := 3) (elt := eOp) Try.underlying101 (by kernel_rfl) (by omega) (fun m ds h => rd_op h) u k z
  clear u k z
  obtain ⟨hxl, a, cap, rfl, hcells⟩ := hrs
  unfold maxLen at hxl
  go_enter Try.func10, Try.ntmps10
  go_wp2_with fail
  refine (awake_any _).mono ?_
  rintro e w1 ⟨rfl, hb1⟩
  by_cases hlen : xs.length ≤ 200
  · by_cases hN : 1 ≤ n ∧ n ≤ 4
    · obtain ⟨hN1, hN2⟩ := hN
      go_wp2_with fail
      refine (new_cr hN1 hN2).mono ?_
      rintro e w2 ⟨R, cb, rfl, h2, hR2, hb2⟩
      go_wp2
      have hP3 := pr_start (s := w.heap.size) h2 (fun b hb => Nat.le_trans hb1.size (hR2 b hb)) (Nat.le_trans hb1.size hb2.size) rfl rfl
      have hB3 : Below w.heap.size w (w2.alloc (.cells #[.int .i64 n, .slice none 0 0, .slice none 0 0] 106)) := (hb1.trans (hb2.mono hb1.size)).alloc (Nat.le_trans hb1.size hb2.size) _
      generalize (w2.alloc (.cells #[.int .i64 n, .slice none 0 0, .slice none 0 0] 106)) = W3 at hP3 hB3 ⊢
      generalize w2.heap.size = rb at hP3 ⊢
      clear h2 hR2 hb2 hb1
      go_loopw [34] (fun i wr => ∃ (j : Nat) (M : PL), j ≤ xs.length ∧ i = .int .i64 j ∧ M.length ≤ j ∧ Pr w.heap.size (fun _ => False) wr cb rb n M M ∧ Below w.heap.size w wr) (fun i _ => xs.length - (intOf i).toNat)
      case atStart => exact ⟨0, [], Nat.zero_le _, rfl, Nat.le_refl _, hP3, hB3⟩
      case round =>
        obtain ⟨j, M, hj, rfl, hMl, hP, hbl⟩ := hrel
        by_cases hlt : j < xs.length
        · obtain ⟨b, off, rfl, hbw, hc⟩ := hcells (by omega)
          have hy : xs[j]? = some xs[j] := List.getElem?_eq_getElem hlt
          have hq := hQ _ (List.getElem_mem hlt)
          generalize xs[j] = x at hy hq
          obtain ⟨kd, tr, ag⟩ := x
          have hcw : ∀ o, wr.cell? ⟨b, o, none⟩ = w.cell? ⟨b, o, none⟩ := fun o => hbl.cell (p := ⟨b, o, none⟩) hbw
          have g0 : wr.cell? ⟨b, off + j * 3, none⟩ = some (.int .i64 kd) := by rw [hcw]; exact hc j _ 0 _ hy rfl
          have g1 : wr.cell? ⟨b, off + j * 3 + 1, none⟩ = some (.int .i64 tr) := by rw [hcw]; exact hc j _ 1 _ hy rfl
          have g2 : wr.cell? ⟨b, off + j * 3 + 2, none⟩ = some (.int .i64 ag) := by rw [hcw]; exact hc j _ 2 _ hy rfl
          clear hy hc hcw hcells
          replace hq : (Lit.int .i64 tr).wf = true := hq
          have hs := hbl.size
          have hbx4 : (wr.alloc (.cells #[.int .i64 kd, .int .i64 tr, .int .i64 ag] 108)).heap[wr.heap.size]? = some (.cells #[.int .i64 kd, .int .i64 tr, .int .i64 ag] 108 (0, 0)) := heap_new _ _ rfl
          have hP4 : Pr w.heap.size (· = wr.heap.size) (wr.alloc (.cells #[.int .i64 kd, .int .i64 tr, .int .i64 ag] 108)) cb rb n M M :=
            (hP.turn (fun b hb e => by omega)).below ((Below.refl _ wr).alloc (Nat.le_refl _) _)
          have hbl4 : Below w.heap.size w (wr.alloc (.cells #[.int .i64 kd, .int .i64 tr, .int .i64 ag] 108)) := hbl.alloc hs _
          have hK4 : wr.heap.size < (wr.alloc (.cells #[.int .i64 kd, .int .i64 tr, .int .i64 ag] 108)).heap.size := by simp
          obtain ⟨F1, F2⟩ := hP4.facts
          clear hP hbl
          have hcase : kd = 1 ∨ kd ≠ 1 := by omega
          rcases hcase with h1 | h1
          case' inl =>
            subst h1
            have hk1 : ((1 : Int) == 1) = true := rfl
            obtain ⟨c, M', hM'⟩ : ∃ c M', addM n M tr ag = (c, M') := ⟨_, _, rfl⟩
            have hML' := addM_len hM'
            go_wp2_with fail
            generalize (wr.alloc (.cells #[.int .i64 1, .int .i64 tr, .int .i64 ag] 108)) = W4 at hbx4 hP4 hbl4 hK4 ⊢
            generalize wr.heap.size = B4 at hbx4 hP4 hK4 ⊢
            have p1 : W4.cell? ⟨B4, 1, none⟩ = some (.int .i64 tr) := by simp [World.cell?, hbx4]
            have p2 : W4.cell? ⟨B4, 2, none⟩ = some (.int .i64 ag) := by simp [World.cell?, hbx4]
            clear g0 g1 g2 hbw
            have hcc : (c != c) = false := by simp
            have C1 := (hP4.heap (w' := W4.drew) rfl).add1 hbl4.size (fun b hb => by subst hb; exact hK4) hq hM'
            have hbl4' : Below w.heap.size w W4.drew := hbl4.drew
            have q1 : W4.drew.cell? ⟨B4, 1, none⟩ = some (.int .i64 tr) := p1
            have q2 : W4.drew.cell? ⟨B4, 2, none⟩ = some (.int .i64 ag) := p2
            go_region_held3 (fun w' => w'.cell? ⟨B4, 1, none⟩ = some (.int .i64 tr) ∧ w'.cell? ⟨B4, 2, none⟩ = some (.int .i64 ag)) (first | exact ⟨q1, q2⟩ | exact ⟨q5, q6⟩ | exact ⟨q7, q8⟩)
              (first
              | (go_at_call 47
                 refine C1.mono ?_
                 rintro e w5 ⟨rfl, hP5, o5⟩
                 have q5 : w5.cell? ⟨B4, 1, none⟩ = some (.int .i64 tr) := by rw [World.cell?_of_block (w := W4.drew) (o5.block B4 hK4 (fun e => e.2 rfl))]; exact p1
                 have q6 : w5.cell? ⟨B4, 2, none⟩ = some (.int .i64 ag) := by rw [World.cell?_of_block (w := W4.drew) (o5.block B4 hK4 (fun e => e.2 rfl))]; exact p2)
              | (go_at_call 48
                 refine (hP5.add2 (Nat.le_trans hbl4.size o5.size) (fun b hb => by subst hb; exact Nat.lt_of_lt_of_le hK4 o5.size) (by omega) (by have := F2 tr; omega) F1 hM').mono ?_
                 rintro e w6 ⟨rfl, hP6, o6⟩
                 have q7 : w6.cell? ⟨B4, 1, none⟩ = some (.int .i64 tr) := by rw [World.cell?_of_block (w := w5) (o6.block B4 (Nat.lt_of_lt_of_le hK4 o5.size) (fun e => e.2 rfl))]; exact q5
                 have q8 : w6.cell? ⟨B4, 2, none⟩ = some (.int .i64 ag) := by rw [World.cell?_of_block (w := w5) (o6.block B4 (Nat.lt_of_lt_of_le hK4 o5.size) (fun e => e.2 rfl))]; exact q6))
            have hM6 : M'.length ≤ j + 1 := by omega
            have hbl6 : Below w.heap.size w w6 := (hbl4'.trans (o5.below hbl4'.size (fun i hi e => by omega))).trans (o6.below (Nat.le_trans hbl4'.size o5.size) (fun i hi e => by omega))
            have hK6 : B4 < w6.heap.size := Nat.lt_of_lt_of_le hK4 (Nat.le_trans o5.size o6.size)
            clear hP5 o5 o6 q5 q6 q8 p1 p2 q1 q2 C1 hP4 hbl4 hbl4' hK4 hbx4
            obtain ⟨M6, hM6e⟩ : ∃ M6, M6 = M' := ⟨_, rfl⟩
            rw [← hM6e] at hP6 hM6
            clear hM6e hM' hML'
          case' inr =>
            have hk1 : (kd == 1) = false := by simp [h1]
            go_wp2_with fail
            generalize (wr.alloc (.cells #[.int .i64 kd, .int .i64 tr, .int .i64 ag] 108)) = W4 at hbx4 hP4 hbl4 hK4 ⊢
            generalize wr.heap.size = B4 at hbx4 hP4 hK4 ⊢
            refine (hP4.drop1 tr).mono ?_
            rintro e w5 ⟨rfl, hP5, o5⟩
            have q5 : w5.cell? ⟨B4, 1, none⟩ = some (.int .i64 tr) := by
              rw [World.cell?_of_block (w := W4) (o5.block B4 hK4 (fun e => e.2 rfl))]; simp [World.cell?, hbx4]
            clear g0 g1 g2 hbw
            go_wp2_with fail
            refine (hP5.drop2 (Nat.le_trans hbl4.size o5.size) (fun b hb => by subst hb; exact Nat.lt_of_lt_of_le hK4 o5.size) (by omega) tr).mono ?_
            rintro e w6 ⟨rfl, hP6, o6⟩
            have q7 : w6.cell? ⟨B4, 1, none⟩ = some (.int .i64 tr) := by rw [World.cell?_of_block (w := w5) (o6.block B4 (Nat.lt_of_lt_of_le hK4 o5.size) (fun e => e.2 rfl))]; exact q5
            have hM6 : (mdel tr M).length ≤ j + 1 := Nat.le_trans mdel_length_le (by omega)
            have hbl6 : Below w.heap.size w w6 := (hbl4.trans (o5.below hbl4.size (fun i hi e => by omega))).trans (o6.below (Nat.le_trans hbl4.size o5.size) (fun i hi e => by omega))
            have hK6 : B4 < w6.heap.size := Nat.lt_of_lt_of_le hK4 (Nat.le_trans o5.size o6.size)
            clear hP5 o5 o6 q5 hP4 hbl4 hK4 hbx4
            obtain ⟨M6, hM6e⟩ : ∃ M6, M6 = mdel tr M := ⟨_, rfl⟩
            rw [← hM6e] at hP6 hM6
            clear hM6e
          all_goals
            go_wp2_with fail
            obtain ⟨tv, ht6, hrt, hnt⟩ := hP6.traces2
            have D1 := (hP6.heap (w' := w6.drew) rfl).of1 tr
            have hbl6' : Below w.heap.size w w6.drew := hbl6.drew
            have q1 : w6.drew.cell? ⟨B4, 1, none⟩ = some (.int .i64 tr) := q7
            have q2 : w6.drew.cell? ⟨rb, 1, none⟩ = some tv := ht6
            go_region_held3 (fun w' => w'.cell? ⟨B4, 1, none⟩ = some (.int .i64 tr) ∧ w'.cell? ⟨rb, 1, none⟩ = some tv) (first | exact ⟨q1, q2⟩ | exact ⟨r1, r2⟩ | exact ⟨r3, r4⟩ | exact ⟨r5, r6⟩ | exact ⟨r7, r8⟩)
              (first
              | (go_at_call 51
                 refine D1.mono ?_
                 rintro e w7 ⟨v7, rfl, hs7, hn7, hb7⟩
                 have hP7 := (hP6.heap (w' := w6.drew) rfl).below hb7
                 have hr7 := SL.ints hs7
                 have r1 : w7.cell? ⟨B4, 1, none⟩ = some (.int .i64 tr) := by rw [hb7.cell (p := ⟨B4, 1, none⟩) hK6]; exact q1
                 have r2 : w7.cell? ⟨rb, 1, none⟩ = some tv := by rw [hb7.cell (p := ⟨rb, 1, none⟩) (World.block_lt_of_cell? _ _ ht6)]; exact q2
                 have hrt7 : RS w7 1 eInt tv (M6.map Prod.fst) := (hrt.heap (w' := w6.drew) rfl).only (only_of_below hb7 (fun _ => False)) (fun _ _ => id))
              | (go_at_call 52
                 refine (hP7.of2 tr).mono ?_
                 rintro e w8 ⟨v8, rfl, hr8, hn8, rfl⟩)
              | (go_at_call 20
                 refine (sameInts_any hr10 hrt10).mono ?_
                 rintro e w11 ⟨rfl, q11, rfl⟩
                 rw [decide_eq_true rfl]
                 have r7 : (w10.drewN q11).cell? ⟨B4, 1, none⟩ = some (.int .i64 tr) := r5
                 have r8 : (w10.drewN q11).cell? ⟨rb, 1, none⟩ = some tv := r6)
              | (go_at_call 20
                 refine (sameInts_any hr7 hr8).mono ?_
                 rintro e w9 ⟨rfl, q9, rfl⟩
                 rw [decide_eq_true rfl]
                 have r3 : (w7.drewN q9).cell? ⟨B4, 1, none⟩ = some (.int .i64 tr) := r1
                 have r4 : (w7.drewN q9).cell? ⟨rb, 1, none⟩ = some tv := r2)
              | (go_at_call 53
                 refine ((hP7.heap (w' := w7.drewN q9) rfl).traces1 (by omega)).mono ?_
                 rintro e w10 ⟨v10, rfl, hr10, hb10⟩
                 have r5 : w10.cell? ⟨B4, 1, none⟩ = some (.int .i64 tr) := by rw [hb10.cell (p := ⟨B4, 1, none⟩) (World.block_lt_of_cell? _ _ r3)]; exact r3
                 have r6 : w10.cell? ⟨rb, 1, none⟩ = some tv := by rw [hb10.cell (p := ⟨rb, 1, none⟩) (World.block_lt_of_cell? _ _ r4)]; exact r4
                 have hrt10 : RS w10 1 eInt tv (M6.map Prod.fst) := (hrt7.heap (w' := w7.drewN q9) rfl).only (only_of_below hb10 (fun _ => False)) (fun _ _ => id)))
            have hbl7 := hbl6'.trans (hb7.mono hbl6'.size)
            have hbl9 := belowN hbl7 q9
            have hbl10 := hbl9.trans (hb10.mono hbl9.size)
            have hbl11 := belowN hbl10 q11
            have hP11 := ((((hP7.heap (w' := w7.drewN q9) rfl).below hb10).heap (w' := w10.drewN q11) rfl)).turn (K' := fun _ => False) (fun _ _ h => h.elim)
            clear hP7 hb7 hb10 hbl6 hbl6' hbl7 hbl9 hbl10 hrt hrt7 hrt10 hr7 hr8 hr10 hs7 r1 r2 r3 r4 r5 r6 r7 r8 q1 q2 q7 ht6 D1 hP6 hn7 hn8 hnt
            go_wp2
            exact ⟨⟨j + 1, M6, by omega, by go_num, hM6, hP11, hbl11⟩, by simp [intOf]; omega⟩
        · have hje : j = xs.length := by omega
          subst hje
          clear hP3 hB3
          go_wp2_with fail
          refine (hP.of1 1).mono ?_
          rintro e w5 ⟨v5, rfl, hs5, hn5, hb5⟩
          have hP5 := (hP.turn (K' := fun b => v5.ownBlock = some b) (fun b hb e => absurd hb (by have := hn5 b e; omega))).below hb5
          have hbl5 := hbl.trans (hb5.mono hbl.size)
          have hn5' : ∀ g, v5.ownBlock = some g → w.heap.size ≤ g := fun g hg => Nat.le_trans hbl.size (hn5 g hg)
          obtain ⟨a5, c5, rfl⟩ := hs5.form
          have hL4 := hP5.facts.2 1
          clear hP hbl hb5 hn5
          generalize hLe : lget 1 M = L at hs5 hP5 hn5' hL4 ⊢
          have HLE := Lib.hid hLe
          clear hLe
          go_wp2
          go_loopw [87] (fun i wr => ∃ (q : Nat) (cs : List Value), q ≤ L.length ∧ i = .int .i64 q ∧ SL wr.heap 3 1 (.slice a5 L.length c5) L.length cs ∧ Pr w.heap.size (fun b => (Value.slice a5 L.length c5).ownBlock = some b) wr cb rb n M M ∧ Below w.heap.size w wr) (fun i _ => L.length - (intOf i).toNat)
          case atStart => exact ⟨0, _, Nat.zero_le _, rfl, hs5, hP5, hbl5⟩
          case round =>
            obtain ⟨q, cs, hq, rfl, hs6, hP6, hbl6⟩ := hrel
            by_cases hql : q < L.length
            · obtain ⟨b5, o5, cap5, hv, _⟩ := hs6.form' (by omega)
              simp only [Value.slice.injEq, true_and] at hv
              obtain ⟨rfl, rfl⟩ := hv
              have hcl : cs.length = L.length := by have := hs6.1; omega
              obtain ⟨y, hy⟩ : ∃ y, cs[q]? = some y := ⟨_, List.getElem?_eq_getElem (by omega)⟩
              have g6 : wr.cell? ⟨b5, o5 + q, none⟩ = some y := hs6.cell hy
              have f6 := hs6.free (o5 + q)
              have hs7 := hs6.set (j := q) (by omega) (.int .i64 99)
              have o7 : Only (· = b5) wr (wr.setCell ⟨b5, o5 + q, none⟩ (.int .i64 99)) := (Only.refl (· = b5) wr).setCell (p := ⟨b5, o5 + q, none⟩) (fun _ => rfl) _
              have hP7 := hP6.only o7 (fun b _ hb e => hb (by rw [e]; rfl))
              have hbl7 := hbl6.trans (o7.below hbl6.size (fun i hi e => by have := hn5' b5 rfl; omega))
              clear hs6 hy o7 hP6 hbl6 hP5 hs5 hbl5 hcl
              go_wp2
              exact ⟨⟨q + 1, _, by omega, by go_num, hs7, hP7, hbl7⟩, by simp [intOf]; omega⟩
            · have hqe : q = L.length := by omega
              subst hqe
              clear hs5 hP5 hbl5
              go_wp2_with fail
              refine (hP6.of1 1).mono ?_
              rintro e w7 ⟨v7, rfl, hs7, hn7, hb7⟩
              have hP7 := hP6.below hb7
              have hbl7 := hbl6.trans (hb7.mono hbl6.size)
              have hr7 := SL.ints hs7
              obtain ⟨a7, c7, rfl⟩ := hs7.form
              go_wp2_with fail
              refine (hP7.of2 1).mono ?_
              rintro e w8 ⟨v8, rfl, hr8, hn8, rfl⟩
              obtain ⟨_, a8, c8, rfl, _⟩ := id hr8
              go_wp2_with fail
              refine (sameInts_any hr7 hr8).mono ?_
              rintro e w9 ⟨rfl, q9, rfl⟩
              rw [decide_eq_true rfl]
              have hbl9 := belowN hbl7 q9
              go_wp2
              go_ret
              exact ⟨rfl, hbl9⟩
    · go_wp2_with fail
      refine (new_no hN).mono ?_
      rintro e w' ⟨rfl, rfl⟩
      by_cases hlt : n < 1
      · go_wp2
        go_ret
        exact ⟨rfl, hb1⟩
      · have hgt : 4 < n := by omega
        go_wp2
        go_ret
        exact ⟨rfl, hb1⟩
  · go_wp2_with fail
    refine (awake_any _).mono ?_
    rintro e w2 ⟨rfl, hb2⟩
    go_wp2
    go_ret
    exact ⟨rfl, hb1.trans (hb2.mono hb1.size)⟩
end Go.Proofs.Ytcdjeblcmgghhaa.Crumb
