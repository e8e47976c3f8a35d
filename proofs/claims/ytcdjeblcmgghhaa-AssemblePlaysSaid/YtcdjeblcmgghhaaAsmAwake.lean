/- The answers that the document fixes for assemble (awake). No condition. -/
import Derived.Test.YtcdjeblcmgghhaaAsm7
namespace Go.Sp
open Go.RowKit
end Go.Sp
namespace Go.Proofs.Ytcdjeblcmgghhaa.Asm
open Go.RowKit Go.Sp Msg

/-- an assembler made since w0, none of its blocks in K -/
def St (w0 w : World) (K : Nat → Prop) (ab : Nat) (t j : Int) (man : Option (Int × List Pt)) (C : List Chk) : Prop := ∃ R, AsR w R ab t j man C ∧ (∀ b, R b → w0.heap.size ≤ b ∧ ¬ K b) ∧ Below w0.heap.size w0 w

section
variable {w0 w w' : World} {K : Nat → Prop} {ab : Nat} {t j : Int} {man man' : Option (Int × List Pt)} {C C' : List Chk} {m : Mg}

theorem St.step (h : St w0 w K ab t j man C) (o : Below w.heap.size w w') : St w0 w' K ab t j man C := by
  obtain ⟨R, h, hR, hb⟩ := h
  exact ⟨R, h.below o, hR, hb.trans (o.mono hb.size)⟩
theorem St.turn {K' : Nat → Prop} (h : St w0 w K ab t j man C) (hK : ∀ b, b < w.heap.size → K' b → K b) : St w0 w K' ab t j man C := by
  obtain ⟨R, h, hR, hb⟩ := h
  exact ⟨R, h, fun b hb => ⟨(hR b hb).1, fun e => (hR b hb).2 (hK b (h.lt b hb) e)⟩, hb⟩
theorem MOwn.mono {F G : Nat → Prop} (h : MOwn F m) (hG : ∀ b, G b → F b) : MOwn G m := by
  cases m <;> first | trivial | exact fun g hg e => h g hg (hG _ e) | exact fun h0 g hg e => h h0 g hg (hG _ e) | exact ⟨fun g hg e => h.1 g hg (hG _ e), fun p hp g hg e => h.2 p hp g hg (hG _ e)⟩
theorem St.hear (h : St w0 w K ab t j man C) (o : Below w.heap.size w w') (hKl : ∀ b, K b → b < w'.heap.size) (hm : InMem w' m) (hs : Small m) (hR : MOwn (fun b => b < w.heap.size) m) (hnc : NoCr m) (hok : hearOk t j m = true) {bv : Bool} (hb : hearB man C m = bv) (hman : hearMan man m = man') (hC : hearC C m = C') :
    Calls Try.prog 17 #[.pointer (some ⟨ab, 0, none⟩), val m] w' fun e w'' => e = .returned (.bool bv) ∧ St w0 w'' K ab t j man' C' ∧ Only (fun b => w0.heap.size ≤ b ∧ ¬ K b) w' w'' := by
  obtain ⟨R, h1, hR1, hbl⟩ := h
  have h2 := h1.below o
  have hbl2 := hbl.trans (o.mono hbl.size)
  refine (hear_any h2 hm hs (MOwn.mono hR fun b hb => h1.lt b hb) hnc).mono ?_
  rintro e w'' ⟨rfl, R', h3, hR', hO⟩
  rw [hok] at h3
  simp only [cond_true] at h3
  rw [hman, hC] at h3
  refine ⟨by rw [hok, hb]; rfl, ⟨R', h3, fun b hb => ?_, hbl2.trans (hO.below hbl2.size fun i hi e => by have := (hR1 i e).1; omega)⟩, hO.mono fun b _ hb => hR1 b hb⟩
  rcases hR' b hb with h | h
  · exact hR1 b h
  · exact ⟨Nat.le_trans hbl2.size h, fun e => by have := hKl b e; omega⟩
theorem St.missing (h : St w0 w K ab t j man C) {l : List Int} (hl : missM t C man = l) :
    Calls Try.prog 21 #[.pointer (some ⟨ab, 0, none⟩)] w fun e w' => ∃ v, e = .returned v ∧ RS w' 1 eInt v l ∧ (∀ g, v.ownBlock = some g → w.heap.size ≤ g) ∧ Below w.heap.size w w' ∧ St w0 w' K ab t j man C := by
  obtain ⟨R, h1, hR, hb⟩ := id h
  refine (missing_any h1).mono ?_
  rintro e w' ⟨v, rfl, hr, hn, hb1⟩
  exact ⟨v, rfl, by rw [← hl]; exact hr, hn, hb1, h.step hb1⟩
theorem St.record (h : St w0 w K ab t j man C) {r : Rec} (hr : recM t j C man = r) :
    Calls Try.prog 23 #[.pointer (some ⟨ab, 0, none⟩)] w fun e w' => RecIs w' r e ∧ Below w.heap.size w w' ∧ St w0 w' K ab t j man C := by
  obtain ⟨R, h1, hR, hb⟩ := id h
  refine (record_any h1).mono ?_
  rintro e w' ⟨h2, hb1⟩
  exact ⟨by rw [← hr]; exact h2, hb1, h.step hb1⟩
end

def sS : ByteArray := { data := #[115] }
def p0 : Pt := ⟨0, 7, 2, 1, .slice none 0 0, [], false⟩
def p1 : Pt := ⟨1, 7, 2, 0, .slice none 0 0, [], false⟩
def x0 : Spn := (7, 1, sS)
def k0 : Chk := ⟨0, 0, 1, [x0]⟩
def k1 : Chk := ⟨1, 0, 1, []⟩

theorem ok1 (v : Value) : hearOk 7 2 (.mani 7 2 1 v [p0, p1]) = true := by kernel_rfl
theorem ok2 (v : Value) : hearOk 7 2 (.chunk 0 7 2 0 1 v [x0]) = true := by kernel_rfl
theorem ok3 (v : Value) : hearOk 7 2 (.chunk 1 7 2 0 1 v []) = true := by kernel_rfl
theorem m1 : missM 7 [k0] (some (1, [p0, p1])) = [1] := by kernel_rfl
theorem m2 : missM 7 [k0, k1] (some (1, [p0, p1])) = [] := by kernel_rfl
theorem r1 : recM 7 2 [k0] (some (1, [p0, p1])) = (0, 0, 0, false, [], false) := by kernel_rfl
theorem r2 : recM 7 2 [k0, k1] (some (1, [p0, p1])) = (7, 2, 1, true, [(0, [x0], [], false), (1, [], [], false)], true) := by kernel_rfl
theorem c1 : keepC [] k0 = [k0] := by kernel_rfl
theorem c2 : keepC [k0] k1 = [k0, k1] := by kernel_rfl
theorem c3 : keepC [k0, k1] k1 = [k0, k1] := by kernel_rfl
theorem f1 : refuse [] k0 = false := by kernel_rfl
theorem f2 : refuse [k0] k1 = false := by kernel_rfl
theorem f3 : refuse [k0, k1] k1 = true := by kernel_rfl

set_option maxRecDepth 100000 in
set_option maxHeartbeats 4000000 in
theorem awake_any (w : World) : Calls Try.prog 13 #[] w fun e w' => e = .returned (.bool true) ∧ Below w.heap.size w w' := by
  go_enter Try.func13, Try.ntmps13
  go_wp2_with (fail)
  refine (new_any w 7 2).mono ?_
  rintro e w1 ⟨ab, R, rfl, h1, hR, hb⟩
  have s1 : St w w1 (fun _ => False) ab 7 2 none [] := ⟨R, h1, fun b hb => ⟨hR b hb, id⟩, hb⟩
  clear h1 hR hb
  have hm1 : Pts (w1.alloc (.cells #[.int .i64 0, .int .i64 7, .int .i64 2, .int .i64 1, .slice none 0 0, .bool false, .int .i64 1, .int .i64 7, .int .i64 2, .int .i64 0, .slice none 0 0, .bool false] 65)) (.slice (some ⟨w1.heap.size, 0, none⟩) 2 2) [p0, p1] :=
    ⟨rs_lits (enc := ePt) (size := 6) ePt_len w1 [p0, p1] 65 (by unfold maxLen; simp) rfl, fun p hp => by simp at hp; rcases hp with rfl | rfl <;> exact RS.nil _ _ _⟩
  have H1 := s1.hear (m := .mani 7 2 1 (.slice (some ⟨w1.heap.size, 0, none⟩) 2 2) [p0, p1]) (below_alloc (Below.refl w1.heap.size w1) _) (fun b e => e.elim) hm1 (by simp [Small]) ⟨fun g hg => by simp [Value.ownBlock] at hg; omega, fun p hp g hg => by simp at hp; rcases hp with rfl | rfl <;> simp [p0, p1, Value.ownBlock] at hg⟩ (fun p hp => by simp at hp; rcases hp with rfl | rfl <;> exact ⟨rfl, rfl⟩) (ok1 _) (bv := true) (man' := some (1, [p0, p1])) (C' := []) rfl rfl rfl
  simp only [val, Option.isNone] at H1
  go_wp2_with (fail)
  refine H1.mono ?_
  rintro e w2 ⟨rfl, s2, _⟩
  clear H1 hm1 s1
  have hm2 : RS (w2.alloc (.cells #[.int .i64 7, .int .i64 1, .string { data := #[115] }] 63)) 3 eSpn (.slice (some ⟨w2.heap.size, 0, none⟩) 1 1) [x0] :=
    rs_lits (enc := eSpn) (size := 3) eSpn_len w2 [x0] 63 (by unfold maxLen; simp) rfl
  have H2 := s2.hear (m := .chunk 0 7 2 0 1 (.slice (some ⟨w2.heap.size, 0, none⟩) 1 1) [x0]) (below_alloc (Below.refl w2.heap.size w2) _) (fun b e => e.elim) hm2 trivial (fun _ g hg => by simp [Value.ownBlock] at hg; omega) trivial (ok2 _) (bv := true) (by show (!refuse [] k0) = true; rw [f1]; rfl) rfl (show keepC [] k0 = _ from c1)
  simp only [val] at H2
  go_wp2_with (fail)
  refine H2.mono ?_
  rintro e w3 ⟨rfl, s3, _⟩
  clear H2 hm2 s2
  go_wp2_with (fail)
  refine (s3.missing m1).mono ?_
  rintro e w4 ⟨v4, rfl, hr4, hn4, hb4, _⟩
  obtain ⟨b4, o4, c4, rfl, hb4l, _⟩ := RS.int hr4 (by simp)
  have s4 := (s3.turn (K' := (· = b4)) (fun b hb e => absurd hb (by have := hn4 b4 rfl; omega))).step hb4
  clear s3 hb4
  go_wp2_with (fail)
  refine (s4.record r1).mono ?_
  rintro e w5 ⟨⟨pv5, qs5, rfl, hp5, hc5⟩, hb5, s5⟩
  have hr5 := hr4.only (only_of_below hb5 (fun _ => False)) (fun _ _ => id)
  obtain ⟨a5, c5, rfl⟩ := hp5.1.form
  have hsz5 := hb5.size
  clear s4 hr4 hb5 hp5 hc5
  go_wp2_with (fail)
  have hA5 := below_alloc (Below.refl w5.heap.size w5) (.cells #[.int .i64 0, .int .i64 0, .int .i64 0, .bool false, .slice a5 qs5.length c5] 50)
  have hr5' := hr5.only (only_of_below hA5 (fun _ => False)) (fun _ _ => id)
  have H3 := s5.hear (m := .chunk 1 7 2 0 1 (.slice none 0 0) []) hA5 (fun b e => by subst e; exact Nat.lt_of_lt_of_le (Nat.lt_of_lt_of_le hb4l hsz5) hA5.size) (RS.nil _ _ _) trivial (fun _ g hg => by simp [Value.ownBlock] at hg) trivial (ok3 _) (bv := true) (by show (!refuse [k0] k1) = true; rw [f2]; rfl) rfl (show keepC [k0] k1 = _ from c2)
  simp only [val] at H3
  generalize (w5.alloc (.cells #[.int .i64 0, .int .i64 0, .int .i64 0, .bool false, .slice a5 qs5.length c5] 50)) = w5' at hA5 hr5' H3 ⊢
  refine H3.mono ?_
  rintro e w6 ⟨rfl, s6, hO6⟩
  have hr6 := hr5'.only hO6 (fun g hg e => e.2 (by simp [Value.ownBlock] at hg; exact hg.symm))
  clear H3 s5 hr5
  have H4 := s6.hear (m := .chunk 1 7 2 0 1 (.slice none 0 0) []) (Below.refl w6.heap.size w6) (fun b e => by subst e; exact Nat.lt_of_lt_of_le hb4l (Nat.le_trans (Nat.le_trans hsz5 hA5.size) hO6.size)) (RS.nil _ _ _) trivial (fun _ g hg => by simp [Value.ownBlock] at hg) trivial (ok3 _) (bv := false) (by show (!refuse [k0, k1] k1) = false; rw [f3]; rfl) rfl (show keepC [k0, k1] k1 = _ from c3)
  simp only [val] at H4
  go_wp2_with (fail)
  refine H4.mono ?_
  rintro e w7 ⟨rfl, s7, hO7⟩
  have hr7 := hr6.only hO7 (fun g hg e => e.2 (by simp [Value.ownBlock] at hg; exact hg.symm))
  clear H4 s6
  go_wp2_with (fail)
  refine (s7.record r2).mono ?_
  rintro e w8 ⟨⟨pv8, qs8, rfl, hp8, hc8⟩, hb8, s8⟩
  obtain ⟨a8, c8, rfl⟩ := hp8.1.form
  have hr8 := hr7.only (only_of_below hb8 (fun _ => False)) (fun _ _ => id)
  clear s7 hb8
  have hl8 : qs8.length = 2 := by have := congrArg List.length hc8; simpa using this
  obtain ⟨b8, o8, cap8, hv, _⟩ := hp8.1.form' (by omega)
  simp only [Value.slice.injEq] at hv
  obtain ⟨rfl, _, rfl⟩ := hv
  obtain ⟨q0, q1, rfl⟩ : ∃ q0 q1, qs8 = [q0, q1] := by
    match qs8, hl8 with
    | [q0, q1], _ => exact ⟨q0, q1, rfl⟩
  have hq0 := (hp8.2 q0 (by simp)).1
  have hsl : q0.sl.length = 1 := by
    have := congrArg (fun l => (l.head?.map fun c => c.2.1.length)) hc8
    simpa [con] using this
  obtain ⟨a9, c9, hq9⟩ := hq0.form
  rw [hsl] at hq9
  have gsv : w8.cell? ⟨b8, o8 + 1, none⟩ = some q0.sv := hp8.1.cell (j := 1) rfl
  rw [hq9] at gsv
  clear hq9 hq0 hsl hc8 hl8
  go_wp2_with (fail)
  have hA8 := below_alloc (Below.refl w8.heap.size w8) (.cells #[.int .i64 7, .int .i64 2, .int .i64 1, .bool true, .slice (some ⟨b8, o8, none⟩) 2 c8] 50)
  have hbx8 := heap_new w8 (.cells #[.int .i64 7, .int .i64 2, .int .i64 1, .bool true, .slice (some ⟨b8, o8, none⟩) 2 c8] 50) rfl
  have hs8 : (w8.alloc (.cells #[.int .i64 7, .int .i64 2, .int .i64 1, .bool true, .slice (some ⟨b8, o8, none⟩) 2 c8] 50)).heap.size = w8.heap.size + 1 := by simp
  have gsv9 : (w8.alloc (.cells #[.int .i64 7, .int .i64 2, .int .i64 1, .bool true, .slice (some ⟨b8, o8, none⟩) 2 c8] 50)).cell? ⟨b8, o8 + 1, none⟩ = some (.slice a9 1 c9) := by
    rw [World.cell?_alloc_lt _ _ _ (World.block_lt_of_cell? _ _ gsv)]; exact gsv
  have s9 := s8.step hA8
  have hr9 := hr8.only (only_of_below hA8 (fun _ => False)) (fun _ _ => id)
  rw [← hs8]
  generalize (w8.alloc (.cells #[.int .i64 7, .int .i64 2, .int .i64 1, .bool true, .slice (some ⟨b8, o8, none⟩) 2 c8] 50)) = w9 at hA8 hbx8 gsv9 s9 hr9 ⊢
  have s10 := s9.step (below_alloc (Below.refl w9.heap.size w9) (.cells #[.int .i64 1] 3))
  have hlt9 : w8.heap.size < w9.heap.size := (Array.getElem?_eq_some_iff.1 hbx8).1
  have hbx10 := (below_alloc (Below.refl w9.heap.size w9) (.cells #[.int .i64 1] 3)).block _ hlt9 |>.trans hbx8
  have gsv10 : (w9.alloc (.cells #[.int .i64 1] 3)).cell? ⟨b8, o8 + 1, none⟩ = some (.slice a9 1 c9) := by
    rw [World.cell?_alloc_lt _ _ _ (World.block_lt_of_cell? _ _ gsv9)]; exact gsv9
  refine (sameInts_any (xs := [1]) (ys := [1]) (hr9.only (only_of_below (below_alloc (Below.refl w9.heap.size w9) (.cells #[.int .i64 1] 3)) (fun _ => False)) (fun _ _ => id)) (RS.lit w9 [1] _ (by unfold maxLen; simp) rfl)).mono ?_
  rintro e w11 ⟨rfl, q, rfl⟩
  have s11 := s10.step (belowN (Below.refl _ _) q)
  have hbx11 : ((w9.alloc (.cells #[.int .i64 1] 3)).drewN q).heap[w8.heap.size]? = _ := hbx10
  have gsv11 : ((w9.alloc (.cells #[.int .i64 1] 3)).drewN q).cell? ⟨b8, o8 + 1, none⟩ = some (.slice a9 1 c9) := gsv10
  clear hr9 s10 s9 hA8 hbx8 hbx10 gsv9 gsv10 hs8 hr8 s8 gsv hp8
  generalize (w9.alloc (.cells #[.int .i64 1] 3)).drewN q = w11 at s11 hbx11 gsv11 ⊢
  have z2 : w11.cell? ⟨w8.heap.size, 2, none⟩ = some (.int .i64 1) := by simp [World.cell?, hbx11]
  have z3 : w11.cell? ⟨w8.heap.size, 3, none⟩ = some (.bool true) := by simp [World.cell?, hbx11]
  have z4 : w11.cell? ⟨w8.heap.size, 4, none⟩ = some (.slice (some ⟨b8, o8, none⟩) 2 c8) := by simp [World.cell?, hbx11]
  go_wp2_with (fail)
  refine (s11.missing m2).mono ?_
  rintro e w12 ⟨v12, rfl, hr12, hn12, hb12, s12⟩
  obtain ⟨_, a12, c12, rfl, _⟩ := id hr12
  obtain ⟨R, _, _, hbe⟩ := s12
  clear hr12 hn12 hb12 s11
  go_wp2
  go_ret
  exact ⟨rfl, hbe⟩
end Go.Proofs.Ytcdjeblcmgghhaa.Asm
