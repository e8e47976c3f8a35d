/- The answers that the document fixes for job (awake). No condition. -/
import Derived.Test.YtniggacgkhkgiaaJob5
namespace Go.Proofs.Ytniggacgkhkgiaa.Job
open Go.RowKit Go.Sp Msg

/-- a job made since w0, none of its blocks in K -/
def Sj (w0 w : World) (K : Nat → Prop) (jb : Nat) (J : Jb) : Prop := ∃ R, JbR w R jb J ∧ (∀ b, R b → w0.heap.size ≤ b ∧ ¬ K b) ∧ Below w0.heap.size w0 w

section
variable {w0 w w' : World} {K K' : Nat → Prop} {jb : Nat} {J J' : Jb} {m : Mg}
theorem Sj.bel (h : Sj w0 w K jb J) : Below w0.heap.size w0 w := by
  obtain ⟨_, _, _, h⟩ := h
  exact h
theorem Sj.step (h : Sj w0 w K jb J) (o : Below w.heap.size w w') : Sj w0 w' K jb J := by
  obtain ⟨R, h, hR, hb⟩ := h
  exact ⟨R, h.below o, hR, hb.trans (o.mono hb.size)⟩
theorem Sj.turn (h : Sj w0 w K jb J) (hK : ∀ b, b < w.heap.size → K' b → K b) : Sj w0 w K' jb J := by
  obtain ⟨R, h, hR, hb⟩ := h
  exact ⟨R, h, fun b hb => ⟨(hR b hb).1, fun e => (hR b hb).2 (hK b (h.lt b hb) e)⟩, hb⟩
theorem Sj.hear (h : Sj w0 w K jb J) (hKl : ∀ b, K b → b < w.heap.size) (hm : InMem w m) (hs : Small m) (hJ : hearJ J m = J') :
    Calls Try.prog 21 #[.pointer (some ⟨jb, 0, none⟩), val m] w fun e w'' => e = .returned (.tuple #[]) ∧ Sj w0 w'' K jb J' ∧ Only (fun b => w0.heap.size ≤ b ∧ ¬ K b) w w'' := by
  obtain ⟨R, h1, hR1, hbl⟩ := h
  refine (hear_any h1 hm hs).mono ?_
  rintro e w'' ⟨rfl, R', h3, hR', hO⟩
  rw [hJ] at h3
  refine ⟨rfl, ⟨R', h3, fun b hb => ?_, hbl.trans (hO.below hbl.size fun i hi e => by have := (hR1 i e).1; omega)⟩, hO.mono fun b _ hb => hR1 b hb⟩
  rcases hR' b hb with h | h
  · exact hR1 b h
  · exact ⟨Nat.le_trans hbl.size h, fun e => by have := hKl b e; omega⟩
theorem Sj.outs (h : Sj w0 w K jb J) : Calls Try.prog 24 #[.pointer (some ⟨jb, 0, none⟩)] w fun e w' => (∃ v outs, e = .returned v ∧ OutsNew w w' J v outs) ∧ Below w.heap.size w w' ∧ Sj w0 w' K jb J := by
  obtain ⟨R, h1, hR, hb⟩ := id h
  refine (outs_any h1).mono ?_
  rintro e w' ⟨v, outs, rfl, ho, hb1⟩
  exact ⟨⟨v, outs, rfl, ho⟩, hb1, h.step hb1⟩
theorem Sj.mani_no (h : Sj w0 w K jb J) (hf : J.full = false) : Calls Try.prog 32 #[.pointer (some ⟨jb, 0, none⟩)] w fun e w' => e = .returned (.tuple #[.agg #[.int .i64 0, .int .i64 0, .int .i64 0, .slice none 0 0], .bool false]) ∧ Below w.heap.size w w' ∧ Sj w0 w' K jb J := by
  obtain ⟨R, h1, hR, hb⟩ := id h
  refine (Job.mani_no h1 hf).mono ?_
  rintro e w' ⟨rfl, hb1⟩
  exact ⟨rfl, hb1, h.step hb1⟩
theorem Sj.mani_yes (h : Sj w0 w K jb J) (hf : J.full = true) : Calls Try.prog 32 #[.pointer (some ⟨jb, 0, none⟩)] w fun e w' => ManIs w w' J e ∧ Below w.heap.size w w' ∧ Sj w0 w' K jb J := by
  obtain ⟨R, h1, hR, hb⟩ := id h
  refine (Job.mani_yes h1 hf).mono ?_
  rintro e w' ⟨he, hb1⟩
  exact ⟨he, hb1, h.step hb1⟩
theorem Sj.phase (h : Sj w0 w K jb J) : Calls Try.prog 25 #[.pointer (some ⟨jb, 0, none⟩)] w fun e w' => e = .returned (.int .i64 J.ph) ∧ w = w' := by
  obtain ⟨R, h1, _⟩ := h
  exact phase_any h1
theorem Sj.trace (h : Sj w0 w K jb J) : Calls Try.prog 26 #[.pointer (some ⟨jb, 0, none⟩)] w fun e w' => e = .returned (.int .i64 J.tr) ∧ w = w' := by
  obtain ⟨R, h1, _⟩ := h
  exact trace_any h1
theorem Sj.stored (h : Sj w0 w K jb J) : Calls Try.prog 30 #[.pointer (some ⟨jb, 0, none⟩)] w fun e w' => e = .returned (.bool J.kept) ∧ w = w' := by
  obtain ⟨R, h1, _⟩ := h
  exact stored_any h1
theorem Sj.visited (h : Sj w0 w K jb J) : Calls Try.prog 28 #[.pointer (some ⟨jb, 0, none⟩)] w fun e w' => (∃ v, e = .returned v ∧ RS w' 1 eInt v (J.vs.map Prod.fst) ∧ (∀ g, v.ownBlock = some g → w.heap.size ≤ g)) ∧ Below w.heap.size w w' ∧ Sj w0 w' K jb J := by
  obtain ⟨R, h1, _⟩ := id h
  refine (visited_any h1).mono ?_
  rintro e w' ⟨v, rfl, hr, hn, hb1⟩
  exact ⟨⟨v, rfl, hr, hn⟩, hb1, h.step hb1⟩
theorem Sj.new (w : World) {id ag a t c : Int} (hn : newOk id ag a t c = true) : Calls Try.prog 17 #[.int .i64 id, .int .i64 ag, .agg #[.int .i64 a, .int .i64 t, .int .i64 c]] w fun e w' => ∃ jb, e = .returned (.pointer (some ⟨jb, 0, none⟩)) ∧ Sj w w' (fun _ => False) jb (newJ id ag a t c) ∧ Below w.heap.size w w' := by
  refine (new_yes w id ag a t c hn).mono ?_
  rintro e w' ⟨jb, R, rfl, h, hR, hb⟩
  exact ⟨jb, rfl, ⟨R, h, fun b hb => ⟨hR b hb, fun e => e⟩, hb⟩, hb⟩
/-- outs of which the first one's agent is known -/
theorem OutsNew.first {v : Value} {outs : List (Int × Mg)} (h : OutsNew w w' J v outs) {x : Int × Mg} (hx : outs[0]? = some x) : ∃ b o c, v = .slice (some ⟨b, o, none⟩) outs.length c ∧ w.heap.size ≤ b ∧ b < w'.heap.size ∧ w'.cell? ⟨b, o, none⟩ = some (.int .i64 x.1) := by
  obtain ⟨b, o, c, rfl, hb, _⟩ := h.sl.form' (by have := (List.getElem?_eq_some_iff.1 hx).1; omega)
  have hc := h.sl.elem eOut_len hx (j := 0) (u := .int .i64 x.1) rfl
  exact ⟨b, o, c, rfl, h.vn b rfl, hb, by simpa using hc⟩
theorem OutsNew.plain {v : Value} {outs : List (Int × Mg)} (h : OutsNew w w' J v outs) (hm : manOut J = false) : outs = outsT J := by
  obtain ⟨hd, rfl, hH⟩ := h.ex
  rcases hH with ⟨_, rfl⟩ | ⟨e, _⟩
  · simp
  · rw [hm] at e; cases e
theorem OutsNew.manifest {v : Value} {outs : List (Int × Mg)} (h : OutsNew w w' J v outs) (hm : manOut J = true) : ∃ m, outs = (-1, m) :: outsT J := by
  obtain ⟨hd, rfl, hH⟩ := h.ex
  rcases hH with ⟨e, _⟩ | ⟨_, pv, ps, rfl, _⟩
  · rw [hm] at e; cases e
  · exact ⟨_, rfl⟩
end

def va : Vis := ⟨true, false, 0, 7, 5, 1, [1], false⟩
def vb : Vis := ⟨true, false, 1, 7, 5, 0, [], false⟩
def J0 : Jb := ⟨5, 3, 7, 2, 1, false, false, [(0, zVis)]⟩
def J1 : Jb := ⟨5, 3, 7, 2, 1, false, false, [(0, va), (1, zVis)]⟩
def J2 : Jb := ⟨5, 3, 7, 2, 2, true, false, [(0, va), (1, vb)]⟩
def J3 : Jb := ⟨5, 3, 7, 2, 3, true, true, [(0, va), (1, vb)]⟩
def J4 : Jb := ⟨5, 3, 7, 2, 3, true, true, [(0, { va with free := true }), (1, vb)]⟩
def J5 : Jb := ⟨5, 3, 7, 2, 4, true, true, [(0, { va with free := true }), (1, { vb with free := true })]⟩
theorem h01 (cv : Value) : hearJ J0 (.pinned ⟨0, 7, 5, 1, cv, [1], false⟩) = J1 := by kernel_rfl
theorem h12 (cv : Value) : hearJ J1 (.pinned ⟨1, 7, 5, 0, cv, [], false⟩) = J2 := by kernel_rfl
theorem h23 : hearJ J2 (.stor 7 5) = J3 := by kernel_rfl
theorem h34 : hearJ J3 (.unpd 0 7 5) = J4 := by kernel_rfl
theorem h45 : hearJ J4 (.unpd 1 7 5) = J5 := by kernel_rfl
theorem o0 : outsT J0 = [(0, .pin 7 5)] := by kernel_rfl
theorem o1 : outsT J1 = [(1, .pin 7 5)] := by kernel_rfl
theorem o2 : outsT J2 = [(0, .coll 7 5), (1, .coll 7 5)] := by kernel_rfl
theorem o4 : outsT J4 = [(1, .unp 7 5)] := by kernel_rfl
theorem o5 : outsT J5 = [] := by kernel_rfl

set_option maxRecDepth 100000 in
set_option maxHeartbeats 4000000 in
theorem awake_any (w : World) : Calls Try.prog 15 #[] w fun e w' => e = .returned (.bool true) ∧ Below w.heap.size w w' := by
  go_enter Try.func15, Try.ntmps15
  go_wp2_with (fail)
  refine (Sj.new w (id := 5) (ag := 3) (a := 0) (t := 7) (c := 2) (by kernel_rfl)).mono ?_
  rintro e w1 ⟨jb, rfl, s1, _⟩
  change Sj w w1 _ jb J0 at s1
  go_wp2_with (fail)
  refine (new_no w1 0 3 0 7 0 (by kernel_rfl)).mono ?_
  rintro e w2 ⟨rfl, hb2⟩
  have s2 := s1.step hb2
  clear s1 hb2
  go_wp2_with (fail)
  refine (s2.outs).mono ?_
  rintro e w3 ⟨⟨v3, outs3, rfl, hO3⟩, hb3, s3⟩
  have e3 := hO3.plain (by kernel_rfl)
  rw [o0] at e3
  obtain ⟨ba, oa, ca, rfl, hba, hba', gA⟩ := hO3.first (x := (0, .pin 7 5)) (by rw [e3]; rfl)
  rw [e3]
  have s3 := (s2.turn (K' := fun b => b = ba) (fun b hb e => by omega)).step hb3
  clear s2 hb3 hO3 e3
  go_wp2_with (fail)
  have hA4 := below_alloc (Below.refl w3.heap.size w3) (.cells #[.int .i64 1] 3)
  have s4 := s3.step hA4
  have gA4 := cell_alloc gA (.cells #[.int .i64 1] 3)
  have hr4 : RS (w3.alloc (.cells #[.int .i64 1] 3)) 1 eInt (.slice (some ⟨w3.heap.size, 0, none⟩) 1 1) [1] := RS.lit w3 [1] _ (by unfold maxLen; simp) rfl
  have H4 := s4.hear (m := .pinned ⟨0, 7, 5, 1, .slice (some ⟨w3.heap.size, 0, none⟩) 1 1, [1], false⟩) (fun b e => by subst e; exact Nat.lt_of_lt_of_le hba' hA4.size) hr4 trivial (h01 _)
  simp only [val] at H4
  have hsz4 := hA4.size
  generalize (w3.alloc (.cells #[.int .i64 1] 3)) = w4 at H4 gA4 hsz4 ⊢
  refine H4.mono ?_
  rintro e w5 ⟨rfl, s5, hO5⟩
  have gA5 : w5.cell? ⟨ba, oa, none⟩ = some (.int .i64 0) := by rw [World.cell?_of_block (w := w4) (hO5.block _ (World.block_lt_of_cell? _ _ gA4) (fun e => e.2 rfl))]; exact gA4
  clear s3 s4 gA hr4 H4 hO5 gA4 hA4 hsz4
  go_wp2_with (fail)
  refine (s5.outs).mono ?_
  rintro e w6 ⟨⟨v6, outs6, rfl, hO6⟩, hb6, s6⟩
  have e6 := hO6.plain (by kernel_rfl)
  rw [o1] at e6
  obtain ⟨bb, ob, cb, rfl, hbb, hbb', gB⟩ := hO6.first (x := (1, .pin 7 5)) (by rw [e6]; rfl)
  rw [e6]
  have s6 := (s5.turn (K' := fun b => b = ba ∨ b = bb) (fun b hb e => by omega)).step hb6
  have gA6 : w6.cell? ⟨ba, oa, none⟩ = some (.int .i64 0) := by rw [hb6.cell (p := ⟨ba, oa, none⟩) (World.block_lt_of_cell? _ _ gA5)]; exact gA5
  clear s5 hb6 hO6 e6 gA5 hba'
  go_wp2_with (fail)
  refine (s6.mani_no rfl).mono ?_
  rintro e w7 ⟨rfl, hb7, s7⟩
  have gA7 : w7.cell? ⟨ba, oa, none⟩ = some (.int .i64 0) := by rw [hb7.cell (p := ⟨ba, oa, none⟩) (World.block_lt_of_cell? _ _ gA6)]; exact gA6
  have gB7 : w7.cell? ⟨bb, ob, none⟩ = some (.int .i64 1) := by rw [hb7.cell (p := ⟨bb, ob, none⟩) (World.block_lt_of_cell? _ _ gB)]; exact gB
  clear s6 hb7 gA6 gB
  have hA8 := below_alloc (Below.refl w7.heap.size w7) (.cells #[.int .i64 0, .int .i64 0, .int .i64 0, .slice none 0 0] 62)
  have gA8 := cell_alloc gA7 (.cells #[.int .i64 0, .int .i64 0, .int .i64 0, .slice none 0 0] 62)
  have gB8 := cell_alloc gB7 (.cells #[.int .i64 0, .int .i64 0, .int .i64 0, .slice none 0 0] 62)
  have s8 := s7.step hA8
  go_wp2_with (fail)
  generalize (w7.alloc (.cells #[.int .i64 0, .int .i64 0, .int .i64 0, .slice none 0 0] 62)) = w8 at gA8 gB8 s8 ⊢
  have H8 := s8.hear (m := .pinned ⟨1, 7, 5, 0, .slice none 0 0, [], false⟩) (fun b e => by rcases e with e | e <;> subst e; exact World.block_lt_of_cell? _ _ gA8; exact World.block_lt_of_cell? _ _ gB8) (RS.nil _ _ _) trivial (h12 _)
  simp only [val] at H8
  refine H8.mono ?_
  rintro e w9 ⟨rfl, s9, hO9⟩
  have gA9 : w9.cell? ⟨ba, oa, none⟩ = some (.int .i64 0) := by rw [World.cell?_of_block (w := w8) (hO9.block _ (World.block_lt_of_cell? _ _ gA8) (fun e => e.2 (.inl rfl)))]; exact gA8
  have gB9 : w9.cell? ⟨bb, ob, none⟩ = some (.int .i64 1) := by rw [World.cell?_of_block (w := w8) (hO9.block _ (World.block_lt_of_cell? _ _ gB8) (fun e => e.2 (.inr rfl)))]; exact gB8
  clear s7 s8 H8 hO9 gA7 gB7 gA8 gB8 hA8
  go_wp2_with (fail)
  refine (s9.mani_yes rfl).mono ?_
  rintro e w10 ⟨⟨pv10, ps10, rfl, hP10⟩, hb10, s10⟩
  have hpl : ps10.length = 2 := by have := congrArg List.length hP10.st; simpa [partsJ, J2] using this
  obtain ⟨pa, pc, rfl⟩ := hP10.sl.form
  rw [hpl]
  have gA10 : w10.cell? ⟨ba, oa, none⟩ = some (.int .i64 0) := by rw [hb10.cell (p := ⟨ba, oa, none⟩) (World.block_lt_of_cell? _ _ gA9)]; exact gA9
  have gB10 : w10.cell? ⟨bb, ob, none⟩ = some (.int .i64 1) := by rw [hb10.cell (p := ⟨bb, ob, none⟩) (World.block_lt_of_cell? _ _ gB9)]; exact gB9
  clear s9 hb10 gA9 gB9 hpl hP10
  have hA11 := below_alloc (Below.refl w10.heap.size w10) (.cells #[.int .i64 J2.tr, .int .i64 J2.id, .int .i64 J2.cl, .slice pa 2 pc] 62)
  have hbx11 := heap_new w10 (.cells #[.int .i64 J2.tr, .int .i64 J2.id, .int .i64 J2.cl, .slice pa 2 pc] 62) rfl
  have gA11 := cell_alloc gA10 (.cells #[.int .i64 J2.tr, .int .i64 J2.id, .int .i64 J2.cl, .slice pa 2 pc] 62)
  have gB11 := cell_alloc gB10 (.cells #[.int .i64 J2.tr, .int .i64 J2.id, .int .i64 J2.cl, .slice pa 2 pc] 62)
  have gM11 := cell_blk hbx11 (j := 3) (u := .slice pa 2 pc) rfl
  have s11 := (s10.turn (K' := fun b => b = ba ∨ b = bb ∨ b = w10.heap.size) (fun b hb e => by omega)).step hA11
  go_wp2_with (fail)
  generalize (w10.alloc (.cells #[.int .i64 J2.tr, .int .i64 J2.id, .int .i64 J2.cl, .slice pa 2 pc] 62)) = w11 at gA11 gB11 gM11 s11 ⊢
  clear gA10 gB10 s10 hA11 hbx11
  generalize w10.heap.size = bm at gM11 s11 ⊢
  refine (s11.outs).mono ?_
  rintro e w12 ⟨⟨v12, outs12, rfl, hO12⟩, hb12, s12⟩
  obtain ⟨mm, e12⟩ := hO12.manifest (by kernel_rfl)
  rw [o2] at e12
  obtain ⟨bc, oc, cc, rfl, hbc, hbc', gC12⟩ := hO12.first (x := (-1, mm)) (by rw [e12]; rfl)
  rw [e12]
  simp only [List.length_cons, List.length_nil]
  have gA12 : w12.cell? ⟨ba, oa, none⟩ = some (.int .i64 0) := by rw [hb12.cell (p := ⟨ba, oa, none⟩) (World.block_lt_of_cell? _ _ gA11)]; exact gA11
  have gB12 : w12.cell? ⟨bb, ob, none⟩ = some (.int .i64 1) := by rw [hb12.cell (p := ⟨bb, ob, none⟩) (World.block_lt_of_cell? _ _ gB11)]; exact gB11
  have gM12 : w12.cell? ⟨bm, 3, none⟩ = some (.slice pa 2 pc) := by rw [hb12.cell (p := ⟨bm, 3, none⟩) (World.block_lt_of_cell? _ _ gM11)]; exact gM11
  have hsw11 := hbc
  have s12 := (s11.turn (K' := fun b => b = ba ∨ b = bb ∨ b = bm ∨ b = bc) (fun b hb e => by rcases e with e | e | e | e <;> first | exact .inl e | exact .inr (.inl e) | exact .inr (.inr e) | omega)).step hb12
  clear s11 hb12 hO12 e12 gA11 gB11 gM11
  go_wp2_with (fail)
  refine (s12.phase).mono ?_
  rintro e w13 ⟨rfl, rfl⟩
  simp only [J2]
  change Sj w w12 _ jb J2 at s12
  have H12 := s12.hear (m := .stor 7 5) (fun b e => by rcases e with e | e | e | e <;> subst e <;> exact World.block_lt_of_cell? _ _ (by assumption)) trivial trivial h23
  simp only [val] at H12
  go_wp2_with (fail)
  refine H12.mono ?_
  rintro e w14 ⟨rfl, s14, hO14⟩
  have gA14 : w14.cell? ⟨ba, oa, none⟩ = some (.int .i64 0) := by rw [World.cell?_of_block (w := w12) (hO14.block _ (World.block_lt_of_cell? _ _ gA12) (fun e => e.2 (by simp)))]; exact gA12
  have gB14 : w14.cell? ⟨bb, ob, none⟩ = some (.int .i64 1) := by rw [World.cell?_of_block (w := w12) (hO14.block _ (World.block_lt_of_cell? _ _ gB12) (fun e => e.2 (by simp)))]; exact gB12
  have gM14 : w14.cell? ⟨bm, 3, none⟩ = some (.slice pa 2 pc) := by rw [World.cell?_of_block (w := w12) (hO14.block _ (World.block_lt_of_cell? _ _ gM12) (fun e => e.2 (by simp)))]; exact gM12
  have gC14 : w14.cell? ⟨bc, oc, none⟩ = some (.int .i64 (-1)) := by rw [World.cell?_of_block (w := w12) (hO14.block _ (World.block_lt_of_cell? _ _ gC12) (fun e => e.2 (by simp)))]; exact gC12
  clear s12 H12 hO14 gA12 gB12 gM12 gC12
  have H14 := s14.hear (m := .unpd 0 7 5) (fun b e => by rcases e with e | e | e | e <;> subst e <;> exact World.block_lt_of_cell? _ _ (by assumption)) trivial trivial h34
  simp only [val] at H14
  go_wp2_with (fail)
  refine H14.mono ?_
  rintro e w15 ⟨rfl, s15, hO15⟩
  have gA15 : w15.cell? ⟨ba, oa, none⟩ = some (.int .i64 0) := by rw [World.cell?_of_block (w := w14) (hO15.block _ (World.block_lt_of_cell? _ _ gA14) (fun e => e.2 (by simp)))]; exact gA14
  have gB15 : w15.cell? ⟨bb, ob, none⟩ = some (.int .i64 1) := by rw [World.cell?_of_block (w := w14) (hO15.block _ (World.block_lt_of_cell? _ _ gB14) (fun e => e.2 (by simp)))]; exact gB14
  have gM15 : w15.cell? ⟨bm, 3, none⟩ = some (.slice pa 2 pc) := by rw [World.cell?_of_block (w := w14) (hO15.block _ (World.block_lt_of_cell? _ _ gM14) (fun e => e.2 (by simp)))]; exact gM14
  have gC15 : w15.cell? ⟨bc, oc, none⟩ = some (.int .i64 (-1)) := by rw [World.cell?_of_block (w := w14) (hO15.block _ (World.block_lt_of_cell? _ _ gC14) (fun e => e.2 (by simp)))]; exact gC14
  clear s14 H14 hO15 gA14 gB14 gM14 gC14
  go_wp2_with (fail)
  refine (s15.outs).mono ?_
  rintro e w16 ⟨⟨v16, outs16, rfl, hO16⟩, hb16, s16⟩
  have e16 := hO16.plain (by kernel_rfl)
  rw [o4] at e16
  obtain ⟨bd, od, cd, rfl, hbd, hbd', gD16⟩ := hO16.first (x := (1, .unp 7 5)) (by rw [e16]; rfl)
  rw [e16]
  simp only [List.length_cons, List.length_nil]
  have gA16 : w16.cell? ⟨ba, oa, none⟩ = some (.int .i64 0) := by rw [hb16.cell (p := ⟨ba, oa, none⟩) (World.block_lt_of_cell? _ _ gA15)]; exact gA15
  have gB16 : w16.cell? ⟨bb, ob, none⟩ = some (.int .i64 1) := by rw [hb16.cell (p := ⟨bb, ob, none⟩) (World.block_lt_of_cell? _ _ gB15)]; exact gB15
  have gM16 : w16.cell? ⟨bm, 3, none⟩ = some (.slice pa 2 pc) := by rw [hb16.cell (p := ⟨bm, 3, none⟩) (World.block_lt_of_cell? _ _ gM15)]; exact gM15
  have gC16 : w16.cell? ⟨bc, oc, none⟩ = some (.int .i64 (-1)) := by rw [hb16.cell (p := ⟨bc, oc, none⟩) (World.block_lt_of_cell? _ _ gC15)]; exact gC15
  have s16 := (s15.turn (K' := fun b => b = ba ∨ b = bb ∨ b = bm ∨ b = bc ∨ b = bd) (fun b hb e => by rcases e with e | e | e | e | e <;> first | exact .inl e | exact .inr (.inl e) | exact .inr (.inr (.inl e)) | exact .inr (.inr (.inr e)) | omega)).step hb16
  clear s15 hb16 hO16 e16 gA15 gB15 gM15 gC15
  have H16 := s16.hear (m := .unpd 1 7 5) (fun b e => by rcases e with e | e | e | e | e <;> subst e <;> exact World.block_lt_of_cell? _ _ (by assumption)) trivial trivial h45
  simp only [val] at H16
  go_wp2_with (fail)
  refine H16.mono ?_
  rintro e w17 ⟨rfl, s17, hO17⟩
  have gA17 : w17.cell? ⟨ba, oa, none⟩ = some (.int .i64 0) := by rw [World.cell?_of_block (w := w16) (hO17.block _ (World.block_lt_of_cell? _ _ gA16) (fun e => e.2 (by simp)))]; exact gA16
  have gB17 : w17.cell? ⟨bb, ob, none⟩ = some (.int .i64 1) := by rw [World.cell?_of_block (w := w16) (hO17.block _ (World.block_lt_of_cell? _ _ gB16) (fun e => e.2 (by simp)))]; exact gB16
  have gM17 : w17.cell? ⟨bm, 3, none⟩ = some (.slice pa 2 pc) := by rw [World.cell?_of_block (w := w16) (hO17.block _ (World.block_lt_of_cell? _ _ gM16) (fun e => e.2 (by simp)))]; exact gM16
  have gC17 : w17.cell? ⟨bc, oc, none⟩ = some (.int .i64 (-1)) := by rw [World.cell?_of_block (w := w16) (hO17.block _ (World.block_lt_of_cell? _ _ gC16) (fun e => e.2 (by simp)))]; exact gC16
  have gD17 : w17.cell? ⟨bd, od, none⟩ = some (.int .i64 1) := by rw [World.cell?_of_block (w := w16) (hO17.block _ (World.block_lt_of_cell? _ _ gD16) (fun e => e.2 (by simp)))]; exact gD16
  clear s16 H16 hO17 gA16 gB16 gM16 gC16 gD16
  go_wp2_with (fail)
  refine (s17.phase).mono ?_
  rintro e w18 ⟨rfl, rfl⟩
  go_wp2_with (fail)
  refine (s17.stored).mono ?_
  rintro e w18 ⟨rfl, rfl⟩
  go_wp2_with (fail)
  refine (s17.trace).mono ?_
  rintro e w18 ⟨rfl, rfl⟩
  go_wp2_with (fail)
  refine (s17.visited).mono ?_
  rintro e w18 ⟨⟨v18, rfl, hr18, hn18⟩, hb18, s18⟩
  have hA19 := below_alloc (Below.refl w18.heap.size w18) (.cells #[.int .i64 0, .int .i64 1] 3)
  have hr19 := hr18.only (only_of_below hA19 (fun _ => False)) (fun _ _ => id)
  have hx19 : RS (w18.alloc (.cells #[.int .i64 0, .int .i64 1] 3)) 1 eInt (.slice (some ⟨w18.heap.size, 0, none⟩) 2 2) [0, 1] := RS.lit w18 [0, 1] _ (by unfold maxLen; simp) rfl
  have s19 := s18.step hA19
  obtain ⟨_, a18, c18, rfl, _⟩ := id hr18
  go_wp2_with (fail)
  refine (sameInts_any hr19 hx19).mono ?_
  rintro e w20 ⟨rfl, q, rfl⟩
  rw [show (decide (J5.vs.map Prod.fst = [0, 1])) = true by kernel_rfl]
  have s20 := s19.step (belowN (Below.refl _ _) q)
  clear s17 s18 s19 hr18 hr19 hx19 hA19 hb18 hn18
  generalize (w18.alloc (.cells #[.int .i64 0, .int .i64 1] 3)).drewN q = w20 at s20 ⊢
  go_wp2_with (fail)
  refine (s20.outs).mono ?_
  rintro e w21 ⟨⟨v21, outs21, rfl, hO21⟩, hb21, s21⟩
  have e21 := hO21.plain (by kernel_rfl)
  rw [o5] at e21
  obtain ⟨a21, c21, rfl⟩ := hO21.sl.form
  rw [e21]
  have hbe := s21.bel
  clear hO21 e21 s20 s21 hb21
  go_wp2
  go_ret
  exact ⟨rfl, hbe⟩
end Go.Proofs.Ytniggacgkhkgiaa.Job
