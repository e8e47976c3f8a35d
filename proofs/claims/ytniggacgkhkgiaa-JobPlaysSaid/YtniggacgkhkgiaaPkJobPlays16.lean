/- The answers that the document fixes for job (awake). No condition. -/
import Derived.Test.YtniggacgkhkgiaaPkJobPlays15
import Derived.Test.YtniggacgkhkgiaaPkJobPlays5
import Derived.Test.YtniggacgkhkgiaaPkJobPlays6
import Derived.IntWalk
import Derived.Test.YtniggacgkhkgiaaPkJobPlays2
import Derived.Deep.Slices
import Derived.SizedLaws
namespace Go.Proofs.Ytniggacgkhkgiaa.Job
open Go.RowKit Go.Sp Msg

/-- a job made since w0, none of its blocks in K -/
def Sj (w0 w : World) (K : Nat → Prop) (jb : Nat) (J : Jb) : Prop := ∃ R, JbR w R jb J ∧ (∀ b, R b → w0.heap.size ≤ b ∧ ¬ K b) ∧ Below w0.heap.size w0 w

section
variable {w0 w w' : World} {K K' : Nat → Prop} {jb : Nat} {J J' : Jb} {m : Mg}
theorem Sj.bel (h : Sj w0 w K jb J) : Below w0.heap.size w0 w := by
  obtain ⟨_, _, _, h⟩ := h
  exact h
theorem Sj.step (h : Sj w0 w K jb J) (o : Below w.heap.size w w') : Sj w0 w' K jb J := by
  obtain ⟨R, h, hR, hb⟩ := h
  exact ⟨R, h.below o, hR, hb.trans (o.mono hb.size)⟩
theorem Sj.turn (h : Sj w0 w K jb J) (hK : ∀ b, b < w.heap.size → K' b → K b) : Sj w0 w K' jb J := by
  obtain ⟨R, h, hR, hb⟩ := h
  exact ⟨R, h, fun b hb => ⟨(hR b hb).1, fun e => (hR b hb).2 (hK b (h.lt b hb) e)⟩, hb⟩
theorem Sj.hear (h : Sj w0 w K jb J) (hKl : ∀ b, K b → b < w.heap.size) (hm : InMem w m) (hs : Small m) (hJ : hearJ J m = J') :
    Calls Try.prog 21 #[.pointer (some ⟨jb, 0, none⟩), val m] w fun e w'' => e = .returned (.tuple #[]) ∧ Sj w0 w'' K jb J' ∧ Only (fun b => w0.heap.size ≤ b ∧ ¬ K b) w w'' := by
  obtain ⟨R, h1, hR1, hbl⟩ := h
  refine (hear_any h1 hm hs).mono ?_
  rintro e w'' ⟨rfl, R', h3, hR', hO⟩
  rw [hJ] at h3
  refine ⟨rfl, ⟨R', h3, fun b hb => ?_, hbl.trans (hO.below hbl.size fun i hi e => by have := (hR1 i e).1; omega)⟩, hO.mono fun b _ hb => hR1 b hb⟩
  rcases hR' b hb with h | h
  · exact hR1 b h
  · exact ⟨Nat.le_trans hbl.size h, fun e => by have := hKl b e; omega⟩
theorem Sj.outs (h : Sj w0 w K jb J) : Calls Try.prog 24 #[.pointer (some ⟨jb, 0, none⟩)] w fun e w' => (∃ v outs, e = .returned v ∧ OutsNew w w' J v outs) ∧ Below w.heap.size w w' ∧ Sj w0 w' K jb J := by
  obtain ⟨R, h1, hR, hb⟩ := id h
  refine (outs_any h1).mono ?_
  rintro e w' ⟨v, outs, rfl, ho, hb1⟩
  exact ⟨⟨v, outs, rfl, ho⟩, hb1, h.step hb1⟩
theorem Sj.mani_no (h : Sj w0 w K jb J) (hf : J.full = false) : Calls Try.prog 32 #[.pointer (some ⟨jb, 0, none⟩)] w fun e w' => e = .returned (.tuple #[.agg #[.int .i64 0, .int .i64 0, .int .i64 0, .slice none 0 0], .bool false]) ∧ Below w.heap.size w w' ∧ Sj w0 w' K jb J := by
  obtain ⟨R, h1, hR, hb⟩ := id h
  refine (Job.mani_no h1 hf).mono ?_
  rintro e w' ⟨rfl, hb1⟩
  exact ⟨rfl, hb1, h.step hb1⟩
theorem Sj.mani_yes (h : Sj w0 w K jb J) (hf : J.full = true) : Calls Try.prog 32 #[.pointer (some ⟨jb, 0, none⟩)] w fun e w' => ManIs w w' J e ∧ Below w.heap.size w w' ∧ Sj w0 w' K jb J := by
  obtain ⟨R, h1, hR, hb⟩ := id h
  refine (Job.mani_yes h1 hf).mono ?_
  rintro e w' ⟨he, hb1⟩
  exact ⟨he, hb1, h.step hb1⟩
theorem Sj.phase (h : Sj w0 w K jb J) : Calls Try.prog 25 #[.pointer (some ⟨jb, 0, none⟩)] w fun e w' => e = .returned (.int .i64 J.ph) ∧ w = w' := by
  obtain ⟨R, h1, _⟩ := h
  exact phase_any h1
theorem Sj.trace (h : Sj w0 w K jb J) : Calls Try.prog 26 #[.pointer (some ⟨jb, 0, none⟩)] w fun e w' => e = .returned (.int .i64 J.tr) ∧ w = w' := by
  obtain ⟨R, h1, _⟩ := h
  exact trace_any h1
theorem Sj.stored (h : Sj w0 w K jb J) : Calls Try.prog 30 #[.pointer (some ⟨jb, 0, none⟩)] w fun e w' => e = .returned (.bool J.kept) ∧ w = w' := by
  obtain ⟨R, h1, _⟩ := h
  exact stored_any h1
theorem Sj.visited (h : Sj w0 w K jb J) : Calls Try.prog 28 #[.pointer (some ⟨jb, 0, none⟩)] w fun e w' => (∃ v, e = .returned v ∧ RS w' 1 eInt v (J.vs.map Prod.fst) ∧ (∀ g, v.ownBlock = some g → w.heap.size ≤ g)) ∧ Below w.heap.size w w' ∧ Sj w0 w' K jb J := by
  obtain ⟨R, h1, _⟩ := id h
  refine (visited_any h1).mono ?_
  rintro e w' ⟨v, rfl, hr, hn, hb1⟩
  exact ⟨⟨v, rfl, hr, hn⟩, hb1, h.step hb1⟩
theorem Sj.new (w : World) {id ag a t c : Int} (hn : newOk id ag a t c = true) : Calls Try.prog 17 #[.int .i64 id, .int .i64 ag, .agg #[.int .i64 a, .int .i64 t, .int .i64 c]] w fun e w' => ∃ jb, e = .returned (.pointer (some ⟨jb, 0, none⟩)) ∧ Sj w w' (fun _ => False) jb (newJ id ag a t c) ∧ Below w.heap.size w w' := by
  refine (new_yes w id ag a t c hn).mono ?_
  rintro e w' ⟨jb, R, rfl, h, hR, hb⟩
  exact ⟨jb, rfl, ⟨R, h, fun b hb => ⟨hR b hb, fun e => e⟩, hb⟩, hb⟩
/-- outs of which the first one's agent is known -/
theorem OutsNew.first {v : Value} {outs : List (Int × Mg)} (h : OutsNew w w' J v outs) {x : Int × Mg} (hx : outs[0]? = some x) : ∃ b o c, v = .slice (some ⟨b, o, none⟩) outs.length c ∧ w.heap.size ≤ b ∧ b < w'.heap.size ∧ w'.cell? ⟨b, o, none⟩ = some (.int .i64 x.1) := by
  obtain ⟨b, o, c, rfl, hb, _⟩ := h.sl.form' (by have := (List.getElem?_eq_some_iff.1 hx).1; omega)
  have hc := h.sl.elem eOut_len hx (j := 0) (u := .int .i64 x.1) rfl
  exact ⟨b, o, c, rfl, h.vn b rfl, hb, by simpa using hc⟩
theorem OutsNew.plain {v : Value} {outs : List (Int × Mg)} (h : OutsNew w w' J v outs) (hm : manOut J = false) : outs = outsT J := by
  obtain ⟨hd, rfl, hH⟩ := h.ex
  rcases hH with ⟨_, rfl⟩ | ⟨e, _⟩
  · simp
  · rw [hm] at e; cases e
theorem OutsNew.manifest {v : Value} {outs : List (Int × Mg)} (h : OutsNew w w' J v outs) (hm : manOut J = true) : ∃ m, outs = (-1, m) :: outsT J := by
  obtain ⟨hd, rfl, hH⟩ := h.ex
  rcases hH with ⟨e, _⟩ | ⟨_, pv, ps, rfl, _⟩
  · rw [hm] at e; cases e
  · exact ⟨_, rfl⟩
end

def va : Vis := ⟨true, false, 0, 7, 5, 1, [1], false⟩
def vb : Vis := ⟨true, false, 1, 7, 5, 0, [], false⟩
def J0 : Jb := ⟨5, 3, 7, 2, 1, false, false, [(0, zVis)]⟩
def J1 : Jb := ⟨5, 3, 7, 2, 1, false, false, [(0, va), (1, zVis)]⟩
def J2 : Jb := ⟨5, 3, 7, 2, 2, true, false, [(0, va), (1, vb)]⟩
def J3 : Jb := ⟨5, 3, 7, 2, 3, true, true, [(0, va), (1, vb)]⟩
def J4 : Jb := ⟨5, 3, 7, 2, 3, true, true, [(0, { va with free := true }), (1, vb)]⟩
def J5 : Jb := ⟨5, 3, 7, 2, 4, true, true, [(0, { va with free := true }), (1, { vb with free := true })]⟩
theorem h01 (cv : Value) : hearJ J0 (.pinned ⟨0, 7, 5, 1, cv, [1], false⟩) = J1 := by kernel_rfl
theorem h12 (cv : Value) : hearJ J1 (.pinned ⟨1, 7, 5, 0, cv, [], false⟩) = J2 := by kernel_rfl
theorem h23 : hearJ J2 (.stor 7 5) = J3 := by kernel_rfl
theorem h34 : hearJ J3 (.unpd 0 7 5) = J4 := by kernel_rfl
theorem h45 : hearJ J4 (.unpd 1 7 5) = J5 := by kernel_rfl
theorem o0 : outsT J0 = [(0, .pin 7 5)] := by kernel_rfl
theorem o1 : outsT J1 = [(1, .pin 7 5)] := by kernel_rfl
theorem o2 : outsT J2 = [(0, .coll 7 5), (1, .coll 7 5)] := by kernel_rfl
theorem o4 : outsT J4 = [(1, .unp 7 5)] := by kernel_rfl
theorem o5 : outsT J5 = [] := by kernel_rfl

set_option maxRecDepth 100000 in
set_option maxHeartbeats 4000000 in
theorem awake_any (w : World) : Calls Try.prog 15 #[] w fun e w' => e = .returned (.bool true) ∧ Below w.heap.size w w' := by
  go_enter Try.func15, Try.ntmps15
  go_wp2_with (fail)
  refine (Sj.new w (id := 5) (ag := 3) (a := 0) (t := 7) (c := 2) (by kernel_rfl)).mono ?_
  rintro e w1 ⟨jb, rfl, s1, _⟩
  change Sj w w1 _ jb J0 at s1
  go_wp2_with (fail)
  refine (new_no w1 0 3 0 7 0 (by kernel_rfl)).mono ?_
  rintro e w2 ⟨rfl, hb2⟩
  have s2 := s1.step hb2
  clear s1 hb2
  go_wp2_with (fail)
  refine (s2.outs).mono ?_
  rintro e w3 ⟨⟨v3, outs3, rfl, hO3⟩, hb3, s3⟩
  have e3 := hO3.plain (by kernel_rfl)
  rw [o0] at e3
  obtain ⟨ba, oa, ca, rfl, hba, hba', gA⟩ := hO3.first (x := (0, .pin 7 5)) (by rw [e3]; rfl)
  rw [e3]
  have s3 := (s2.turn (K' := fun b => b = ba) (fun b hb e => by omega)).step hb3
  clear s2 hb3 hO3 e3
  go_wp2_with (fail)
  have hA4 := below_alloc (Below.refl w3.heap.size w3) (.cells #[.int .i64 1] 3)
  have s4 := s3.step hA4
  have gA4 := cell_alloc gA (.cells #[.int .i64 1] 3)
  have hr4 : RS (w3.alloc (.cells #[.int .i64 1] 3)) 1 eInt (.slice (some ⟨w3.heap.size, 0, none⟩) 1 1) [1] := RS.lit w3 [1] _ (by unfold maxLen; simp) rfl
  have H4 := s4.hear (m := .pinned ⟨0, 7, 5, 1, .slice (some ⟨w3.heap.size, 0, none⟩) 1 1, [1], false⟩) (fun b e => by subst e; exact Nat.lt_of_lt_of_le hba' hA4.size) hr4 trivial (h01 _)
  simp only [val] at H4
  have hsz4 := hA4.size
  generalize (w3.alloc (.cells #[.int .i64 1] 3)) = w4 at H4 gA4 hsz4 ⊢
  refine H4.mono ?_
  rintro e w5 ⟨rfl, s5, hO5⟩
  have gA5 : w5.cell? ⟨ba, oa, none⟩ = some (.int .i64 0) := by rw [World.cell?_of_block (w := w4) (hO5.block _ (World.block_lt_of_cell? _ _ gA4) (fun e => e.2 rfl))]; exact gA4
  clear s3 s4 gA hr4 H4 hO5 gA4 hA4 hsz4
  go_wp2_with (fail)
  refine (s5.outs).mono ?_
  rintro e w6 ⟨⟨v6, outs6, rfl, hO6⟩, hb6, s6⟩
  have e6 := hO6.plain (by kernel_rfl)
  rw [o1] at e6
  obtain ⟨bb, ob, cb, rfl, hbb, hbb', gB⟩ := hO6.first (x := (1, .pin 7 5)) (by rw [e6]; rfl)
  rw [e6]
  have s6 := (s5.turn (K' := fun b => b = ba ∨ b = bb) (fun b hb e => by omega)).step hb6
  have gA6 : w6.cell? ⟨ba, oa, none⟩ = some (.int .i64 0) := by rw [hb6.cell (p := ⟨ba, oa, none⟩) (World.block_lt_of_cell? _ _ gA5)]; exact gA5
  clear s5 hb6 hO6 e6 gA5 hba'
  go_wp2_with (fail)
  refine (s6.mani_no rfl).mono ?_
  rintro e w7 ⟨rfl, hb7, s7⟩
  have gA7 : w7.cell? ⟨ba, oa, none⟩ = some (.int .i64 0) := by rw [hb7.cell (p := ⟨ba, oa, none⟩) (World.block_lt_of_cell? _ _ gA6)]; exact gA6
  have gB7 : w7.cell? ⟨bb, ob, none⟩ = some (.int .i64 1) := by rw [hb7.cell (p := ⟨bb, ob, none⟩) (World.block_lt_of_cell? _ _ gB)]; exact gB
  clear s6 hb7 gA6 gB
  have hA8 := below_alloc (Below.refl w7.heap.size w7) (.cells #[.int .i64 0, .int .i64 0, .int .i64 0, .slice none 0 0] 62)
  have gA8 := cell_alloc gA7 (.cells #[.int .i64 0, .int .i64 0, .int .i64 0, .slice none 0 0] 62)
  have gB8 := cell_alloc gB7 (.cells #[.int .i64 0, .int .i64 0, .int .i64 0, .slice none 0 0] 62)
  have s8 := s7.step hA8
  go_wp2_with (fail)
  generalize (w7.alloc (.cells #[.int .i64 0, .int .i64 0, .int .i64 0, .slice none 0 0] 62)) = w8 at gA8 gB8 s8 ⊢
  have H8 := s8.hear (m := .pinned ⟨1, 7, 5, 0, .slice none 0 0, [], false⟩) (fun b e => by rcases e with e | e <;> subst e; exact World.block_lt_of_cell? _ _ gA8; exact World.block_lt_of_cell? _ _ gB8) (RS.nil _ _ _) trivial (h12 _)
  simp only [val] at H8
  refine H8.mono ?_
  rintro e w9 ⟨rfl, s9, hO9⟩
  have gA9 : w9.cell? ⟨ba, oa, none⟩ = some (.int .i64 0) := by rw [World.cell?_of_block (w := w8) (hO9.block _ (World.block_lt_of_cell? _ _ gA8) (fun e => e.2 (.inl rfl)))]; exact gA8
  have gB9 : w9.cell? ⟨bb, ob, none⟩ = some (.int .i64 1) := by rw [World.cell?_of_block (w := w8) (hO9.block _ (World.block_lt_of_cell? _ _ gB8) (fun e => e.2 (.inr rfl)))]; exact gB8
  clear s7 s8 H8 hO9 gA7 gB7 gA8 gB8 hA8
  go_wp2_with (fail)
  refine (s9.mani_yes rfl).mono ?_
  rintro e w10 ⟨⟨pv10, ps10, rfl, hP10⟩, hb10, s10⟩
  have hpl : ps10.length = 2 := by have := congrArg List.length hP10.st; simpa [partsJ, J2] using this
  obtain ⟨pa, pc, rfl⟩ := hP10.sl.form
  rw [hpl]
  have gA10 : w10.cell? ⟨ba, oa, none⟩ = some (.int .i64 0) := by rw [hb10.cell (p := ⟨ba, oa, none⟩) (World.block_lt_of_cell? _ _ gA9)]; exact gA9
  have gB10 : w10.cell? ⟨bb, ob, none⟩ = some (.int .i64 1) := by rw [hb10.cell (p := ⟨bb, ob, none⟩) (World.block_lt_of_cell? _ _ gB9)]; exact gB9
  clear s9 hb10 gA9 gB9 hpl hP10
  have hA11 := below_alloc (Below.refl w10.heap.size w10) (.cells #[.int .i64 J2.tr, .int .i64 J2.id, .int .i64 J2.cl, .slice pa 2 pc] 62)
  have hbx11 := heap_new w10 (.cells #[.int .i64 J2.tr, .int .i64 J2.id, .int .i64 J2.cl, .slice pa 2 pc] 62) rfl
  have gA11 := cell_alloc gA10 (.cells #[.int .i64 J2.tr, .int .i64 J2.id, .int .i64 J2.cl, .slice pa 2 pc] 62)
  have gB11 := cell_alloc gB10 (.cells #[.int .i64 J2.tr, .int .i64 J2.id, .int .i64 J2.cl, .slice pa 2 pc] 62)
  have gM11 := cell_blk hbx11 (j := 3) (u := .slice pa 2 pc) rfl
  have s11 := (s10.turn (K' := fun b => b = ba ∨ b = bb ∨ b = w10.heap.size) (fun b hb e => by omega)).step hA11
  go_wp2_with (fail)
  generalize (w10.alloc (.cells #[.int .i64 J2.tr, .int .i64 J2.id, .int .i64 J2.cl, .slice pa 2 pc] 62)) = w11 at gA11 gB11 gM11 s11 ⊢
  clear gA10 gB10 s10 hA11 hbx11
  generalize w10.heap.size = bm at gM11 s11 ⊢
  refine (s11.outs).mono ?_
  rintro e w12 ⟨⟨v12, outs12, rfl, hO12⟩, hb12, s12⟩
  obtain ⟨mm, e12⟩ := hO12.manifest (by kernel_rfl)
  rw [o2] at e12
  obtain ⟨bc, oc, cc, rfl, hbc, hbc', gC12⟩ := hO12.first (x := (-1, mm)) (by rw [e12]; rfl)
  rw [e12]
  simp only [List.length_cons, List.length_nil]
  have gA12 : w12.cell? ⟨ba, oa, none⟩ = some (.int .i64 0) := by rw [hb12.cell (p := ⟨ba, oa, none⟩) (World.block_lt_of_cell? _ _ gA11)]; exact gA11
  have gB12 : w12.cell? ⟨bb, ob, none⟩ = some (.int .i64 1) := by rw [hb12.cell (p := ⟨bb, ob, none⟩) (World.block_lt_of_cell? _ _ gB11)]; exact gB11
  have gM12 : w12.cell? ⟨bm, 3, none⟩ = some (.slice pa 2 pc) := by rw [hb12.cell (p := ⟨bm, 3, none⟩) (World.block_lt_of_cell? _ _ gM11)]; exact gM11
  have hsw11 := hbc
  have s12 := (s11.turn (K' := fun b => b = ba ∨ b = bb ∨ b = bm ∨ b = bc) (fun b hb e => by rcases e with e | e | e | e <;> first | exact .inl e | exact .inr (.inl e) | exact .inr (.inr e) | omega)).step hb12
  clear s11 hb12 hO12 e12 gA11 gB11 gM11
  go_wp2_with (fail)
  refine (s12.phase).mono ?_
  rintro e w13 ⟨rfl, rfl⟩
  simp only [J2]
  change Sj w w12 _ jb J2 at s12
  have H12 := s12.hear (m := .stor 7 5) (fun b e => by rcases e with e | e | e | e <;> subst e <;> exact World.block_lt_of_cell? _ _ (by assumption)) trivial trivial h23
  simp only [val] at H12
  go_wp2_with (fail)
  refine H12.mono ?_
  rintro e w14 ⟨rfl, s14, hO14⟩
  have gA14 : w14.cell? ⟨ba, oa, none⟩ = some (.int .i64 0) := by rw [World.cell?_of_block (w := w12) (hO14.block _ (World.block_lt_of_cell? _ _ gA12) (fun e => e.2 (by simp)))]; exact gA12
  have gB14 : w14.cell? ⟨bb, ob, none⟩ = some (.int .i64 1) := by rw [World.cell?_of_block (w := w12) (hO14.block _ (World.block_lt_of_cell? _ _ gB12) (fun e => e.2 (by simp)))]; exact gB12
  have gM14 : w14.cell? ⟨bm, 3, none⟩ = some (.slice pa 2 pc) := by rw [World.cell?_of_block (w := w12) (hO14.block _ (World.block_lt_of_cell? _ _ gM12) (fun e => e.2 (by simp)))]; exact gM12
  have gC14 : w14.cell? ⟨bc, oc, none⟩ = some (.int .i64 (-1)) := by rw [World.cell?_of_block (w := w12) (hO14.block _ (World.block_lt_of_cell? _ _ gC12) (fun e => e.2 (by simp)))]; exact gC12
  clear s12 H12 hO14 gA12 gB12 gM12 gC12
  have H14 := s14.hear (m := .unpd 0 7 5) (fun b e => by rcases e with e | e | e | e <;> subst e <;> exact World.block_lt_of_cell? _ _ (by assumption)) trivial trivial h34
  simp only [val] at H14
  go_wp2_with (fail)
  refine H14.mono ?_
  rintro e w15 ⟨rfl, s15, hO15⟩
  have gA15 : w15.cell? ⟨ba, oa, none⟩ = some (.int .i64 0) := by rw [World.cell?_of_block (w := w14) (hO15.block _ (World.block_lt_of_cell? _ _ gA14) (fun e => e.2 (by simp)))]; exact gA14
  have gB15 : w15.cell? ⟨bb, ob, none⟩ = some (.int .i64 1) := by rw [World.cell?_of_block (w := w14) (hO15.block _ (World.block_lt_of_cell? _ _ gB14) (fun e => e.2 (by simp)))]; exact gB14
  have gM15 : w15.cell? ⟨bm, 3, none⟩ = some (.slice pa 2 pc) := by rw [World.cell?_of_block (w := w14) (hO15.block _ (World.block_lt_of_cell? _ _ gM14) (fun e => e.2 (by simp)))]; exact gM14
  have gC15 : w15.cell? ⟨bc, oc, none⟩ = some (.int .i64 (-1)) := by rw [World.cell?_of_block (w := w14) (hO15.block _ (World.block_lt_of_cell? _ _ gC14) (fun e => e.2 (by simp)))]; exact gC14
  clear s14 H14 hO15 gA14 gB14 gM14 gC14
  go_wp2_with (fail)
  refine (s15.outs).mono ?_
  rintro e w16 ⟨⟨v16, outs16, rfl, hO16⟩, hb16, s16⟩
  have e16 := hO16.plain (by kernel_rfl)
  rw [o4] at e16
  obtain ⟨bd, od, cd, rfl, hbd, hbd', gD16⟩ := hO16.first (x := (1, .unp 7 5)) (by rw [e16]; rfl)
  rw [e16]
  simp only [List.length_cons, List.length_nil]
  have gA16 : w16.cell? ⟨ba, oa, none⟩ = some (.int .i64 0) := by rw [hb16.cell (p := ⟨ba, oa, none⟩) (World.block_lt_of_cell? _ _ gA15)]; exact gA15
  have gB16 : w16.cell? ⟨bb, ob, none⟩ = some (.int .i64 1) := by rw [hb16.cell (p := ⟨bb, ob, none⟩) (World.block_lt_of_cell? _ _ gB15)]; exact gB15
  have gM16 : w16.cell? ⟨bm, 3, none⟩ = some (.slice pa 2 pc) := by rw [hb16.cell (p := ⟨bm, 3, none⟩) (World.block_lt_of_cell? _ _ gM15)]; exact gM15
  have gC16 : w16.cell? ⟨bc, oc, none⟩ = some (.int .i64 (-1)) := by rw [hb16.cell (p := ⟨bc, oc, none⟩) (World.block_lt_of_cell? _ _ gC15)]; exact gC15
  have s16 := (s15.turn (K' := fun b => b = ba ∨ b = bb ∨ b = bm ∨ b = bc ∨ b = bd) (fun b hb e => by rcases e with e | e | e | e | e <;> first | exact .inl e | exact .inr (.inl e) | exact .inr (.inr (.inl e)) | exact .inr (.inr (.inr e)) | omega)).step hb16
  clear s15 hb16 hO16 e16 gA15 gB15 gM15 gC15
  have H16 := s16.hear (m := .unpd 1 7 5) (fun b e => by rcases e with e | e | e | e | e <;> subst e <;> exact World.block_lt_of_cell? _ _ (by assumption)) trivial trivial h45
  simp only [val] at H16
  go_wp2_with (fail)
  refine H16.mono ?_
  rintro e w17 ⟨rfl, s17, hO17⟩
  have gA17 : w17.cell? ⟨ba, oa, none⟩ = some (.int .i64 0) := by rw [World.cell?_of_block (w := w16) (hO17.block _ (World.block_lt_of_cell? _ _ gA16) (fun e => e.2 (by simp)))]; exact gA16
  have gB17 : w17.cell? ⟨bb, ob, none⟩ = some (.int .i64 1) := by rw [World.cell?_of_block (w := w16) (hO17.block _ (World.block_lt_of_cell? _ _ gB16) (fun e => e.2 (by simp)))]; exact gB16
  have gM17 : w17.cell? ⟨bm, 3, none⟩ = some (.slice pa 2 pc) := by rw [World.cell?_of_block (w := w16) (hO17.block _ (World.block_lt_of_cell? _ _ gM16) (fun e => e.2 (by simp)))]; exact gM16
  have gC17 : w17.cell? ⟨bc, oc, none⟩ = some (.int .i64 (-1)) := by rw [World.cell?_of_block (w := w16) (hO17.block _ (World.block_lt_of_cell? _ _ gC16) (fun e => e.2 (by simp)))]; exact gC16
  have gD17 : w17.cell? ⟨bd, od, none⟩ = some (.int .i64 1) := by rw [World.cell?_of_block (w := w16) (hO17.block _ (World.block_lt_of_cell? _ _ gD16) (fun e => e.2 (by simp)))]; exact gD16
  clear s16 H16 hO17 gA16 gB16 gM16 gC16 gD16
  go_wp2_with (fail)
  refine (s17.phase).mono ?_
  rintro e w18 ⟨rfl, rfl⟩
  go_wp2_with (fail)
  refine (s17.stored).mono ?_
  rintro e w18 ⟨rfl, rfl⟩
  go_wp2_with (fail)
  refine (s17.trace).mono ?_
  rintro e w18 ⟨rfl, rfl⟩
  go_wp2_with (fail)
  refine (s17.visited).mono ?_
  rintro e w18 ⟨⟨v18, rfl, hr18, hn18⟩, hb18, s18⟩
  have hA19 := below_alloc (Below.refl w18.heap.size w18) (.cells #[.int .i64 0, .int .i64 1] 3)
  have hr19 := hr18.only (only_of_below hA19 (fun _ => False)) (fun _ _ => id)
  have hx19 : RS (w18.alloc (.cells #[.int .i64 0, .int .i64 1] 3)) 1 eInt (.slice (some ⟨w18.heap.size, 0, none⟩) 2 2) [0, 1] := RS.lit w18 [0, 1] _ (by unfold maxLen; simp) rfl
  have s19 := s18.step hA19
  obtain ⟨_, a18, c18, rfl, _⟩ := id hr18
  go_wp2_with (fail)
  refine (sameInts_any hr19 hx19).mono ?_
  rintro e w20 ⟨rfl, q, rfl⟩
  rw [show (decide (J5.vs.map Prod.fst = [0, 1])) = true by kernel_rfl]
  have s20 := s19.step (belowN (Below.refl _ _) q)
  clear s17 s18 s19 hr18 hr19 hx19 hA19 hb18 hn18
  generalize (w18.alloc (.cells #[.int .i64 0, .int .i64 1] 3)).drewN q = w20 at s20 ⊢
  go_wp2_with (fail)
  refine (s20.outs).mono ?_
  rintro e w21 ⟨⟨v21, outs21, rfl, hO21⟩, hb21, s21⟩
  have e21 := hO21.plain (by kernel_rfl)
  rw [o5] at e21
  obtain ⟨a21, c21, rfl⟩ := hO21.sl.form
  rw [e21]
  have hbe := s21.bel
  clear hO21 e21 s20 s21 hb21
  go_wp2
  go_ret
  exact ⟨rfl, hbe⟩
end Go.Proofs.Ytniggacgkhkgiaa.Job
/- What the laws' Make says, of any crumbs and spans. Conditions: the slices lie in memory. -/
namespace Go.Sp
open Go.RowKit
def makeN (k a t j c n : Int) (l : Bool) (cv : Value) (cs : List Int) (sv : Value) (xs : List Spn) : Mg :=
  if k = 1 then .trig a t c else if k = 2 then .pin t j else if k = 3 then .pinned ⟨a, t, j, n, cv, cs, l⟩ else if k = 4 then .gone a t j else if k = 5 then .coll t j
  else if k = 6 then .chunk a t j c n sv xs else if k = 8 then .stor t j else if k = 9 then .unp t j else if k = 10 then .unpd a t j else .none
/-- m is what Make makes -/
def MakeIs (k a t j c n : Int) (l : Bool) (cv : Value) (cs : List Int) (sv : Value) (xs : List Spn) (m : Mg) : Prop :=
  (k ≠ 7 ∧ m = makeN k a t j c n l cv cs sv xs) ∨ (k = 7 ∧ ∃ pv, m = .mani t j c pv [⟨a, t, j, n, cv, cs, l⟩, ⟨wrap64 (a + 1), t, j, n, cv, cs, l⟩])
/-- a manifest's parts are new -/
def ManiNew (w : World) (m : Mg) : Prop := ∀ t j c pv ps, m = .mani t j c pv ps → ∀ g, pv.ownBlock = some g → w.heap.size ≤ g
theorem ePt_len2 (p : Pt) : (ePt p).length = 6 := rfl
end Go.Sp
namespace Go.Proofs.Ytniggacgkhkgiaa.Msg
open Go.RowKit Go.Sp

set_option maxRecDepth 100000 in
set_option maxHeartbeats 4000000 in
theorem make3_any (w : World) {k a t j c n : Int} (l : Bool) {cv sv : Value} {cs : List Int} {xs : List Spn} (hc : RS w 1 eInt cv cs) (h : RS w 3 eSpn sv xs) :
    Calls Try.prog 74 #[.int .i64 k, .int .i64 a, .int .i64 t, .int .i64 j, .int .i64 c, .int .i64 n, cv, .bool l, sv] w fun e w' => ∃ m, e = .returned (val m) ∧ MakeIs k a t j c n l cv cs sv xs m ∧ InMem w' m ∧ Small m ∧ ManiNew w m ∧ Below w.heap.size w w' := by
  obtain ⟨_, sa, sc, rfl, _⟩ := id h
  obtain ⟨_, ca, cc, rfl, _⟩ := id hc
  have hb := below_alloc (Below.refl w.heap.size w) (.cells #[.int .i64 a, .int .i64 t, .int .i64 j, .int .i64 n, .slice ca cs.length cc, .bool l] 72)
  have hs := h.only (only_of_below hb (fun _ => False)) (fun _ _ => id)
  have hc1 := hc.only (only_of_below hb (fun _ => False)) (fun _ _ => id)
  have hcase : k = 1 ∨ k = 2 ∨ k = 3 ∨ k = 4 ∨ k = 5 ∨ k = 6 ∨ k = 7 ∨ k = 8 ∨ k = 9 ∨ k = 10 ∨ (k ≠ 1 ∧ k ≠ 2 ∧ k ≠ 3 ∧ k ≠ 4 ∧ k ≠ 5 ∧ k ≠ 6 ∧ k ≠ 7 ∧ k ≠ 8 ∧ k ≠ 9 ∧ k ≠ 10) := by omega
  rcases hcase with rfl | rfl | rfl | rfl | rfl | rfl | rfl | rfl | rfl | rfl | hcase
  case inr.inr.inl =>
    have H := Lib.hid (And.intro hs (And.intro hb hc1))
    clear hs hb h hc hc1
    go_enter Try.func74, Try.ntmps74
    go_wp2
    go_ret
    exact ⟨.pinned ⟨a, t, j, n, .slice ca cs.length cc, cs, l⟩, rfl, .inl ⟨by omega, by simp [makeN]⟩, H.out.2.2, trivial, fun _ _ _ _ _ e => (by cases e), H.out.2.1⟩
  case inr.inr.inr.inr.inr.inl =>
    have H := Lib.hid (And.intro hs (And.intro hb hc1))
    clear hs hb h hc hc1
    go_enter Try.func74, Try.ntmps74
    go_wp2
    go_ret
    exact ⟨.chunk a t j c n (.slice sa xs.length sc) xs, rfl, .inl ⟨by omega, by simp [makeN]⟩, H.out.1, trivial, fun _ _ _ _ _ e => (by cases e), H.out.2.1⟩
  case inr.inr.inr.inr.inr.inr.inl =>
    have H := Lib.hid (And.intro hs (And.intro hb hc1))
    clear hs hb h
    go_enter Try.func74, Try.ntmps74
    go_wp2
    go_ret
    have hb1 := below_alloc (below_alloc (Below.refl w.heap.size w) (.cells #[.int .i64 a, .int .i64 t, .int .i64 j, .int .i64 n, .slice ca cs.length cc, .bool l] 72)) (.cells #[.int .i64 (wrap64 (a + 1)), .int .i64 t, .int .i64 j, .int .i64 n, .slice ca cs.length cc, .bool l] 72)
    generalize hW : ((w.alloc (.cells #[.int .i64 a, .int .i64 t, .int .i64 j, .int .i64 n, .slice ca cs.length cc, .bool l] 72)).alloc (.cells #[.int .i64 (wrap64 (a + 1)), .int .i64 t, .int .i64 j, .int .i64 n, .slice ca cs.length cc, .bool l] 72)) = W at *
    have hrs : RS (W.alloc (.cells #[.int .i64 a, .int .i64 t, .int .i64 j, .int .i64 n, .slice ca cs.length cc, .bool l, .int .i64 (wrap64 (a + 1)), .int .i64 t, .int .i64 j, .int .i64 n, .slice ca cs.length cc, .bool l] 72)) 6 ePt (.slice (some ⟨W.heap.size, 0, none⟩) 2 2) [⟨a, t, j, n, .slice ca cs.length cc, cs, l⟩, ⟨wrap64 (a + 1), t, j, n, .slice ca cs.length cc, cs, l⟩] :=
      rs_lits (enc := ePt) (size := 6) ePt_len2 W [⟨a, t, j, n, .slice ca cs.length cc, cs, l⟩, ⟨wrap64 (a + 1), t, j, n, .slice ca cs.length cc, cs, l⟩] 72 (by unfold maxLen; simp) rfl
    have hb2 := below_alloc hb1 (.cells #[.int .i64 a, .int .i64 t, .int .i64 j, .int .i64 n, .slice ca cs.length cc, .bool l, .int .i64 (wrap64 (a + 1)), .int .i64 t, .int .i64 j, .int .i64 n, .slice ca cs.length cc, .bool l] 72)
    have hc2 := hc.only (only_of_below hb2 (fun _ => False)) (fun _ _ => id)
    have hsW : W.heap.size = w.heap.size + 1 + 1 := by rw [← hW]; simp
    rw [hsW] at hrs
    exact ⟨.mani t j c (.slice (some ⟨w.heap.size + 1 + 1, 0, none⟩) 2 2) [⟨a, t, j, n, .slice ca cs.length cc, cs, l⟩, ⟨wrap64 (a + 1), t, j, n, .slice ca cs.length cc, cs, l⟩], rfl, .inr ⟨rfl, _, rfl⟩, ⟨hrs, fun p hp => by simp at hp; rcases hp with rfl | rfl <;> exact hc2⟩, by simp [Small], fun t' j' c' pv' ps' e g hg => (by cases e; simp [Value.ownBlock] at hg; omega), hb2⟩
  case inr.inr.inr.inr.inr.inr.inr.inr.inr.inr =>
    obtain ⟨n1, n2, n3, n4, n5, n6, n7, n8, n9, n10⟩ := hcase
    have hM : makeN k a t j c n l (.slice ca cs.length cc) cs (.slice sa xs.length sc) xs = .none := by simp [makeN, n1, n2, n3, n4, n5, n6, n8, n9, n10]
    have b1 : (k == 1) = false := by simp [n1]
    have b2 : (k == 2) = false := by simp [n2]
    have b3 : (k == 3) = false := by simp [n3]
    have b4 : (k == 4) = false := by simp [n4]
    have b5 : (k == 5) = false := by simp [n5]
    have b6 : (k == 6) = false := by simp [n6]
    have b7 : (k == 7) = false := by simp [n7]
    have b8 : (k == 8) = false := by simp [n8]
    have b9 : (k == 9) = false := by simp [n9]
    have b10 : (k == 10) = false := by simp [n10]
    have H := Lib.hid (And.intro (And.intro n7 hM.symm) hb)
    clear hs hb h hc hc1 n1 n2 n3 n4 n5 n6 n7 n8 n9 n10 hM
    go_enter Try.func74, Try.ntmps74
    go_wp2
    go_ret
    exact ⟨.none, rfl, .inl H.out.1, trivial, trivial, fun _ _ _ _ _ e => (by cases e), H.out.2⟩
  all_goals (
    have H := Lib.hid hb
    clear hs hb h hc hc1
    go_enter Try.func74, Try.ntmps74
    go_wp2
    go_ret
    first
    | exact ⟨.trig a t c, rfl, .inl ⟨by omega, by simp [makeN]⟩, trivial, trivial, fun _ _ _ _ _ e => (by cases e), H.out⟩
    | exact ⟨.pin t j, rfl, .inl ⟨by omega, by simp [makeN]⟩, trivial, trivial, fun _ _ _ _ _ e => (by cases e), H.out⟩
    | exact ⟨.gone a t j, rfl, .inl ⟨by omega, by simp [makeN]⟩, trivial, trivial, fun _ _ _ _ _ e => (by cases e), H.out⟩
    | exact ⟨.coll t j, rfl, .inl ⟨by omega, by simp [makeN]⟩, trivial, trivial, fun _ _ _ _ _ e => (by cases e), H.out⟩
    | exact ⟨.stor t j, rfl, .inl ⟨by omega, by simp [makeN]⟩, trivial, trivial, fun _ _ _ _ _ e => (by cases e), H.out⟩
    | exact ⟨.unp t j, rfl, .inl ⟨by omega, by simp [makeN]⟩, trivial, trivial, fun _ _ _ _ _ e => (by cases e), H.out⟩
    | exact ⟨.unpd a t j, rfl, .inl ⟨by omega, by simp [makeN]⟩, trivial, trivial, fun _ _ _ _ _ e => (by cases e), H.out⟩)
theorem make2_any (w : World) {k a t j c n : Int} (l : Bool) {cv sv : Value} {cs : List Int} {xs : List Spn} (hc : RS w 1 eInt cv cs) (h : RS w 3 eSpn sv xs) :
    Calls Try.prog 74 #[.int .i64 k, .int .i64 a, .int .i64 t, .int .i64 j, .int .i64 c, .int .i64 n, cv, .bool l, sv] w fun e w' => ∃ m, e = .returned (val m) ∧ MakeIs k a t j c n l cv cs sv xs m ∧ InMem w' m ∧ Small m ∧ Below w.heap.size w w' :=
  (make3_any w l hc h).mono fun _ _ ⟨m, h1, h2, h3, h4, _, h5⟩ => ⟨m, h1, h2, h3, h4, h5⟩
end Go.Proofs.Ytniggacgkhkgiaa.Msg
/- What an argument that can be read looks like in memory, type by type. No condition beyond the readings named. -/
namespace Go.Sp
open Go.RowKit Go.Deep Go.WideShapes

/-- The cells cs hold a value of type t that can be read, all slices and strings within reach. -/
def Rd (P : Program) (w : World) : Nat → TypeId → List Value → Prop
  | 0, _, _ => False
  | n + 1, t, cs =>
    match P.underlying t with
    | some .bool => ∃ b, cs = [.bool b]
    | some (.int k) => ∃ a, cs = [.int k a] ∧ (Lit.int k a).wf = true
    | some .string => ∃ s, cs = [.string s] ∧ s.size ≤ 140737488351232
    | some (.slice e) => ∃ a len cap, cs = [.slice a len cap] ∧ len ≤ maxLen ∧ len ≤ cap ∧ len * P.bytesOf e ≤ 140737488351232 ∧ (0 < len → ∃ x, a = some x) ∧
        ∀ x i, a = some x → i < len → ∃ ds, w.cells? 0 (x.add (i * P.cellsOf e)) (P.cellsOf e) = some ds ∧ Rd P w n e ds
    | some (.struct fs) => cs.length = P.cellsOf t ∧ ∀ f ∈ fs.toList, Rd P w n f.type ((cs.drop f.offset).take (P.cellsOf f.type))
    | some (.array m e) => cs.length = P.cellsOf t ∧ ∀ i, i < m → Rd P w n e ((cs.drop (i * P.cellsOf e)).take (P.cellsOf e))
    | _ => True

section
variable {H : Type} {enc : TypeId × Value → H} {P : Program} {w : World}

theorem mapM_at {α β : Type} {f : α → Option β} : ∀ {l : List α} {r : List β}, l.mapM f = some r → r.length = l.length ∧ ∀ (i : Nat) (x : α), l[i]? = some x → ∃ y, f x = some y ∧ r[i]? = some y
  | [], r, h => by simp at h; subst h; simp
  | a :: l, r, h => by
    rw [List.mapM_cons] at h
    simp only [Option.bind_eq_bind, Option.bind_eq_some_iff] at h
    obtain ⟨y, hy, ys, hys, h⟩ := h
    simp at h; subst h
    obtain ⟨h1, h2⟩ := mapM_at hys
    refine ⟨by simp [h1], fun i x hx => ?_⟩
    cases i with
    | zero => simp at hx; subst hx; exact ⟨y, hy, by simp⟩
    | succ i => exact h2 i x (by simpa using hx) |>.imp fun z hz => ⟨hz.1, by simpa using hz.2⟩

theorem weights_elem {e : TypeId} : ∀ {ds : List (DataW H)} {i : Nat} {d : DataW H}, ds[i]? = some d → ∀ n ∈ d.weights P e, n ∈ DataW.weightsAll P e ds
  | [], i, d, h => by simp at h
  | x :: r, 0, d, h => by simp at h; subst h; intro n hn; simp [DataW.weightsAll, hn]
  | x :: r, i + 1, d, h => by intro n hn; simp only [DataW.weightsAll, List.mem_append]; exact .inr (weights_elem (by simpa using h) n hn)

theorem all_sub {a b : List Nat} (h : b.all (· ≤ reachBytes) = true) (hs : ∀ n ∈ a, n ∈ b) : a.all (· ≤ reachBytes) = true :=
  List.all_eq_true.2 fun n hn => List.all_eq_true.1 h n (hs n hn)

theorem rd_of_trod : ∀ (fuel : Nat) (t : TypeId) (cs : List Value) (d : DataW H) (ps : List MemPlace), DataW.trod enc P w 0 (fun _ => true) true fuel t cs = some (d, ps) → (d.weights P t).all (· ≤ reachBytes) = true → Rd P w fuel t cs
  | 0, _, _, _, _, h, _ => by simp [DataW.trod] at h
  | fuel + 1, t, cs, d, ps, h, hw => by
    unfold Rd
    cases hu : P.underlying t with
    | none => trivial
    | some u =>
      cases u with
      | bool =>
        simp only [DataW.trod, hu] at h
        split at h <;> first | (simp_all; done) | exact ⟨_, rfl⟩ | cases h
      | int k =>
        simp only [DataW.trod, hu] at h
        split at h <;> simp_all
      | string =>
        simp only [DataW.trod, hu] at h
        split at h <;> simp_all
        obtain ⟨_, rfl, _⟩ := h
        have := hw _ (by simp only [DataW.weights, List.mem_singleton]; rfl)
        simpa [reachBytes] using this
      | slice e =>
        rcases DataW.trod_slice hu h with ⟨rfl, _⟩ | ⟨a, len, cap, elems, rest, n, hn, rfl, hx, _, hl, hm, hlen, hel, hsp, _⟩
        · exact ⟨none, 0, 0, rfl, by simp, by simp, by simp, by simp, by simp⟩
        · obtain rfl : fuel = n := by omega
          obtain ⟨rfl, rfl⟩ := Prod.mk.inj hx
          have w1 : (elems.map (·.1)).length + (rest.map (·.1)).length = cap := by simp [hlen, (hsp rfl).1]; omega
          have hb : cap * P.bytesOf e ≤ 140737488351232 := by
            have := List.all_eq_true.1 hw (cap * P.bytesOf e) (by simp only [DataW.weights, hu, List.mem_cons]; rw [w1]; exact .inl rfl)
            exact of_decide_eq_true this
          refine ⟨some a, len, cap, rfl, by omega, hl, Nat.le_trans (Nat.mul_le_mul_right _ hl) hb, fun _ => ⟨a, rfl⟩, fun x i hx hi => ?_⟩
          cases hx
          have h1 := hel i hi
          rw [List.getElem?_eq_getElem (by omega)] at h1
          obtain ⟨ds, h2, h3⟩ := Option.bind_eq_some_iff.1 h1
          refine ⟨ds, h2, rd_of_trod fuel e ds _ _ h3 (all_sub hw fun q hq => ?_)⟩
          simp only [DataW.weights, hu, List.mem_cons, List.mem_append]
          exact .inr (.inl (weights_elem (i := i) (d := (elems[i]'(by omega)).1) (by simp [hlen, hi]) q hq))
      | struct fs =>
        simp only [DataW.trod, hu] at h
        split at h
        · rename_i hlen
          obtain ⟨xs, hxs, hd⟩ := Option.map_eq_some_iff.1 h
          obtain ⟨rfl, rfl⟩ := Prod.mk.inj hd
          obtain ⟨h1, h2⟩ := mapM_at hxs
          refine ⟨hlen, fun f hf => ?_⟩
          obtain ⟨i, hi⟩ := List.getElem?_of_mem hf
          obtain ⟨y, hy, hr⟩ := h2 i f hi
          refine rd_of_trod fuel f.type _ y.1 y.2 hy (all_sub hw fun q hq => ?_)
          simp only [DataW.weights, hu]
          exact DataW.weights_mem_each (j := i) (by simp [hi]) (by simp [hr]) q hq
        · cases h
      | array m e =>
        simp only [DataW.trod, hu] at h
        split at h
        · rename_i hlen
          obtain ⟨xs, hxs, hd⟩ := Option.map_eq_some_iff.1 h
          obtain ⟨rfl, rfl⟩ := Prod.mk.inj hd
          obtain ⟨h1, h2⟩ := mapM_at hxs
          refine ⟨hlen, fun i hi => ?_⟩
          obtain ⟨y, hy, hr⟩ := h2 i i (by simp [hi])
          refine rd_of_trod fuel e _ y.1 y.2 hy (all_sub hw fun q hq => ?_)
          simp only [DataW.weights, hu]
          exact weights_elem (i := i) (by simp [hr]) q hq
        · cases h
      | _ => trivial

theorem weights_at {ts : List TypeId} {ds : List (DataW H)} (h : (DataW.weightsEach P ts ds).all (· ≤ reachBytes) = true) {j : Nat} {t : TypeId} {d : DataW H} (ht : ts[j]? = some t) (hd : ds[j]? = some d) : (d.weights P t).all (· ≤ reachBytes) = true :=
  all_sub h (DataW.weights_mem_each ht hd)

theorem rd_int {n : Nat} {t : TypeId} {cs : List Value} {k : IntKind} (h : Rd P w n t cs) (hu : P.underlying t = some (.int k)) : ∃ a, cs = [.int k a] ∧ (Lit.int k a).wf = true := by
  cases n with
  | zero => exact h.elim
  | succ n => unfold Rd at h; rw [hu] at h; exact h
theorem rd_bool {n : Nat} {t : TypeId} {cs : List Value} (h : Rd P w n t cs) (hu : P.underlying t = some .bool) : ∃ b, cs = [.bool b] := by
  cases n with
  | zero => exact h.elim
  | succ n => unfold Rd at h; rw [hu] at h; exact h
theorem rd_string {n : Nat} {t : TypeId} {cs : List Value} (h : Rd P w n t cs) (hu : P.underlying t = some .string) : ∃ s, cs = [.string s] ∧ s.size ≤ 140737488351232 := by
  cases n with
  | zero => exact h.elim
  | succ n => unfold Rd at h; rw [hu] at h; exact h
theorem rd_struct {n : Nat} {t : TypeId} {cs : List Value} {fs : Array Field} (h : Rd P w n t cs) (hu : P.underlying t = some (.struct fs)) : cs.length = P.cellsOf t ∧ ∀ f ∈ fs.toList, ∃ m, Rd P w m f.type ((cs.drop f.offset).take (P.cellsOf f.type)) := by
  cases n with
  | zero => exact h.elim
  | succ n => unfold Rd at h; rw [hu] at h; exact ⟨h.1, fun f hf => ⟨n, h.2 f hf⟩⟩
theorem rd_array {n : Nat} {t : TypeId} {cs : List Value} {k : Nat} {e : TypeId} (h : Rd P w n t cs) (hu : P.underlying t = some (.array k e)) : cs.length = P.cellsOf t ∧ ∀ i, i < k → ∃ m, Rd P w m e ((cs.drop (i * P.cellsOf e)).take (P.cellsOf e)) := by
  cases n with
  | zero => exact h.elim
  | succ n => unfold Rd at h; rw [hu] at h; exact ⟨h.1, fun i hi => ⟨n, h.2 i hi⟩⟩

theorem cells_at {a : Addr} {k : Nat} {ds : List Value} (h : w.cells? 0 a k = some ds) : ds.length = k ∧ ∀ j u, ds[j]? = some u → w.cell? (a.add j) = some u := by
  unfold World.cells? at h
  rw [if_pos (Nat.zero_le _)] at h
  obtain ⟨h1, h2⟩ := mapM_at h
  refine ⟨by simpa using h1, fun j u hu => ?_⟩
  have hj : j < k := by have := (List.getElem?_eq_some_iff.1 hu).1; simp at h1; omega
  obtain ⟨y, hy, hr⟩ := h2 j j (by simp [hj])
  rw [hr] at hu; cases hu; exact hy

theorem cell_some {a : Addr} {u : Value} (h : w.cell? a = some u) : a.spot = none ∧ a.block < w.heap.size := by
  unfold World.cell? at h
  split at h
  · rename_i heq
    refine ⟨?_, (Array.getElem?_eq_some_iff.1 heq).1⟩
    cases hs : a.spot with
    | none => rfl
    | some x => simp [hs] at h
  · cases h

theorem rd_cap {n : Nat} {t e : TypeId} {a : Option Addr} {len cap : Nat} (h : Rd P w n t [.slice a len cap]) (ht : P.underlying t = some (.slice e)) : len ≤ cap := by
  cases n with
  | zero => exact h.elim
  | succ n =>
    unfold Rd at h
    rw [ht] at h
    obtain ⟨a', len', cap', hv, _, hc, _⟩ := h
    simp at hv
    obtain ⟨rfl, rfl, rfl⟩ := hv
    exact hc

/-- A slice that can be read, element by element. -/
theorem rs_of_rd {α : Type} {size : Nat} {elt : α → List Value} {Q : α → Prop} {n : Nat} {t e : TypeId} {cs : List Value} (h : Rd P w n t cs) (ht : P.underlying t = some (.slice e)) (hsz : P.cellsOf e = size) (hpos : 0 < size)
    (hd : ∀ m ds, Rd P w m e ds → ∃ x, elt x = ds ∧ Q x) : ∃ v xs, cs = [v] ∧ RS w size elt v xs ∧ (∀ x ∈ xs, Q x) ∧ xs.length * P.bytesOf e ≤ 140737488351232 := by
  cases n with
  | zero => exact h.elim
  | succ n =>
    unfold Rd at h
    rw [ht] at h
    obtain ⟨a, len, cap, rfl, hl, _, hb, ha, hel⟩ := h
    refine ⟨.slice a len cap, ?_⟩
    have key : ∀ k, k ≤ len → ∃ xs : List α, xs.length = k ∧ (∀ x ∈ xs, Q x) ∧ ∀ ad, a = some ad → ∀ (i : Nat) (x : α) (j : Nat) (u : Value), xs[i]? = some x → (elt x)[j]? = some u → w.cell? (ad.add (i * size + j)) = some u := by
      intro k
      induction k with
      | zero => exact fun _ => ⟨[], rfl, by simp, by simp⟩
      | succ k ih =>
        intro hk
        obtain ⟨xs, h1, h2, h3⟩ := ih (by omega)
        obtain ⟨ad, rfl⟩ := ha (by omega)
        obtain ⟨ds, h4, h5⟩ := hel ad k rfl (by omega)
        obtain ⟨y, rfl, hy⟩ := hd _ _ h5
        obtain ⟨h6, h7⟩ := cells_at h4
        refine ⟨xs ++ [y], by simp [h1], fun x hx => by
          rcases List.mem_append.1 hx with hx | hx
          · exact h2 x hx
          · rw [List.mem_singleton.1 hx]; exact hy, fun ad' had i x j u hx hu => ?_⟩
        cases had
        by_cases hi : i < k
        · rw [List.getElem?_append_left (by omega)] at hx
          exact h3 ad rfl i x j u hx hu
        · rw [List.getElem?_append_right (by omega)] at hx
          have : i = k := by
            have := (List.getElem?_eq_some_iff.1 hx).1
            simp at this; omega
          subst this
          simp [h1] at hx
          subst hx
          have := h7 j u hu
          rw [add_add, hsz] at this
          exact this
    obtain ⟨xs, h1, h2, h3⟩ := key len (Nat.le_refl _)
    refine ⟨xs, rfl, ⟨by omega, a, cap, by rw [h1], fun hn => ?_⟩, h2, by rw [h1]; exact hb⟩
    obtain ⟨ad, rfl⟩ := ha (by omega)
    obtain ⟨ds, h4, h5⟩ := hel ad 0 rfl (by omega)
    obtain ⟨h6, h7⟩ := cells_at h4
    obtain ⟨u, hu⟩ : ∃ u, ds[0]? = some u := ⟨_, List.getElem?_eq_getElem (by omega)⟩
    have hc := cell_some (h7 0 u hu)
    rcases ad with ⟨b, off, sp⟩
    have e0 : ((⟨b, off, sp⟩ : Addr).add (0 * P.cellsOf e)).add 0 = ⟨b, off, sp⟩ := by simp [Addr.add]
    rw [e0] at hc
    have hs : sp = none := hc.1
    subst hs
    refine ⟨b, off, rfl, hc.2, fun i x j u hx hu => ?_⟩
    have := h3 _ rfl i x j u hx hu
    rwa [Addr.add_lit] at this

/-- A slice argument, as the row hands it over. -/
theorem arg_slice {α : Type} {size : Nat} {elt : α → List Value} {Q : α → Prop} {t e : TypeId} {v : Value} {d : DataW H} {ps : List MemPlace} {base : Nat} (ht : P.underlying t = some (.slice e)) (hsz : P.cellsOf e = size) (hpos : 0 < size)
    (hd : ∀ m ds, Rd P w m e ds → ∃ x, elt x = ds ∧ Q x) (u : Value.okWide P w .any base t v) (k : DataW.Trod enc P w 0 (fun _ => true) true t v d ps) (z : (d.weights P t).all (· ≤ reachBytes) = true) :
    ∃ xs, RS w size elt v xs ∧ (∀ x ∈ xs, Q x) ∧ xs.length * P.bytesOf e ≤ 140737488351232 := by
  obtain ⟨a, len, cap, rfl⟩ := okWide_slice ht u
  obtain ⟨fuel, hf⟩ := k
  obtain ⟨v', xs, e1, h1, h2, h3⟩ := rs_of_rd (rd_of_trod fuel t _ d ps hf z) ht hsz hpos hd
  have : v' = .slice a len cap := by simpa [Value.cells] using e1.symm
  subst this
  exact ⟨xs, h1, h2, h3⟩

end
end Go.Sp
