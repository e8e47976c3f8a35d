/- What law 13's few and message answer, and what a job that is none answers. Conditions: the slices lie in memory. -/
import Derived.Test.YtniggacgkhkgiaaPkJobPlays16
import Derived.Deep.Cut
import Derived.Handy
namespace Go.Sp
open Go.RowKit
/-- a call's fields, and whom it names -/
structure OpJ where
  k : Int
  a : Int
  t : Int
  j : Int
  cv : Value
  cs : List Int
  l : Bool
def eOpJ (o : OpJ) : List Value := [.int .i64 o.k, .int .i64 o.a, .int .i64 o.t, .int .i64 o.j, o.cv, .bool o.l]
theorem eOpJ_len (o : OpJ) : (eOpJ o).length = 6 := rfl
def fewJO (o : OpJ) : Bool := decide (o.cs.length ≤ 20) && decide (o.a ≤ 1099511627776)
def fewJ (os : List OpJ) : Bool := (os.all fewJO) && decide (os.length ≤ 200)
/-- the message of a call -/
def MsgJ (o : OpJ) (m : Mg) : Prop := MakeIs o.k o.a o.t o.j 0 1 o.l o.cv o.cs (.slice none 0 0) [] m
end Go.Sp
namespace Go.Proofs.Ytniggacgkhkgiaa.Job
open Go.RowKit Go.Sp Msg

set_option maxRecDepth 100000 in
set_option maxHeartbeats 2000000 in
theorem fewJ_any {w : World} {v : Value} {os : List OpJ} (h : RS w 6 eOpJ v os) (ho : ∀ o ∈ os, RS w 1 eInt o.cv o.cs) : Calls Try.prog 16 #[v] w fun e w' => e = .returned (.bool (fewJ os)) ∧ Below w.heap.size w w' := by
  have hl := h.1
  unfold maxLen at hl
  obtain ⟨_, a, c, rfl, _⟩ := id h
  go_enter Try.func16, Try.ntmps16
  go_wp2
  go_loopw [7] (fun i wr => ∃ q : Nat, q ≤ os.length ∧ i = .int .i64 q ∧ Below w.heap.size w wr ∧ (os.take q).all fewJO = true) (fun i _ => os.length - (intOf i).toNat)
  case atStart => exact ⟨0, Nat.zero_le _, rfl, Below.refl _ _, rfl⟩
  case round =>
    obtain ⟨q, hq, rfl, hb, hJ⟩ := hrel
    by_cases hqN : q < os.length
    · obtain ⟨_, a', c', hv, h2⟩ := h.only (only_of_below hb (fun _ => False)) (fun _ _ => id)
      obtain ⟨b0, o0, ha, hb0, hcl⟩ := h2 (by omega)
      simp only [Value.slice.injEq] at hv
      obtain ⟨rfl, _, rfl⟩ := hv
      subst ha
      obtain ⟨x, hx⟩ : ∃ x, os[q]? = some x := ⟨_, List.getElem?_eq_getElem hqN⟩
      have hcs := ho x (List.mem_of_getElem? hx)
      have hT : (os.take (q + 1)).all fewJO = fewJO x := by rw [List.take_add_one, hx, List.all_append, hJ]; simp
      have hM : fewJO x = false → fewJ os = false := fun e => by
        unfold fewJ
        have : os.all fewJO = false := by rw [List.all_eq_false]; exact ⟨_, List.mem_of_getElem? hx, by simpa using e⟩
        rw [this]; rfl
      have g0 := hcl q x 0 _ hx rfl
      have g1 := hcl q x 1 _ hx rfl
      have g2 := hcl q x 2 _ hx rfl
      have g3 := hcl q x 3 _ hx rfl
      have g4 := hcl q x 4 _ hx rfl
      have g5 := hcl q x 5 _ hx rfl
      rw [← Nat.add_assoc] at g0 g1 g2 g3 g4 g5
      rw [Nat.add_zero] at g0
      obtain ⟨k, a, t, j, cv, cs, l⟩ := x
      simp only at hcs g0 g1 g2 g3 g4 g5
      obtain ⟨_, ca, cc, rfl, _⟩ := id hcs
      have HT := Lib.hid hT
      have HM := Lib.hid hM
      have hfe : fewJO ⟨k, a, t, j, .slice ca cs.length cc, cs, l⟩ = (decide (cs.length ≤ 20) && decide (a ≤ 1099511627776)) := rfl
      have HFE := Lib.hid hfe
      have hA := below_alloc (Below.refl wr.heap.size wr) (.cells #[.int .i64 k, .int .i64 a, .int .i64 t, .int .i64 j, .slice ca cs.length cc, .bool l] 40)
      have hb2 := below_trans' hA hb
      clear hcl hx hT hM hJ h2 hcs hfe hA
      by_cases hz : cs.length ≤ 20
      · have b1 : decide (20 < (cs.length : Int)) = false := decide_eq_false (by omega)
        by_cases hy : a ≤ 1099511627776
        · have b2 : decide (1099511627776 < a) = false := decide_eq_false (by omega)
          go_wp2
          exact ⟨⟨q + 1, by omega, by go_num, hb2, by rw [HT.out, HFE.out, decide_eq_true hz, decide_eq_true hy]; rfl⟩, by simp [intOf]; omega⟩
        · have b2 : decide (1099511627776 < a) = true := decide_eq_true (by omega)
          go_wp2
          go_ret
          exact ⟨by rw [HM.out (by rw [HFE.out, decide_eq_false (by omega : ¬ a ≤ 1099511627776)]; simp)]; rfl, hb2⟩
      · have b1 : decide (20 < (cs.length : Int)) = true := decide_eq_true (by omega)
        go_wp2
        go_ret
        exact ⟨by rw [HM.out (by rw [HFE.out, decide_eq_false (by omega : ¬ cs.length ≤ 20)]; simp)]; rfl, hb2⟩
    · have hqe : q = os.length := by omega
      subst hqe
      rw [List.take_length] at hJ
      have HJ := Lib.hid (show fewJ os = decide (os.length ≤ 200) by unfold fewJ; rw [hJ]; rfl)
      clear hJ h ho
      by_cases hz : os.length ≤ 200
      · have b1 : decide ((os.length : Int) ≤ 200) = true := decide_eq_true (by omega)
        go_wp2
        go_ret
        exact ⟨by rw [HJ.out, decide_eq_true hz]; rfl, hb⟩
      · have b1 : decide ((os.length : Int) ≤ 200) = false := decide_eq_false (by omega)
        go_wp2
        go_ret
        exact ⟨by rw [HJ.out, decide_eq_false hz]; rfl, hb⟩

set_option maxRecDepth 100000 in
set_option maxHeartbeats 2000000 in
theorem messageJ3_any (w : World) {o : OpJ} (h : RS w 1 eInt o.cv o.cs) : Calls Try.prog 20 #[.agg #[.int .i64 o.k, .int .i64 o.a, .int .i64 o.t, .int .i64 o.j, o.cv, .bool o.l]] w fun e w' => ∃ m, e = .returned (val m) ∧ MsgJ o m ∧ InMem w' m ∧ Small m ∧ ManiNew w m ∧ Below w.heap.size w w' := by
  obtain ⟨k, a, t, j, cv, cs, l⟩ := o
  simp only at h ⊢
  obtain ⟨_, ca, cc, rfl, _⟩ := id h
  have hA := below_alloc (Below.refl w.heap.size w) (.cells #[.int .i64 k, .int .i64 a, .int .i64 t, .int .i64 j, .slice ca cs.length cc, .bool l] 40)
  have HM := fun w1 (hb : Below w.heap.size w w1) => make3_any w1 (k := k) (a := a) (t := t) (j := j) (c := 0) (n := 1) l (h.only (only_of_below hb (fun _ => False)) (fun _ _ => id)) (RS.nil w1 3 eSpn)
  clear h
  go_enter Try.func20, Try.ntmps20
  go_wp2_with fail
  refine (HM _ hA).mono ?_
  rintro e w2 ⟨m, rfl, h1, h2, h3, h4, hb2⟩
  have hb3 := below_trans' hb2 hA
  have h5 : ManiNew w m := fun t j c pv ps e g hg => Nat.le_trans hA.size (h4 t j c pv ps e g hg)
  have H := Lib.hid (And.intro h1 (And.intro h2 (And.intro h3 h5)))
  clear h1 h2 h3 h4 h5 HM
  go_wp2
  go_ret
  exact ⟨m, rfl, H.out.1, H.out.2.1, H.out.2.2.1, H.out.2.2.2, hb3⟩

theorem messageJ_any (w : World) {o : OpJ} (h : RS w 1 eInt o.cv o.cs) : Calls Try.prog 20 #[.agg #[.int .i64 o.k, .int .i64 o.a, .int .i64 o.t, .int .i64 o.j, o.cv, .bool o.l]] w fun e w' => ∃ m, e = .returned (val m) ∧ MsgJ o m ∧ InMem w' m ∧ Small m ∧ Below w.heap.size w w' :=
  (messageJ3_any w h).mono fun _ _ ⟨m, h1, h2, h3, h4, _, h5⟩ => ⟨m, h1, h2, h3, h4, h5⟩

set_option maxRecDepth 100000 in
theorem hear_nil {w : World} {m : Mg} (h : InMem w m) : Calls Try.prog 21 #[.pointer none, val m] w fun e w' => e = .returned (.tuple #[]) ∧ Below w.heap.size w w' := by
  have H := of_any w m h
  generalize val m = vm at H ⊢
  generalize mT m = mt at *
  generalize mJ m = mj at *
  generalize mOk m = mo at *
  clear h
  go_enter Try.func21, Try.ntmps21
  go_wp2_with fail
  refine H.mono ?_
  rintro e w1 ⟨rfl, hb1⟩
  go_wp2
  go_returns
  exact ⟨rfl, hb1⟩
set_option maxRecDepth 100000 in
theorem mani_nil (w : World) : Calls Try.prog 32 #[.pointer none] w fun e w' => e = .returned (.tuple #[.agg #[.int .i64 0, .int .i64 0, .int .i64 0, .slice none 0 0], .bool false]) ∧ Below w.heap.size w w' := by
  have hA := below_alloc (Below.refl w.heap.size w) (.cells #[.int .i64 0, .int .i64 0, .int .i64 0, .slice none 0 0] 62)
  go_enter Try.func32, Try.ntmps32
  go_wp2
  go_returns
  exact ⟨rfl, hA⟩
set_option maxRecDepth 100000 in
theorem outs_nil (w : World) : Calls Try.prog 24 #[.pointer none] w fun e w' => e = .returned (.slice none 0 0) ∧ w = w' := by
  go_enter Try.func24, Try.ntmps24
  go_wp2
  go_ret
  exact ⟨rfl, by first | rfl | trivial⟩
set_option maxRecDepth 100000 in
theorem visited_nil (w : World) : Calls Try.prog 28 #[.pointer none] w fun e w' => e = .returned (.slice none 0 0) ∧ w = w' := by
  go_enter Try.func28, Try.ntmps28
  go_wp2
  go_ret
  exact ⟨rfl, by first | rfl | trivial⟩
set_option maxRecDepth 100000 in
theorem phase_nil (w : World) : Calls Try.prog 25 #[.pointer none] w fun e w' => e = .returned (.int .i64 4) ∧ w = w' := by
  go_enter Try.func25, Try.ntmps25
  go_wp2
  go_ret
  exact ⟨rfl, by first | rfl | trivial⟩
set_option maxRecDepth 100000 in
theorem trace_nil (w : World) : Calls Try.prog 26 #[.pointer none] w fun e w' => e = .returned (.int .i64 0) ∧ w = w' := by
  go_enter Try.func26, Try.ntmps26
  go_wp2
  go_ret
  exact ⟨rfl, by first | rfl | trivial⟩
set_option maxRecDepth 100000 in
theorem stored_nil (w : World) : Calls Try.prog 30 #[.pointer none] w fun e w' => e = .returned (.bool false) ∧ w = w' := by
  go_enter Try.func30, Try.ntmps30
  go_wp2
  go_ret
  exact ⟨rfl, by first | rfl | trivial⟩

theorem rd_intsJ {w : World} {m : Nat} {ds : List Value} (h : Rd Try.prog w m 31 ds) : ∃ v xs, ds = [v] ∧ RS w 1 eInt v xs := by
  obtain ⟨v, xs, e, h1, _⟩ := rs_of_rd (size := 1) (elt := eInt) (Q := fun _ => True) h Try.underlying31 (by kernel_rfl) (by omega) (fun m ds h => by
    obtain ⟨x, e, _⟩ := rd_int h Try.underlying3
    exact ⟨x, e.symm, trivial⟩)
  exact ⟨v, xs, e, h1⟩

set_option maxRecDepth 100000 in
theorem rd_opJ {w : World} {m : Nat} {ds : List Value} (h : Rd Try.prog w m 40 ds) : ∃ o : OpJ, eOpJ o = ds ∧ RS w 1 eInt o.cv o.cs := by
  obtain ⟨hl, hf⟩ := rd_struct h Try.underlying40
  have hc : Try.prog.cellsOf 40 = 6 := by kernel_rfl
  have hi : Try.prog.cellsOf 3 = 1 := by kernel_rfl
  have hn : Try.prog.cellsOf 31 = 1 := by kernel_rfl
  have hb : Try.prog.cellsOf 4 = 1 := by kernel_rfl
  rw [hc] at hl
  match ds, hl with
  | [a, b, c, d, e, f], _ =>
    simp [hi, hn, hb] at hf
    obtain ⟨⟨m1, f1⟩, ⟨m2, f2⟩, ⟨m3, f3⟩, ⟨m4, f4⟩, ⟨m5, f5⟩, ⟨m6, f6⟩⟩ := hf
    obtain ⟨x1, e1, _⟩ := rd_int f1 Try.underlying3
    obtain ⟨x2, e2, _⟩ := rd_int f2 Try.underlying3
    obtain ⟨x3, e3, _⟩ := rd_int f3 Try.underlying3
    obtain ⟨x4, e4, _⟩ := rd_int f4 Try.underlying3
    obtain ⟨x5, cs, e5, h5⟩ := rd_intsJ f5
    obtain ⟨x6, e6⟩ := rd_bool f6 Try.underlying4
    simp at e1 e2 e3 e4 e5 e6
    subst e1 e2 e3 e4 e5 e6
    exact ⟨⟨x1, x2, x3, x4, e, cs, x6⟩, rfl, h5⟩

set_option maxRecDepth 100000 in
theorem arg_opJ {H : Type} {enc : TypeId × Value → H} {base : Nat} {d : DataW H} {ps : List MemPlace} {w : World} {v : Value} (u : Value.okWide Try.prog w .any base 40 v)
    (k : DataW.Trod enc Try.prog w 0 (fun _ => true) true 40 v d ps) (z : (d.weights Try.prog 40).all (· ≤ reachBytes) = true) : ∃ o : OpJ, v = .agg (eOpJ o).toArray ∧ RS w 1 eInt o.cv o.cs := by
  simp only [Value.okWide, Try.underlying40] at u
  obtain ⟨cs, rfl, _, _⟩ := u
  obtain ⟨fuel, hf⟩ := k
  obtain ⟨o, h1, h2⟩ := rd_opJ (rd_of_trod fuel _ _ d ps hf z)
  refine ⟨o, ?_, h2⟩
  rw [h1]; rfl
end Go.Proofs.Ytniggacgkhkgiaa.Job
/- JobTwice, the plain part: a message that is heard twice changes nothing more; two messages of one call do the same. No condition beyond those each lemma names. -/
namespace Go.Sp
open Go.RowKit

theorem addC_get {ag c k : Int} {vs : List (Int × Vis)} {v : Vis} (h : mget k vs = some v) : mget k (addC ag vs c) = some v := by
  unfold addC
  cases hb : decide (c < ag) && (mget c vs).isNone with
  | false => exact h
  | true =>
    simp only [Bool.and_eq_true] at hb
    simp only [cond_true, mget_mput]
    by_cases e : k = c
    · subst e; rw [h] at hb; simp at hb
    · rw [if_neg e]; exact h
theorem addCs_get {ag k : Int} {v : Vis} : ∀ {cs : List Int} {vs : List (Int × Vis)}, mget k vs = some v → mget k (addCs ag vs cs) = some v
  | [], _, h => h
  | c :: r, vs, h => addCs_get (cs := r) (addC_get (c := c) h)
theorem pinJ_twice {J : Jb} {k : Int} {v : Vis} {p p' : Pt} (h : mget k J.vs = some v) : ∃ v', mget k (pinJ J k v p).vs = some v' ∧ pinJ (pinJ J k v p) k v' p' = pinJ J k v p := by
  cases h1 : decide (J.ph ≠ 1) || v.pin with
  | true =>
    have e : ∀ q, pinJ J k v q = J := fun q => by unfold pinJ; rw [h1]; rfl
    exact ⟨v, by rw [e]; exact h, by rw [e, e]⟩
  | false =>
    have hk : mget k (pinVs J k v p) = some (toldV v p) := addCs_get (by rw [mget_mput, if_pos rfl])
    have e : pinJ J k v p = bif allV (fun v => v.pin) (pinVs J k v p) then { J with vs := pinVs J k v p, ph := 2, full := true } else { J with vs := pinVs J k v p } := by unfold pinJ; rw [h1]; rfl
    have e2 : (pinJ J k v p).vs = pinVs J k v p := by rw [e]; cases allV (fun v => v.pin) (pinVs J k v p) <;> rfl
    refine ⟨toldV v p, by rw [e2]; exact hk, ?_⟩
    generalize pinJ J k v p = J'
    unfold pinJ
    simp [toldV]
theorem freeJ_twice {J : Jb} {k : Int} {v : Vis} (hs : KS J.vs) (h : mget k J.vs = some v) : ∃ v', mget k (freeJ J k v).vs = some v' ∧ freeJ (freeJ J k v) k v' = freeJ J k v := by
  cases h1 : decide (J.ph ≠ 3) with
  | true =>
    have e : freeJ J k v = J := by unfold freeJ; rw [h1]; rfl
    exact ⟨v, by rw [e]; exact h, by rw [e, e]⟩
  | false =>
    have h3 : J.ph = 3 := by simpa using h1
    have hk : mget k (freeVs J k v) = some { v with free := true } := by unfold freeVs; rw [mget_mput, if_pos rfl]
    have hks : KS (freeVs J k v) := by unfold freeVs; exact hs.mput
    cases ha : allV (fun v => v.free) (freeVs J k v) with
    | true =>
      have e : freeJ J k v = { J with vs := freeVs J k v, ph := 4 } := by unfold freeJ; rw [h1, ha]; rfl
      refine ⟨_, by rw [e]; exact hk, ?_⟩
      rw [e]
      unfold freeJ
      simp
    | false =>
      have e : freeJ J k v = { J with vs := freeVs J k v } := by unfold freeJ; rw [h1, ha]; rfl
      refine ⟨_, by rw [e]; exact hk, ?_⟩
      rw [e]
      have e2 : freeVs { J with vs := freeVs J k v } k { v with free := true } = freeVs J k v := by
        show mput k _ (freeVs J k v) = _
        exact mput_self hks hk
      unfold freeJ
      simp only [e2, ha]
      simp
theorem pinJ_same (J : Jb) (k : Int) (v : Vis) (p : Pt) : (pinJ J k v p).tr = J.tr ∧ (pinJ J k v p).id = J.id := by
  unfold pinJ
  cases decide (J.ph ≠ 1) || v.pin <;> cases allV (fun v => v.pin) (pinVs J k v p) <;> exact ⟨rfl, rfl⟩
theorem freeJ_same (J : Jb) (k : Int) (v : Vis) : (freeJ J k v).tr = J.tr ∧ (freeJ J k v).id = J.id := by
  unfold freeJ
  cases decide (J.ph ≠ 3) <;> cases allV (fun v => v.free) (freeVs J k v) <;> exact ⟨rfl, rfl⟩
theorem hearK_same (J : Jb) (m : Mg) : (hearK J m).tr = J.tr ∧ (hearK J m).id = J.id := by
  cases m with
  | stor t j => unfold hearK; cases decide (J.ph = 2) || decide (J.ph = 3) <;> exact ⟨rfl, rfl⟩
  | pinned p =>
    cases hv : mget p.a J.vs with
    | none => simp only [hearK, hv]; exact ⟨trivial, trivial⟩
    | some v => simp only [hearK, hv]; exact pinJ_same _ _ _ _
  | gone a t j =>
    cases hv : mget a J.vs with
    | none => simp only [hearK, hv]; exact ⟨trivial, trivial⟩
    | some v => simp only [hearK, hv]; cases decide (J.ph ≤ 2) <;> exact ⟨rfl, rfl⟩
  | unpd a t j =>
    cases hv : mget a J.vs with
    | none => simp only [hearK, hv]; exact ⟨trivial, trivial⟩
    | some v => simp only [hearK, hv]; exact freeJ_same _ _ _
  | _ => exact ⟨rfl, rfl⟩
theorem hearK_twice {J : Jb} (hs : KS J.vs) (m : Mg) : hearK (hearK J m) m = hearK J m := by
  cases m with
  | stor t j =>
    by_cases h2 : J.ph = 2
    · simp [hearK, h2]
    · by_cases h3 : J.ph = 3
      · simp [hearK, h3]
      · simp [hearK, h2, h3]
  | pinned p =>
    cases hv : mget p.a J.vs with
    | none => simp only [hearK, hv]
    | some v =>
      obtain ⟨v', h1, h2⟩ := pinJ_twice (p := p) (p' := p) hv
      simp only [hearK, hv, h1, h2]
  | gone a t j =>
    cases hv : mget a J.vs with
    | none => simp only [hearK, hv]
    | some v =>
      by_cases h2 : J.ph ≤ 2
      · simp [hearK, hv, h2]
      · simp [hearK, hv, h2]
  | unpd a t j =>
    cases hv : mget a J.vs with
    | none => simp only [hearK, hv]
    | some v =>
      obtain ⟨v', h1, h2⟩ := freeJ_twice hs hv
      simp only [hearK, hv, h1, h2]
  | _ => rfl
theorem hearJ_twice {J : Jb} (hs : KS J.vs) (m : Mg) : hearJ (hearJ J m) m = hearJ J m := by
  cases hok : jobOk J m with
  | false =>
    have e : hearJ J m = J := by unfold hearJ; rw [hok]; rfl
    rw [e, e]
  | true =>
    have e : hearJ J m = hearK J m := by unfold hearJ; rw [hok]; rfl
    have h := hearK_same J m
    have hok2 : jobOk (hearK J m) m = true := by unfold jobOk at hok ⊢; rw [h.1, h.2]; exact hok
    rw [e]
    unfold hearJ
    rw [hok2]
    exact hearK_twice hs m
/-- two messages of one call -/
theorem msgJ_same {o : OpJ} {m m' : Mg} (h : MsgJ o m) (h' : MsgJ o m') (J : Jb) : hearJ J m = hearJ J m' := by
  rcases h with ⟨h1, rfl⟩ | ⟨h1, pv, rfl⟩ <;> rcases h' with ⟨h2, rfl⟩ | ⟨h2, pv', rfl⟩
  · rfl
  · exact absurd h2 h1
  · exact absurd h1 h2
  · rfl
end Go.Sp
/- JobEnds, the plain part: a job that is told all that it asks for is over behind as many rounds as there are agents, and two. No condition beyond those each lemma names. -/
namespace Go.Sp
open Go.RowKit Go.Proofs.Ytniggacgkhkgiaa.Job

theorem countP_lt {α : Type} {p q : α → Bool} : ∀ {l : List α}, (∀ x ∈ l, p x = true → q x = true) → (∃ x ∈ l, q x = true ∧ p x = false) → l.countP p < l.countP q
  | [], _, ⟨_, h, _⟩ => by simp at h
  | a :: r, h, ⟨x, hx, hq, hp⟩ => by
    have hr := fun y hy => h y (List.mem_cons_of_mem _ hy)
    rw [List.countP_cons, List.countP_cons]
    rcases List.mem_cons.1 hx with rfl | hx
    · have := List.countP_mono_left hr
      simp [hq, hp]; omega
    · have h1 := countP_lt hr ⟨x, hx, hq, hp⟩
      have h2 := h a List.mem_cons_self
      cases e1 : p a with
      | false => simp; split <;> omega
      | true => simp [h2 e1]; omega

/-- how many of the first A agents are visited -/
def cnt (A : Nat) (vs : List (Int × Vis)) : Nat := (List.range A).countP fun a : Nat => (mget (a : Int) vs).isSome
theorem cnt_le (A : Nat) (vs : List (Int × Vis)) : cnt A vs ≤ A := by
  have := List.countP_le_length (p := fun a : Nat => (mget (a : Int) vs).isSome) (l := List.range A)
  simpa [cnt] using this

theorem addCs_all {P : Int × Vis → Prop} {ag : Int} : ∀ {cs : List Int} {vs : List (Int × Vis)}, (∀ p ∈ vs, P p) → (∀ c ∈ cs, c < ag → P (c, zVis)) → ∀ p ∈ addCs ag vs cs, P p
  | [], _, h, _ => h
  | c :: r, vs, h, hc => by
    refine addCs_all (cs := r) (vs := addC ag vs c) (fun p hp => ?_) (fun c' h' => hc c' (List.mem_cons_of_mem _ h'))
    unfold addC at hp
    cases hb : decide (c < ag) && (mget c vs).isNone with
    | false => rw [hb] at hp; exact h p hp
    | true =>
      rw [hb] at hp
      rcases mem_mput hp with rfl | hp
      · exact hc c List.mem_cons_self (by simp at hb; exact hb.1)
      · exact h p hp
theorem addCs_ks {ag : Int} : ∀ {cs : List Int} {vs : List (Int × Vis)}, KS vs → KS (addCs ag vs cs)
  | [], _, h => h
  | c :: r, vs, h => by
    refine addCs_ks (cs := r) (vs := addC ag vs c) ?_
    unfold addC
    cases decide (c < ag) && (mget c vs).isNone with
    | false => exact h
    | true => exact h.mput

/-- the answer to what is said to an agent -/
def ansJ (tr : Int) (tell : Int → List Int) (J : Jb) (x : Int × Mg) : Jb := match x.2 with
  | .pin _ _ => hearJ J (.pinned ⟨x.1, tr, 1, 0, .slice none 0 0, tell x.1, false⟩)
  | .mani _ _ _ _ _ => hearJ J (.stor tr 1)
  | .unp _ _ => hearJ J (.unpd x.1 tr 1)
  | _ => J
theorem hearJ_cv (J : Jb) (a t j n : Int) (cv cv' : Value) (cl : List Int) (l : Bool) : hearJ J (.pinned ⟨a, t, j, n, cv, cl, l⟩) = hearJ J (.pinned ⟨a, t, j, n, cv', cl, l⟩) := rfl

structure IV (A : Nat) (tr : Int) (J : Jb) : Prop where
  ks : KS J.vs
  tr : J.tr = tr
  id : J.id = 1
  ag : J.ag = A
  rg : ∀ p ∈ J.vs, 0 ≤ p.1 ∧ p.1 < A
  ne : J.vs ≠ []
  uf : ∀ p ∈ J.vs, p.2.free = false
structure Tells (A : Nat) (tell : Int → List Int) : Prop where
  ok : ∀ k, agOk (-1) (tell k) = true
  rg : ∀ k, ∀ c ∈ tell k, 0 ≤ c
def Q1 (A : Nat) (tr : Int) (J : Jb) : Prop := IV A tr J ∧ ((J.ph = 1 ∧ allV (fun v => v.pin) J.vs = false) ∨ (J.ph = 2 ∧ J.full = true))
def Keep (J J' : Jb) : Prop := ∀ k v, mget k J.vs = some v → ∃ v', mget k J'.vs = some v' ∧ (v.pin = true → v'.pin = true)
theorem Keep.refl (J : Jb) : Keep J J := fun _ v h => ⟨v, h, id⟩
theorem Keep.trans {J J' J'' : Jb} (h : Keep J J') (h' : Keep J' J'') : Keep J J'' := fun k v e => by
  obtain ⟨v', e', i⟩ := h k v e
  obtain ⟨v'', e'', i'⟩ := h' k v' e'
  exact ⟨v'', e'', fun x => i' (i x)⟩

section
variable {A : Nat} {tr : Int} {tell : Int → List Int} {J : Jb}
theorem ans_pin (hA : A ≤ 4) (ht : 1 ≤ tr ∧ tr ≤ 65535) (T : Tells A tell) (iv : IV A tr J) {k : Int} {v : Vis} (hk : mget k J.vs = some v) (t j : Int) :
    ansJ tr tell J (k, .pin t j) = pinJ J k v ⟨k, tr, 1, 0, .slice none 0 0, tell k, false⟩ := by
  have hr := iv.rg _ (mget_mem hk)
  simp only at hr
  have hok : jobOk J (.pinned ⟨k, tr, 1, 0, .slice none 0 0, tell k, false⟩) = true := by
    simp only [jobOk, rightM, rightP, mT, mJ, T.ok k, Bool.and_eq_true, wi_true, decide_eq_true_eq, iv.tr, iv.id, and_true]
    omega
  show hearJ J _ = _
  unfold hearJ
  rw [hok]
  simp only [cond_true, hearK, hk]
theorem pin_step (hA : A ≤ 4) (ht : 1 ≤ tr ∧ tr ≤ 65535) (T : Tells A tell) (h : Q1 A tr J) {k : Int} {v : Vis} (hk : mget k J.vs = some v) (t j : Int) :
    Q1 A tr (ansJ tr tell J (k, .pin t j)) ∧ Keep J (ansJ tr tell J (k, .pin t j)) ∧ (J.ph = 2 → ansJ tr tell J (k, .pin t j) = J) ∧ ((ansJ tr tell J (k, .pin t j)).ph = 1 → ∃ v', mget k (ansJ tr tell J (k, .pin t j)).vs = some v' ∧ v'.pin = true) := by
  obtain ⟨iv, hp⟩ := h
  have hr := iv.rg _ (mget_mem hk)
  simp only at hr
  rw [ans_pin hA ht T iv hk]
  generalize hP : (⟨k, tr, 1, 0, .slice none 0 0, tell k, false⟩ : Pt) = p
  have hcl : p.cl = tell k := by rw [← hP]
  clear hP
  cases h1 : decide (J.ph ≠ 1) || v.pin with
  | true =>
    have e : pinJ J k v p = J := by unfold pinJ; rw [h1]; rfl
    rw [e]
    refine ⟨⟨iv, hp⟩, Keep.refl J, fun _ => rfl, fun e1 => ⟨v, hk, ?_⟩⟩
    simpa [e1] using h1
  | false =>
    simp only [Bool.or_eq_false_iff, decide_eq_false_iff_not, ne_eq, Decidable.not_not] at h1
    obtain ⟨h1, hvp⟩ := h1
    have hg : mget k (pinVs J k v p) = some (toldV v p) := addCs_get (by rw [mget_mput, if_pos rfl])
    have hkeep : ∀ J' : Jb, J'.vs = pinVs J k v p → Keep J J' := fun J' e k' v' h' => by
      by_cases ek : k' = k
      · subst ek
        exact ⟨_, by rw [e]; exact hg, fun _ => rfl⟩
      · exact ⟨v', by rw [e]; exact addCs_get (by rw [mget_mput, if_neg ek]; exact h'), id⟩
    have hiv : ∀ J' : Jb, J'.vs = pinVs J k v p → J'.tr = J.tr → J'.id = J.id → J'.ag = J.ag → IV A tr J' := fun J' e e1 e2 e3 => by
      have hvf := iv.uf _ (mget_mem hk)
      refine ⟨by rw [e]; exact addCs_ks iv.ks.mput, e1.trans iv.tr, e2.trans iv.id, e3.trans iv.ag, ?_, fun e0 => ?_, ?_⟩
      · rw [e]
        refine addCs_all (P := fun p => 0 ≤ p.1 ∧ p.1 < A) (fun q hq => ?_) (fun c hc hlt => ⟨T.rg k c (by rw [← hcl]; exact hc), by rw [iv.ag] at hlt; exact hlt⟩)
        rcases mem_mput hq with rfl | hq
        · exact hr
        · exact iv.rg q hq
      · rw [e] at e0; rw [e0] at hg; simp [mget] at hg
      · rw [e]
        refine addCs_all (P := fun p => p.2.free = false) (fun q hq => ?_) (fun c hc _ => rfl)
        rcases mem_mput hq with rfl | hq
        · exact hvf
        · exact iv.uf q hq
    cases ha : allV (fun v => v.pin) (pinVs J k v p) with
    | true =>
      have e : pinJ J k v p = { J with vs := pinVs J k v p, ph := 2, full := true } := by unfold pinJ; simp [h1, hvp, ha]
      rw [e]
      exact ⟨⟨hiv _ rfl rfl rfl rfl, .inr ⟨rfl, rfl⟩⟩, hkeep _ rfl, fun e2 => by omega, fun e1 => by simp at e1⟩
    | false =>
      have e : pinJ J k v p = { J with vs := pinVs J k v p } := by unfold pinJ; simp [h1, hvp, ha]
      rw [e]
      exact ⟨⟨hiv _ rfl rfl rfl rfl, .inl ⟨h1, ha⟩⟩, hkeep _ rfl, fun e2 => by omega, fun e1 => ⟨_, hg, rfl⟩⟩
theorem pin_fold (hA : A ≤ 4) (ht : 1 ≤ tr ∧ tr ≤ 65535) (T : Tells A tell) : ∀ (L : List (Int × Mg)) (J : Jb), Q1 A tr J → (∀ x ∈ L, ∃ t j v, x.2 = .pin t j ∧ mget x.1 J.vs = some v) →
    Q1 A tr (L.foldl (ansJ tr tell) J) ∧ Keep J (L.foldl (ansJ tr tell) J) ∧ (J.ph = 2 → L.foldl (ansJ tr tell) J = J) ∧ ((L.foldl (ansJ tr tell) J).ph = 1 → ∀ x ∈ L, ∃ v', mget x.1 (L.foldl (ansJ tr tell) J).vs = some v' ∧ v'.pin = true)
  | [], J, h, _ => ⟨h, Keep.refl J, fun _ => rfl, fun _ x hx => by simp at hx⟩
  | x :: r, J, h, hL => by
    obtain ⟨k, m⟩ := x
    obtain ⟨t, j, v, rfl, hk⟩ := hL _ List.mem_cons_self
    obtain ⟨g1, g2, g3, g4⟩ := pin_step hA ht T h hk t j
    obtain ⟨f1, f2, f3, f4⟩ := pin_fold hA ht T r (ansJ tr tell J (k, .pin t j)) g1 (fun x hx => by
      obtain ⟨t', j', v', e, e'⟩ := hL x (List.mem_cons_of_mem _ hx)
      obtain ⟨v'', e'', _⟩ := g2 _ _ e'
      exact ⟨t', j', v'', e, e''⟩)
    rw [List.foldl_cons]
    refine ⟨f1, g2.trans f2, fun e => ?_, fun e1 x hx => ?_⟩
    · have := g3 e
      rw [this] at f3 ⊢
      exact f3 e
    · rcases List.mem_cons.1 hx with rfl | hx
      · have e2 : (ansJ tr tell J (k, .pin t j)).ph = 1 := by
          rcases g1.2 with h | h
          · exact h.1
          · rw [f3 h.1] at e1; exact e1
        obtain ⟨v', h1, h2⟩ := g4 e2
        obtain ⟨v'', h3, h4⟩ := f2 _ _ h1
        exact ⟨v'', h3, h4 h2⟩
      · exact f4 e1 x hx
theorem outs_pin (h1 : J.ph = 1) {x : Int × Mg} (hs : KS J.vs) (hx : x ∈ outsT J) : ∃ t j v, x.2 = .pin t j ∧ mget x.1 J.vs = some v := by
  unfold outsT at hx
  obtain ⟨p, hp, hx⟩ := List.mem_flatMap.1 hx
  unfold outV at hx
  cases hb : p.2.pin with
  | true => simp [h1, hb] at hx
  | false =>
    simp [h1, hb] at hx
    subst hx
    exact ⟨_, _, p.2, rfl, mget_of_mem hs hp⟩
theorem outs_all (h1 : J.ph = 1) {k : Int} {v : Vis} (hk : mget k J.vs = some v) (hv : v.pin = false) : (k, .pin J.tr J.id) ∈ outsT J := by
  unfold outsT
  exact List.mem_flatMap.2 ⟨_, mget_mem hk, by simp [outV, h1, hv]⟩
/-- a round of phase 1 -/
theorem round1 (hA : A ≤ 4) (ht : 1 ≤ tr ∧ tr ≤ 65535) (T : Tells A tell) (h : Q1 A tr J) (h1 : J.ph = 1) :
    Q1 A tr ((outsT J).foldl (ansJ tr tell) J) ∧ (((outsT J).foldl (ansJ tr tell) J).ph = 1 → cnt A J.vs < cnt A ((outsT J).foldl (ansJ tr tell) J).vs) := by
  obtain ⟨f1, f2, f3, f4⟩ := pin_fold hA ht T (outsT J) J h (fun x hx => outs_pin h1 h.1.ks hx)
  refine ⟨f1, fun e => ?_⟩
  generalize (outsT J).foldl (ansJ tr tell) J = J' at f1 f2 f3 f4 e
  have hn : allV (fun v => v.pin) J'.vs = false := by
    rcases f1.2 with h | h
    · exact h.2
    · omega
  unfold allV at hn
  rw [List.all_eq_false] at hn
  obtain ⟨⟨k, v⟩, hm, hv⟩ := hn
  have hg := mget_of_mem f1.1.ks hm
  have hv : v.pin = false := by simpa using hv
  have hr := f1.1.rg _ hm
  simp only at hr
  unfold cnt
  refine countP_lt (fun a _ ha => ?_) ⟨k.toNat, List.mem_range.2 (by omega), by rw [show ((k.toNat : Nat) : Int) = k by omega, hg]; rfl, ?_⟩
  · obtain ⟨v0, h0⟩ := Option.isSome_iff_exists.1 ha
    obtain ⟨v1, h1, _⟩ := f2 _ _ h0
    rw [h1]; rfl
  · rw [show ((k.toNat : Nat) : Int) = k by omega]
    cases h0 : mget k J.vs with
    | none => rfl
    | some v0 =>
      exfalso
      cases hv0 : v0.pin with
      | true =>
        obtain ⟨v1, g1, g2⟩ := f2 _ _ h0
        rw [hg] at g1
        cases g1
        rw [g2 hv0] at hv; cases hv
      | false =>
        obtain ⟨v1, g1, g2⟩ := f4 e _ (outs_all h1 h0 hv0)
        simp only at g1
        rw [hg] at g1
        cases g1
        rw [g2] at hv; cases hv

/-! ### the later rounds -/
def HeadL (J : Jb) (hd : List (Int × Mg)) : Prop := (manOut J = false ∧ hd = []) ∨ (manOut J = true ∧ ∃ t j c pv ps, hd = [(-1, .mani t j c pv ps)])
theorem fold_coll : ∀ {L : List (Int × Mg)}, (∀ x ∈ L, ∃ t j, x.2 = .coll t j) → L.foldl (ansJ tr tell) J = J
  | [], _ => rfl
  | x :: r, h => by
    obtain ⟨k, m⟩ := x
    obtain ⟨t, j, rfl⟩ := h _ List.mem_cons_self
    rw [List.foldl_cons]
    exact fold_coll (fun y hy => h y (List.mem_cons_of_mem _ hy))
theorem round2 (ht : 1 ≤ tr ∧ tr ≤ 65535) (iv : IV A tr J) (h2 : J.ph = 2) (t j c : Int) (pv : Value) (ps : List Pt) : ((-1, .mani t j c pv ps) :: outsT J).foldl (ansJ tr tell) J = { J with kept := true, ph := 3 } := by
  have e : ansJ tr tell J (-1, .mani t j c pv ps) = { J with kept := true, ph := 3 } := by
    show hearJ J _ = _
    have hok : jobOk J (.stor tr 1) = true := by
      simp only [jobOk, rightM, mT, mJ, Bool.and_eq_true, wi_true, decide_eq_true_eq, iv.tr, iv.id, and_true]
      omega
    unfold hearJ
    rw [hok]
    simp [hearK, h2]
  rw [List.foldl_cons, e]
  refine fold_coll (fun x hx => ?_)
  unfold outsT at hx
  obtain ⟨p, hp, hx⟩ := List.mem_flatMap.1 hx
  simp [outV, h2] at hx
  subst hx
  exact ⟨_, _, rfl⟩
structure R3 (A : Nat) (tr : Int) (J : Jb) : Prop where
  ks : KS J.vs
  tr : J.tr = tr
  id : J.id = 1
  rg : ∀ p ∈ J.vs, 0 ≤ p.1 ∧ p.1 < A
  kept : J.kept = true
  ph : (J.ph = 3 ∧ allV (fun v => v.free) J.vs = false) ∨ J.ph = 4
def KeepF (J J' : Jb) : Prop := (∀ k v, mget k J.vs = some v → ∃ v', mget k J'.vs = some v' ∧ (v.free = true → v'.free = true)) ∧ ∀ k, mget k J.vs = none → mget k J'.vs = none
theorem KeepF.refl (J : Jb) : KeepF J J := ⟨fun _ v h => ⟨v, h, fun e => e⟩, fun _ h => h⟩
theorem KeepF.trans {J J' J'' : Jb} (h : KeepF J J') (h' : KeepF J' J'') : KeepF J J'' := ⟨fun k v e => by
  obtain ⟨v', e', i⟩ := h.1 k v e
  obtain ⟨v'', e'', i'⟩ := h'.1 k v' e'
  exact ⟨v'', e'', fun x => i' (i x)⟩, fun k e => h'.2 k (h.2 k e)⟩
theorem unp_step (hA : A ≤ 4) (ht : 1 ≤ tr ∧ tr ≤ 65535) (h : R3 A tr J) {k : Int} {v : Vis} (hk : mget k J.vs = some v) (t j : Int) :
    R3 A tr (ansJ tr tell J (k, .unp t j)) ∧ KeepF J (ansJ tr tell J (k, .unp t j)) ∧ (J.ph = 4 → ansJ tr tell J (k, .unp t j) = J) ∧ ((ansJ tr tell J (k, .unp t j)).ph = 3 → ∃ v', mget k (ansJ tr tell J (k, .unp t j)).vs = some v' ∧ v'.free = true) := by
  have hr := h.rg _ (mget_mem hk)
  simp only at hr
  have hok : jobOk J (.unpd k tr 1) = true := by
    simp only [jobOk, rightM, mT, mJ, Bool.and_eq_true, wi_true, decide_eq_true_eq, h.tr, h.id, and_true]
    omega
  have e : ansJ tr tell J (k, .unp t j) = freeJ J k v := by
    show hearJ J _ = _
    unfold hearJ
    rw [hok]
    simp only [cond_true, hearK, hk]
  rw [e]
  clear e hok
  rcases h.ph with ⟨h3, hn⟩ | h4
  · have hg : mget k (freeVs J k v) = some { v with free := true } := by unfold freeVs; rw [mget_mput, if_pos rfl]
    have hK : ∀ J' : Jb, J'.vs = freeVs J k v → KeepF J J' := fun J' e => ⟨fun k' v' h' => by
      by_cases ek : k' = k
      · subst ek
        exact ⟨_, by rw [e]; exact hg, fun _ => rfl⟩
      · exact ⟨v', by rw [e]; unfold freeVs; rw [mget_mput, if_neg ek]; exact h', fun x => x⟩, fun k' h' => by
      have ek : k' ≠ k := fun ek => by subst ek; rw [hk] at h'; cases h'
      rw [e]; unfold freeVs; rw [mget_mput, if_neg ek]; exact h'⟩
    have hrg : ∀ p ∈ freeVs J k v, 0 ≤ p.1 ∧ p.1 < A := fun q hq => by
      unfold freeVs at hq
      rcases mem_mput hq with rfl | hq
      · exact hr
      · exact h.rg q hq
    have hks : KS (freeVs J k v) := by unfold freeVs; exact h.ks.mput
    cases ha : allV (fun v => v.free) (freeVs J k v) with
    | true =>
      have e : freeJ J k v = { J with vs := freeVs J k v, ph := 4 } := by unfold freeJ; simp [h3, ha]
      rw [e]
      exact ⟨⟨hks, h.tr, h.id, hrg, h.kept, .inr rfl⟩, hK _ rfl, fun e4 => by omega, fun e3 => by simp at e3⟩
    | false =>
      have e : freeJ J k v = { J with vs := freeVs J k v } := by unfold freeJ; simp [h3, ha]
      rw [e]
      exact ⟨⟨hks, h.tr, h.id, hrg, h.kept, .inl ⟨h3, ha⟩⟩, hK _ rfl, fun e4 => by omega, fun _ => ⟨_, hg, rfl⟩⟩
  · have e : freeJ J k v = J := by unfold freeJ; simp [h4]
    rw [e]
    exact ⟨h, KeepF.refl J, fun _ => rfl, fun e3 => by omega⟩
theorem unp_fold (hA : A ≤ 4) (ht : 1 ≤ tr ∧ tr ≤ 65535) : ∀ (L : List (Int × Mg)) (J : Jb), R3 A tr J → (∀ x ∈ L, ∃ t j v, x.2 = .unp t j ∧ mget x.1 J.vs = some v) →
    R3 A tr (L.foldl (ansJ tr tell) J) ∧ KeepF J (L.foldl (ansJ tr tell) J) ∧ (J.ph = 4 → L.foldl (ansJ tr tell) J = J) ∧ ((L.foldl (ansJ tr tell) J).ph = 3 → ∀ x ∈ L, ∃ v', mget x.1 (L.foldl (ansJ tr tell) J).vs = some v' ∧ v'.free = true)
  | [], J, h, _ => ⟨h, KeepF.refl J, fun _ => rfl, fun _ x hx => by simp at hx⟩
  | x :: r, J, h, hL => by
    obtain ⟨k, m⟩ := x
    obtain ⟨t, j, v, rfl, hk⟩ := hL _ List.mem_cons_self
    obtain ⟨g1, g2, g3, g4⟩ := unp_step (tell := tell) hA ht h hk t j
    obtain ⟨f1, f2, f3, f4⟩ := unp_fold hA ht r (ansJ tr tell J (k, .unp t j)) g1 (fun x hx => by
      obtain ⟨t', j', v', e, e'⟩ := hL x (List.mem_cons_of_mem _ hx)
      obtain ⟨v'', e'', _⟩ := g2.1 _ _ e'
      exact ⟨t', j', v'', e, e''⟩)
    rw [List.foldl_cons]
    refine ⟨f1, g2.trans f2, fun e => ?_, fun e1 x hx => ?_⟩
    · have := g3 e
      rw [this] at f3 ⊢
      exact f3 e
    · rcases List.mem_cons.1 hx with rfl | hx
      · have e2 : (ansJ tr tell J (k, .unp t j)).ph = 3 := by
          rcases g1.ph with h | h
          · exact h.1
          · rw [f3 h] at e1; omega
        obtain ⟨v', h1, h2⟩ := g4 e2
        obtain ⟨v'', h3, h4⟩ := f2.1 _ _ h1
        exact ⟨v'', h3, h4 h2⟩
      · exact f4 e1 x hx
theorem round3 (hA : A ≤ 4) (ht : 1 ≤ tr ∧ tr ≤ 65535) (iv : IV A tr J) (h3 : J.ph = 3) (hk : J.kept = true) : ((outsT J).foldl (ansJ tr tell) J).ph = 4 ∧ ((outsT J).foldl (ansJ tr tell) J).kept = true := by
  have hn : allV (fun v => v.free) J.vs = false := by
    obtain ⟨p, r, e⟩ := List.exists_cons_of_ne_nil iv.ne
    unfold allV
    rw [List.all_eq_false]
    exact ⟨p, by rw [e]; exact List.mem_cons_self, by simp [iv.uf p (by rw [e]; exact List.mem_cons_self)]⟩
  have hv : ∀ p ∈ J.vs, outV J p = [(p.1, .unp J.tr J.id)] := fun p hp => by simp [outV, h3, iv.uf p hp]
  obtain ⟨f1, f2, _, f4⟩ := unp_fold (tell := tell) hA ht (outsT J) J ⟨iv.ks, iv.tr, iv.id, iv.rg, hk, .inl ⟨h3, hn⟩⟩ (fun x hx => by
    unfold outsT at hx
    obtain ⟨p, hp, hx⟩ := List.mem_flatMap.1 hx
    rw [hv p hp] at hx
    rw [List.mem_singleton.1 hx]
    exact ⟨_, _, p.2, rfl, mget_of_mem iv.ks hp⟩)
  have hall : ∀ p ∈ J.vs, (p.1, .unp J.tr J.id) ∈ outsT J := fun p hp => by
    unfold outsT
    exact List.mem_flatMap.2 ⟨p, hp, by rw [hv p hp]; exact List.mem_singleton.2 rfl⟩
  generalize (outsT J).foldl (ansJ tr tell) J = J' at f1 f2 f4
  refine ⟨?_, f1.kept⟩
  rcases f1.ph with ⟨e, hn'⟩ | e
  · exfalso
    unfold allV at hn'
    rw [List.all_eq_false] at hn'
    obtain ⟨⟨k, v⟩, hm, hvf⟩ := hn'
    have hg := mget_of_mem f1.ks hm
    cases h0 : mget k J.vs with
    | none => rw [f2.2 k h0] at hg; cases hg
    | some v0 =>
      obtain ⟨v1, g1, g2⟩ := f4 e _ (hall _ (mget_mem h0))
      simp only at g1
      rw [hg] at g1
      cases g1
      exact hvf g2
  · exact e

/-- how far a job is behind n rounds -/
def Prog (A : Nat) (tr : Int) (n : Nat) (J : Jb) : Prop :=
  (Q1 A tr J ∧ J.ph = 1 ∧ n < cnt A J.vs) ∨ (Q1 A tr J ∧ J.ph = 2 ∧ n ≤ A) ∨ (IV A tr J ∧ J.ph = 3 ∧ J.kept = true ∧ n ≤ A + 1) ∨ (J.ph = 4 ∧ J.kept = true)
theorem prog_step (hA : A ≤ 4) (ht : 1 ≤ tr ∧ tr ≤ 65535) (T : Tells A tell) {n : Nat} (h : Prog A tr n J) {hd : List (Int × Mg)} (hh : HeadL J hd) : Prog A tr (n + 1) ((hd ++ outsT J).foldl (ansJ tr tell) J) := by
  have hno : J.ph ≠ 2 → hd = [] := fun e => by
    rcases hh with ⟨_, h⟩ | ⟨h, _⟩
    · exact h
    · simp [manOut, e] at h
  rcases h with ⟨h, h1, hn⟩ | ⟨h, h2, hn⟩ | ⟨h, h3, hk, hn⟩ | ⟨h4, hk⟩
  · rw [hno (by omega), List.nil_append]
    obtain ⟨g1, g2⟩ := round1 hA ht T h h1
    rcases g1.2 with e | e
    · have := g2 e.1
      exact .inl ⟨g1, e.1, by omega⟩
    · exact .inr (.inl ⟨g1, e.1, by have := cnt_le A J.vs; omega⟩)
  · have hf : J.full = true := by
      rcases h.2 with e | e
      · omega
      · exact e.2
    rcases hh with ⟨e, _⟩ | ⟨_, t, j, c, pv, ps, rfl⟩
    · simp [manOut, hf, h2] at e
    · rw [List.singleton_append, round2 ht h.1 h2]
      have iv := h.1
      exact .inr (.inr (.inl ⟨⟨iv.ks, iv.tr, iv.id, iv.ag, iv.rg, iv.ne, iv.uf⟩, rfl, rfl, by omega⟩))
  · rw [hno (by omega), List.nil_append]
    exact .inr (.inr (.inr (round3 hA ht h h3 hk)))
  · have he : outsT J = [] := by
      unfold outsT
      rw [List.flatMap_eq_nil_iff]
      intro p _
      simp [outV, h4]
    rw [hno (by omega), he]
    exact .inr (.inr (.inr ⟨h4, hk⟩))
theorem prog_end {n : Nat} (h : Prog A tr n J) (hn : A + 2 ≤ n) : J.ph = 4 ∧ J.kept = true := by
  rcases h with ⟨_, _, h⟩ | ⟨_, _, h⟩ | ⟨_, _, _, h⟩ | h
  · have := cnt_le A J.vs; omega
  · omega
  · omega
  · exact h
theorem prog_new {a c : Int} (h : newOk 1 A a tr c = true) : Prog A tr 0 (newJ 1 A a tr c) ∧ A ≤ 4 ∧ 1 ≤ tr ∧ tr ≤ 65535 := by
  simp only [newOk, rightM, Bool.and_eq_true, wi_true, decide_eq_true_eq] at h
  obtain ⟨⟨h1, h2, h3⟩, h4, h5, h6, h7, h8⟩ := h
  refine ⟨.inl ⟨⟨⟨?_, rfl, rfl, rfl, ?_, ?_, ?_⟩, .inl ⟨rfl, rfl⟩⟩, rfl, ?_⟩, by omega, h1.1, h1.2⟩
  · simp [newJ, KS]
  · intro p hp
    simp [newJ] at hp
    subst hp
    exact ⟨by omega, by omega⟩
  · simp [newJ]
  · intro p hp
    simp [newJ] at hp
    subst hp
    rfl
  · unfold cnt
    rw [List.countP_pos_iff]
    exact ⟨a.toNat, List.mem_range.2 (by omega), by rw [show ((a.toNat : Nat) : Int) = a by omega]; simp [newJ, mget]⟩
end
/-- what an agent tells: those of the first A whom its names name, rising -/
def tellL (A : Nat) (ns : List Int) : List Int := ((List.range A).map fun (a : Nat) => (a : Int)).filter fun a => decide (a ∈ ns)
def atL (a : Nat) (ns : List Int) : List Int := bif decide ((a : Int) ∈ ns) then [(a : Int)] else []
theorem tellL_succ (a : Nat) (ns : List Int) : tellL (a + 1) ns = tellL a ns ++ atL a ns := by
  unfold tellL atL
  rw [List.range_succ, List.map_append, List.filter_append]
  cases h : decide ((a : Int) ∈ ns) <;> simp [h]
theorem tellL_rg {a : Nat} {ns : List Int} : ∀ x ∈ tellL a ns, 0 ≤ x ∧ x < a := fun x hx => by
  unfold tellL at hx
  have := (List.mem_filter.1 hx).1
  simp at this
  obtain ⟨y, hy, rfl⟩ := this
  omega
theorem tellL_rise (a : Nat) (ns : List Int) : (tellL a ns).Pairwise (· < ·) := by
  unfold tellL
  refine List.Pairwise.filter _ (List.pairwise_map.2 ?_)
  exact List.pairwise_lt_range.imp (fun h => by omega)
theorem tellL_len (a : Nat) (ns : List Int) : (tellL a ns).length ≤ a := by
  unfold tellL
  refine Nat.le_trans (List.length_filter_le _ _) ?_
  simp
theorem agOk_of : ∀ {l : List Int} {x : Int}, l.Pairwise (· < ·) → (∀ c ∈ l, x < c ∧ c < 4) → agOk x l = true
  | [], _, _, _ => rfl
  | a :: r, x, h, hc => by
    have h' := List.pairwise_cons.1 h
    have ha := hc a List.mem_cons_self
    rw [agOk_cons, decide_eq_true ha.1, decide_eq_true ha.2]
    exact agOk_of h'.2 (fun c hm => ⟨h'.1 c hm, (hc c (List.mem_cons_of_mem _ hm)).2⟩)
def tellN (A : Nat) (N : List (List Int)) (k : Int) : List Int := tellL A (N.getD k.toNat [])
theorem tells {A : Nat} (hA : A ≤ 4) (N : List (List Int)) : Tells A (tellN A N) :=
  ⟨fun k => agOk_of (tellL_rise _ _) (fun c hc => by have := tellL_rg c hc; omega), fun k c hc => (tellL_rg c hc).1⟩

section
variable {A : Nat} {tr : Int} {J : Jb}
/-- what a job says on its way -/
theorem prog_out {n : Nat} (h : Prog A tr n J) {hd : List (Int × Mg)} (hh : HeadL J hd) {x : Int × Mg} (hx : x ∈ hd ++ outsT J) :
    (∃ t j, x.2 = .pin t j ∧ 0 ≤ x.1 ∧ x.1 < A) ∨ (∃ t j c pv ps, x.2 = .mani t j c pv ps) ∨ (∃ t j, x.2 = .unp t j) ∨ (∃ t j, x.2 = .coll t j) := by
  rcases List.mem_append.1 hx with hx | hx
  · rcases hh with ⟨_, rfl⟩ | ⟨_, t, j, c, pv, ps, rfl⟩
    · simp at hx
    · rw [List.mem_singleton.1 hx]; exact .inr (.inl ⟨t, j, c, pv, ps, rfl⟩)
  · unfold outsT at hx
    obtain ⟨p, hp, hx⟩ := List.mem_flatMap.1 hx
    unfold outV at hx
    cases h1 : decide (J.ph = 1) && !p.2.pin with
    | true =>
      rw [h1] at hx
      rw [List.mem_singleton.1 hx]
      simp at h1
      have hr : 0 ≤ p.1 ∧ p.1 < A := by
        rcases h with h | h | h | h
        · exact h.1.1.rg p hp
        · exact h.1.1.rg p hp
        · exact h.1.rg p hp
        · omega
      exact .inl ⟨_, _, rfl, hr⟩
    | false =>
      rw [h1] at hx
      cases h2 : decide (J.ph = 2) with
      | true =>
        rw [h2] at hx
        rw [List.mem_singleton.1 hx]
        exact .inr (.inr (.inr ⟨_, _, rfl⟩))
      | false =>
        rw [h2] at hx
        cases h3 : decide (J.ph = 3) && !p.2.free with
        | true =>
          rw [h3] at hx
          rw [List.mem_singleton.1 hx]
          exact .inr (.inr (.inl ⟨_, _, rfl⟩))
        | false => rw [h3] at hx; simp at hx
end
end Go.Sp
/- Names: a slice of slices of ints that is only read, and such an argument of a row. No condition beyond those each lemma names. -/
namespace Go.Sp
open Go.RowKit
def eV (u : Value) : List Value := [u]
/-- v is a slice of slices of ints that reads as N -/
def NM (w : World) (v : Value) (N : List (List Int)) : Prop :=
  ∃ vs : List Value, vs.length = N.length ∧ RS w 1 eV v vs ∧ ∀ (i : Nat) (u : Value) (l : List Int), vs[i]? = some u → N[i]? = some l → RS w 1 eInt u l

theorem NM.only {w w' : World} {v : Value} {N : List (List Int)} (h : NM w v N) {F : Nat → Prop} (o : Only F w w') (hF : ∀ k, k < w.heap.size → ¬ F k) : NM w' v N := by
  obtain ⟨vs, h1, h2, h3⟩ := h
  have key : ∀ {α : Type} {s : Nat} {enc : α → List Value} {u : Value} {xs : List α}, RS w s enc u xs → RS w' s enc u xs := by
    intro α s enc u xs hr
    obtain ⟨hl, a, cap, rfl, h2⟩ := hr
    refine ⟨hl, a, cap, rfl, fun hn => ?_⟩
    obtain ⟨b, off, rfl, hb, h4⟩ := h2 hn
    refine ⟨b, off, rfl, Nat.lt_of_lt_of_le hb o.size, fun i x j u hx hu => ?_⟩
    rw [World.cell?_of_block (w := w) (o.block b hb (hF b hb))]
    exact h4 i x j u hx hu
  exact ⟨vs, h1, key h2, fun i u l hu hl => key (h3 i u l hu hl)⟩
theorem NM.below {w w' : World} {v : Value} {N : List (List Int)} (h : NM w v N) (o : Below w.heap.size w w') : NM w' v N := NM.only h (only_of_below o (fun _ => False)) (fun _ _ => id)

theorem choose_list {α β : Type} {p : α → β → Prop} : ∀ {xs : List α}, (∀ x ∈ xs, ∃ y, p x y) → ∃ ys : List β, ys.length = xs.length ∧ ∀ (i : Nat) (x : α) (y : β), xs[i]? = some x → ys[i]? = some y → p x y
  | [], _ => ⟨[], rfl, fun i x y h => by simp at h⟩
  | x :: xs, h => by
    obtain ⟨y, hy⟩ := h x List.mem_cons_self
    obtain ⟨ys, h1, h2⟩ := choose_list (xs := xs) (p := p) (fun z hz => h z (List.mem_cons_of_mem _ hz))
    refine ⟨y :: ys, by simp [h1], fun i a b ha hb => ?_⟩
    cases i with
    | zero => simp at ha hb; subst ha; subst hb; exact hy
    | succ i => exact h2 i a b (by simpa using ha) (by simpa using hb)

end Go.Sp
namespace Go.Proofs.Ytniggacgkhkgiaa
open Go.RowKit Go.Sp Go.WideShapes
set_option maxRecDepth 100000 in
/-- names, as the row hands them over -/
theorem arg_names {H : Type} {enc : TypeId × Value → H} {w : World} {v : Value} {d : DataW H} {ps : List MemPlace} {base : Nat} (u : Value.okWide Try.prog w .any base 67 v)
    (k : DataW.Trod enc Try.prog w 0 (fun _ => true) true 67 v d ps) (z : (d.weights Try.prog 67).all (· ≤ reachBytes) = true) : ∃ N, NM w v N := by
  obtain ⟨vs, h1, h2, _⟩ := arg_slice (size := 1) (elt := eV) (Q := fun u => ∃ l, RS w 1 eInt u l) Try.underlying67 (by kernel_rfl) (by omega) (fun m ds h => by
    obtain ⟨v, xs, e, h3, _, _⟩ := rs_of_rd (size := 1) (elt := eInt) (Q := fun _ => True) h Try.underlying31 (by kernel_rfl) (by omega) (fun m ds h => by
      obtain ⟨a, e, _⟩ := rd_int h Try.underlying3
      exact ⟨a, e.symm, trivial⟩)
    exact ⟨v, e.symm, xs, h3⟩) u k z
  obtain ⟨N, h4, h5⟩ := choose_list h2
  exact ⟨N, vs, h4.symm, h1, h5⟩

end Go.Proofs.Ytniggacgkhkgiaa
