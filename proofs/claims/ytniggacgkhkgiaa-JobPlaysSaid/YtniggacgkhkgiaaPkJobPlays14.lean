/- What job's Hear does, whatever the message. Conditions: the job lies in memory as JbR says; the message's slices lie in memory. -/
import Derived.Test.YtniggacgkhkgiaaPkJobPlays13
namespace Go.Sp
open Go.RowKit
theorem agOk_rise : ∀ {l : List Int} {x : Int}, agOk x l = true → l.Pairwise (· < ·) ∧ ∀ c ∈ l, x < c ∧ c < 4
  | [], _, _ => by simp
  | y :: r, x, h => by
    rw [agOk_cons] at h
    simp only [Bool.and_eq_true, decide_eq_true_eq] at h
    obtain ⟨h1, h2⟩ := agOk_rise h.2.2
    refine ⟨List.pairwise_cons.2 ⟨fun c hc => (h2 c hc).1, h1⟩, fun c hc => ?_⟩
    rcases List.mem_cons.1 hc with rfl | hc
    · omega
    · have := h2 c hc; omega
theorem agOk_lenJ {l : List Int} (h : agOk (-1) l = true) : l.length ≤ 4 := by
  obtain ⟨h1, h2⟩ := agOk_rise h
  have := rising_len (lo := 0) (hi := 4) h1 (fun a ha => by have := h2 a ha; omega) (by omega)
  omega
def hearK (J : Jb) : Mg → Jb
  | .stor _ _ => bif decide (J.ph = 2) || decide (J.ph = 3) then { J with kept := true, ph := 3 } else J
  | .pinned p => match mget p.a J.vs with
    | none => J
    | some v => pinJ J p.a v p
  | .gone a _ _ => match mget a J.vs with
    | none => J
    | some _ => bif decide (J.ph ≤ 2) then { J with ph := 3 } else J
  | .unpd a _ _ => match mget a J.vs with
    | none => J
    | some v => freeJ J a v
  | _ => J
def jobOk (J : Jb) (m : Mg) : Bool := rightM m && (decide (mT m = J.tr) && decide (mJ m = J.id))
/-- the job, behind a message -/
def hearJ (J : Jb) (m : Mg) : Jb := bif jobOk J m then hearK J m else J
end Go.Sp
namespace Go.Proofs.Ytniggacgkhkgiaa.Job
open Go.RowKit Go.Sp Msg

section
variable {w : World} {R : Nat → Prop} {jb : Nat} {J : Jb} {m : Mg}

theorem jcell (h : JbR w R jb J) {j : Nat} {u : Value} (hu : ∀ mb, (eJob J mb)[j]? = some u) : ∀ w1, Below w.heap.size w w1 → w1.cell? ⟨jb, j, none⟩ = some u := fun w1 hb => by
  obtain ⟨D, mb, rows, h⟩ := h.below hb
  exact h.cell (hu mb)

set_option maxRecDepth 100000 in
set_option maxHeartbeats 2000000 in
theorem hear_no (h : JbR w R jb J) (hm : InMem w m) (hs : Small m) (hno : jobOk J m = false) :
    Calls Try.prog 21 #[.pointer (some ⟨jb, 0, none⟩), val m] w fun e w' => e = .returned (.tuple #[]) ∧ JOut w R jb J w' := by
  have H := of_any w m hm
  have HR := fun (w1 : World) (hb : Below w.heap.size w w1) => right_any w1 m (hm.below hb) hs
  have c2 := jcell h (j := 2) (u := .int .i64 J.tr) (fun _ => rfl)
  have c0 := jcell h (j := 0) (u := .int .i64 J.id) (fun _ => rfl)
  have HS := fun (w1 : World) (o : Below w.heap.size w w1) => JOut.same h o
  generalize val m = vm at H HR ⊢
  unfold jobOk at hno
  generalize mT m = mt at *
  generalize mJ m = mj at *
  generalize mOk m = mo at *
  generalize J.tr = jt at *
  generalize J.id = ji at *
  clear h hm hs
  go_enter Try.func21, Try.ntmps21
  go_wp2_with fail
  refine H.mono ?_
  rintro e w1 ⟨rfl, hb1⟩
  go_wp2_with fail
  refine (HR w1 hb1).mono ?_
  rintro e w2 ⟨rfl, hb2⟩
  have hb3 := below_trans' hb2 hb1
  have d0 := c0 w2 hb3
  have d2 := c2 w2 hb3
  have HH := HS w2 hb3
  clear H HR c0 c2 HS hb1 hb2
  cases hr : rightM m with
  | false =>
    go_wp2
    go_returns
    exact ⟨rfl, HH⟩
  | true =>
    rw [hr] at hno
    by_cases h1 : mt = jt
    · have e1 : (mt != jt) = false := by simp [h1]
      have h2 : ¬ mj = ji := fun e => by simp [h1, e] at hno
      have e2 : (mj != ji) = true := by simp [h2]
      clear hno h1 h2
      go_wp2
      go_returns
      exact ⟨rfl, HH⟩
    · have e1 : (mt != jt) = true := by simp [h1]
      clear hno h1
      go_wp2
      go_returns
      exact ⟨rfl, HH⟩

set_option maxRecDepth 100000 in
set_option maxHeartbeats 2000000 in
theorem hear_trig {a' : Int} {t' : Int} {c' : Int} (h : JbR w R jb J) (hm : InMem w (.trig a' t' c')) (hs : Small (.trig a' t' c')) (hok : jobOk J (.trig a' t' c') = true) :
    Calls Try.prog 21 #[.pointer (some ⟨jb, 0, none⟩), val (.trig a' t' c')] w fun e w' => e = .returned (.tuple #[]) ∧ JOut w R jb (hearK J (.trig a' t' c')) w' := by
  have H := of_any w _ hm
  have HR := fun (w1 : World) (hb : Below w.heap.size w w1) => right_any w1 _ (hm.below hb) hs
  have HA := fun (w1 : World) (hb : Below w.heap.size w w1) => agent_any w1 _ (hm.below hb)
  have c2 := jcell h (j := 2) (u := .int .i64 J.tr) (fun _ => rfl)
  have c0 := jcell h (j := 0) (u := .int .i64 J.id) (fun _ => rfl)
  have hok' := hok
  simp only [jobOk, Bool.and_eq_true, mT, mJ] at hok'
  obtain ⟨hr, ht, hj⟩ := hok'
  replace ht := of_decide_eq_true ht
  replace hj := of_decide_eq_true hj
  have e1 : (t' != t') = false := by simp
  have e2 : ((0 : Int) != (0 : Int)) = false := by simp
  rw [← ht] at c2
  rw [← hj] at c0
  simp only [val, mT, mJ, mOk, mA, hr, Option.getD, Option.isSome] at H HR HA ⊢
  obtain ⟨D, mb, rows, h0⟩ := id h
  have c5 := fun (w1 : World) (hb : Below w.heap.size w w1) => (h0.below hb).cell (j := 5) (u := .map (some mb)) rfl
  have lk := fun (w1 : World) (hb : Below w.heap.size w w1) => (h0.below hb).look a'
  have HS := fun (w1 : World) (o : Below w.heap.size w w1) => JOut.same h o
  clear h h0 hm hs hok hr ht hj
  obtain ⟨x9, hx9⟩ : ∃ x9, x9 = ((mget a' rows).map ePtr).getD (.pointer none) := ⟨_, rfl⟩
  rw [← hx9] at lk
  clear hx9
  go_enter Try.func21, Try.ntmps21
  go_wp2_with fail
  refine H.mono ?_
  rintro e w1 ⟨rfl, hb1⟩
  go_wp2_with fail
  refine (HR w1 hb1).mono ?_
  rintro e w2 ⟨rfl, hb2⟩
  have hb3 := below_trans' hb2 hb1
  have d0 := c0 w2 hb3
  have d2 := c2 w2 hb3
  go_wp2_with fail
  refine (HA w2 hb3).mono ?_
  rintro e w3 ⟨rfl, hb4⟩
  have hb5 := below_trans' hb4 hb3
  have d5 := c5 w3 hb5
  have dl := lk w3 hb5
  clear H HR HA c0 c2 c5 lk hb1 hb2 hb4 d0 d2 hb3
  have HH := HS w3 hb5
  clear HS
  go_wp2
  go_end0
  exact ⟨rfl, HH⟩

set_option maxRecDepth 100000 in
set_option maxHeartbeats 2000000 in
theorem hear_pin {t' : Int} {j' : Int} (h : JbR w R jb J) (hm : InMem w (.pin t' j')) (hs : Small (.pin t' j')) (hok : jobOk J (.pin t' j') = true) :
    Calls Try.prog 21 #[.pointer (some ⟨jb, 0, none⟩), val (.pin t' j')] w fun e w' => e = .returned (.tuple #[]) ∧ JOut w R jb (hearK J (.pin t' j')) w' := by
  have H := of_any w _ hm
  have HR := fun (w1 : World) (hb : Below w.heap.size w w1) => right_any w1 _ (hm.below hb) hs
  have HA := fun (w1 : World) (hb : Below w.heap.size w w1) => agent_any w1 _ (hm.below hb)
  have c2 := jcell h (j := 2) (u := .int .i64 J.tr) (fun _ => rfl)
  have c0 := jcell h (j := 0) (u := .int .i64 J.id) (fun _ => rfl)
  have hok' := hok
  simp only [jobOk, Bool.and_eq_true, mT, mJ] at hok'
  obtain ⟨hr, ht, hj⟩ := hok'
  replace ht := of_decide_eq_true ht
  replace hj := of_decide_eq_true hj
  have e1 : (t' != t') = false := by simp
  have e2 : (j' != j') = false := by simp
  rw [← ht] at c2
  rw [← hj] at c0
  simp only [val, mT, mJ, mOk, mA, hr, Option.getD, Option.isSome] at H HR HA ⊢
  obtain ⟨D, mb, rows, h0⟩ := id h
  have c5 := fun (w1 : World) (hb : Below w.heap.size w w1) => (h0.below hb).cell (j := 5) (u := .map (some mb)) rfl
  have lk := fun (w1 : World) (hb : Below w.heap.size w w1) => (h0.below hb).look 0
  have HS := fun (w1 : World) (o : Below w.heap.size w w1) => JOut.same h o
  clear h h0 hm hs hok hr ht hj
  obtain ⟨x9, hx9⟩ : ∃ x9, x9 = ((mget 0 rows).map ePtr).getD (.pointer none) := ⟨_, rfl⟩
  rw [← hx9] at lk
  clear hx9
  go_enter Try.func21, Try.ntmps21
  go_wp2_with fail
  refine H.mono ?_
  rintro e w1 ⟨rfl, hb1⟩
  go_wp2_with fail
  refine (HR w1 hb1).mono ?_
  rintro e w2 ⟨rfl, hb2⟩
  have hb3 := below_trans' hb2 hb1
  have d0 := c0 w2 hb3
  have d2 := c2 w2 hb3
  go_wp2_with fail
  refine (HA w2 hb3).mono ?_
  rintro e w3 ⟨rfl, hb4⟩
  have hb5 := below_trans' hb4 hb3
  have d5 := c5 w3 hb5
  have dl := lk w3 hb5
  clear H HR HA c0 c2 c5 lk hb1 hb2 hb4 d0 d2 hb3
  have HH := HS w3 hb5
  clear HS
  go_wp2
  go_end0
  exact ⟨rfl, HH⟩

set_option maxRecDepth 100000 in
set_option maxHeartbeats 2000000 in
theorem hear_pinned {p : Pt} (h : JbR w R jb J) (hm : InMem w (.pinned p)) (hs : Small (.pinned p)) (hok : jobOk J (.pinned p) = true) :
    Calls Try.prog 21 #[.pointer (some ⟨jb, 0, none⟩), val (.pinned p)] w fun e w' => e = .returned (.tuple #[]) ∧ JOut w R jb (hearK J (.pinned p)) w' := by
  obtain ⟨a', t', j', n', cv', cl', l'⟩ := p
  have hcl := hm
  simp only [InMem] at hcl
  obtain ⟨_, ca, cc, rfl, _⟩ := id hcl
  have H := of_any w _ hm
  have HR := fun (w1 : World) (hb : Below w.heap.size w w1) => right_any w1 _ (hm.below hb) hs
  have HA := fun (w1 : World) (hb : Below w.heap.size w w1) => agent_any w1 _ (hm.below hb)
  have c2 := jcell h (j := 2) (u := .int .i64 J.tr) (fun _ => rfl)
  have c0 := jcell h (j := 0) (u := .int .i64 J.id) (fun _ => rfl)
  have hok' := hok
  simp only [jobOk, Bool.and_eq_true, mT, mJ] at hok'
  obtain ⟨hr, ht, hj⟩ := hok'
  replace ht := of_decide_eq_true ht
  replace hj := of_decide_eq_true hj
  have e1 : (t' != t') = false := by simp
  have e2 : (j' != j') = false := by simp
  rw [← ht] at c2
  rw [← hj] at c0
  simp only [val, mT, mJ, mOk, mA, hr, Option.getD, Option.isSome] at H HR HA ⊢
  obtain ⟨D, mb, rows, h0⟩ := id h
  have c5 := fun (w1 : World) (hb : Below w.heap.size w w1) => (h0.below hb).cell (j := 5) (u := .map (some mb)) rfl
  have lk := fun (w1 : World) (hb : Below w.heap.size w w1) => (h0.below hb).look a'
  have hag : agOk (-1) cl' = true := by
    simp only [rightM, rightP, Bool.and_eq_true] at hr
    exact hr.2.2.2.2
  have hl4 := agOk_lenJ hag
  clear hm hs hok hr ht hj
  go_enter Try.func21, Try.ntmps21
  go_wp2_with fail
  refine H.mono ?_
  rintro e w1 ⟨rfl, hb1⟩
  go_wp2_with fail
  refine (HR w1 hb1).mono ?_
  rintro e w2 ⟨rfl, hb2⟩
  have hb3 := below_trans' hb2 hb1
  have d0 := c0 w2 hb3
  have d2 := c2 w2 hb3
  go_wp2_with fail
  refine (HA w2 hb3).mono ?_
  rintro e w3 ⟨rfl, hb4⟩
  have hb5 := below_trans' hb4 hb3
  have d5 := c5 w3 hb5
  have dl := lk w3 hb5
  clear H HR HA c0 c2 c5 lk hb1 hb2 hb4 d0 d2 hb3
  have hA := below_alloc hb5 (.cells #[.int .i64 a', .int .i64 t', .int .i64 j', .int .i64 n', .slice ca cl'.length cc, .bool l'] 72)
  have h6 := h0.below hA
  have HH := JOut.same h hA
  cases hk : mget a' rows with
  | none =>
    have hv := (h0.key a').1 hk
    have HE := Lib.hid (show hearK J (.pinned ⟨a', t', j', n', .slice ca cl'.length cc, cl', l'⟩) = J by simp only [hearK, hv])
    rw [hk] at dl
    replace dl : (Instr.lookup 139 (.map (some mb)) (.int .i64 a') false).run Try.prog w3 = .ok (.pointer none) w3 := dl
    clear h h0 hA h6 hb5 hv hk hcl
    go_wp2
    go_returns
    exact ⟨rfl, by rw [HE.out]; exact HH⟩
  | some b =>
    obtain ⟨v, hv⟩ := h0.has hk
    have HE := Lib.hid (show hearK J (.pinned ⟨a', t', j', n', .slice ca cl'.length cc, cl', l'⟩) = pinJ J a' v ⟨a', t', j', n', .slice ca cl'.length cc, cl', l'⟩ by simp only [hearK, hv])
    rw [hk] at dl
    replace dl : (Instr.lookup 139 (.map (some mb)) (.int .i64 a') false).run Try.prog w3 = .ok (.pointer (some ⟨b, 0, none⟩)) w3 := dl
    have HU := pinned_any h6 hk hv (p := ⟨a', t', j', n', .slice ca cl'.length cc, cl', l'⟩) (hcl.only (only_of_below hA (fun _ => False)) (fun _ _ => id)) hag hl4
    have HA := Lib.hid hA
    clear h h0 hA h6 hb5 hv hk HH hcl
    go_wp2_with fail
    refine HU.mono ?_
    rintro e w7 ⟨rfl, R7, h7, hR7, hO7⟩
    have hsz := HA.out.size
    have HJ : JOut w R jb (pinJ J a' v ⟨a', t', j', n', .slice ca cl'.length cc, cl', l'⟩) w7 := ⟨R7, h7, fun x hx => (hR7 x hx).imp id (fun e => by omega), (only_of_below HA.out R).trans hO7⟩
    clear HU h7 hR7 hO7 hsz
    go_wp2
    go_returns
    exact ⟨rfl, by rw [HE.out]; exact HJ⟩

set_option maxRecDepth 100000 in
set_option maxHeartbeats 2000000 in
theorem hear_gone {a' : Int} {t' : Int} {j' : Int} (h : JbR w R jb J) (hm : InMem w (.gone a' t' j')) (hs : Small (.gone a' t' j')) (hok : jobOk J (.gone a' t' j') = true) :
    Calls Try.prog 21 #[.pointer (some ⟨jb, 0, none⟩), val (.gone a' t' j')] w fun e w' => e = .returned (.tuple #[]) ∧ JOut w R jb (hearK J (.gone a' t' j')) w' := by
  have H := of_any w _ hm
  have HR := fun (w1 : World) (hb : Below w.heap.size w w1) => right_any w1 _ (hm.below hb) hs
  have HA := fun (w1 : World) (hb : Below w.heap.size w w1) => agent_any w1 _ (hm.below hb)
  have c2 := jcell h (j := 2) (u := .int .i64 J.tr) (fun _ => rfl)
  have c0 := jcell h (j := 0) (u := .int .i64 J.id) (fun _ => rfl)
  have hok' := hok
  simp only [jobOk, Bool.and_eq_true, mT, mJ] at hok'
  obtain ⟨hr, ht, hj⟩ := hok'
  replace ht := of_decide_eq_true ht
  replace hj := of_decide_eq_true hj
  have e1 : (t' != t') = false := by simp
  have e2 : (j' != j') = false := by simp
  rw [← ht] at c2
  rw [← hj] at c0
  simp only [val, mT, mJ, mOk, mA, hr, Option.getD, Option.isSome] at H HR HA ⊢
  obtain ⟨D, mb, rows, h0⟩ := id h
  have c5 := fun (w1 : World) (hb : Below w.heap.size w w1) => (h0.below hb).cell (j := 5) (u := .map (some mb)) rfl
  have lk := fun (w1 : World) (hb : Below w.heap.size w w1) => (h0.below hb).look a'
  clear hm hs hok hr ht hj
  go_enter Try.func21, Try.ntmps21
  go_wp2_with fail
  refine H.mono ?_
  rintro e w1 ⟨rfl, hb1⟩
  go_wp2_with fail
  refine (HR w1 hb1).mono ?_
  rintro e w2 ⟨rfl, hb2⟩
  have hb3 := below_trans' hb2 hb1
  have d0 := c0 w2 hb3
  have d2 := c2 w2 hb3
  go_wp2_with fail
  refine (HA w2 hb3).mono ?_
  rintro e w3 ⟨rfl, hb4⟩
  have hb5 := below_trans' hb4 hb3
  have d5 := c5 w3 hb5
  have dl := lk w3 hb5
  clear H HR HA c0 c2 c5 lk hb1 hb2 hb4 d0 d2 hb3
  have hA := below_alloc hb5 (.cells #[.int .i64 a', .int .i64 t', .int .i64 j'] 143)
  have h6 := h0.below hA
  have c4 := h6.cell (j := 4) (u := .int .i64 J.ph) rfl
  have HH := JOut.same h hA
  have f4 := h6.froz 4
  have e4 := heap_setCell_cells (o := 4) h6.blk (.int .i64 3)
  obtain ⟨h8, hO8⟩ := h6.turnJ (J' := { J with ph := 3 }) (w2 := (w3.alloc (.cells #[.int .i64 a', .int .i64 t', .int .i64 j'] 143)).setCell ⟨jb, 4, none⟩ (.int .i64 3)) ((Only.refl (· = jb) _).setCell (p := ⟨jb, 4, none⟩) (fun _ => rfl) _) (e4.trans rfl) rfl
  have HJ := JOut.of h8 (fun b hb => .inl hb) ((only_of_below hA R).trans hO8)
  cases hk : mget a' rows with
  | none =>
    have hv := (h0.key a').1 hk
    have HE := Lib.hid (show hearK J (.gone a' t' j') = J by simp only [hearK, hv])
    rw [hk] at dl
    replace dl : (Instr.lookup 139 (.map (some mb)) (.int .i64 a') false).run Try.prog w3 = .ok (.pointer none) w3 := dl
    clear h8 hO8 e4 h h0 hA h6 hb5 hv hk HJ
    go_wp2
    go_end0
    exact ⟨rfl, by rw [HE.out]; exact HH⟩
  | some b =>
    obtain ⟨v, hv⟩ := h0.has hk
    rw [hk] at dl
    replace dl : (Instr.lookup 139 (.map (some mb)) (.int .i64 a') false).run Try.prog w3 = .ok (.pointer (some ⟨b, 0, none⟩)) w3 := dl
    by_cases p2 : J.ph ≤ 2
    · have b1 : decide (J.ph ≤ 2) = true := decide_eq_true p2
      have HE := Lib.hid (show hearK J (.gone a' t' j') = { J with ph := 3 } by simp only [hearK, hv, b1]; rfl)
      clear h8 hO8 e4 h h0 hA h6 hb5 hv hk p2 HH
      go_wp2
      go_end0
      exact ⟨rfl, by rw [HE.out]; exact HJ⟩
    · have b1 : decide (J.ph ≤ 2) = false := decide_eq_false p2
      have HE := Lib.hid (show hearK J (.gone a' t' j') = J by simp only [hearK, hv, b1]; rfl)
      clear h8 hO8 e4 h h0 hA h6 hb5 hv hk p2 HJ
      go_wp2
      go_end0
      exact ⟨rfl, by rw [HE.out]; exact HH⟩

set_option maxRecDepth 100000 in
set_option maxHeartbeats 2000000 in
theorem hear_coll {t' : Int} {j' : Int} (h : JbR w R jb J) (hm : InMem w (.coll t' j')) (hs : Small (.coll t' j')) (hok : jobOk J (.coll t' j') = true) :
    Calls Try.prog 21 #[.pointer (some ⟨jb, 0, none⟩), val (.coll t' j')] w fun e w' => e = .returned (.tuple #[]) ∧ JOut w R jb (hearK J (.coll t' j')) w' := by
  have H := of_any w _ hm
  have HR := fun (w1 : World) (hb : Below w.heap.size w w1) => right_any w1 _ (hm.below hb) hs
  have HA := fun (w1 : World) (hb : Below w.heap.size w w1) => agent_any w1 _ (hm.below hb)
  have c2 := jcell h (j := 2) (u := .int .i64 J.tr) (fun _ => rfl)
  have c0 := jcell h (j := 0) (u := .int .i64 J.id) (fun _ => rfl)
  have hok' := hok
  simp only [jobOk, Bool.and_eq_true, mT, mJ] at hok'
  obtain ⟨hr, ht, hj⟩ := hok'
  replace ht := of_decide_eq_true ht
  replace hj := of_decide_eq_true hj
  have e1 : (t' != t') = false := by simp
  have e2 : (j' != j') = false := by simp
  rw [← ht] at c2
  rw [← hj] at c0
  simp only [val, mT, mJ, mOk, mA, hr, Option.getD, Option.isSome] at H HR HA ⊢
  obtain ⟨D, mb, rows, h0⟩ := id h
  have c5 := fun (w1 : World) (hb : Below w.heap.size w w1) => (h0.below hb).cell (j := 5) (u := .map (some mb)) rfl
  have lk := fun (w1 : World) (hb : Below w.heap.size w w1) => (h0.below hb).look 0
  have HS := fun (w1 : World) (o : Below w.heap.size w w1) => JOut.same h o
  clear h h0 hm hs hok hr ht hj
  obtain ⟨x9, hx9⟩ : ∃ x9, x9 = ((mget 0 rows).map ePtr).getD (.pointer none) := ⟨_, rfl⟩
  rw [← hx9] at lk
  clear hx9
  go_enter Try.func21, Try.ntmps21
  go_wp2_with fail
  refine H.mono ?_
  rintro e w1 ⟨rfl, hb1⟩
  go_wp2_with fail
  refine (HR w1 hb1).mono ?_
  rintro e w2 ⟨rfl, hb2⟩
  have hb3 := below_trans' hb2 hb1
  have d0 := c0 w2 hb3
  have d2 := c2 w2 hb3
  go_wp2_with fail
  refine (HA w2 hb3).mono ?_
  rintro e w3 ⟨rfl, hb4⟩
  have hb5 := below_trans' hb4 hb3
  have d5 := c5 w3 hb5
  have dl := lk w3 hb5
  clear H HR HA c0 c2 c5 lk hb1 hb2 hb4 d0 d2 hb3
  have HH := HS w3 hb5
  clear HS
  go_wp2
  go_end0
  exact ⟨rfl, HH⟩

set_option maxRecDepth 100000 in
set_option maxHeartbeats 2000000 in
theorem hear_chunk {a' : Int} {t' : Int} {j' : Int} {i' : Int} {n' : Int} {sv' : Value} {xs' : List Spn} (h : JbR w R jb J) (hm : InMem w (.chunk a' t' j' i' n' sv' xs')) (hs : Small (.chunk a' t' j' i' n' sv' xs')) (hok : jobOk J (.chunk a' t' j' i' n' sv' xs') = true) :
    Calls Try.prog 21 #[.pointer (some ⟨jb, 0, none⟩), val (.chunk a' t' j' i' n' sv' xs')] w fun e w' => e = .returned (.tuple #[]) ∧ JOut w R jb (hearK J (.chunk a' t' j' i' n' sv' xs')) w' := by
  obtain ⟨_, a1, c1, rfl, _⟩ := id (show RS w 3 eSpn sv' xs' from hm)
  have H := of_any w _ hm
  have HR := fun (w1 : World) (hb : Below w.heap.size w w1) => right_any w1 _ (hm.below hb) hs
  have HA := fun (w1 : World) (hb : Below w.heap.size w w1) => agent_any w1 _ (hm.below hb)
  have c2 := jcell h (j := 2) (u := .int .i64 J.tr) (fun _ => rfl)
  have c0 := jcell h (j := 0) (u := .int .i64 J.id) (fun _ => rfl)
  have hok' := hok
  simp only [jobOk, Bool.and_eq_true, mT, mJ] at hok'
  obtain ⟨hr, ht, hj⟩ := hok'
  replace ht := of_decide_eq_true ht
  replace hj := of_decide_eq_true hj
  have e1 : (t' != t') = false := by simp
  have e2 : (j' != j') = false := by simp
  rw [← ht] at c2
  rw [← hj] at c0
  simp only [val, mT, mJ, mOk, mA, hr, Option.getD, Option.isSome] at H HR HA ⊢
  obtain ⟨D, mb, rows, h0⟩ := id h
  have c5 := fun (w1 : World) (hb : Below w.heap.size w w1) => (h0.below hb).cell (j := 5) (u := .map (some mb)) rfl
  have lk := fun (w1 : World) (hb : Below w.heap.size w w1) => (h0.below hb).look a'
  have HS := fun (w1 : World) (o : Below w.heap.size w w1) => JOut.same h o
  clear h h0 hm hs hok hr ht hj
  obtain ⟨x9, hx9⟩ : ∃ x9, x9 = ((mget a' rows).map ePtr).getD (.pointer none) := ⟨_, rfl⟩
  rw [← hx9] at lk
  clear hx9
  go_enter Try.func21, Try.ntmps21
  go_wp2_with fail
  refine H.mono ?_
  rintro e w1 ⟨rfl, hb1⟩
  go_wp2_with fail
  refine (HR w1 hb1).mono ?_
  rintro e w2 ⟨rfl, hb2⟩
  have hb3 := below_trans' hb2 hb1
  have d0 := c0 w2 hb3
  have d2 := c2 w2 hb3
  go_wp2_with fail
  refine (HA w2 hb3).mono ?_
  rintro e w3 ⟨rfl, hb4⟩
  have hb5 := below_trans' hb4 hb3
  have d5 := c5 w3 hb5
  have dl := lk w3 hb5
  clear H HR HA c0 c2 c5 lk hb1 hb2 hb4 d0 d2 hb3
  have HH := HS w3 hb5
  clear HS
  go_wp2
  go_end0
  exact ⟨rfl, HH⟩

set_option maxRecDepth 100000 in
set_option maxHeartbeats 2000000 in
theorem hear_mani {t' : Int} {j' : Int} {c' : Int} {pv' : Value} {ps' : List Pt} (h : JbR w R jb J) (hm : InMem w (.mani t' j' c' pv' ps')) (hs : Small (.mani t' j' c' pv' ps')) (hok : jobOk J (.mani t' j' c' pv' ps') = true) :
    Calls Try.prog 21 #[.pointer (some ⟨jb, 0, none⟩), val (.mani t' j' c' pv' ps')] w fun e w' => e = .returned (.tuple #[]) ∧ JOut w R jb (hearK J (.mani t' j' c' pv' ps')) w' := by
  obtain ⟨_, a1, c1, rfl, _⟩ := id hm.1
  have H := of_any w _ hm
  have HR := fun (w1 : World) (hb : Below w.heap.size w w1) => right_any w1 _ (hm.below hb) hs
  have HA := fun (w1 : World) (hb : Below w.heap.size w w1) => agent_any w1 _ (hm.below hb)
  have c2 := jcell h (j := 2) (u := .int .i64 J.tr) (fun _ => rfl)
  have c0 := jcell h (j := 0) (u := .int .i64 J.id) (fun _ => rfl)
  have hok' := hok
  simp only [jobOk, Bool.and_eq_true, mT, mJ] at hok'
  obtain ⟨hr, ht, hj⟩ := hok'
  replace ht := of_decide_eq_true ht
  replace hj := of_decide_eq_true hj
  have e1 : (t' != t') = false := by simp
  have e2 : (j' != j') = false := by simp
  rw [← ht] at c2
  rw [← hj] at c0
  simp only [val, mT, mJ, mOk, mA, hr, Option.getD, Option.isSome] at H HR HA ⊢
  obtain ⟨D, mb, rows, h0⟩ := id h
  have c5 := fun (w1 : World) (hb : Below w.heap.size w w1) => (h0.below hb).cell (j := 5) (u := .map (some mb)) rfl
  have lk := fun (w1 : World) (hb : Below w.heap.size w w1) => (h0.below hb).look 0
  have HS := fun (w1 : World) (o : Below w.heap.size w w1) => JOut.same h o
  clear h h0 hm hs hok hr ht hj
  obtain ⟨x9, hx9⟩ : ∃ x9, x9 = ((mget 0 rows).map ePtr).getD (.pointer none) := ⟨_, rfl⟩
  rw [← hx9] at lk
  clear hx9
  go_enter Try.func21, Try.ntmps21
  go_wp2_with fail
  refine H.mono ?_
  rintro e w1 ⟨rfl, hb1⟩
  go_wp2_with fail
  refine (HR w1 hb1).mono ?_
  rintro e w2 ⟨rfl, hb2⟩
  have hb3 := below_trans' hb2 hb1
  have d0 := c0 w2 hb3
  have d2 := c2 w2 hb3
  go_wp2_with fail
  refine (HA w2 hb3).mono ?_
  rintro e w3 ⟨rfl, hb4⟩
  have hb5 := below_trans' hb4 hb3
  have d5 := c5 w3 hb5
  have dl := lk w3 hb5
  clear H HR HA c0 c2 c5 lk hb1 hb2 hb4 d0 d2 hb3
  have HH := HS w3 hb5
  clear HS
  go_wp2
  go_end0
  exact ⟨rfl, HH⟩

set_option maxRecDepth 100000 in
set_option maxHeartbeats 2000000 in
theorem hear_stor {t' : Int} {j' : Int} (h : JbR w R jb J) (hm : InMem w (.stor t' j')) (hs : Small (.stor t' j')) (hok : jobOk J (.stor t' j') = true) :
    Calls Try.prog 21 #[.pointer (some ⟨jb, 0, none⟩), val (.stor t' j')] w fun e w' => e = .returned (.tuple #[]) ∧ JOut w R jb (hearK J (.stor t' j')) w' := by
  have H := of_any w _ hm
  have HR := fun (w1 : World) (hb : Below w.heap.size w w1) => right_any w1 _ (hm.below hb) hs
  have HA := fun (w1 : World) (hb : Below w.heap.size w w1) => agent_any w1 _ (hm.below hb)
  have c2 := jcell h (j := 2) (u := .int .i64 J.tr) (fun _ => rfl)
  have c0 := jcell h (j := 0) (u := .int .i64 J.id) (fun _ => rfl)
  have hok' := hok
  simp only [jobOk, Bool.and_eq_true, mT, mJ] at hok'
  obtain ⟨hr, ht, hj⟩ := hok'
  replace ht := of_decide_eq_true ht
  replace hj := of_decide_eq_true hj
  have e1 : (t' != t') = false := by simp
  have e2 : (j' != j') = false := by simp
  rw [← ht] at c2
  rw [← hj] at c0
  simp only [val, mT, mJ, mOk, mA, hr, Option.getD, Option.isSome] at H HR HA ⊢
  obtain ⟨D, mb, rows, h0⟩ := id h
  have c5 := fun (w1 : World) (hb : Below w.heap.size w w1) => (h0.below hb).cell (j := 5) (u := .map (some mb)) rfl
  have lk := fun (w1 : World) (hb : Below w.heap.size w w1) => (h0.below hb).look 0
  clear hm hs hok hr ht hj
  obtain ⟨x9, hx9⟩ : ∃ x9, x9 = ((mget 0 rows).map ePtr).getD (.pointer none) := ⟨_, rfl⟩
  rw [← hx9] at lk
  clear hx9
  go_enter Try.func21, Try.ntmps21
  go_wp2_with fail
  refine H.mono ?_
  rintro e w1 ⟨rfl, hb1⟩
  go_wp2_with fail
  refine (HR w1 hb1).mono ?_
  rintro e w2 ⟨rfl, hb2⟩
  have hb3 := below_trans' hb2 hb1
  have d0 := c0 w2 hb3
  have d2 := c2 w2 hb3
  go_wp2_with fail
  refine (HA w2 hb3).mono ?_
  rintro e w3 ⟨rfl, hb4⟩
  have hb5 := below_trans' hb4 hb3
  have d5 := c5 w3 hb5
  have dl := lk w3 hb5
  clear H HR HA c0 c2 c5 lk hb1 hb2 hb4 d0 d2 hb3
  have hA := below_alloc hb5 (.cells #[.int .i64 t', .int .i64 j'] 78)
  have h6 := h0.below hA
  have c4 := h6.cell (j := 4) (u := .int .i64 J.ph) rfl
  have HH := JOut.same h hA
  have f7 := h6.froz 7
  have f4 := h6.froz 4
  have k7 := h6.cell (j := 7) (u := .bool J.kept) rfl
  have e7 := heap_setCell_cells (o := 7) h6.blk (.bool true)
  have e4 := heap_setCell_cells (o := 4) e7 (.int .i64 3)
  obtain ⟨h8, hO8⟩ := h6.turnJ (J' := { J with kept := true, ph := 3 }) (w2 := ((w3.alloc (.cells #[.int .i64 t', .int .i64 j'] 78)).setCell ⟨jb, 7, none⟩ (.bool true)).setCell ⟨jb, 4, none⟩ (.int .i64 3)) (((Only.refl (· = jb) _).setCell (p := ⟨jb, 7, none⟩) (fun _ => rfl) _).setCell (p := ⟨jb, 4, none⟩) (fun _ => rfl) _) (e4.trans rfl) rfl
  have HJ := JOut.of h8 (fun b hb => .inl hb) ((only_of_below hA R).trans hO8)
  clear h8 hO8 e7 e4 h h0 hA h6 hb5
  by_cases p2 : J.ph = 2
  · have b1 : (J.ph == 2) = true := by simp [p2]
    have HE := Lib.hid (show hearK J (.stor t' j') = { J with kept := true, ph := 3 } by simp [hearK, p2])
    clear p2 HH
    go_wp2
    go_end0
    exact ⟨rfl, by rw [HE.out]; exact HJ⟩
  · have b1 : (J.ph == 2) = false := by simp [p2]
    by_cases p3 : J.ph = 3
    · have b2 : (J.ph == 3) = true := by simp [p3]
      have HE := Lib.hid (show hearK J (.stor t' j') = { J with kept := true, ph := 3 } by simp [hearK, p3])
      clear p2 p3 HH
      go_wp2
      go_end0
      exact ⟨rfl, by rw [HE.out]; exact HJ⟩
    · have b2 : (J.ph == 3) = false := by simp [p3]
      have HE := Lib.hid (show hearK J (.stor t' j') = J by simp [hearK, p2, p3])
      clear p2 p3 HJ
      go_wp2
      go_end0
      exact ⟨rfl, by rw [HE.out]; exact HH⟩

set_option maxRecDepth 100000 in
set_option maxHeartbeats 2000000 in
theorem hear_unp {t' : Int} {j' : Int} (h : JbR w R jb J) (hm : InMem w (.unp t' j')) (hs : Small (.unp t' j')) (hok : jobOk J (.unp t' j') = true) :
    Calls Try.prog 21 #[.pointer (some ⟨jb, 0, none⟩), val (.unp t' j')] w fun e w' => e = .returned (.tuple #[]) ∧ JOut w R jb (hearK J (.unp t' j')) w' := by
  have H := of_any w _ hm
  have HR := fun (w1 : World) (hb : Below w.heap.size w w1) => right_any w1 _ (hm.below hb) hs
  have HA := fun (w1 : World) (hb : Below w.heap.size w w1) => agent_any w1 _ (hm.below hb)
  have c2 := jcell h (j := 2) (u := .int .i64 J.tr) (fun _ => rfl)
  have c0 := jcell h (j := 0) (u := .int .i64 J.id) (fun _ => rfl)
  have hok' := hok
  simp only [jobOk, Bool.and_eq_true, mT, mJ] at hok'
  obtain ⟨hr, ht, hj⟩ := hok'
  replace ht := of_decide_eq_true ht
  replace hj := of_decide_eq_true hj
  have e1 : (t' != t') = false := by simp
  have e2 : (j' != j') = false := by simp
  rw [← ht] at c2
  rw [← hj] at c0
  simp only [val, mT, mJ, mOk, mA, hr, Option.getD, Option.isSome] at H HR HA ⊢
  obtain ⟨D, mb, rows, h0⟩ := id h
  have c5 := fun (w1 : World) (hb : Below w.heap.size w w1) => (h0.below hb).cell (j := 5) (u := .map (some mb)) rfl
  have lk := fun (w1 : World) (hb : Below w.heap.size w w1) => (h0.below hb).look 0
  have HS := fun (w1 : World) (o : Below w.heap.size w w1) => JOut.same h o
  clear h h0 hm hs hok hr ht hj
  obtain ⟨x9, hx9⟩ : ∃ x9, x9 = ((mget 0 rows).map ePtr).getD (.pointer none) := ⟨_, rfl⟩
  rw [← hx9] at lk
  clear hx9
  go_enter Try.func21, Try.ntmps21
  go_wp2_with fail
  refine H.mono ?_
  rintro e w1 ⟨rfl, hb1⟩
  go_wp2_with fail
  refine (HR w1 hb1).mono ?_
  rintro e w2 ⟨rfl, hb2⟩
  have hb3 := below_trans' hb2 hb1
  have d0 := c0 w2 hb3
  have d2 := c2 w2 hb3
  go_wp2_with fail
  refine (HA w2 hb3).mono ?_
  rintro e w3 ⟨rfl, hb4⟩
  have hb5 := below_trans' hb4 hb3
  have d5 := c5 w3 hb5
  have dl := lk w3 hb5
  clear H HR HA c0 c2 c5 lk hb1 hb2 hb4 d0 d2 hb3
  have HH := HS w3 hb5
  clear HS
  go_wp2
  go_end0
  exact ⟨rfl, HH⟩

set_option maxRecDepth 100000 in
set_option maxHeartbeats 2000000 in
theorem hear_unpd {a' : Int} {t' : Int} {j' : Int} (h : JbR w R jb J) (hm : InMem w (.unpd a' t' j')) (hs : Small (.unpd a' t' j')) (hok : jobOk J (.unpd a' t' j') = true) :
    Calls Try.prog 21 #[.pointer (some ⟨jb, 0, none⟩), val (.unpd a' t' j')] w fun e w' => e = .returned (.tuple #[]) ∧ JOut w R jb (hearK J (.unpd a' t' j')) w' := by
  have H := of_any w _ hm
  have HR := fun (w1 : World) (hb : Below w.heap.size w w1) => right_any w1 _ (hm.below hb) hs
  have HA := fun (w1 : World) (hb : Below w.heap.size w w1) => agent_any w1 _ (hm.below hb)
  have c2 := jcell h (j := 2) (u := .int .i64 J.tr) (fun _ => rfl)
  have c0 := jcell h (j := 0) (u := .int .i64 J.id) (fun _ => rfl)
  have hok' := hok
  simp only [jobOk, Bool.and_eq_true, mT, mJ] at hok'
  obtain ⟨hr, ht, hj⟩ := hok'
  replace ht := of_decide_eq_true ht
  replace hj := of_decide_eq_true hj
  have e1 : (t' != t') = false := by simp
  have e2 : (j' != j') = false := by simp
  rw [← ht] at c2
  rw [← hj] at c0
  simp only [val, mT, mJ, mOk, mA, hr, Option.getD, Option.isSome] at H HR HA ⊢
  obtain ⟨D, mb, rows, h0⟩ := id h
  have c5 := fun (w1 : World) (hb : Below w.heap.size w w1) => (h0.below hb).cell (j := 5) (u := .map (some mb)) rfl
  have lk := fun (w1 : World) (hb : Below w.heap.size w w1) => (h0.below hb).look a'
  clear hm hs hok hr ht hj
  go_enter Try.func21, Try.ntmps21
  go_wp2_with fail
  refine H.mono ?_
  rintro e w1 ⟨rfl, hb1⟩
  go_wp2_with fail
  refine (HR w1 hb1).mono ?_
  rintro e w2 ⟨rfl, hb2⟩
  have hb3 := below_trans' hb2 hb1
  have d0 := c0 w2 hb3
  have d2 := c2 w2 hb3
  go_wp2_with fail
  refine (HA w2 hb3).mono ?_
  rintro e w3 ⟨rfl, hb4⟩
  have hb5 := below_trans' hb4 hb3
  have d5 := c5 w3 hb5
  have dl := lk w3 hb5
  clear H HR HA c0 c2 c5 lk hb1 hb2 hb4 d0 d2 hb3
  have hA := below_alloc hb5 (.cells #[.int .i64 a', .int .i64 t', .int .i64 j'] 81)
  have h6 := h0.below hA
  have HH := JOut.same h hA
  cases hk : mget a' rows with
  | none =>
    have hv := (h0.key a').1 hk
    have HE := Lib.hid (show hearK J (.unpd a' t' j') = J by simp only [hearK, hv])
    rw [hk] at dl
    replace dl : (Instr.lookup 139 (.map (some mb)) (.int .i64 a') false).run Try.prog w3 = .ok (.pointer none) w3 := dl
    clear h h0 hA h6 hb5 hv hk
    go_wp2
    go_returns
    exact ⟨rfl, by rw [HE.out]; exact HH⟩
  | some b =>
    obtain ⟨v, hv⟩ := h0.has hk
    have HE := Lib.hid (show hearK J (.unpd a' t' j') = freeJ J a' v by simp only [hearK, hv])
    rw [hk] at dl
    replace dl : (Instr.lookup 139 (.map (some mb)) (.int .i64 a') false).run Try.prog w3 = .ok (.pointer (some ⟨b, 0, none⟩)) w3 := dl
    have HU := unpinned_any h6 hk hv
    have HA := Lib.hid hA
    clear h h0 hA h6 hb5 hv hk HH
    go_wp2_with fail
    refine HU.mono ?_
    rintro e w7 ⟨rfl, R7, h7, hR7, hO7⟩
    have hsz := HA.out.size
    have HJ : JOut w R jb (freeJ J a' v) w7 := ⟨R7, h7, fun x hx => (hR7 x hx).imp id (fun e => by omega), (only_of_below HA.out R).trans hO7⟩
    clear HU h7 hR7 hO7 hsz
    go_wp2
    go_returns
    exact ⟨rfl, by rw [HE.out]; exact HJ⟩

/-- Hear, whatever the message -/
theorem hear_any (h : JbR w R jb J) (hm : InMem w m) (hs : Small m) : Calls Try.prog 21 #[.pointer (some ⟨jb, 0, none⟩), val m] w fun e w' => e = .returned (.tuple #[]) ∧ JOut w R jb (hearJ J m) w' := by
  unfold hearJ
  cases hok : jobOk J m with
  | false => exact hear_no h hm hs hok
  | true =>
    simp only [cond_true]
    cases m with
    | none => simp [jobOk, rightM] at hok
    | trig a t c => exact hear_trig h hm hs hok
    | pin t j => exact hear_pin h hm hs hok
    | pinned p => exact hear_pinned h hm hs hok
    | gone a t j => exact hear_gone h hm hs hok
    | coll t j => exact hear_coll h hm hs hok
    | chunk a t j i n sv xs => exact hear_chunk h hm hs hok
    | mani t j c pv ps => exact hear_mani h hm hs hok
    | stor t j => exact hear_stor h hm hs hok
    | unp t j => exact hear_unp h hm hs hok
    | unpd a t j => exact hear_unpd h hm hs hok
end
end Go.Proofs.Ytniggacgkhkgiaa.Job
