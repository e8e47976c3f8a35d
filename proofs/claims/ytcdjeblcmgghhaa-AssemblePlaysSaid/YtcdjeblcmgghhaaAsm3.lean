/- What assemble's New and Hear do. Conditions: the assembler lies in memory as AsR says; the message's slices lie in memory apart from it, a manifest's parts name nobody. -/
import Derived.Test.YtcdjeblcmgghhaaAsm2
namespace Go.Sp
open Go.RowKit
/-- what a message does to what is kept: heard or not, the manifest (class and parts), the chunks -/
def hearOk (t j : Int) (m : Mg) : Bool := rightM m && (decide (mT m = t) && decide (mJ m = j))
def hearB (man : Option (Int × List Pt)) (C : List Chk) : Mg → Bool
  | .chunk a _ _ i n _ xs => !refuse C ⟨a, i, n, xs⟩
  | .mani _ _ _ _ _ => man.isNone
  | _ => false
def hearMan (man : Option (Int × List Pt)) : Mg → Option (Int × List Pt)
  | .mani _ _ c _ ps => match man with
    | none => some (c, ps)
    | some x => some x
  | _ => man
def hearC (C : List Chk) : Mg → List Chk
  | .chunk a _ _ i n _ xs => keepC C ⟨a, i, n, xs⟩
  | _ => C
/-- a manifest's parts name nobody -/
def NoCr : Mg → Prop
  | .mani _ _ _ _ ps => ∀ p ∈ ps, p.cv = .slice none 0 0 ∧ p.cl = []
  | _ => True
end Go.Sp
namespace Go.Proofs.Ytcdjeblcmgghhaa.Asm
open Go.RowKit Go.Sp Msg

def AsR (w : World) (R : Nat → Prop) (ab : Nat) (t j : Int) (man : Option (Int × List Pt)) (C : List Chk) : Prop :=
  ∃ D rm rows g md, Arep w R D ab rm t j md rows g ∧ Tie rows g C ∧ (md.map (fun d => (d.c, d.ps)) = man ∧ ∀ x, man = some x → x.2.length ≤ 1000000)

def HOut (w : World) (R : Nat → Prop) (ab : Nat) (t j : Int) (man : Option (Int × List Pt)) (C : List Chk) (w' : World) : Prop :=
  ∃ R', AsR w' R' ab t j man C ∧ (∀ b, R' b → R b ∨ w.heap.size ≤ b) ∧ Only R w w'

section
variable {w w1 : World} {R D : Nat → Prop} {ab rm : Nat} {t j : Int} {md : Option ManD} {man : Option (Int × List Pt)} {rows : List (Int × Nat)} {g : Int → Ro} {C : List Chk} {m : Mg}

theorem AsR.below (h : AsR w R ab t j man C) (o : Below w.heap.size w w1) : AsR w1 R ab t j man C := by
  obtain ⟨D, rm, rows, g, md, h1, h2, h3⟩ := h
  exact ⟨D, rm, rows, g, md, h1.below o, h2, h3⟩
theorem AsR.only {F : Nat → Prop} (h : AsR w R ab t j man C) (o : Only F w w1) (hF : ∀ b, R b → ¬ F b) : AsR w1 R ab t j man C := by
  obtain ⟨D, rm, rows, g, md, h1, h2, h3⟩ := h
  exact ⟨D, rm, rows, g, md, h1.only o hF, h2, h3⟩
theorem AsR.lt (h : AsR w R ab t j man C) : ∀ b, R b → b < w.heap.size := by
  obtain ⟨D, rm, rows, g, md, h1, h2, h3⟩ := h
  exact h1.rlt
theorem HOut.same (h : AsR w R ab t j man C) (o : Below w.heap.size w w1) : HOut w R ab t j man C w1 := ⟨R, h.below o, fun b hb => .inl hb, only_of_below o R⟩

set_option maxHeartbeats 1000000 in
theorem new_any (w : World) (t j : Int) : Calls Try.prog 15 #[.int .i64 t, .int .i64 j] w fun e w' => ∃ ab R, e = .returned (.pointer (some ⟨ab, 0, none⟩)) ∧ AsR w' R ab t j none [] ∧ (∀ b, R b → w.heap.size ≤ b) ∧ Below w.heap.size w w' := by
  have hmm := @run_makeMap Try.prog
  go_enter Try.func15, Try.ntmps15
  go_wp2
  go_ret
  have hs0 : ((w.alloc (.map #[] 0)).alloc (.cells #[.int .i64 t, .int .i64 j, .pointer none, .map (some w.heap.size)] 119)).heap.size = w.heap.size + 2 := by simp
  refine ⟨w.heap.size + 1, fun b => b = w.heap.size ∨ b = w.heap.size + 1, rfl, ⟨fun _ => False, w.heap.size, [], fun _ => ⟨0, 0, []⟩, none, ⟨heap_new _ _ (by simp), (IMap.made' w ePtr rfl).alloc _, fun k b h => by simp [mget] at h, fun k b h => by simp [mget] at h, fun k b i x h => by simp [mget] at h, fun k k' b b' h => by simp [mget] at h, fun d h => by simp at h, fun d h => by simp at h, .inr rfl, .inl rfl, fun b h => h.elim, id, id, fun b hb => by omega⟩, ⟨fun a => by simp [mget], by simp, fun a b i x h => by simp [mget] at h, by simp, by simp⟩, rfl, fun x hx => by cases hx⟩, fun b hb => by omega, below_alloc (below_alloc (Below.refl _ w) _) _⟩

theorem Arep.setMan (h : Arep w R D ab rm t j none rows g) {mb : Nat} {c : Int} {pv : Value} {ps : List Pt} (hmb : w.heap[mb]? = some (.cells #[.int .i64 t, .int .i64 j, .int .i64 c, pv] 59 (0, 0))) (hmR : ¬ R mb) (hpv : RS w 6 ePt pv ps)
    (hpR : ∀ g', pv.ownBlock = some g' → ¬ R g' ∧ g' < w.heap.size) (hcr : ∀ p ∈ ps, p.cv = .slice none 0 0 ∧ p.cl = []) (hpm : ∀ g', pv.ownBlock = some g' → g' ≠ mb) :
    Arep (w.setCell ⟨ab, 2, none⟩ (.pointer (some ⟨mb, 0, none⟩))) (fun b => R b ∨ b = mb ∨ pv.ownBlock = some b) (fun b => D b ∨ pv.ownBlock = some b) ab rm t j (some ⟨mb, c, pv, ps⟩) rows g ∧ Only R w (w.setCell ⟨ab, 2, none⟩ (.pointer (some ⟨mb, 0, none⟩))) := by
  have hset : Only (· = ab) w (w.setCell ⟨ab, 2, none⟩ (.pointer (some ⟨mb, 0, none⟩))) := (Only.refl (· = ab) w).setCell (p := ⟨ab, 2, none⟩) (fun _ => rfl) _
  have hb1 := heap_setCell_cells (o := 2) h.blk (.pointer (some ⟨mb, 0, none⟩))
  have hmlt := (Array.getElem?_eq_some_iff.1 hmb).1
  have hty : ∀ (b : Nat) (o : Obj), w.heap[b]? = some o → (∀ c fr, o ≠ .cells c 119 fr) → b ≠ ab := fun b o hb hne e => by
    rw [e, h.blk] at hb
    cases hb
    exact hne _ _ rfl
  have hmap : ∀ {α : Type} {b : Nat} {enc : α → Value} {m : List (Int × α)}, IMap w.heap b enc m → b ≠ ab := fun hm e => by
    obtain ⟨es, cl, hb2, _⟩ := hm
    rw [e, h.blk] at hb2; cases hb2
  refine ⟨⟨?_, h.mp.only hset (hmap h.mp), fun k b hk => ?_, fun k b hk => ?_, fun k b i x hk hx => ?_, h.dis, fun d hd => ?_, fun d hd => ?_, .inl h.ra, .inl h.rr, fun b hb => hb.elim (fun h1 => .inl (h.dr b h1)) (fun h1 => .inr (.inr h1)), ?_, ?_, fun b hb => ?_⟩, hset.mono fun b _ e => by rw [e]; exact h.ra⟩
  · rw [hb1]; rfl
  · have := h.row k b hk
    exact ⟨hset.heap this.1 (hty b _ this.1 (fun c fr e => by cases e)), this.2.only hset (hmap this.2)⟩
  · have := h.rown k b hk
    refine ⟨.inl this.1, .inl this.2.1, this.2.2.1, fun hd => ?_, fun hd => ?_⟩
    · rcases hd with hd | hd
      · exact this.2.2.2.1 hd
      · exact (hpR _ hd).1 this.1
    · rcases hd with hd | hd
      · exact this.2.2.2.2 hd
      · exact (hpR _ hd).1 this.2.1
  · have := h.chk k b i x hk hx
    exact ⟨this.1.only hset (fun g' hg' e => h.da (by rw [← e]; exact this.2 g' hg')), fun g' hg' => .inl (this.2 g' hg')⟩
  · cases hd
    exact ⟨hset.heap hmb (fun e => hmR (by have e' : mb = ab := e; rw [e']; exact h.ra)), hpv.only hset (fun g' hg' e => (hpR g' hg').1 (by rw [e]; exact h.ra))⟩
  · cases hd
    refine ⟨.inr (.inl rfl), fun h1 => ?_, fun g' hg' => .inr hg', hcr⟩
    rcases h1 with h1 | h1
    · exact hmR (h.dr _ h1)
    · exact hpm _ h1 rfl
  · rintro (h1 | h1)
    · exact h.da h1
    · exact (hpR _ h1).1 h.ra
  · rintro (h1 | h1)
    · exact h.dm h1
    · exact (hpR _ h1).1 h.rr
  · have := hset.size
    rcases hb with hb | hb | hb
    · have := h.rlt b hb; omega
    · omega
    · have := (hpR b hb).2; omega

set_option maxRecDepth 100000 in
set_option maxHeartbeats 2000000 in
theorem hear_no (h : AsR w R ab t j man C) (hm : InMem w m) (hs : Small m) (hno : hearOk t j m = false) :
    Calls Try.prog 17 #[.pointer (some ⟨ab, 0, none⟩), val m] w fun e w' => e = .returned (.bool false) ∧ HOut w R ab t j man C w' := by
  have H := of_any w m hm
  have HR := fun (w1 : World) (hb : Below w.heap.size w w1) => right_any w1 m (hm.below hb) hs
  have c0 : ∀ w1, Below w.heap.size w w1 → w1.cell? ⟨ab, 0, none⟩ = some (.int .i64 t) := fun w1 hb => by
    obtain ⟨D, rm, rows, g, md, h1, _⟩ := h.below hb
    exact h1.c0
  have c1 : ∀ w1, Below w.heap.size w w1 → w1.cell? ⟨ab, 1, none⟩ = some (.int .i64 j) := fun w1 hb => by
    obtain ⟨D, rm, rows, g, md, h1, _⟩ := h.below hb
    exact h1.c1
  have HS := fun (w1 : World) (o : Below w.heap.size w w1) => HOut.same h o
  generalize val m = vm at H HR ⊢
  unfold hearOk at hno
  generalize mT m = mt at *
  generalize mJ m = mj at *
  generalize mOk m = mo at *
  clear h hm hs
  go_enter Try.func17, Try.ntmps17
  go_wp2_with fail
  refine H.mono ?_
  rintro e w1 ⟨rfl, hb1⟩
  go_wp2_with fail
  refine (HR w1 hb1).mono ?_
  rintro e w2 ⟨rfl, hb2⟩
  have hb3 := below_trans' hb2 hb1
  have d0 := c0 w2 hb3
  have d1 := c1 w2 hb3
  have HH := HS w2 hb3
  clear H HR c0 c1 HS hb1 hb2
  cases hr : rightM m with
  | false =>
    go_wp2
    go_ret
    exact ⟨rfl, HH⟩
  | true =>
    rw [hr] at hno
    by_cases h1 : mt = t
    · have e1 : (mt != t) = false := by simp [h1]
      have h2 : ¬ mj = j := fun e => by simp [h1, e] at hno
      have e2 : (mj != j) = true := by simp [h2]
      clear hno
      go_wp2
      go_ret
      exact ⟨rfl, HH⟩
    · have e1 : (mt != t) = true := by simp [h1]
      clear hno
      go_wp2
      go_ret
      exact ⟨rfl, HH⟩

set_option maxRecDepth 100000 in
set_option maxHeartbeats 2000000 in
theorem hear_trig {a t' c : Int} (h : AsR w R ab t j man C) (hm : InMem w (.trig a t' c)) (hs : Small (.trig a t' c)) (hok : hearOk t j (.trig a t' c) = true) :
    Calls Try.prog 17 #[.pointer (some ⟨ab, 0, none⟩), val (.trig a t' c)] w fun e w' => e = .returned (.bool false) ∧ HOut w R ab t j man C w' := by
  have H := of_any w _ hm
  have HR := fun (w1 : World) (hb : Below w.heap.size w w1) => right_any w1 _ (hm.below hb) hs
  have c0 : ∀ w1, Below w.heap.size w w1 → w1.cell? ⟨ab, 0, none⟩ = some (.int .i64 t) := fun w1 hb => by
    obtain ⟨D, rm, rows, g, md, h1, _⟩ := h.below hb
    exact h1.c0
  have c1 : ∀ w1, Below w.heap.size w w1 → w1.cell? ⟨ab, 1, none⟩ = some (.int .i64 j) := fun w1 hb => by
    obtain ⟨D, rm, rows, g, md, h1, _⟩ := h.below hb
    exact h1.c1
  have hok' := hok
  simp only [hearOk, Bool.and_eq_true, mT, mJ] at hok'
  obtain ⟨hr, ht, hj⟩ := hok'
  replace ht := of_decide_eq_true ht
  replace hj := of_decide_eq_true hj
  subst ht; subst hj
  have e1 : (t' != t') = false := by simp
  have e2 : ((0 : Int) != (0 : Int)) = false := by simp
  simp only [val, mT, mJ, mOk, hr] at H HR ⊢
  have HS := fun (w1 : World) (o : Below w.heap.size w w1) => HOut.same h o
  go_enter Try.func17, Try.ntmps17
  go_wp2_with fail
  refine H.mono ?_
  rintro e w1 ⟨rfl, hb1⟩
  go_wp2_with fail
  refine (HR w1 hb1).mono ?_
  rintro e w2 ⟨rfl, hb2⟩
  have hb3 := below_trans' hb2 hb1
  have d0 := c0 w2 hb3
  have d1 := c1 w2 hb3
  clear H HR c0 c1 hb1 hb2
  have HH := HS w2 hb3
  clear HS
  go_wp2
  go_ret
  exact ⟨rfl, HH⟩

set_option maxRecDepth 100000 in
set_option maxHeartbeats 2000000 in
theorem hear_pin {t' j' : Int} (h : AsR w R ab t j man C) (hm : InMem w (.pin t' j')) (hs : Small (.pin t' j')) (hok : hearOk t j (.pin t' j') = true) :
    Calls Try.prog 17 #[.pointer (some ⟨ab, 0, none⟩), val (.pin t' j')] w fun e w' => e = .returned (.bool false) ∧ HOut w R ab t j man C w' := by
  have H := of_any w _ hm
  have HR := fun (w1 : World) (hb : Below w.heap.size w w1) => right_any w1 _ (hm.below hb) hs
  have c0 : ∀ w1, Below w.heap.size w w1 → w1.cell? ⟨ab, 0, none⟩ = some (.int .i64 t) := fun w1 hb => by
    obtain ⟨D, rm, rows, g, md, h1, _⟩ := h.below hb
    exact h1.c0
  have c1 : ∀ w1, Below w.heap.size w w1 → w1.cell? ⟨ab, 1, none⟩ = some (.int .i64 j) := fun w1 hb => by
    obtain ⟨D, rm, rows, g, md, h1, _⟩ := h.below hb
    exact h1.c1
  have hok' := hok
  simp only [hearOk, Bool.and_eq_true, mT, mJ] at hok'
  obtain ⟨hr, ht, hj⟩ := hok'
  replace ht := of_decide_eq_true ht
  replace hj := of_decide_eq_true hj
  subst ht; subst hj
  have e1 : (t' != t') = false := by simp
  have e2 : (j' != j') = false := by simp
  simp only [val, mT, mJ, mOk, hr] at H HR ⊢
  have HS := fun (w1 : World) (o : Below w.heap.size w w1) => HOut.same h o
  go_enter Try.func17, Try.ntmps17
  go_wp2_with fail
  refine H.mono ?_
  rintro e w1 ⟨rfl, hb1⟩
  go_wp2_with fail
  refine (HR w1 hb1).mono ?_
  rintro e w2 ⟨rfl, hb2⟩
  have hb3 := below_trans' hb2 hb1
  have d0 := c0 w2 hb3
  have d1 := c1 w2 hb3
  clear H HR c0 c1 hb1 hb2
  have HH := HS w2 hb3
  clear HS
  go_wp2
  go_ret
  exact ⟨rfl, HH⟩

set_option maxRecDepth 100000 in
set_option maxHeartbeats 2000000 in
theorem hear_gone {a t' j' : Int} (h : AsR w R ab t j man C) (hm : InMem w (.gone a t' j')) (hs : Small (.gone a t' j')) (hok : hearOk t j (.gone a t' j') = true) :
    Calls Try.prog 17 #[.pointer (some ⟨ab, 0, none⟩), val (.gone a t' j')] w fun e w' => e = .returned (.bool false) ∧ HOut w R ab t j man C w' := by
  have H := of_any w _ hm
  have HR := fun (w1 : World) (hb : Below w.heap.size w w1) => right_any w1 _ (hm.below hb) hs
  have c0 : ∀ w1, Below w.heap.size w w1 → w1.cell? ⟨ab, 0, none⟩ = some (.int .i64 t) := fun w1 hb => by
    obtain ⟨D, rm, rows, g, md, h1, _⟩ := h.below hb
    exact h1.c0
  have c1 : ∀ w1, Below w.heap.size w w1 → w1.cell? ⟨ab, 1, none⟩ = some (.int .i64 j) := fun w1 hb => by
    obtain ⟨D, rm, rows, g, md, h1, _⟩ := h.below hb
    exact h1.c1
  have hok' := hok
  simp only [hearOk, Bool.and_eq_true, mT, mJ] at hok'
  obtain ⟨hr, ht, hj⟩ := hok'
  replace ht := of_decide_eq_true ht
  replace hj := of_decide_eq_true hj
  subst ht; subst hj
  have e1 : (t' != t') = false := by simp
  have e2 : (j' != j') = false := by simp
  simp only [val, mT, mJ, mOk, hr] at H HR ⊢
  have HS := fun (w1 : World) (o : Below w.heap.size w w1) => HOut.same h o
  go_enter Try.func17, Try.ntmps17
  go_wp2_with fail
  refine H.mono ?_
  rintro e w1 ⟨rfl, hb1⟩
  go_wp2_with fail
  refine (HR w1 hb1).mono ?_
  rintro e w2 ⟨rfl, hb2⟩
  have hb3 := below_trans' hb2 hb1
  have d0 := c0 w2 hb3
  have d1 := c1 w2 hb3
  clear H HR c0 c1 hb1 hb2
  have HH := HS w2 hb3
  clear HS
  go_wp2
  go_ret
  exact ⟨rfl, HH⟩

set_option maxRecDepth 100000 in
set_option maxHeartbeats 2000000 in
theorem hear_coll {t' j' : Int} (h : AsR w R ab t j man C) (hm : InMem w (.coll t' j')) (hs : Small (.coll t' j')) (hok : hearOk t j (.coll t' j') = true) :
    Calls Try.prog 17 #[.pointer (some ⟨ab, 0, none⟩), val (.coll t' j')] w fun e w' => e = .returned (.bool false) ∧ HOut w R ab t j man C w' := by
  have H := of_any w _ hm
  have HR := fun (w1 : World) (hb : Below w.heap.size w w1) => right_any w1 _ (hm.below hb) hs
  have c0 : ∀ w1, Below w.heap.size w w1 → w1.cell? ⟨ab, 0, none⟩ = some (.int .i64 t) := fun w1 hb => by
    obtain ⟨D, rm, rows, g, md, h1, _⟩ := h.below hb
    exact h1.c0
  have c1 : ∀ w1, Below w.heap.size w w1 → w1.cell? ⟨ab, 1, none⟩ = some (.int .i64 j) := fun w1 hb => by
    obtain ⟨D, rm, rows, g, md, h1, _⟩ := h.below hb
    exact h1.c1
  have hok' := hok
  simp only [hearOk, Bool.and_eq_true, mT, mJ] at hok'
  obtain ⟨hr, ht, hj⟩ := hok'
  replace ht := of_decide_eq_true ht
  replace hj := of_decide_eq_true hj
  subst ht; subst hj
  have e1 : (t' != t') = false := by simp
  have e2 : (j' != j') = false := by simp
  simp only [val, mT, mJ, mOk, hr] at H HR ⊢
  have HS := fun (w1 : World) (o : Below w.heap.size w w1) => HOut.same h o
  go_enter Try.func17, Try.ntmps17
  go_wp2_with fail
  refine H.mono ?_
  rintro e w1 ⟨rfl, hb1⟩
  go_wp2_with fail
  refine (HR w1 hb1).mono ?_
  rintro e w2 ⟨rfl, hb2⟩
  have hb3 := below_trans' hb2 hb1
  have d0 := c0 w2 hb3
  have d1 := c1 w2 hb3
  clear H HR c0 c1 hb1 hb2
  have HH := HS w2 hb3
  clear HS
  go_wp2
  go_ret
  exact ⟨rfl, HH⟩

set_option maxRecDepth 100000 in
set_option maxHeartbeats 2000000 in
theorem hear_stor {t' j' : Int} (h : AsR w R ab t j man C) (hm : InMem w (.stor t' j')) (hs : Small (.stor t' j')) (hok : hearOk t j (.stor t' j') = true) :
    Calls Try.prog 17 #[.pointer (some ⟨ab, 0, none⟩), val (.stor t' j')] w fun e w' => e = .returned (.bool false) ∧ HOut w R ab t j man C w' := by
  have H := of_any w _ hm
  have HR := fun (w1 : World) (hb : Below w.heap.size w w1) => right_any w1 _ (hm.below hb) hs
  have c0 : ∀ w1, Below w.heap.size w w1 → w1.cell? ⟨ab, 0, none⟩ = some (.int .i64 t) := fun w1 hb => by
    obtain ⟨D, rm, rows, g, md, h1, _⟩ := h.below hb
    exact h1.c0
  have c1 : ∀ w1, Below w.heap.size w w1 → w1.cell? ⟨ab, 1, none⟩ = some (.int .i64 j) := fun w1 hb => by
    obtain ⟨D, rm, rows, g, md, h1, _⟩ := h.below hb
    exact h1.c1
  have hok' := hok
  simp only [hearOk, Bool.and_eq_true, mT, mJ] at hok'
  obtain ⟨hr, ht, hj⟩ := hok'
  replace ht := of_decide_eq_true ht
  replace hj := of_decide_eq_true hj
  subst ht; subst hj
  have e1 : (t' != t') = false := by simp
  have e2 : (j' != j') = false := by simp
  simp only [val, mT, mJ, mOk, hr] at H HR ⊢
  have HS := fun (w1 : World) (o : Below w.heap.size w w1) => HOut.same h o
  go_enter Try.func17, Try.ntmps17
  go_wp2_with fail
  refine H.mono ?_
  rintro e w1 ⟨rfl, hb1⟩
  go_wp2_with fail
  refine (HR w1 hb1).mono ?_
  rintro e w2 ⟨rfl, hb2⟩
  have hb3 := below_trans' hb2 hb1
  have d0 := c0 w2 hb3
  have d1 := c1 w2 hb3
  clear H HR c0 c1 hb1 hb2
  have HH := HS w2 hb3
  clear HS
  go_wp2
  go_ret
  exact ⟨rfl, HH⟩

set_option maxRecDepth 100000 in
set_option maxHeartbeats 2000000 in
theorem hear_unp {t' j' : Int} (h : AsR w R ab t j man C) (hm : InMem w (.unp t' j')) (hs : Small (.unp t' j')) (hok : hearOk t j (.unp t' j') = true) :
    Calls Try.prog 17 #[.pointer (some ⟨ab, 0, none⟩), val (.unp t' j')] w fun e w' => e = .returned (.bool false) ∧ HOut w R ab t j man C w' := by
  have H := of_any w _ hm
  have HR := fun (w1 : World) (hb : Below w.heap.size w w1) => right_any w1 _ (hm.below hb) hs
  have c0 : ∀ w1, Below w.heap.size w w1 → w1.cell? ⟨ab, 0, none⟩ = some (.int .i64 t) := fun w1 hb => by
    obtain ⟨D, rm, rows, g, md, h1, _⟩ := h.below hb
    exact h1.c0
  have c1 : ∀ w1, Below w.heap.size w w1 → w1.cell? ⟨ab, 1, none⟩ = some (.int .i64 j) := fun w1 hb => by
    obtain ⟨D, rm, rows, g, md, h1, _⟩ := h.below hb
    exact h1.c1
  have hok' := hok
  simp only [hearOk, Bool.and_eq_true, mT, mJ] at hok'
  obtain ⟨hr, ht, hj⟩ := hok'
  replace ht := of_decide_eq_true ht
  replace hj := of_decide_eq_true hj
  subst ht; subst hj
  have e1 : (t' != t') = false := by simp
  have e2 : (j' != j') = false := by simp
  simp only [val, mT, mJ, mOk, hr] at H HR ⊢
  have HS := fun (w1 : World) (o : Below w.heap.size w w1) => HOut.same h o
  go_enter Try.func17, Try.ntmps17
  go_wp2_with fail
  refine H.mono ?_
  rintro e w1 ⟨rfl, hb1⟩
  go_wp2_with fail
  refine (HR w1 hb1).mono ?_
  rintro e w2 ⟨rfl, hb2⟩
  have hb3 := below_trans' hb2 hb1
  have d0 := c0 w2 hb3
  have d1 := c1 w2 hb3
  clear H HR c0 c1 hb1 hb2
  have HH := HS w2 hb3
  clear HS
  go_wp2
  go_ret
  exact ⟨rfl, HH⟩

set_option maxRecDepth 100000 in
set_option maxHeartbeats 2000000 in
theorem hear_unpd {a t' j' : Int} (h : AsR w R ab t j man C) (hm : InMem w (.unpd a t' j')) (hs : Small (.unpd a t' j')) (hok : hearOk t j (.unpd a t' j') = true) :
    Calls Try.prog 17 #[.pointer (some ⟨ab, 0, none⟩), val (.unpd a t' j')] w fun e w' => e = .returned (.bool false) ∧ HOut w R ab t j man C w' := by
  have H := of_any w _ hm
  have HR := fun (w1 : World) (hb : Below w.heap.size w w1) => right_any w1 _ (hm.below hb) hs
  have c0 : ∀ w1, Below w.heap.size w w1 → w1.cell? ⟨ab, 0, none⟩ = some (.int .i64 t) := fun w1 hb => by
    obtain ⟨D, rm, rows, g, md, h1, _⟩ := h.below hb
    exact h1.c0
  have c1 : ∀ w1, Below w.heap.size w w1 → w1.cell? ⟨ab, 1, none⟩ = some (.int .i64 j) := fun w1 hb => by
    obtain ⟨D, rm, rows, g, md, h1, _⟩ := h.below hb
    exact h1.c1
  have hok' := hok
  simp only [hearOk, Bool.and_eq_true, mT, mJ] at hok'
  obtain ⟨hr, ht, hj⟩ := hok'
  replace ht := of_decide_eq_true ht
  replace hj := of_decide_eq_true hj
  subst ht; subst hj
  have e1 : (t' != t') = false := by simp
  have e2 : (j' != j') = false := by simp
  simp only [val, mT, mJ, mOk, hr] at H HR ⊢
  have HS := fun (w1 : World) (o : Below w.heap.size w w1) => HOut.same h o
  go_enter Try.func17, Try.ntmps17
  go_wp2_with fail
  refine H.mono ?_
  rintro e w1 ⟨rfl, hb1⟩
  go_wp2_with fail
  refine (HR w1 hb1).mono ?_
  rintro e w2 ⟨rfl, hb2⟩
  have hb3 := below_trans' hb2 hb1
  have d0 := c0 w2 hb3
  have d1 := c1 w2 hb3
  clear H HR c0 c1 hb1 hb2
  have HH := HS w2 hb3
  clear HS
  go_wp2
  go_ret
  exact ⟨rfl, HH⟩

set_option maxRecDepth 100000 in
set_option maxHeartbeats 2000000 in
theorem hear_pinned {a t' j' n : Int} {cv : Value} {cl : List Int} {l : Bool} (h : AsR w R ab t j man C) (hm : InMem w (.pinned ⟨a, t', j', n, cv, cl, l⟩)) (hs : Small (.pinned ⟨a, t', j', n, cv, cl, l⟩)) (hok : hearOk t j (.pinned ⟨a, t', j', n, cv, cl, l⟩) = true) :
    Calls Try.prog 17 #[.pointer (some ⟨ab, 0, none⟩), val (.pinned ⟨a, t', j', n, cv, cl, l⟩)] w fun e w' => e = .returned (.bool false) ∧ HOut w R ab t j man C w' := by
  obtain ⟨_, a', c', hv, _⟩ := id hm
  try simp only at hv
  subst hv
  have H := of_any w _ hm
  have HR := fun (w1 : World) (hb : Below w.heap.size w w1) => right_any w1 _ (hm.below hb) hs
  have c0 : ∀ w1, Below w.heap.size w w1 → w1.cell? ⟨ab, 0, none⟩ = some (.int .i64 t) := fun w1 hb => by
    obtain ⟨D, rm, rows, g, md, h1, _⟩ := h.below hb
    exact h1.c0
  have c1 : ∀ w1, Below w.heap.size w w1 → w1.cell? ⟨ab, 1, none⟩ = some (.int .i64 j) := fun w1 hb => by
    obtain ⟨D, rm, rows, g, md, h1, _⟩ := h.below hb
    exact h1.c1
  have hok' := hok
  simp only [hearOk, Bool.and_eq_true, mT, mJ] at hok'
  obtain ⟨hr, ht, hj⟩ := hok'
  replace ht := of_decide_eq_true ht
  replace hj := of_decide_eq_true hj
  subst ht; subst hj
  have e1 : (t' != t') = false := by simp
  have e2 : (j' != j') = false := by simp
  simp only [val, mT, mJ, mOk, hr] at H HR ⊢
  have HS := fun (w1 : World) (o : Below w.heap.size w w1) => HOut.same h o
  go_enter Try.func17, Try.ntmps17
  go_wp2_with fail
  refine H.mono ?_
  rintro e w1 ⟨rfl, hb1⟩
  go_wp2_with fail
  refine (HR w1 hb1).mono ?_
  rintro e w2 ⟨rfl, hb2⟩
  have hb3 := below_trans' hb2 hb1
  have d0 := c0 w2 hb3
  have d1 := c1 w2 hb3
  clear H HR c0 c1 hb1 hb2
  have HH := HS w2 hb3
  clear HS
  go_wp2
  go_ret
  exact ⟨rfl, HH⟩

set_option maxRecDepth 100000 in
set_option maxHeartbeats 2000000 in
theorem hear_chunk {a t' j' i n : Int} {sv : Value} {xs : List Spn} (h : AsR w R ab t j man C) (hm : InMem w (.chunk a t' j' i n sv xs)) (hs : Small (.chunk a t' j' i n sv xs)) (hR : MOwn R (.chunk a t' j' i n sv xs)) (hok : hearOk t j (.chunk a t' j' i n sv xs) = true) :
    Calls Try.prog 17 #[.pointer (some ⟨ab, 0, none⟩), val (.chunk a t' j' i n sv xs)] w fun e w' => e = .returned (.bool (!refuse C ⟨a, i, n, xs⟩)) ∧ HOut w R ab t j man (keepC C ⟨a, i, n, xs⟩) w' := by
  obtain ⟨_, a', c', hv, _⟩ := id hm
  try simp only at hv
  subst hv
  have H := of_any w _ hm
  have HR := fun (w1 : World) (hb : Below w.heap.size w w1) => right_any w1 _ (hm.below hb) hs
  have c0 : ∀ w1, Below w.heap.size w w1 → w1.cell? ⟨ab, 0, none⟩ = some (.int .i64 t) := fun w1 hb => by
    obtain ⟨D, rm, rows, g, md, h1, _⟩ := h.below hb
    exact h1.c0
  have c1 : ∀ w1, Below w.heap.size w w1 → w1.cell? ⟨ab, 1, none⟩ = some (.int .i64 j) := fun w1 hb => by
    obtain ⟨D, rm, rows, g, md, h1, _⟩ := h.below hb
    exact h1.c1
  have hok' := hok
  simp only [hearOk, Bool.and_eq_true, mT, mJ] at hok'
  obtain ⟨hr, ht, hj⟩ := hok'
  replace ht := of_decide_eq_true ht
  replace hj := of_decide_eq_true hj
  subst ht; subst hj
  have e1 : (t' != t') = false := by simp
  have e2 : (j' != j') = false := by simp
  simp only [val, mT, mJ, mOk, hr] at H HR ⊢
  have hrr := hr
  simp only [rightM, Bool.and_eq_true, wi_true, decide_eq_true_eq] at hrr
  obtain ⟨_, ⟨ha1, ha2⟩, _, ⟨hn1, hn2⟩, ⟨hi1, hi2⟩, hx, _⟩ := hrr
  go_enter Try.func17, Try.ntmps17
  go_wp2_with fail
  refine H.mono ?_
  rintro e w1 ⟨rfl, hb1⟩
  go_wp2_with fail
  refine (HR w1 hb1).mono ?_
  rintro e w2 ⟨rfl, hb2⟩
  have hb3 := below_trans' hb2 hb1
  have d0 := c0 w2 hb3
  have d1 := c1 w2 hb3
  clear H HR c0 c1 hb1 hb2
  have hA := below_alloc hb3 (.cells #[.int .i64 a, .int .i64 t', .int .i64 j', .int .i64 i, .int .i64 n, .slice a' xs.length c'] 67)
  obtain ⟨D, rm, rows, g, md, h1, T, hmd⟩ := h.below hA
  have hsv := RS.only (show RS w 3 eSpn _ xs from hm) (only_of_below hA (fun _ => False)) (fun _ _ => id)
  have HC := chunk_any h1 T (t' := t') (j' := j') (i := i) (n := n) hsv hR ⟨ha1, ha2⟩ ⟨hi1, by omega, hn2, hx⟩
  go_wp2_with fail
  refine HC.mono ?_
  rintro e w5 ⟨rfl, R', D', rows', g', h5, T5, hR5, hO5⟩
  have hO : HOut w R ab t' j' man (keepC C ⟨a, i, n, xs⟩) w5 := ⟨R', ⟨D', rm, rows', g', md, h5, T5, hmd⟩, fun b hb => (hR5 b hb).imp id (fun h => Nat.le_trans hA.size h), (only_of_below hA R).trans hO5⟩
  clear HC h1 T hsv hA h5 T5 hR5 hO5
  go_wp2
  go_ret
  exact ⟨rfl, hO⟩

set_option maxRecDepth 100000 in
set_option maxHeartbeats 2000000 in
theorem hear_mani {t' j' c : Int} {pv : Value} {ps : List Pt} (h : AsR w R ab t j man C) (hm : InMem w (.mani t' j' c pv ps)) (hs : Small (.mani t' j' c pv ps)) (hnc : NoCr (.mani t' j' c pv ps)) (hok : hearOk t j (.mani t' j' c pv ps) = true) :
    Calls Try.prog 17 #[.pointer (some ⟨ab, 0, none⟩), val (.mani t' j' c pv ps)] w fun e w' => e = .returned (.bool (man.isNone)) ∧ HOut w R ab t j (hearMan man (.mani t' j' c pv ps)) C w' := by
  obtain ⟨_, a', c', hv, _⟩ := id hm.1
  try simp only at hv
  subst hv
  have H := of_any w _ hm
  have HR := fun (w1 : World) (hb : Below w.heap.size w w1) => right_any w1 _ (hm.below hb) hs
  have c0 : ∀ w1, Below w.heap.size w w1 → w1.cell? ⟨ab, 0, none⟩ = some (.int .i64 t) := fun w1 hb => by
    obtain ⟨D, rm, rows, g, md, h1, _⟩ := h.below hb
    exact h1.c0
  have c1 : ∀ w1, Below w.heap.size w w1 → w1.cell? ⟨ab, 1, none⟩ = some (.int .i64 j) := fun w1 hb => by
    obtain ⟨D, rm, rows, g, md, h1, _⟩ := h.below hb
    exact h1.c1
  have hok' := hok
  simp only [hearOk, Bool.and_eq_true, mT, mJ] at hok'
  obtain ⟨hr, ht, hj⟩ := hok'
  replace ht := of_decide_eq_true ht
  replace hj := of_decide_eq_true hj
  subst ht; subst hj
  have e1 : (t' != t') = false := by simp
  have e2 : (j' != j') = false := by simp
  simp only [val, mT, mJ, mOk, hr] at H HR ⊢
  go_enter Try.func17, Try.ntmps17
  go_wp2_with fail
  refine H.mono ?_
  rintro e w1 ⟨rfl, hb1⟩
  go_wp2_with fail
  refine (HR w1 hb1).mono ?_
  rintro e w2 ⟨rfl, hb2⟩
  have hb3 := below_trans' hb2 hb1
  have d0 := c0 w2 hb3
  have d1 := c1 w2 hb3
  clear H HR c0 c1 hb1 hb2
  have hA := below_alloc hb3 (.cells #[.int .i64 t', .int .i64 j', .int .i64 c, .slice a' ps.length c'] 59)
  obtain ⟨D, rm, rows, g, md, h0, T, hmd⟩ := id h
  cases md with
  | some d =>
    have h1 := h0.below hA
    have q2 := h1.c2
    have hmn : man.isNone = false := by rw [← hmd.1]; rfl
    have hmm : hearMan man (.mani t' j' c (.slice a' ps.length c') ps) = man := by rw [← hmd.1]; rfl
    have HMN := Lib.hid hmn
    have HMM := Lib.hid hmm
    have HO := HOut.same h hA
    clear h0 h1 T hmd hmn hmm h hm hs
    simp only [manPtr] at q2
    go_wp2
    go_ret
    exact ⟨by rw [HMN.out]; rfl, by rw [HMM.out]; exact HO⟩
  | none =>
    have hmn : man = none := hmd.1.symm
    subst hmn
    have h1 := h0.below hb3
    have hbx : (w2.alloc (.cells #[.int .i64 t', .int .i64 j', .int .i64 c, .slice a' ps.length c'] 59)).heap[w2.heap.size]? = some (.cells #[.int .i64 t', .int .i64 j', .int .i64 c, .slice a' ps.length c'] 59 (0, 0)) := heap_new _ _ rfl
    have hA2 := below_alloc (Below.refl w2.heap.size w2) (.cells #[.int .i64 t', .int .i64 j', .int .i64 c, .slice a' ps.length c'] 59)
    have h2 := h1.below hA2
    have q2 := h2.c2
    simp only [manPtr] at q2
    have hpv := Pts.only (show Pts w _ ps from hm) (only_of_below hA (fun _ => False)) (fun _ _ => id) (fun _ _ _ _ => id)
    have HC := cloneP_any hpv.1 hpv.2 hs
    have hlt2 : w2.heap.size < (w2.alloc (.cells #[.int .i64 t', .int .i64 j', .int .i64 c, .slice a' ps.length c'] 59)).heap.size := by simp
    go_wp2_with fail
    generalize (w2.alloc (.cells #[.int .i64 t', .int .i64 j', .int .i64 c, .slice a' ps.length c'] 59)) = w3 at hbx hA hA2 h2 q2 hpv HC hlt2 ⊢
    refine HC.mono ?_
    rintro e w4 ⟨v4, rfl, hr4, hn4, hb4⟩
    obtain ⟨_, a4, c4, rfl, _⟩ := id hr4
    have hbx4 : w4.heap[w2.heap.size]? = _ := (hb4.block w2.heap.size hlt2).trans hbx
    have f4 : w4.frozen? ⟨w2.heap.size, 3, none⟩ = false := by simp [World.frozen?, hbx4]
    have g4 : w4.cell? ⟨w2.heap.size, 3, none⟩ = some (.slice a' ps.length c') := by simp [World.cell?, hbx4]
    have hset : Only (· = w2.heap.size) w4 (w4.setCell ⟨w2.heap.size, 3, none⟩ (.slice a4 ps.length c4)) := (Only.refl (· = w2.heap.size) w4).setCell (p := ⟨w2.heap.size, 3, none⟩) (fun _ => rfl) _
    have hbx5 : (w4.setCell ⟨w2.heap.size, 3, none⟩ (.slice a4 ps.length c4)).heap[w2.heap.size]? = some (.cells #[.int .i64 t', .int .i64 j', .int .i64 c, .slice a4 ps.length c4] 59 (0, 0)) := by rw [heap_setCell_cells (o := 3) hbx4]; rfl
    have hnR : ¬ R w2.heap.size := fun e => by have := h1.rlt _ e; omega
    have h4 := h2.below hb4
    have h5 := h4.only hset (fun b hb e => hnR (by rw [← e]; exact hb))
    have hr5 := hr4.only hset (fun g' hg' e => by have := (hn4 g' hg').1; omega)
    have hsz5 := hset.size
    have hpR : ∀ g', (Value.slice a4 ps.length c4).ownBlock = some g' → ¬ R g' ∧ g' < (w4.setCell ⟨w2.heap.size, 3, none⟩ (.slice a4 ps.length c4)).heap.size := fun g' hg' => ⟨fun e => by have := h2.rlt _ e; have := (hn4 g' hg').1; omega, Nat.lt_of_lt_of_le (hn4 g' hg').2 hsz5⟩
    obtain ⟨h6, hO6⟩ := h5.setMan (c := c) hbx5 hnR hr5 hpR hnc (fun g' hg' e => by have := (hn4 g' hg').1; omega)
    have hbw4 := below_trans' hb4 hA
    have q0 : (w4.setCell ⟨w2.heap.size, 3, none⟩ (.slice a4 ps.length c4)).frozen? ⟨ab, 2, none⟩ = false := by simp [World.frozen?, h5.blk]
    have q5 := h5.c2
    simp only [manPtr] at q5
    have hsw : w.heap.size ≤ w2.heap.size := hb3.size
    have hO5 : Only R w (w4.setCell ⟨w2.heap.size, 3, none⟩ (.slice a4 ps.length c4)) := (only_of_below hbw4 R).trans' hset (fun i hi e => by omega)
    have hF : HOut w R ab t' j' (some (c, ps)) C ((w4.setCell ⟨w2.heap.size, 3, none⟩ (.slice a4 ps.length c4)).setCell ⟨ab, 2, none⟩ (.pointer (some ⟨w2.heap.size, 0, none⟩))) := by
      refine ⟨_, ⟨_, rm, rows, g, _, h6, T, rfl, fun x hx => by cases hx; exact hs⟩, fun b hb => ?_, hO5.trans hO6⟩
      rcases hb with hb | hb | hb
      · exact .inl hb
      · exact .inr (by omega)
      · have := (hn4 b hb).1; have := hA.size; exact .inr (by omega)
    clear HC h0 h1 h2 hpv hb4 hr4 hn4 hbx hA hA2 hset hr5 hpR h6 hO6 hbw4 hO5 T h hm hs hmd h4
    go_wp2
    go_ret
    exact ⟨rfl, hF⟩
end

/-- Hear, whatever the message -/
theorem hear_any {w : World} {R : Nat → Prop} {ab : Nat} {t j : Int} {man : Option (Int × List Pt)} {C : List Chk} {m : Mg} (h : AsR w R ab t j man C) (hm : InMem w m) (hs : Small m) (hR : MOwn R m) (hnc : NoCr m) :
    Calls Try.prog 17 #[.pointer (some ⟨ab, 0, none⟩), val m] w fun e w' => e = .returned (.bool (hearOk t j m && hearB man C m)) ∧ HOut w R ab t j (bif hearOk t j m then hearMan man m else man) (bif hearOk t j m then hearC C m else C) w' := by
  cases hok : hearOk t j m with
  | false => exact hear_no h hm hs hok
  | true =>
    cases m with
    | none => simp [hearOk, rightM] at hok
    | trig a t c => exact hear_trig h hm hs hok
    | pin t j => exact hear_pin h hm hs hok
    | pinned p => exact hear_pinned (a := p.a) (t' := p.t) (j' := p.j) (n := p.n) (cv := p.cv) (cl := p.cl) (l := p.l) h hm hs hok
    | gone a t j => exact hear_gone h hm hs hok
    | coll t j => exact hear_coll h hm hs hok
    | chunk a t j i n sv xs => exact hear_chunk h hm hs hR hok
    | mani t j c pv ps => exact hear_mani h hm hs hnc hok
    | stor t j => exact hear_stor h hm hs hok
    | unp t j => exact hear_unp h hm hs hok
    | unpd a t j => exact hear_unpd h hm hs hok
end Go.Proofs.Ytcdjeblcmgghhaa.Asm
