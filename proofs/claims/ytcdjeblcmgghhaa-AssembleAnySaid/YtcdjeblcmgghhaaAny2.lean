/- AssembleAny: of spans in chunks, and their manifest, in any order, and more often, the record is these spans; the law answers true for every input. Conditions: the arguments can be read. -/
import Derived.Test.YtcdjeblcmgghhaaAny1
namespace Go.Sp
open Go.RowKit
open Go.Proofs.Ytcdjeblcmgghhaa.Msg (Small)
/-- the messages that are made of the first q rows, and of p chunks of the next one -/
structure Ms (w : World) (L : List (List Spn)) (q p : Nat) (ms : List Mg) : Prop where
  len : ms.length ≤ 20 * q + p
  good : ∀ m ∈ ms, GoodM L m ∧ InMem w m ∧ Small m ∧ NoCr m ∧ MOwn (fun b => w.heap.size ≤ b) m
  cov : ∀ i l k, L[i]? = some l → (i < q ∧ k < nOf l ∨ i = q ∧ k < p) → ∃ sv, Mg.chunk i 7 1 k (nOf l) sv ((l.drop (2 * k)).take 2) ∈ ms
theorem Ms.start (w : World) (L : List (List Spn)) : Ms w L 0 0 [] := ⟨by simp, by simp, fun i l k _ h => by omega⟩
theorem Ms.next {w : World} {L : List (List Spn)} {q : Nat} {l : List Spn} {ms : List Mg} (h : Ms w L q (nOf l) ms) (hl : L[q]? = some l) (h40 : l.length ≤ 40) : Ms w L (q + 1) 0 ms := by
  refine ⟨by have := nOf_le h40; have := h.len; omega, h.good, fun i l' k h1 h2 => h.cov i l' k h1 ?_⟩
  by_cases e : i = q
  · subst e
    rw [hl] at h1; cases h1
    exact .inr ⟨rfl, by omega⟩
  · exact .inl (by omega)
theorem Ms.put {w : World} {L : List (List Spn)} {q p : Nat} {l : List Spn} {ms : List Mg} (h : Ms w L q p ms) (hl : L[q]? = some l) (hp : p < nOf l) {sv : Value} (hr : RS w 3 eSpn sv ((l.drop (2 * p)).take 2)) : Ms w L q (p + 1) (ms ++ [.chunk q 7 1 p (nOf l) sv ((l.drop (2 * p)).take 2)]) := by
  refine ⟨by simp; have := h.len; omega, fun m hm => ?_, fun i l' k h1 h2 => ?_⟩
  · rcases List.mem_append.1 hm with hm | hm
    · exact h.good m hm
    · rw [List.mem_singleton.1 hm]
      refine ⟨⟨rfl, rfl, q, l, p, hl, hp, rfl⟩, hr, trivial, trivial, fun hn g hg hge => ?_⟩
      obtain ⟨_, a, c, rfl, h3⟩ := hr
      obtain ⟨b, o, rfl, hb, _⟩ := h3 hn
      simp [Value.ownBlock] at hg
      omega
  · by_cases e : i = q ∧ k = p
    · obtain ⟨rfl, rfl⟩ := e
      rw [hl] at h1; cases h1
      exact ⟨sv, by simp⟩
    · obtain ⟨sv', h3⟩ := h.cov i l' k h1 (by omega)
      exact ⟨sv', List.mem_append_left _ h3⟩
/-- a row's first p spans may be -/
def RowTo (l : List Spn) (p : Nat) : Prop := ∀ j x, j < p → l[j]? = some x → x.1 = 7 ∧ x.2.1 = (j : Int) + 1 ∧ rightSp x = true
theorem rowOk_to : ∀ (l : List Spn) (k : Nat), (∀ (j : Nat) (x : Spn), l[j]? = some x → x.1 = 7 ∧ x.2.1 = ((k + j : Nat) : Int) + 1) → rowOk 7 l k = true
  | [], k, _ => rowOk_nil 7 k
  | x :: r, k, h => by
    rw [rowOk_cons]
    have h0 := h 0 x rfl
    have := rowOk_to r (k + 1) (fun j y hy => by
      have := h (j + 1) y (by simpa using hy)
      rw [show k + 1 + j = k + (j + 1) from by omega]
      exact this)
    simp [h0.1, this]
    simpa using h0.2
theorem RowTo.row {l : List Spn} (h : RowTo l l.length) (h40 : l.length ≤ 40) : RowR l := by
  refine ⟨h40, rowOk_to l 0 fun j x hx => ?_, fun x hx => ?_⟩
  · have := h j x (List.getElem?_eq_some_iff.1 hx).1 hx
    rw [Nat.zero_add]
    exact ⟨this.1, this.2.1⟩
  · obtain ⟨j, hj⟩ := List.getElem?_of_mem hx
    have := h j x (List.getElem?_eq_some_iff.1 hj).1 hj
    exact ⟨this.2.2, this.1⟩
theorem RowTo.succ {l : List Spn} {p : Nat} {x : Spn} (h : RowTo l p) (hx : l[p]? = some x) (h1 : x.1 = 7) (h2 : x.2.1 = (p : Int) + 1) (h3 : rightSp x = true) : RowTo l (p + 1) := fun j y hj hy => by
  by_cases e : j = p
  · subst e; rw [hx] at hy; cases hy; exact ⟨h1, h2, h3⟩
  · exact h j y (by omega) hy
theorem ptsAll_snoc (L : List (List Spn)) {q : Nat} {l : List Spn} (h : L[q]? = some l) : ptsAll (L.take (q + 1)) = ptsAll (L.take q) ++ [ptOf q l] := by
  unfold ptsAll
  have : q < L.length := (List.getElem?_eq_some_iff.1 h).1
  rw [List.take_add_one, h, Option.toList_some, List.mapIdx_concat, show (L.take q).length = q by rw [List.length_take]; omega]
theorem take_sub {xs : List Spn} {lo hi : Nat} (h : hi = min (lo + 2) xs.length) (h2 : lo ≤ xs.length) : (xs.drop lo).take (hi - lo) = (xs.drop lo).take 2 := by
  by_cases e : lo + 2 ≤ xs.length
  · rw [show hi - lo = 2 by omega]
  · rw [List.take_of_length_le (by simp; omega), List.take_of_length_le (by simp; omega)]
theorem tmod_nat {x : Int} (hx : 0 ≤ x) {N : Nat} (hN : 0 < N) : ∃ r : Nat, x.tmod (N : Int) = r ∧ r < N := by
  refine ⟨x.toNat % N, ?_, Nat.mod_lt _ hN⟩
  have : x = (x.toNat : Int) := by omega
  rw [this, Int.ofNat_tmod]
  simp
end Go.Sp
namespace Go.Proofs.Ytcdjeblcmgghhaa.Asm
open Go.RowKit Go.Sp Msg

theorem rd_rw {w : World} {m : Nat} {ds : List Value} (h : Rd Try.prog w m 32 ds) : ∃ x : Rw, eRw x = ds ∧ RwIn w x := by
  obtain ⟨v, xs, rfl, h1⟩ := rd_spans h
  obtain ⟨_, a, c, rfl, _⟩ := id h1
  exact ⟨(_, xs), rfl, h1, a, _, c, rfl, rd_cap h Try.underlying32⟩
theorem rd_u8 {w : World} {m : Nat} {ds : List Value} (h : Rd Try.prog w m 5 ds) : ∃ x : Int, eU8 x = ds ∧ 0 ≤ x ∧ x ≤ 255 := by
  obtain ⟨x, e, hw⟩ := rd_int h Try.underlying5
  refine ⟨x, e.symm, ?_⟩
  have h1 : IntKind.u8.min = 0 := by decide
  have h2 : IntKind.u8.max = 255 := by decide
  simp [Lit.wf, h1, h2] at hw
  omega

/-- the rows' loop, q rows done, p chunks of the next one -/
structure RowsR (w : World) (L : List (List Spn)) (mb q p : Nat) (ms : List Mg) (pv a : Value) (u : Nat) (wr : World) : Prop where
  man : wr.heap[mb]? = some (.cells #[.int .i64 7, .int .i64 1, .int .i64 0, pv] 59 (0, 0))
  pts : SL wr.heap 65 6 pv u ((ptsAll (L.take u)).flatMap ePt)
  all : SL wr.heap 41 1 a ms.length (ms.map val)
  ms : Ms w L q p ms
  row : ∀ (i : Nat) (l : List Spn), i < q → L[i]? = some l → RowR l
  pn : ∀ g, pv.ownBlock = some g → w.heap.size ≤ g
  an : ∀ g, a.ownBlock = some g → w.heap.size ≤ g
  bel : Below w.heap.size w wr
  mbn : w.heap.size ≤ mb

section
variable {w wr W w7 : World} {L : List (List Spn)} {mb q p u : Nat} {ms : List Mg} {pv a v7 : Value} {xs : List Spn} {m : Mg}
theorem RowsR.below (h : RowsR w L mb q p ms pv a u wr) (hb : Below wr.heap.size wr W) : RowsR w L mb q p ms pv a u W := by
  have hm : mb < wr.heap.size := (Array.getElem?_eq_some_iff.1 h.man).1
  have ho := only_of_below hb (fun _ => False)
  exact ⟨(hb.block mb hm).trans h.man, h.pts.only ho (fun _ _ => id), h.all.only ho (fun _ _ => id), h.ms, h.row, h.pn, h.an, h.bel.trans (hb.mono h.bel.size), h.mbn⟩
theorem RowsR.ne1 (h : RowsR w L mb q p ms pv a u wr) : pv.ownBlock ≠ some mb := fun e => sl_not h.man h.pts (by decide) e
theorem RowsR.ne2 (h : RowsR w L mb q p ms pv a u wr) : a.ownBlock ≠ some mb := fun e => sl_not h.man h.all (by decide) e
theorem RowsR.ne3 (h : RowsR w L mb q p ms pv a u wr) : ∀ g, pv.ownBlock = some g → a.ownBlock ≠ some g := sl_two' h.pts h.all (by decide)
theorem RowsR.part (h : RowsR w L mb q 0 ms pv a q wr) (hl : L[q]? = some xs) (hb : Below wr.heap.size wr W) (hs7 : SL w7.heap 65 6 v7 (q + 1) ((ptsAll (L.take q)).flatMap ePt ++ ePt (ptOf q xs)))
    (ho7 : Only (fun k => pv.ownBlock = some k) W w7) (hv7 : v7.ownBlock = pv.ownBlock ∨ v7.ownBlock = some W.heap.size) :
    w7.heap[mb]? = some (.cells #[.int .i64 7, .int .i64 1, .int .i64 0, pv] 59 (0, 0)) ∧ RowsR w L mb q 0 ms v7 a (q + 1) (w7.setCell ⟨mb, 3, none⟩ v7) := by
  have h1 := h.below hb
  have hm7 := ho7.heap h1.man h1.ne1
  have hset : Only (· = mb) w7 (w7.setCell ⟨mb, 3, none⟩ v7) := (Only.refl (· = mb) w7).setCell (p := ⟨mb, 3, none⟩) (fun _ => rfl) _
  have hmW : mb < W.heap.size := (Array.getElem?_eq_some_iff.1 h1.man).1
  have n7 : v7.ownBlock ≠ some mb := fun e => by
    rcases hv7 with e2 | e2
    · exact h1.ne1 (by rw [← e2]; exact e)
    · rw [e2] at e; cases e; omega
  refine ⟨hm7, ⟨?_, ?_, (h1.all.only ho7 (fun g hg e => h1.ne3 g e hg)).only hset (fun g hg e => h1.ne2 (by rw [← e]; exact hg)), h.ms, h.row, fun g hg => ?_, h.an, ?_, h.mbn⟩⟩
  · rw [heap_setCell_cells (o := 3) hm7]; rfl
  · rw [ptsAll_snoc L hl, List.flatMap_append]
    exact SL.only (by simpa using hs7) hset (fun g hg e => n7 (by rw [← e]; exact hg))
  · rcases hv7 with e2 | e2
    · exact h.pn g (by rw [← e2]; exact hg)
    · rw [e2] at hg; cases hg; have := h1.bel.size; omega
  · exact (h1.bel.trans (ho7.below h1.bel.size fun i hi e => by have := h.pn i e; omega)).trans (hset.below (Nat.le_trans h1.bel.size ho7.size) fun i hi e => by have := h.mbn; omega)
theorem RowsR.chunk (h : RowsR w L mb q p ms pv a u wr) (hb : Below wr.heap.size wr W) (hs7 : SL w7.heap 41 1 v7 (ms.length + 1) (ms.map val ++ [val m]))
    (ho7 : Only (fun k => a.ownBlock = some k) W w7) (hv7 : v7.ownBlock = a.ownBlock ∨ v7.ownBlock = some W.heap.size) (hM : Ms w L q (p + 1) (ms ++ [m])) : RowsR w L mb q (p + 1) (ms ++ [m]) pv v7 u w7 := by
  have h1 := h.below hb
  refine ⟨ho7.heap h1.man h1.ne2, h1.pts.only ho7 (fun g hg e => h1.ne3 g hg e), by simpa using hs7, hM, h.row, h.pn, fun g hg => ?_, h1.bel.trans (ho7.below h1.bel.size fun i hi e => by have := h.an i e; omega), h.mbn⟩
  rcases hv7 with e2 | e2
  · exact h.an g (by rw [← e2]; exact hg)
  · rw [e2] at hg; cases hg; have := h1.bel.size; omega
theorem RowsR.next (h : RowsR w L mb q (nOf xs) ms pv a (q + 1) wr) (hl : L[q]? = some xs) (hr : RowR xs) : RowsR w L mb (q + 1) 0 ms pv a (q + 1) wr :=
  ⟨h.man, h.pts, h.all, h.ms.next hl hr.1, fun i l hi hl' => by
    by_cases e : i = q
    · subst e; rw [hl] at hl'; cases hl'; exact hr
    · exact h.row i l (by omega) hl', h.pn, h.an, h.bel, h.mbn⟩
end

theorem flat_val : ∀ M : List Mg, M.flatMap (fun m => [val m]) = M.map val
  | [] => rfl
  | m :: r => by rw [List.flatMap_cons, flat_val r]; rfl
/-- all messages, made ahead of W0 -/
structure AllM (W0 : World) (L : List (List Spn)) (M : List Mg) : Prop where
  good : ∀ m ∈ M, GoodM L m ∧ InMem W0 m ∧ Small m ∧ NoCr m ∧ MOwn (fun b => W0.heap.size ≤ b) m
  cov : ∀ (i : Nat) (l : List Spn) (k : Nat), L[i]? = some l → k < nOf l → ∃ sv, Mg.chunk i 7 1 k (nOf l) sv ((l.drop (2 * k)).take 2) ∈ M
  man : ∃ pv ps, Mg.mani 7 1 0 pv ps ∈ M
  row : ∀ l ∈ L, RowR l
  le : 0 < L.length ∧ L.length ≤ 4
  len : M.length ≤ 100 ∧ 0 < M.length
/-- the assembler, all messages of P heard -/
def Stg (W0 : World) (L : List (List Spn)) (ab : Nat) (P : Mg → Prop) (wr : World) : Prop := ∃ man C, St W0 wr (fun _ => False) ab 7 1 man C ∧ Okst L man C ∧ ∀ m, P m → Heard man C m
section
variable {w W0 wr W w7 : World} {L : List (List Spn)} {M ms : List Mg} {ab mb : Nat} {P : Mg → Prop} {m : Mg} {pv a v7 : Value}
theorem Stg.bel (h : Stg W0 L ab P wr) : Below W0.heap.size W0 wr := by
  obtain ⟨_, _, ⟨_, _, _, hb⟩, _⟩ := h
  exact hb
theorem Stg.step (h : Stg W0 L ab P wr) (hb : Below wr.heap.size wr W) : Stg W0 L ab P W := by
  obtain ⟨man, C, h1, h2, h3⟩ := h
  exact ⟨man, C, h1.step hb, h2, h3⟩
theorem Stg.imp {P' : Mg → Prop} (h : Stg W0 L ab P wr) (hp : ∀ m, P' m → P m) : Stg W0 L ab P' wr := by
  obtain ⟨man, C, h1, h2, h3⟩ := h
  exact ⟨man, C, h1, h2, fun m hm => h3 m (hp m hm)⟩
theorem Stg.hear (h : Stg W0 L ab P wr) (A : AllM W0 L M) (hm : m ∈ M) :
    Calls Try.prog 17 #[.pointer (some ⟨ab, 0, none⟩), val m] wr fun e w' => (∃ bv, e = .returned (.bool bv)) ∧ Stg W0 L ab (fun x => P x ∨ x = m) w' ∧ Below W0.heap.size W0 w' := by
  have hbl := h.bel
  obtain ⟨man, C, h1, h2, h3⟩ := h
  obtain ⟨g1, g2, g3, g4, g5⟩ := A.good m hm
  refine (h1.hearG (g2.below hbl) g3 g5 g4 (any_ok A.row A.le.1 A.le.2 g1)).mono ?_
  rintro e w' ⟨he, hs, hb⟩
  obtain ⟨k1, k2, k3⟩ := any_step h2 g1
  refine ⟨he, ⟨_, _, hs, k1, fun x hx => ?_⟩, hb⟩
  rcases hx with hx | rfl
  · exact k3 x (h3 x hx)
  · exact k2
theorem Stg.rec (h : Stg W0 L ab P wr) (A : AllM W0 L M) (hP : ∀ m ∈ M, P m) :
    Calls Try.prog 23 #[.pointer (some ⟨ab, 0, none⟩)] wr fun e w' => RecIs w' (recAny L) e ∧ Below wr.heap.size wr w' := by
  obtain ⟨man, C, h1, h2, h3⟩ := h
  have hr := any_rec h2 A.row (by
    obtain ⟨pv, ps, hm⟩ := A.man
    exact h3 _ (hP _ hm)) (fun i l k hl hk => by
    obtain ⟨sv, hm⟩ := A.cov i l k hl hk
    exact h3 _ (hP _ hm))
  refine (h1.record hr).mono ?_
  rintro e w' ⟨k1, k2, _⟩
  exact ⟨k1, k2⟩
theorem AllM.made {q : Nat} (h : RowsR w L mb q 0 ms pv a q wr) (hq : q = L.length) (h1 : 1 ≤ q) (h4 : q ≤ 4) (hb : Below wr.heap.size wr W) (ho7 : Only (fun k => a.ownBlock = some k) W w7) :
    AllM w7 L (ms ++ [.mani 7 1 0 pv (ptsAll L)]) := by
  have hW := h.below hb
  have hb7 : Below w.heap.size w w7 := hW.bel.trans (ho7.below hW.bel.size fun i hi e => by have := h.an i e; omega)
  have hp7 := hW.pts.only ho7 (fun g hg e => hW.ne3 g hg e)
  rw [hq, List.take_length] at hp7
  have hps : (ptsAll L).length = L.length := ptsAll_len
  have hrs : RS w7 6 ePt pv (ptsAll L) := SL.rs (enc := ePt) ePt_len (by rw [hps]; exact hp7)
  have hnil : ∀ p ∈ ptsAll L, p.cv = .slice none 0 0 ∧ p.cl = [] := fun p hp => by
    obtain ⟨i, hi⟩ := List.getElem?_of_mem hp
    obtain ⟨l, _, rfl⟩ := ptsAll_get hi
    exact ⟨rfl, rfl⟩
  have hlen := h.ms.len
  refine ⟨fun m hm => ?_, fun i l k hl hk => ?_, ⟨pv, ptsAll L, by simp⟩, fun l hl => ?_, by omega, by simp; omega⟩
  · rcases List.mem_append.1 hm with hm | hm
    · obtain ⟨g1, g2, g3, g4, g5⟩ := h.ms.good m hm
      exact ⟨g1, g2.below hb7, g3, g4, MOwn.mono g5 fun b hb => Nat.le_trans hb7.size hb⟩
    · rw [List.mem_singleton.1 hm]
      refine ⟨⟨rfl, rfl, rfl, rfl⟩, ⟨hrs, fun p hp => by rw [(hnil p hp).1, (hnil p hp).2]; exact RS.nil _ _ _⟩, by simp only [Small]; omega, hnil, fun g hg hge => ?_, fun p hp g hg => by rw [(hnil p hp).1] at hg; simp [Value.ownBlock] at hg⟩
      obtain ⟨_, a', c', rfl, h3⟩ := hrs
      obtain ⟨b, o, rfl, hb, _⟩ := h3 (by omega)
      simp [Value.ownBlock] at hg
      omega
  · obtain ⟨sv, hs⟩ := h.ms.cov i l k hl (.inl ⟨by have := (List.getElem?_eq_some_iff.1 hl).1; omega, hk⟩)
    exact ⟨sv, List.mem_append_left _ hs⟩
  · obtain ⟨i, hi⟩ := List.getElem?_of_mem hl
    exact h.row i l (by have := (List.getElem?_eq_some_iff.1 hi).1; omega) hi
end

set_option maxRecDepth 100000 in
set_option maxHeartbeats 4000000 in
theorem any_any {H : Type} {enc : TypeId × Value → H} {base : Nat} {d0 d1 : DataW H} {ps0 ps1 : List MemPlace} (v0 v1 : Value) (w : World)
    (u0 : Value.okWide Try.prog w .any base 55 v0) (k0 : DataW.Trod enc Try.prog w 0 (fun _ => true) true 55 v0 d0 ps0) (z0 : (d0.weights Try.prog 55).all (· ≤ reachBytes) = true)
    (u1 : Value.okWide Try.prog w .any base 56 v1) (k1 : DataW.Trod enc Try.prog w 0 (fun _ => true) true 56 v1 d1 ps1) (z1 : (d1.weights Try.prog 56).all (· ≤ reachBytes) = true) :
    Calls Try.prog 4 #[v0, v1] w fun e w' => e = .returned (.bool true) ∧ Below w.heap.size w w' := by
  obtain ⟨rows, hrs, hQ, _⟩ := arg_slice (size := 1) (elt := eRw) Try.underlying55 (by kernel_rfl) (by omega) (fun m ds h => rd_rw h) u0 k0 z0
  obtain ⟨os, hos, hoQ, _⟩ := arg_slice (size := 1) (elt := eU8) Try.underlying56 (by kernel_rfl) (by omega) (fun m ds h => rd_u8 h) u1 k1 z1
  clear u0 k0 z0 u1 k1 z1
  have hl0 := hrs.1
  have hl1 := hos.1
  unfold maxLen at hl0 hl1
  obtain ⟨_, ra, rc, rfl, _⟩ := id hrs
  obtain ⟨_, oa, oc, rfl, _⟩ := id hos
  have hmm := @run_makeMap Try.prog
  obtain ⟨ip, zp, hip, hzp, hp1, hp2, hp3⟩ := info_at (P := Try.prog) (e := 65) (f := (6, 64, 6)) (by kernel_rfl)
  obtain ⟨im, zm, him, hzm, hm1, hm2, hm3⟩ := info_at (P := Try.prog) (e := 41) (f := (1, 16, 1)) (by kernel_rfl)
  go_enter Try.func4, Try.ntmps4
  go_wp2_with fail
  refine (awake_any _).mono ?_
  rintro e w1 ⟨rfl, hb1⟩
  by_cases hg : 1 ≤ rows.length ∧ rows.length ≤ 4 ∧ os.length ≤ 100
  · obtain ⟨g1, g2, g3⟩ := hg
    have b1 : decide ((rows.length : Int) < 1) = false := decide_eq_false (by omega)
    have b2 : decide (4 < (rows.length : Int)) = false := decide_eq_false (by omega)
    have b3 : decide (100 < (os.length : Int)) = false := decide_eq_false (by omega)
    obtain ⟨L, hL⟩ : ∃ L, L = rows.map Prod.snd := ⟨_, rfl⟩
    go_wp2
    have hR0 : RowsR w L w1.heap.size 0 0 [] (.slice none 0 0) (.slice none 0 0) 0 (w1.alloc (.cells #[.int .i64 7, .int .i64 1, .int .i64 0, .slice none 0 0] 59)) :=
      ⟨heap_new _ _ rfl, SL.nil _ _ _, SL.nil _ _ _, Ms.start w L, fun i l h => by omega, fun g hg => by simp [Value.ownBlock] at hg, fun g hg => by simp [Value.ownBlock] at hg, below_alloc hb1 _, hb1.size⟩
    generalize (w1.alloc (.cells #[.int .i64 7, .int .i64 1, .int .i64 0, .slice none 0 0] 59)) = w2 at hR0 ⊢
    generalize w1.heap.size = mb at hR0 ⊢
    clear hb1 w1
    go_loopw [44, 6] (fun i a wr => ∃ (q : Nat) (ms : List Mg) (pv : Value), q ≤ rows.length ∧ i = .int .i64 q ∧ RowsR w L mb q 0 ms pv a q wr) (fun i _ _ => rows.length - (intOf i).toNat)
    case atStart => exact ⟨0, [], _, Nat.zero_le _, rfl, hR0⟩
    case round =>
      obtain ⟨q, ms, pv, hq, rfl, hR⟩ := hrel
      clear hR0
      by_cases hqN : q < rows.length
      · obtain ⟨⟨sv, xs⟩, hx⟩ : ∃ x, rows[q]? = some x := ⟨_, List.getElem?_eq_getElem hqN⟩
        obtain ⟨hxr, a', n', c', hav, hnc⟩ := hQ _ (List.mem_of_getElem? hx)
        simp only at hxr hav
        have hLq : L[q]? = some xs := by rw [hL, List.getElem?_map, hx]; rfl
        obtain ⟨_, sa, sc, rfl, _⟩ := id hxr
        simp only [Value.slice.injEq] at hav
        obtain ⟨rfl, rfl, rfl⟩ := hav
        obtain ⟨_, a', c', hv, h2⟩ := hrs.only (only_of_below hR.bel (fun _ => False)) (fun _ _ => id)
        obtain ⟨b0, o0, ha, hb0, hcl⟩ := h2 (by omega)
        simp only [Value.slice.injEq] at hv
        obtain ⟨rfl, _, rfl⟩ := hv
        subst ha
        have g0 : wr.cell? ⟨b0, o0 + q, none⟩ = some (.slice sa xs.length sc) := by have := hcl q _ 0 _ hx rfl; simpa using this
        have HF := fun (w' : World) (hb : Below w.heap.size w w') => fewS_any (hxr.only (only_of_below hb (fun _ => False)) (fun _ _ => id))
        have HLQ := Lib.hid hLq
        have HL := Lib.hid hL
        clear hcl hx h2 hLq hL
        go_wp2_with fail
        refine (HF wr hR.bel).mono ?_
        rintro e w2 ⟨rfl, rfl⟩
        clear HF
        cases hfs : fewS xs with
        | false =>
          have hbe := hR.bel
          go_wp2
          go_ret
          exact ⟨rfl, hbe⟩
        | true =>
          by_cases h40 : xs.length ≤ 40
          · have c1 : decide (40 < (xs.length : Int)) = false := decide_eq_false (by omega)
            go_wp2
            obtain ⟨wo, hwo⟩ : ∃ wo : World, wo = wr := ⟨_, rfl⟩
            rw [← hwo] at hR ⊢
            clear hwo g0
            go_loopw [59] (fun i w3 => ∃ p : Nat, p ≤ xs.length ∧ i = .int .i64 p ∧ RowTo xs p ∧ Below wo.heap.size wo w3) (fun i _ => xs.length - (intOf i).toNat)
            case atStart => exact ⟨0, Nat.zero_le _, rfl, fun j x hj => by omega, Below.refl _ _⟩
            case round =>
              obtain ⟨p, hp, rfl, hRT, hb3⟩ := hrel
              by_cases hpN : p < xs.length
              · obtain ⟨⟨x1, x2, x3⟩, hx⟩ : ∃ x, xs[p]? = some x := ⟨_, List.getElem?_eq_getElem hpN⟩
                obtain ⟨_, a', c', hv, h2⟩ := hxr.only (only_of_below (hR.bel.trans (hb3.mono hR.bel.size)) (fun _ => False)) (fun _ _ => id)
                obtain ⟨b1, o1, ha, hb1, hcl⟩ := h2 (by omega)
                simp only [Value.slice.injEq] at hv
                obtain ⟨rfl, _, rfl⟩ := hv
                subst ha
                have g0 := hcl p _ 0 _ hx rfl
                have g1 := hcl p _ 1 _ hx rfl
                have g2 := hcl p _ 2 _ hx rfl
                rw [← Nat.add_assoc] at g0 g1 g2
                rw [Nat.add_zero] at g0
                simp only at g0 g1 g2
                have HS := Lib.hid (fun h1 h2 h3 => RowTo.succ hRT hx h1 h2 h3)
                have hA := below_alloc hb3 (.cells #[.int .i64 x1, .int .i64 x2, .string x3] 63)
                have hbx := heap_new wr (.cells #[.int .i64 x1, .int .i64 x2, .string x3] 63) rfl
                have hbw := hR.bel
                clear hcl hx h2 hRT
                have hrt := fun w' : World => right05_any w' (x1, x2, x3)
                have hend := hbw.trans (hA.mono hbw.size)
                by_cases e1 : x1 = 7
                · have b1 : (x1 != 7) = false := by simp [e1]
                  have E1 := Lib.hid e1
                  clear e1
                  by_cases e2 : x2 = (p : Int) + 1
                  · have b2 : (x2 != (p : Int) + 1) = false := by simp [e2]
                    have E2 := Lib.hid e2
                    clear e2
                    go_wp2_with fail
                    with_reducible refine (hrt _).mono ?_
                    rintro e w5 ⟨rfl, hb5⟩
                    have hb6 := hA.trans (hb5.mono hA.size)
                    have hend6 := hbw.trans (hb6.mono hbw.size)
                    cases e3 : rightSp (x1, x2, x3) with
                    | false =>
                      clear HS
                      go_wp2
                      go_ret
                      exact ⟨rfl, hend6⟩
                    | true =>
                      have HT := HS.out E1.out E2.out e3
                      clear HS
                      go_wp2
                      exact ⟨⟨p + 1, by omega, by go_num, HT, hb6⟩, by simp [intOf]; omega⟩
                  · have b2 : (x2 != (p : Int) + 1) = true := by simp [e2]
                    clear HS hrt
                    go_wp2
                    go_ret
                    exact ⟨rfl, hend⟩
                · have b1 : (x1 != 7) = true := by simp [e1]
                  clear HS hrt
                  go_wp2
                  go_ret
                  exact ⟨rfl, hend⟩
              · have hpe : p = xs.length := by omega
                subst hpe
                have hRW := RowTo.row hRT h40
                have hR3 := hR.below hb3
                obtain ⟨pa, pc, rfl⟩ := hR3.pts.form
                have m3 : wr.cell? ⟨mb, 3, none⟩ = some (.slice pa q pc) := by simp [World.cell?, hR3.man]
                have f3 : wr.frozen? ⟨mb, 3, none⟩ = false := by simp [World.frozen?, hR3.man]
                clear hRT hb3
                go_wp2_with (at_builtin; refine halt ?_)
                refine Halt.go ?_
                refine wpList_appd (v := .slice pa q pc) rfl _ _ _ rfl Try.underlying57 hip hzp hp1 hp2 hp3 rfl (hR3.pts.alloc _) (m := 1) (news := ePt (ptOf q xs)) rfl rfl (cells_new _ _ _ rfl) (by simp [ePt, ptOf, Value.oneCell']) (by unfold maxLen; omega) (by omega) ?_
                rintro v7 w7 hs7 ho7 hv7
                obtain ⟨hm7, hR8⟩ := hR3.part HLQ.out (below_alloc (Below.refl wr.heap.size wr) _) hs7 ho7 hv7
                obtain ⟨a7, c7, rfl⟩ := hs7.form
                have f7 : w7.frozen? ⟨mb, 3, none⟩ = false := by simp [World.frozen?, hm7]
                have m7 : w7.cell? ⟨mb, 3, none⟩ = some (.slice pa q pc) := by simp [World.cell?, hm7]
                clear hs7 ho7 hv7 hm7 hR3 m3 f3 hR
                go_wp2
                generalize (w7.setCell ⟨mb, 3, none⟩ (.slice a7 (q + 1) c7)) = w8 at hR8 ⊢
                have en : max (((xs.length : Int) + 1) / 2) 1 = (nOf xs : Int) := by unfold nOf; omega
                rw [en]
                have hn20 := nOf_le h40
                have HND := Lib.hid (show nOf xs = max ((xs.length + 1) / 2) 1 from rfl)
                generalize hnn : nOf xs = nn at hn20 HND ⊢
                have HNN := Lib.hid hnn
                clear en f7 m7 hnn
                go_loopw [95, 6] (fun i a wr => ∃ (p : Nat) (ms : List Mg), p ≤ nn ∧ i = .int .i64 p ∧ RowsR w L mb q p ms (.slice a7 (q + 1) c7) a (q + 1) wr) (fun i _ _ => nn - (intOf i).toNat)
                case atStart => exact ⟨0, ms, Nat.zero_le _, rfl, hR8⟩
                case round =>
                  obtain ⟨p, ms, hp, rfl, hR⟩ := hrel
                  clear hR8
                  by_cases hpN : p < nn
                  · obtain ⟨lo, hlo⟩ : ∃ lo : Nat, lo = min (2 * p) xs.length := ⟨_, rfl⟩
                    obtain ⟨hi, hhi⟩ : ∃ hi : Nat, hi = min (2 * p + 2) xs.length := ⟨_, rfl⟩
                    have e1 : min (2 * (p : Int)) (xs.length : Int) = (lo : Int) := by omega
                    have e2 : min (2 * (p : Int) + 2) (xs.length : Int) = (hi : Int) := by omega
                    have l1 : lo ≤ hi := by omega
                    have l2 : hi ≤ xs.length := by omega
                    have l3 : hi ≤ sc := by omega
                    have HLO := Lib.hid hlo
                    have HHI := Lib.hid hhi
                    clear hlo hhi
                    by_cases h0 : 0 < xs.length
                    · obtain ⟨_, a', c', hv, h2⟩ := id hxr
                      obtain ⟨b1, o1, ha, hb1, hcl⟩ := h2 h0
                      simp only [Value.slice.injEq] at hv
                      obtain ⟨rfl, _, rfl⟩ := hv
                      subst ha
                      clear h2 hcl
                      have l4 : lo < sc := by have := HLO.out; have := HND.out; omega
                      go_wp2_with (at_builtin; refine halt ?_)
                      refine Halt.go ?_
                      have hms := hR.ms.len
                      have hsv : RS w 3 eSpn (.slice (some ⟨b1, o1 + lo * 3, none⟩) (hi - lo) (sc - lo)) ((xs.drop (2 * p)).take 2) := by
                        have h5 := HLO.out
                        have h6 := HND.out
                        have h7 := HHI.out
                        have h8 := RS.sub hxr lo (hi - lo) (by omega) (sc - lo)
                        rw [take_sub (by omega) (by omega), show (xs.drop lo).take 2 = (xs.drop (2 * p)).take 2 by rw [show lo = 2 * p by omega]] at h8
                        exact h8
                      have hM := hR.ms.put HLQ.out (by rw [HNN.out]; exact hpN) hsv
                      rw [HNN.out] at hM
                      refine wpList_appd (v := u6) rfl _ _ _ rfl Try.underlying60 him hzm hm1 hm2 hm3 rfl (hR.all.alloc _) (m := 1) (news := [val (.chunk q 7 1 p nn (.slice (some ⟨b1, o1 + lo * 3, none⟩) (hi - lo) (sc - lo)) ((xs.drop (2 * p)).take 2))]) rfl rfl (cells_new _ _ _ rfl) (by simp [val, Value.oneCell']) (by unfold maxLen; omega) (by omega) ?_
                      rintro v7 w7 hs7 ho7 hv7
                      have hR9 := hR.chunk (below_alloc (Below.refl wr.heap.size wr) _) hs7 ho7 hv7 hM
                      clear hs7 ho7 hv7 hM hsv hms hR
                      go_wp2
                      exact ⟨⟨p + 1, _, by omega, by go_num, hR9⟩, by simp [intOf]; omega⟩
                    · have hms := hR.ms.len
                      have hsv : ∀ a n c, n = 0 → RS w 3 eSpn (.slice a n c) ((xs.drop (2 * p)).take 2) := fun a n c e0 => by
                        have hx0 : xs = [] := List.eq_nil_of_length_eq_zero (by omega)
                        rw [e0, hx0]
                        exact ⟨by simp, a, c, by simp, fun h => by simp at h⟩
                      have HM := Lib.hid (fun a n c (e0 : n = 0) => by
                        have hM := hR.ms.put HLQ.out (by rw [HNN.out]; exact hpN) (hsv a n c e0)
                        rw [HNN.out] at hM
                        exact hM)
                      clear hsv
                      rcases (show lo < sc ∨ sc = lo by omega) with l4 | rfl
                      all_goals (
                        go_wp2_with (at_builtin; refine halt ?_)
                        refine Halt.go ?_
                        refine wpList_appd (v := u6) rfl _ _ _ rfl Try.underlying60 him hzm hm1 hm2 hm3 rfl (hR.all.alloc _) (m := 1) (news := [val (.chunk q 7 1 p nn (.slice _ _ _) ((xs.drop (2 * p)).take 2))]) rfl rfl (cells_new _ _ _ rfl) (by simp [val, Value.oneCell']) (by unfold maxLen; omega) (by omega) ?_
                        rintro v7 w7 hs7 ho7 hv7
                        have hR9 := hR.chunk (below_alloc (Below.refl wr.heap.size wr) _) hs7 ho7 hv7 (HM.out _ _ _ (by omega))
                        clear hs7 ho7 hv7 HM hms hR
                        go_wp2
                        exact ⟨⟨p + 1, _, by omega, by go_num, hR9⟩, by simp [intOf]; omega⟩)
                  · have hpe : p = nOf xs := by have := HNN.out; omega
                    subst hpe
                    have hR9 := hR.next HLQ.out hRW
                    have hpn : ¬ ((nOf xs : Int) < (nn : Int)) := by omega
                    clear hR
                    go_wp2
                    exact ⟨⟨q + 1, ms, _, by omega, by go_num, hR9⟩, by simp [intOf]; omega⟩
          · have hbe := hR.bel
            have c1 : decide (40 < (xs.length : Int)) = true := decide_eq_true (by omega)
            go_wp2
            go_ret
            exact ⟨rfl, hbe⟩
      · have hqe : q = rows.length := by omega
        subst hqe
        have hLl : L.length = rows.length := by rw [hL, List.length_map]
        have hms := hR.ms.len
        obtain ⟨pa, pc, rfl⟩ := hR.pts.form
        have m0 : wr.cell? ⟨mb, 0, none⟩ = some (.int .i64 7) := by simp [World.cell?, hR.man]
        have m1 : wr.cell? ⟨mb, 1, none⟩ = some (.int .i64 1) := by simp [World.cell?, hR.man]
        have m2 : wr.cell? ⟨mb, 2, none⟩ = some (.int .i64 0) := by simp [World.cell?, hR.man]
        have m3 : wr.cell? ⟨mb, 3, none⟩ = some (.slice pa rows.length pc) := by simp [World.cell?, hR.man]
        have HLL := Lib.hid hLl
        have HL := Lib.hid hL
        clear hLl hL
        go_wp2_with (at_builtin; refine halt ?_)
        refine Halt.go ?_
        refine wpList_appd (v := u6) rfl _ _ _ rfl Try.underlying60 him hzm hm1 hm2 hm3 rfl (hR.all.alloc _) (m := 1) (news := [val (.mani 7 1 0 (.slice pa rows.length pc) (ptsAll L))]) rfl rfl (cells_new _ _ _ rfl) (by simp [val, Value.oneCell']) (by unfold maxLen; omega) (by omega) ?_
        rintro v7 w7 hs7 ho7 hv7
        have hA := AllM.made hR HLL.out.symm g1 g2 (below_alloc (Below.refl wr.heap.size wr) _) ho7
        have hb7 : Below w.heap.size w w7 := (below_alloc hR.bel _).trans (ho7.below (Nat.le_trans hR.bel.size (by simp)) fun i hi e => by have := hR.an i e; omega)
        have hlM : ms.length + 1 = (ms ++ [Mg.mani 7 1 0 (.slice pa rows.length pc) (ptsAll L)]).length := by simp
        rw [show ms.map val ++ [val (.mani 7 1 0 (.slice pa rows.length pc) (ptsAll L))] = (ms ++ [Mg.mani 7 1 0 (.slice pa rows.length pc) (ptsAll L)]).map val by simp, hlM] at hs7
        have hrM : RS w7 1 (fun m => [val m]) v7 (ms ++ [Mg.mani 7 1 0 (.slice pa rows.length pc) (ptsAll L)]) := SL.rs (enc := fun m => [val m]) (fun _ => rfl) (by rw [flat_val]; exact hs7)
        generalize (ms ++ [Mg.mani 7 1 0 (.slice pa rows.length pc) (ptsAll L)]) = M at hA hrM
        clear hR hms ho7 hv7 hs7 hlM m0 m1 m2 m3
        obtain ⟨_, Ma, Mc, rfl, hMc⟩ := hrM
        obtain ⟨bM, oM, rfl, hbM, hcM⟩ := hMc hA.len.2
        obtain ⟨hMl, hMp⟩ := hA.len
        clear hMc
        go_wp2_with fail
        refine (new_any _ 7 1).mono ?_
        rintro e w8 ⟨ab, R, rfl, h8, hR8, hb8⟩
        have S8 : Stg w7 L ab (fun _ => False) w8 := ⟨none, [], ⟨R, h8, fun b hb => ⟨hR8 b hb, id⟩, hb8⟩, ⟨by simp, .inl rfl⟩, fun m h => h.elim⟩
        clear h8 hR8 hb8
        go_wp2
        go_loopw [129] (fun i wr => ∃ q : Nat, q ≤ os.length ∧ i = .int .i64 q ∧ Stg w7 L ab (fun _ => False) wr) (fun i _ => os.length - (intOf i).toNat)
        case atStart => exact ⟨0, Nat.zero_le _, rfl, S8⟩
        case round =>
          obtain ⟨q, hq, rfl, hS⟩ := hrel
          clear S8
          have hbS := hS.bel
          by_cases hqN : q < os.length
          · obtain ⟨x, hx⟩ : ∃ x, os[q]? = some x := ⟨_, List.getElem?_eq_getElem hqN⟩
            obtain ⟨x0, x1⟩ := hoQ _ (List.mem_of_getElem? hx)
            obtain ⟨_, a', c', hv, h2⟩ := hos.only (only_of_below (hb7.trans (hbS.mono hb7.size)) (fun _ => False)) (fun _ _ => id)
            obtain ⟨b1, o1, ha, hb1, hcl⟩ := h2 (by omega)
            simp only [Value.slice.injEq] at hv
            obtain ⟨rfl, _, rfl⟩ := hv
            subst ha
            have g0 : wr.cell? ⟨b1, o1 + q, none⟩ = some (.int .u8 x) := by have := hcl q _ 0 _ hx rfl; simpa using this
            obtain ⟨r, er, hr⟩ : ∃ r : Nat, x % (M.length : Int) = r ∧ r < M.length := ⟨(x % (M.length : Int)).toNat, by have := Int.emod_nonneg x (show (M.length : Int) ≠ 0 by omega); omega, by have := Int.emod_lt_of_pos x (show (0 : Int) < M.length by omega); omega⟩
            obtain ⟨m, hm⟩ : ∃ m, M[r]? = some m := ⟨_, List.getElem?_eq_getElem hr⟩
            have gm : wr.cell? ⟨bM, oM + r, none⟩ = some (val m) := by
              rw [hbS.cell (p := ⟨bM, oM + r, none⟩) hbM]
              have := hcM r m 0 _ hm rfl
              simpa using this
            have HH := hS.hear hA (List.mem_of_getElem? hm)
            clear hcl hx h2 hm
            generalize val m = mv at gm HH
            go_wp2_with fail
            with_reducible refine HH.mono ?_
            rintro e w9 ⟨⟨bv, rfl⟩, hS9, _⟩
            have hS10 := hS9.imp (P' := fun _ => False) (fun m h => h.elim)
            clear HH hS9 gm hS er
            go_wp2
            exact ⟨⟨q + 1, by omega, by go_num, hS10⟩, by simp [intOf]; omega⟩
          · have hqe : q = os.length := by omega
            subst hqe
            have hS0 : Stg w7 L ab (fun m => ∃ j, M.length - 0 ≤ j ∧ M[j]? = some m) wr := hS.imp (fun m ⟨j, h1, h2⟩ => by have := (List.getElem?_eq_some_iff.1 h2).1; omega)
            clear hS hbS
            go_wp2
            go_loopw [146] (fun i wr => ∃ q : Nat, q ≤ M.length ∧ i = .int .i64 q ∧ Stg w7 L ab (fun m => ∃ j, M.length - q ≤ j ∧ M[j]? = some m) wr) (fun i _ => M.length - (intOf i).toNat)
            case atStart => exact ⟨0, Nat.zero_le _, rfl, hS0⟩
            case round =>
              obtain ⟨q, hq, rfl, hS⟩ := hrel
              clear hS0
              by_cases hqN : q < M.length
              · obtain ⟨man, C, s1, s2, s3⟩ := hS
                go_wp2_with fail
                refine (s1.record rfl).mono ?_
                rintro e w9 ⟨⟨pv9, qs9, rfl, hp9, _⟩, hb9, s9⟩
                obtain ⟨a9, c9, rfl⟩ := hp9.1.form
                generalize recM 7 1 C man = r at *
                obtain ⟨r1, r2, r3, r4, r5, r6⟩ := r
                simp only
                clear hp9 hb9 s1
                go_wp2_with fail
                refine ((s9.step (below_alloc (Below.refl w9.heap.size w9) _)).missing rfl).mono ?_
                rintro e w10 ⟨v10, rfl, hr10, _, _, s10⟩
                obtain ⟨_, a10, c10, rfl, _⟩ := id hr10
                clear hr10 s9
                generalize missM 7 C man = l at *
                have hS10 : Stg w7 L ab (fun m => ∃ j, M.length - q ≤ j ∧ M[j]? = some m) w10 := ⟨man, C, s10, s2, s3⟩
                clear s10 s2 s3
                have hbS := hS10.bel
                have b0 : ((q : Int) == (M.length : Int)) = false := by simp; omega
                obtain ⟨i, hi⟩ : ∃ i : Nat, i = M.length - 1 - q := ⟨_, rfl⟩
                have e1 : (M.length : Int) - 1 - (q : Int) = (i : Int) := by omega
                have hiN : i < M.length := by omega
                obtain ⟨m, hm⟩ : ∃ m, M[i]? = some m := ⟨_, List.getElem?_eq_getElem hiN⟩
                have gm : w10.cell? ⟨bM, oM + i, none⟩ = some (val m) := by
                  rw [hbS.cell (p := ⟨bM, oM + i, none⟩) hbM]
                  have := hcM i m 0 _ hm rfl
                  simpa using this
                have HH := hS10.hear hA (List.mem_of_getElem? hm)
                have HI := Lib.hid (show ∀ x, (∃ j, M.length - (q + 1) ≤ j ∧ M[j]? = some x) → ((∃ j, M.length - q ≤ j ∧ M[j]? = some x) ∨ x = m) from fun x ⟨j, h1, h2⟩ => by
                  by_cases e : j = i
                  · subst e; rw [hm] at h2; cases h2; exact .inr rfl
                  · exact .inl ⟨j, by omega, h2⟩)
                clear hm hi hS10
                generalize val m = mv at gm HH
                rcases (show (l.length = 0 ∨ 0 < l.length) by omega) with hl | hl
                · have bl : ((l.length : Int) == 0) = true := by simp [hl]
                  clear hl
                  cases r6
                  all_goals (
                    go_wp2_with fail
                    with_reducible refine HH.mono ?_
                    rintro e w11 ⟨⟨bv, rfl⟩, hS11, _⟩
                    have hS12 := hS11.imp HI.out
                    clear HH hS11 gm e1
                    go_wp2
                    exact ⟨⟨q + 1, by omega, by go_num, hS12⟩, by simp [intOf]; omega⟩)
                · have bl : ((l.length : Int) == 0) = false := by rw [beq_eq_false_iff_ne]; omega
                  clear hl
                  cases r6
                  all_goals (
                    go_wp2_with fail
                    with_reducible refine HH.mono ?_
                    rintro e w11 ⟨⟨bv, rfl⟩, hS11, _⟩
                    have hS12 := hS11.imp HI.out
                    clear HH hS11 gm e1
                    go_wp2
                    exact ⟨⟨q + 1, by omega, by go_num, hS12⟩, by simp [intOf]; omega⟩)
              · have hqe : q = M.length := by omega
                subst hqe
                have hall : ∀ m ∈ M, ∃ j, M.length - M.length ≤ j ∧ M[j]? = some m := fun m hm => by
                  obtain ⟨j, hj⟩ := List.getElem?_of_mem hm
                  exact ⟨j, by omega, hj⟩
                have HR := hS.rec hA hall
                have hbS := hb7.trans (hS.bel.mono hb7.size)
                clear hS hall
                go_wp2_with fail
                refine HR.mono ?_
                rintro e w9 ⟨⟨pv9, qs9, rfl, hp9, hc9⟩, hb9⟩
                simp only [recAny] at hc9 ⊢
                obtain ⟨a9, c9, rfl⟩ := hp9.1.form
                have hbw := hbS.trans (hb9.mono hbS.size)
                have hql : qs9.length = rows.length := by have := congrArg List.length hc9; rw [List.length_map, List.length_mapIdx, HLL.out] at this; exact this
                have hp91 : SL w9.heap 69 4 (.slice a9 rows.length c9) rows.length (qs9.flatMap ePd) := by have := hp9.1; rw [hql] at this; exact this
                have hp92 := hp9.2
                rw [hql]
                have HQL := Lib.hid hql
                clear hp9 hql
                have hqs : ∀ (j : Nat) (d : Pd), qs9[j]? = some d → ∃ l, L[j]? = some l ∧ d.a = j ∧ d.sl = l ∧ d.l = false := fun j d hd => by
                  have h1 := congrArg (fun l => l[j]?) hc9
                  simp only [List.getElem?_map, List.getElem?_mapIdx, hd] at h1
                  cases hl : L[j]? with
                  | none => rw [hl] at h1; simp at h1
                  | some l =>
                    rw [hl] at h1
                    simp [con] at h1
                    exact ⟨l, rfl, h1.1, h1.2.1, h1.2.2.2⟩
                have bq : ((rows.length : Int) != (rows.length : Int)) = false := by simp
                have hA9 := below_alloc (Below.refl w9.heap.size w9) (.cells #[.int .i64 7, .int .i64 1, .int .i64 0, .bool true, .slice a9 rows.length c9] 50)
                clear hb9 hbS HR hc9
                go_wp2
                have hbW := hbw.trans (hA9.mono hbw.size)
                have hb9w : Below w9.heap.size w9 (w9.alloc (.cells #[.int .i64 7, .int .i64 1, .int .i64 0, .bool true, .slice a9 rows.length c9] 50)) := hA9
                generalize (w9.alloc (.cells #[.int .i64 7, .int .i64 1, .int .i64 0, .bool true, .slice a9 rows.length c9] 50)) = w10 at hbW hb9w ⊢
                clear hA9
                go_loopw [200] (fun i wr => ∃ q : Nat, q ≤ rows.length ∧ i = .int .i64 q ∧ Below w9.heap.size w9 wr) (fun i _ => rows.length - (intOf i).toNat)
                case atStart => exact ⟨0, Nat.zero_le _, rfl, hb9w⟩
                case round =>
                  obtain ⟨q, hq, rfl, hb⟩ := hrel
                  clear hb9w hbW
                  by_cases hqN : q < rows.length
                  · obtain ⟨d, hd⟩ : ∃ d, qs9[q]? = some d := ⟨_, List.getElem?_eq_getElem (by have := HQL.out; omega)⟩
                    obtain ⟨xs, hxs, ha, hsl, hdl⟩ := hqs q d hd
                    obtain ⟨hsv, hcv, _⟩ := hp92 d (List.mem_of_getElem? hd)
                    obtain ⟨b8, o8, c8, hv8, hb8, _⟩ := hp91.form' (by omega)
                    simp only [Value.slice.injEq] at hv8
                    obtain ⟨rfl, _, rfl⟩ := hv8
                    have k0 : wr.cell? ⟨b8, o8 + q * 4, none⟩ = some (.int .i64 q) := by
                      rw [hb.cell (p := ⟨b8, o8 + q * 4, none⟩) hb8, ← ha]
                      exact hp91.elem ePd_len hd (j := 0) rfl
                    have k1 : wr.cell? ⟨b8, o8 + q * 4 + 1, none⟩ = some d.sv := by
                      rw [hb.cell (p := ⟨b8, o8 + q * 4 + 1, none⟩) hb8, Nat.add_assoc]
                      exact hp91.elem ePd_len hd (j := 1) rfl
                    have k2 : wr.cell? ⟨b8, o8 + q * 4 + 2, none⟩ = some (.slice none 0 0) := by
                      rw [hb.cell (p := ⟨b8, o8 + q * 4 + 2, none⟩) hb8, Nat.add_assoc, ← hcv]
                      exact hp91.elem ePd_len hd (j := 2) rfl
                    have k3 : wr.cell? ⟨b8, o8 + q * 4 + 3, none⟩ = some (.bool false) := by
                      rw [hb.cell (p := ⟨b8, o8 + q * 4 + 3, none⟩) hb8, Nat.add_assoc, ← hdl]
                      exact hp91.elem ePd_len hd (j := 3) rfl
                    rw [hsl] at hsv
                    have hrd := SL.rs (enc := eSpn) eSpn_len hsv
                    obtain ⟨sa8, sc8, hsv8⟩ := hsv.form
                    rw [hsv8] at k1 hrd
                    have hbw2 := hbw.trans (hb.mono hbw.size)
                    obtain ⟨⟨rv, rl⟩, hx⟩ : ∃ x, rows[q]? = some x := ⟨_, List.getElem?_eq_getElem hqN⟩
                    have hxr := (hQ _ (List.mem_of_getElem? hx)).1
                    simp only at hxr
                    have hrl : rl = xs := by
                      have := HL.out
                      rw [this, List.getElem?_map, hx] at hxs
                      simpa using hxs
                    subst hrl
                    obtain ⟨_, ra2, rc2, rfl, _⟩ := id hxr
                    obtain ⟨_, a', c', hv, h2⟩ := hrs.only (only_of_below hbw2 (fun _ => False)) (fun _ _ => id)
                    obtain ⟨b0, o0, ha0, hb0, hcl⟩ := h2 (by omega)
                    simp only [Value.slice.injEq] at hv
                    obtain ⟨rfl, _, rfl⟩ := hv
                    subst ha0
                    have g0 : wr.cell? ⟨b0, o0 + q, none⟩ = some (.slice ra2 rl.length rc2) := by have := hcl q _ 0 _ hx rfl; simpa using this
                    have hA := below_alloc (Below.refl wr.heap.size wr) (.cells #[.int .i64 q, .slice sa8 rl.length sc8, .slice none 0 0, .bool false] 69)
                    have hbx := heap_new wr (.cells #[.int .i64 q, .slice sa8 rl.length sc8, .slice none 0 0, .bool false] 69) rfl
                    have g1 := cell_alloc g0 (.cells #[.int .i64 q, .slice sa8 rl.length sc8, .slice none 0 0, .bool false] 69)
                    have r1 := (hrd.only (only_of_below (below_trans' hA hb) (fun _ => False)) (fun _ _ => id))
                    have r2 := (hxr.only (only_of_below (hbw2.trans (hA.mono hbw2.size)) (fun _ => False)) (fun _ _ => id))
                    have hb11 := below_trans' hA hb
                    clear hcl hx h2 hd hsv hsv8 hrd hxr hxs ha hsl hdl hcv g0 hbw2
                    go_wp2
                    generalize (wr.alloc (.cells #[.int .i64 q, .slice sa8 rl.length sc8, .slice none 0 0, .bool false] 69)) = w12 at hA hbx g1 r1 r2 hb11 ⊢
                    have y0 : w12.cell? ⟨wr.heap.size, 0, none⟩ = some (.int .i64 q) := by simp [World.cell?, hbx]
                    have y1 : w12.cell? ⟨wr.heap.size, 1, none⟩ = some (.slice sa8 rl.length sc8) := by simp [World.cell?, hbx]
                    have bq2 : ((q : Int) != (q : Int)) = false := by simp
                    have HC : ∀ n, Calls Try.prog 28 #[.slice sa8 rl.length sc8, .slice ra2 rl.length rc2] (w12.drewN n) fun e w' => e = .returned (.bool true) ∧ ∃ m, w' = (w12.drewN n).drewN m := fun n =>
                      (same28_any (r1.heap (w' := w12.drewN n) rfl) (r2.heap (w' := w12.drewN n) rfl)).mono fun e w' ⟨h1, h2⟩ => ⟨by rw [h1, decide_eq_true rfl], h2⟩
                    clear hA hbx r1 r2 k0 k1 k2 k3
                    go_quiet ((go_at_call 28; exact Calls.quiet_of (HC _)))
                    have hb13 := belowN hb11 nq
                    generalize w12.drewN nq = w13 at hb13 ⊢
                    clear HC y0 y1 g1 hb11
                    go_wp2
                    exact ⟨⟨q + 1, by omega, by go_num, hb13⟩, by simp [intOf]; omega⟩
                  · have hqe : q = rows.length := by omega
                    subst hqe
                    have hbe := hbw.trans (hb.mono hbw.size)
                    go_wp2
                    go_ret
                    exact ⟨rfl, hbe⟩
  · have hcase : rows.length < 1 ∨ (¬ rows.length < 1 ∧ 4 < rows.length) ∨ (¬ rows.length < 1 ∧ ¬ 4 < rows.length ∧ 100 < os.length) := by omega
    clear hg
    rcases hcase with h1 | ⟨h1, h2⟩ | ⟨h1, h2, h3⟩
    · have b1 : decide ((rows.length : Int) < 1) = true := decide_eq_true (by omega)
      go_wp2_with fail
      refine (awake_any _).mono ?_
      rintro e w2 ⟨rfl, hb2⟩
      have hb3 := below_trans' hb2 hb1
      go_wp2
      go_ret
      exact ⟨rfl, hb3⟩
    · have b1 : decide ((rows.length : Int) < 1) = false := decide_eq_false (by omega)
      have b2 : decide (4 < (rows.length : Int)) = true := decide_eq_true (by omega)
      go_wp2_with fail
      refine (awake_any _).mono ?_
      rintro e w2 ⟨rfl, hb2⟩
      have hb3 := below_trans' hb2 hb1
      go_wp2
      go_ret
      exact ⟨rfl, hb3⟩
    · have b1 : decide ((rows.length : Int) < 1) = false := decide_eq_false (by omega)
      have b2 : decide (4 < (rows.length : Int)) = false := decide_eq_false (by omega)
      have b3 : decide (100 < (os.length : Int)) = true := decide_eq_true (by omega)
      go_wp2_with fail
      refine (awake_any _).mono ?_
      rintro e w2 ⟨rfl, hb2⟩
      have hb3 := below_trans' hb2 hb1
      go_wp2
      go_ret
      exact ⟨rfl, hb3⟩
end Go.Proofs.Ytcdjeblcmgghhaa.Asm
