/- AssembleAny, the plain part: once all chunks of the rows, and the manifest, were heard, in any order and more often, the record is these rows. No condition beyond those each lemma names. -/
import Derived.Test.YtcdjeblcmgghhaaAsmAwake
import Derived.Test.YtcdjeblcmgghhaaAsmMsg2
namespace Go.Sp
open Go.RowKit

def nOf (l : List Spn) : Nat := max ((l.length + 1) / 2) 1
def chOf (i : Nat) (l : List Spn) (k : Nat) : Chk := ⟨i, k, nOf l, (l.drop (2 * k)).take 2⟩
def InAll (rows : List (List Spn)) (c : Chk) : Prop := ∃ (i : Nat) (l : List Spn) (k : Nat), rows[i]? = some l ∧ k < nOf l ∧ c = chOf i l k
def ptOf (i : Nat) (l : List Spn) : Pt := ⟨i, 7, 1, l.length, .slice none 0 0, [], false⟩
def ptsAll (rows : List (List Spn)) : List Pt := rows.mapIdx ptOf
/-- a row that may be: at most 40 spans, each right, in order -/
def RowR (l : List Spn) : Prop := l.length ≤ 40 ∧ rowOk 7 l 0 = true ∧ ∀ x ∈ l, rightSp x = true ∧ x.1 = 7
/-- a message of the law's own -/
def GoodM (rows : List (List Spn)) : Mg → Prop
  | .chunk a t j i n _ xs => t = 7 ∧ j = 1 ∧ InAll rows ⟨a, i, n, xs⟩
  | .mani t j c _ ps => t = 7 ∧ j = 1 ∧ c = 0 ∧ ps = ptsAll rows
  | _ => False
def Heard (man : Option (Int × List Pt)) (C : List Chk) : Mg → Prop
  | .chunk a _ _ i n _ xs => (⟨a, i, n, xs⟩ : Chk) ∈ C
  | .mani _ _ _ _ _ => man ≠ none
  | _ => True
def Okst (rows : List (List Spn)) (man : Option (Int × List Pt)) (C : List Chk) : Prop := (∀ c ∈ C, InAll rows c) ∧ (man = none ∨ man = some (0, ptsAll rows))

theorem nOf_pos (l : List Spn) : 1 ≤ nOf l := by unfold nOf; omega
theorem nOf_le {l : List Spn} (h : l.length ≤ 40) : nOf l ≤ 20 := by unfold nOf; omega
theorem nOf_len (l : List Spn) : l.length ≤ 2 * nOf l := by unfold nOf; omega

section
variable {rows : List (List Spn)} {c d : Chk} {C : List Chk} {man : Option (Int × List Pt)} {m m' : Mg}
theorem InAll.eq (hc : InAll rows c) (hd : InAll rows d) (ha : c.a = d.a) (hi : c.i = d.i) : c = d := by
  obtain ⟨i, l, k, h1, h2, rfl⟩ := hc
  obtain ⟨i', l', k', h3, h4, rfl⟩ := hd
  simp only [chOf] at ha hi
  obtain rfl : i = i' := by omega
  obtain rfl : k = k' := by omega
  rw [h1] at h3; cases h3; rfl
theorem InAll.n (hc : InAll rows c) (hd : InAll rows d) (ha : c.a = d.a) : c.n = d.n := by
  obtain ⟨i, l, k, h1, h2, rfl⟩ := hc
  obtain ⟨i', l', k', h3, h4, rfl⟩ := hd
  simp only [chOf] at ha
  obtain rfl : i = i' := by omega
  rw [h1] at h3; cases h3; rfl
theorem keepC_all (hC : ∀ d ∈ C, InAll rows d) (hc : InAll rows c) : c ∈ keepC C c ∧ (∀ d ∈ C, d ∈ keepC C c) ∧ ∀ d ∈ keepC C c, InAll rows d := by
  cases hr : refuse C c with
  | false =>
    rw [keepC_false hr]
    refine ⟨by simp, fun d hd => by simp [hd], fun d hd => ?_⟩
    rcases List.mem_append.1 hd with hd | hd
    · exact hC d hd
    · rw [List.mem_singleton.1 hd]; exact hc
  | true =>
    rw [keepC_true hr]
    refine ⟨?_, fun d hd => hd, hC⟩
    unfold refuse at hr
    obtain ⟨d, hd, h⟩ := List.any_eq_true.1 hr
    simp only [Bool.and_eq_true, Bool.or_eq_true, decide_eq_true_eq] at h
    have hn := (hC d hd).n hc h.1
    have hi : d.i = c.i := by
      rcases h.2 with h2 | h2
      · exact absurd hn h2
      · exact h2
    rw [← (hC d hd).eq hc h.1 hi]
    exact hd
theorem any_step (ho : Okst rows man C) (hm : GoodM rows m) : Okst rows (hearMan man m) (hearC C m) ∧ Heard (hearMan man m) (hearC C m) m ∧ ∀ m', Heard man C m' → Heard (hearMan man m) (hearC C m) m' := by
  cases m with
  | chunk a t j i n v xs =>
    obtain ⟨h1, h2, h3⟩ := hm
    obtain ⟨g1, g2, g3⟩ := keepC_all ho.1 h3
    refine ⟨⟨g3, ho.2⟩, g1, fun m' h => ?_⟩
    cases m' <;> first | exact g2 _ h | exact h
  | mani t j c v ps =>
    obtain ⟨h1, h2, h3, h4⟩ := hm
    have hne : hearMan man (.mani t j c v ps) = some (0, ptsAll rows) := by
      rcases ho.2 with rfl | rfl
      · simp [hearMan, h3, h4]
      · simp [hearMan]
    rw [hne]
    refine ⟨⟨ho.1, .inr rfl⟩, by simp [Heard], fun m' h => ?_⟩
    cases m' <;> first | exact h | simp [Heard]
  | _ => exact hm.elim

theorem wi_ok {n lo hi : Int} (h1 : lo ≤ n) (h2 : n ≤ hi) : wi n lo hi = true := by rw [wi_true]; exact ⟨h1, h2⟩
theorem ptsAll_len : (ptsAll rows).length = rows.length := by simp [ptsAll]
theorem ptsAll_get {q : Nat} {p : Pt} (h : (ptsAll rows)[q]? = some p) : ∃ l, rows[q]? = some l ∧ p = ptOf q l := by
  unfold ptsAll at h
  rw [List.getElem?_mapIdx] at h
  obtain ⟨l, h1, h2⟩ := Option.map_eq_some_iff.1 h
  exact ⟨l, h1, h2.symm⟩
theorem agOk_range : ∀ (n k : Nat), k + n ≤ 4 → agOk ((k : Int) - 1) ((List.range' k n).map fun x : Nat => (x : Int)) = true
  | 0, k, _ => by simp [agOk]
  | n + 1, k, h => by
    have := agOk_range n (k + 1) (by omega)
    rw [List.range'_succ, List.map_cons]
    have e : ((k + 1 : Nat) : Int) - 1 = (k : Int) := by omega
    rw [e] at this
    unfold agOk
    simp only [this, Bool.and_true]
    simp; omega
theorem ptsAll_ag : (ptsAll rows).map (fun p => p.a) = (List.range' 0 rows.length).map fun x : Nat => (x : Int) := by
  apply List.ext_getElem?
  intro i
  simp only [ptsAll, List.getElem?_map, List.getElem?_mapIdx]
  rcases Nat.lt_or_ge i rows.length with h | h
  · rw [List.getElem?_eq_getElem h, List.getElem?_range' h]
    simp [ptOf]
  · rw [List.getElem?_eq_none h, List.getElem?_eq_none (by simp; exact h)]
    rfl
theorem any_ok (hr : ∀ l ∈ rows, RowR l) (h0 : 0 < rows.length) (h4 : rows.length ≤ 4) (hm : GoodM rows m) : hearOk 7 1 m = true := by
  cases m with
  | chunk a t j i n v xs =>
    obtain ⟨rfl, rfl, q, l, k, h1, h2, h3⟩ := hm
    simp only [chOf, Chk.mk.injEq] at h3
    obtain ⟨rfl, rfl, rfl, rfl⟩ := h3
    have hq : q < rows.length := (List.getElem?_eq_some_iff.1 h1).1
    have hl := hr l (List.mem_of_getElem? h1)
    have hn := nOf_le hl.1
    have hp := nOf_pos l
    have hx : (((l.drop (2 * k)).take 2).all fun x => rightSp x && decide (x.1 = 7)) = true := by
      rw [List.all_eq_true]
      intro x hx
      have := hl.2.2 x (List.mem_of_mem_drop (List.mem_of_mem_take hx))
      simp [this.1, this.2]
    simp only [hearOk, rightM, mT, mJ, hx, wi_ok (show (1 : Int) ≤ 7 by omega) (show (7 : Int) ≤ 65535 by omega), wi_ok (show (0 : Int) ≤ q by omega) (show (q : Int) ≤ 3 by omega), wi_ok (show (1 : Int) ≤ 1 by omega) (show (1 : Int) ≤ 1073741824 by omega),
      wi_ok (show (1 : Int) ≤ nOf l by omega) (show (nOf l : Int) ≤ 500 by omega), wi_ok (show (0 : Int) ≤ k by omega) (show (k : Int) ≤ (nOf l : Int) - 1 by omega)]
    simp [List.length_take]; omega
  | mani t j c v ps =>
    obtain ⟨rfl, rfl, rfl, rfl⟩ := hm
    have h1 : ((ptsAll rows).all fun p => rightP p && (decide (p.t = 7) && decide (p.j = 1))) = true := by
      rw [List.all_eq_true]
      intro p hp
      obtain ⟨q, hq⟩ := List.getElem?_of_mem hp
      obtain ⟨l, h1, rfl⟩ := ptsAll_get hq
      have hq' : q < rows.length := (List.getElem?_eq_some_iff.1 h1).1
      have hl := (hr l (List.mem_of_getElem? h1)).1
      simp only [ptOf, rightP, wi_ok (show (1 : Int) ≤ 7 by omega) (show (7 : Int) ≤ 65535 by omega), wi_ok (show (0 : Int) ≤ q by omega) (show (q : Int) ≤ 3 by omega), wi_ok (show (1 : Int) ≤ 1 by omega) (show (1 : Int) ≤ 1073741824 by omega),
        wi_ok (show (0 : Int) ≤ l.length by omega) (show (l.length : Int) ≤ 1000 by omega)]
      simp [agOk]
    have h2 := agOk_range rows.length 0 (by omega)
    rw [← ptsAll_ag] at h2
    have h3 : agOk (-1) ((ptsAll rows).map fun p => p.a) = true := by simpa using h2
    simp only [hearOk, rightM, mT, mJ, partsOk, h1, h3, ptsAll_len]
    simp [wi, h0]
  | _ => exact hm.elim

theorem any_partL (ho : ∀ c ∈ C, InAll rows c) {i : Nat} {l : List Spn} (hl : rows[i]? = some l) (hall : ∀ k, k < nOf l → chOf i l k ∈ C) : partL C i = some l := by
  have hp := nOf_pos l
  unfold partL
  cases hf : C.find? (fun c => decide (c.a = (i : Int))) with
  | none =>
    have := List.find?_eq_none.1 hf _ (hall 0 (by omega))
    simp [chOf] at this
  | some c0 =>
    have h1 := List.mem_of_find?_eq_some hf
    have h2 : c0.a = i := by have := List.find?_some hf; simpa using this
    have h3 : c0.n = nOf l := (ho c0 h1).n (ho _ (hall 0 (by omega))) h2
    have h4 : c0.n.toNat = nOf l := by rw [h3]; simp
    have hat : ∀ k, k < nOf l → chkAt C i k = some (chOf i l k) := fun k hk => by
      unfold chkAt
      cases hg : C.find? (fun c => decide (c.a = (i : Int)) && decide (c.i = (k : Int))) with
      | none =>
        have := List.find?_eq_none.1 hg _ (hall k hk)
        simp [chOf] at this
      | some c =>
        have g1 := List.mem_of_find?_eq_some hg
        have g2 := List.find?_some hg
        simp only [Bool.and_eq_true, decide_eq_true_eq] at g2
        rw [(ho c g1).eq (ho _ (hall k hk)) g2.1 g2.2]
    simp only [h4]
    have hA : (List.range (nOf l)).all (fun k : Nat => (chkAt C i k).isSome) = true := by
      rw [List.all_eq_true]
      intro k hk
      rw [hat k (List.mem_range.1 hk)]; rfl
    rw [hA]
    simp only [cond_true]
    have hM : ∀ n, n ≤ nOf l → ((List.range n).flatMap fun k : Nat => ((chkAt C i k).map (fun c => c.xs)).getD []) = l.take (2 * n) := fun n => by
      induction n with
      | zero => intro _; simp
      | succ n ih =>
        intro hn
        rw [List.range_succ, List.flatMap_append, ih (by omega), List.flatMap_cons, List.flatMap_nil, List.append_nil, hat n (by omega)]
        simp only [Option.map_some, Option.getD_some, chOf]
        rw [show 2 * (n + 1) = 2 * n + 2 from by omega, List.take_add]
    rw [hM _ (Nat.le_refl _), List.take_of_length_le (nOf_len l)]
theorem any_part (ho : ∀ c ∈ C, InAll rows c) (hr : ∀ l ∈ rows, RowR l) {i : Nat} {l : List Spn} (hl : rows[i]? = some l) (hall : ∀ k, k < nOf l → chOf i l k ∈ C) : partR 7 C i l.length = (l, true) := by
  unfold partR
  rw [any_partL ho hl hall]
  simp [(hr l (List.mem_of_getElem? hl)).2.1]
/-- the record -/
def recAny (rows : List (List Spn)) : Rec := (7, 1, 0, true, rows.mapIdx (fun i l => ((i : Int), l, [], false)), true)
theorem any_rec (ho : Okst rows man C) (hr : ∀ l ∈ rows, RowR l) (hman : man ≠ none) (hall : ∀ i l k, rows[i]? = some l → k < nOf l → chOf i l k ∈ C) : recM 7 1 C man = recAny rows := by
  have hm : man = some (0, ptsAll rows) := ho.2.resolve_left hman
  subst hm
  have hP : ∀ p ∈ ptsAll rows, (partR 7 C p.a p.n).2 = true := fun p hp => by
    obtain ⟨q, hq⟩ := List.getElem?_of_mem hp
    obtain ⟨l, h1, rfl⟩ := ptsAll_get hq
    simp only [ptOf]
    rw [any_part ho.1 hr h1 (fun k hk => hall q l k h1 hk)]
  have hmiss : missL 7 C (ptsAll rows) = [] := by
    unfold missL
    rw [List.map_eq_nil_iff, List.filter_eq_nil_iff]
    intro p hp
    simp [hP p hp]
  have hw : wholeL (ptsAll rows) = true := by
    unfold wholeL
    rw [List.all_eq_true]
    intro p hp
    obtain ⟨q, hq⟩ := List.getElem?_of_mem hp
    obtain ⟨l, h1, rfl⟩ := ptsAll_get hq
    rfl
  have hc : conL 7 C (ptsAll rows) = rows.mapIdx (fun i l => ((i : Int), l, [], false)) := by
    apply List.ext_getElem?
    intro i
    simp only [conL, ptsAll, List.getElem?_map, List.getElem?_mapIdx]
    cases h1 : rows[i]? with
    | none => rfl
    | some l =>
      simp only [Option.map_some, ptOf]
      rw [any_part ho.1 hr h1 (fun k hk => hall i l k h1 hk)]
  simp only [recM, hmiss, hw, hc, recAny]
  rfl
end
end Go.Sp
