/- The assembler and the reference's side by side: what both hear. Conditions: they lie in memory as St and Wr say. -/
import Derived.Test.YtcdjeblcmgghhaaAsr7
import Derived.Test.YtcdjeblcmgghhaaAsmNil
namespace Go.Sp
open Go.RowKit
theorem keepC_len (C : List Chk) (c : Chk) : (keepC C c).length ≤ C.length + 1 := by
  cases h : refuse C c with
  | true => rw [keepC_true h]; omega
  | false => rw [keepC_false h]; simp
theorem hearC_len (C : List Chk) (m : Mg) : (hearC C m).length ≤ C.length + 1 := by
  cases m <;> first | exact Nat.le_succ _ | exact keepC_len _ _
theorem recM_len {t j : Int} {C : List Chk} {man : Option (Int × List Pt)} (h : ∀ x, man = some x → x.2.length ≤ 4) : (recM t j C man).2.2.2.2.1.length ≤ 4 := by
  cases man with
  | none => simp [recM]
  | some x =>
    have := h x rfl
    by_cases hd : 0 < (missL t C x.2).length
    · simp only [recM, decide_eq_true hd, cond_true]; simp
    · simp only [recM, decide_eq_false hd, cond_false]; simp [conL]; exact this
/-- a chunk's spans, and what else the reference asks of a message -/
def Base0 (w0 : World) : Mg → Prop
  | .chunk _ _ _ _ _ sv xs => RS w0 3 eSpn sv xs
  | .mani _ _ _ _ ps => ps.length ≤ 1000000
  | _ => True
end Go.Sp
namespace Go.Proofs.Ytcdjeblcmgghhaa.Asm
open Go.RowKit Go.Sp Msg Go.Sort

theorem St.hears {w0 w : World} {K : Nat → Prop} {ab : Nat} {t j : Int} {man : Option (Int × List Pt)} {C : List Chk} {m : Mg} (h : St w0 w K ab t j man C) (hKl : ∀ b, K b → b < w.heap.size) (hm : InMem w m) (hs : Small m) (hR : hearOk t j m = true → MOwn (fun b => w0.heap.size ≤ b ∧ ¬ K b) m) (hnc : NoCr m) :
    Calls Try.prog 17 #[.pointer (some ⟨ab, 0, none⟩), val m] w fun e w'' => e = .returned (.bool (hearOk t j m && hearB man C m)) ∧ St w0 w'' K ab t j (bif hearOk t j m then hearMan man m else man) (bif hearOk t j m then hearC C m else C) ∧ Only (fun b => w0.heap.size ≤ b ∧ ¬ K b) w w'' := by
  obtain ⟨R, h1, hR1, hbl⟩ := h
  have H : Calls Try.prog 17 #[.pointer (some ⟨ab, 0, none⟩), val m] w fun e w' => e = .returned (.bool (hearOk t j m && hearB man C m)) ∧ HOut w R ab t j (bif hearOk t j m then hearMan man m else man) (bif hearOk t j m then hearC C m else C) w' := by
    cases hok : hearOk t j m with
    | false => exact hear_no h1 hm hs hok
    | true =>
      have := hear_any h1 hm hs (MOwn.mono (hR hok) fun b hb => hR1 b hb) hnc
      rw [hok] at this
      exact this
  refine H.mono ?_
  rintro e w'' ⟨rfl, R', h3, hR', hO⟩
  refine ⟨rfl, ⟨R', h3, fun b hb => ?_, hbl.trans (hO.below hbl.size fun i hi e => by have := (hR1 i e).1; omega)⟩, hO.mono fun b _ hb => hR1 b hb⟩
  rcases hR' b hb with h | h
  · exact hR1 b h
  · exact ⟨Nat.le_trans hbl.size h, fun e => by have := hKl b e; omega⟩
theorem St.only {w0 w w' : World} {K F : Nat → Prop} {ab : Nat} {t j : Int} {man : Option (Int × List Pt)} {C : List Chk} (h : St w0 w K ab t j man C) (o : Only F w w') (hF : ∀ b, F b → K b) (hb : Below w0.heap.size w0 w') : St w0 w' K ab t j man C := by
  obtain ⟨R, h1, hR1, _⟩ := h
  exact ⟨R, h1.only o (fun b hb e => (hR1 b hb).2 (hF b e)), hR1, hb⟩

/-- what the reference hears -/
theorem wHears {w0 w : World} {Rw : Nat → Prop} {wb : Nat} {t j : Int} {man : Option (Int × List Pt)} {C : List Chk} {M : Ms} {cv : Value} {Cs : List (Chk × Value)} {m : Mg} {pv' : Value}
    (h : Wr w0 w Rw wb t j man C M cv Cs) (hl : LikeIn w pv' m) (hf : ∃ x y z, pv' = .slice x y z) (h0 : Base0 w0 m) (hnc : NoCr m) (hpv : ∀ g, pv'.ownBlock = some g → w0.heap.size ≤ g) (hCl : C.length ≤ 1000) :
    Calls Try.prog 18 #[.pointer (some ⟨wb, 0, none⟩), .agg (eMs (likeM pv' m)).toArray] w fun e w' => e = .returned (.bool (hearOk t j m && hearB man C m)) ∧
      ∃ Rw' M' cv' Cs', Wr w0 w' Rw' wb t j (bif hearOk t j m then hearMan man m else man) (bif hearOk t j m then hearC C m else C) M' cv' Cs' ∧ (∀ b, Rw' b → Rw b ∨ w.heap.size ≤ b ∨ pv'.ownBlock = some b) ∧ Only Rw w w' := by
  have k0 := h.cell (q := 0) (u := .int .i64 t) rfl
  have k1 := h.cell (q := 1) (u := .int .i64 j) rfl
  have no : ∀ {X : Array Value}, (hearOk t j m && hearB man C m) = false → (hearOk t j m = true → hearMan man m = man ∧ hearC C m = C) →
      Calls Try.prog 18 #[.pointer (some ⟨wb, 0, none⟩), .agg X] w (fun e w' => e = .returned (.bool false) ∧ Below w.heap.size w w') →
      Calls Try.prog 18 #[.pointer (some ⟨wb, 0, none⟩), .agg X] w fun e w' => e = .returned (.bool (hearOk t j m && hearB man C m)) ∧
        ∃ Rw' M' cv' Cs', Wr w0 w' Rw' wb t j (bif hearOk t j m then hearMan man m else man) (bif hearOk t j m then hearC C m else C) M' cv' Cs' ∧ (∀ b, Rw' b → Rw b ∨ w.heap.size ≤ b ∨ pv'.ownBlock = some b) ∧ Only Rw w w' := fun hb hk hc => hc.mono fun e w' ⟨h1, h2⟩ => by
    refine ⟨by rw [hb]; exact h1, Rw, M, cv, Cs, ?_, fun b hb => .inl hb, only_of_below h2 _⟩
    cases ho : hearOk t j m with
    | false => exact h.below h2
    | true => simp only [cond_true]; rw [(hk ho).1, (hk ho).2]; exact h.below h2
  have hr : ∀ w', Below w.heap.size w w' → Calls Try.prog 59 #[.agg (eMs (likeM pv' m)).toArray] w' fun e w'' => e = .returned (.bool (rightM m)) ∧ Below w'.heap.size w' w'' := fun w' hb => r59_any (hl.below hb)
  have nf : ∃ x y z, (Value.slice none 0 0) = .slice x y z := ⟨_, _, _, rfl⟩
  cases m with
  | chunk a t2 j2 i n sv xs =>
    have hd : RS w0 3 eSpn sv xs := h0
    have hfs : ∃ x y z, sv = .slice x y z := by obtain ⟨_, a, c, e, _⟩ := hd; exact ⟨_, _, _, e⟩
    by_cases hok : rightM (.chunk a t2 j2 i n sv xs) = true ∧ t2 = t ∧ j2 = j
    · obtain ⟨h1, rfl, rfl⟩ := hok
      obtain ⟨_, sa, sc, rfl, _⟩ := id hd
      have ho : hearOk t2 j2 (.chunk a t2 j2 i n (.slice sa xs.length sc) xs) = true := by unfold hearOk; rw [h1]; simp [mT, mJ]
      rw [ho]
      refine (wHear_chunk h hd h1 hCl).mono ?_
      rintro e w' ⟨he, Rw', cv', Cs', f1, f2, f3⟩
      exact ⟨he, Rw', M, cv', Cs', f1, fun b hb => (f2 b hb).imp id .inl, f3⟩
    · have ho : hearOk t j (.chunk a t2 j2 i n sv xs) = false := by
        rw [Bool.eq_false_iff]
        intro e
        simp only [hearOk, mT, mJ, Bool.and_eq_true] at e
        exact hok ⟨e.1, of_decide_eq_true e.2.1, of_decide_eq_true e.2.2⟩
      refine no (by rw [ho]; rfl) (fun e => by rw [ho] at e; cases e) (wHear_no k0 k1 ⟨w, Below.refl _ _, trivial⟩ nf nf hfs hr ?_)
      by_cases e1 : rightM (.chunk a t2 j2 i n sv xs) = true
      · by_cases e2 : t2 = t
        · exact .inr (.inr (.inr fun e3 => hok ⟨e1, e2, e3⟩))
        · exact .inr (.inr (.inl e2))
      · exact .inl (by simpa using e1)
  | mani t2 j2 c pv ps =>
    by_cases hok : rightM (.mani t2 j2 c pv ps) = true ∧ t2 = t ∧ j2 = j
    · obtain ⟨h1, rfl, rfl⟩ := hok
      have ho : hearOk t2 j2 (.mani t2 j2 c pv ps) = true := by unfold hearOk; rw [h1]; simp [mT, mJ]
      have hl' : SL w.heap 30 6 pv' ps.length (ps.flatMap ePt) ∧ ∀ p ∈ ps, RS w 1 eInt p.cv p.cl := hl
      obtain ⟨pa, pc, rfl⟩ := hl'.1.form
      have hps : ps.length ≤ 4 := by
        have e : (wi t2 1 65535 && (wi j2 1 1073741824 && (wi c 0 3 && partsOk t2 j2 ps))) = true := h1
        simp only [Bool.and_eq_true] at e
        have e2 := e.2.2.2
        unfold partsOk at e2
        simp only [Bool.and_eq_true] at e2
        simpa using agOk_len e2.2.2
      rw [ho]
      refine (wHear_mani (pv := pv) h hl h1 hps hnc hpv).mono ?_
      rintro e w' ⟨he, Rw', M', f1, f2, f3⟩
      exact ⟨he, Rw', M', cv, Cs, f1, fun b hb => (f2 b hb).imp id .inr, f3⟩
    · have ho : hearOk t j (.mani t2 j2 c pv ps) = false := by
        rw [Bool.eq_false_iff]
        intro e
        simp only [hearOk, mT, mJ, Bool.and_eq_true] at e
        exact hok ⟨e.1, of_decide_eq_true e.2.1, of_decide_eq_true e.2.2⟩
      refine no (by rw [ho]; rfl) (fun e => by rw [ho] at e; cases e) (wHear_no k0 k1 ⟨w, Below.refl _ _, trivial⟩ nf hf nf hr ?_)
      by_cases e1 : rightM (.mani t2 j2 c pv ps) = true
      · by_cases e2 : t2 = t
        · exact .inr (.inr (.inr fun e3 => hok ⟨e1, e2, e3⟩))
        · exact .inr (.inr (.inl e2))
      · exact .inl (by simpa using e1)
  | pinned p =>
    have hd : RS w 1 eInt p.cv p.cl := hl
    have hfs : ∃ x y z, p.cv = .slice x y z := by obtain ⟨_, a, c, e, _⟩ := hd; exact ⟨_, _, _, e⟩
    exact no (by simp [hearB]) (fun _ => ⟨rfl, rfl⟩) (wHear_no k0 k1 ⟨w, Below.refl _ _, trivial⟩ hfs nf nf hr (.inr (.inl ⟨by simp [likeM], by simp [likeM]⟩)))
  | none => exact no (by simp [hearB]) (fun _ => ⟨rfl, rfl⟩) (wHear_no k0 k1 ⟨w, Below.refl _ _, trivial⟩ nf nf nf hr (.inr (.inl ⟨by simp [likeM], by simp [likeM]⟩)))
  | trig a t c => exact no (by simp [hearB]) (fun _ => ⟨rfl, rfl⟩) (wHear_no k0 k1 ⟨w, Below.refl _ _, trivial⟩ nf nf nf hr (.inr (.inl ⟨by simp [likeM], by simp [likeM]⟩)))
  | pin t j => exact no (by simp [hearB]) (fun _ => ⟨rfl, rfl⟩) (wHear_no k0 k1 ⟨w, Below.refl _ _, trivial⟩ nf nf nf hr (.inr (.inl ⟨by simp [likeM], by simp [likeM]⟩)))
  | gone a t j => exact no (by simp [hearB]) (fun _ => ⟨rfl, rfl⟩) (wHear_no k0 k1 ⟨w, Below.refl _ _, trivial⟩ nf nf nf hr (.inr (.inl ⟨by simp [likeM], by simp [likeM]⟩)))
  | coll t j => exact no (by simp [hearB]) (fun _ => ⟨rfl, rfl⟩) (wHear_no k0 k1 ⟨w, Below.refl _ _, trivial⟩ nf nf nf hr (.inr (.inl ⟨by simp [likeM], by simp [likeM]⟩)))
  | stor t j => exact no (by simp [hearB]) (fun _ => ⟨rfl, rfl⟩) (wHear_no k0 k1 ⟨w, Below.refl _ _, trivial⟩ nf nf nf hr (.inr (.inl ⟨by simp [likeM], by simp [likeM]⟩)))
  | unp t j => exact no (by simp [hearB]) (fun _ => ⟨rfl, rfl⟩) (wHear_no k0 k1 ⟨w, Below.refl _ _, trivial⟩ nf nf nf hr (.inr (.inl ⟨by simp [likeM], by simp [likeM]⟩)))
  | unpd a t j => exact no (by simp [hearB]) (fun _ => ⟨rfl, rfl⟩) (wHear_no k0 k1 ⟨w, Below.refl _ _, trivial⟩ nf nf nf hr (.inr (.inl ⟨by simp [likeM], by simp [likeM]⟩)))
end Go.Proofs.Ytcdjeblcmgghhaa.Asm
