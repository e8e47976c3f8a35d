/- What the pool's Spans and Drop say and do. Conditions: it lies in memory as Prep says, its buffers are linked as Pinv says. -/
import Derived.Test.YtniggacgkhkgiaaPool2
namespace Go.Sp
open Go.RowKit
theorem eBf_cont {b : Bf} (h : b.n ≤ 3) : ∃ s, eBf b = (cont b).flatMap eSpn ++ s := by
  obtain ⟨a, b, c, n⟩ := b
  simp only at h
  match n, h with
  | 0, _ => exact ⟨_, rfl⟩
  | 1, _ => exact ⟨_, rfl⟩
  | 2, _ => exact ⟨_, rfl⟩
  | 3, _ => exact ⟨_, rfl⟩
theorem eSpn_len3 (x : Spn) : (eSpn x).length = 3 := rfl
theorem eSpn_one (l : List Spn) : ∀ u ∈ l.flatMap eSpn, u.oneCell' = true := fun u hu => by
  obtain ⟨x, _, hx⟩ := List.mem_flatMap.1 hu
  simp only [eSpn, List.mem_cons, List.not_mem_nil, or_false] at hx
  rcases hx with rfl | rfl | rfl <;> rfl
/-- every buffer of a chain holds something -/
theorem chOk_pos {bf : List Bf} {l : List Int} (h : chOk bf l) : ∀ i ∈ l, 1 ≤ (bufAt bf i).n := fun i hi => by
  obtain ⟨l', j, rfl, h1, h2⟩ := h
  rcases List.mem_append.1 hi with e | e
  · have := h1 i e; omega
  · simp at e; rw [e]; exact h2
end Go.Sp
namespace Go.Proofs.Ytniggacgkhkgiaa.Pool
open Go.RowKit Go.Sp Msg
theorem slice_arr (w : World) (b o : Nat) {n : Nat} (h : n ≤ 3) : (Instr.sliceAt 193 (.pointer (some ⟨b, o, none⟩)) none (some (.int .i64 (n : Int))) none).run Try.prog w = .ok (.slice (some ⟨b, o, none⟩) n 3) w := by
  have hal : Try.prog.arrayLen 193 = 3 := by kernel_rfl
  have hsz : (sizeOf (Try.prog.elem 193)).run Try.prog w = .ok 3 w := by kernel_rfl
  rw [run_sliceAt_array_h w 193 _ (by kernel_rfl) .i64 (n : Int) (by omega) (by rw [hal]; omega), hal, hsz]
  simp [slicedAt, Result.andThen, Addr.add]
section
variable {w w1 w2 : World} {R : Nat → Prop} {pb bb mb N : Nat} {fv : Value} {bf : List Bf} {fr : List Int} {m : Rows}

set_option maxRecDepth 100000 in
set_option maxHeartbeats 2000000 in
theorem spans_any (h : Prep w R pb bb mb fv bf fr m) (hI : Pinv N bf fr (mS m)) (k : Int) : Calls Try.prog 104 #[.pointer (some ⟨pb, 0, none⟩), .int .i64 k] w fun e w' => ∃ v, e = .returned v ∧ SL w'.heap 89 3 v (spOf bf (lgetA k (mS m))).length ((spOf bf (lgetA k (mS m))).flatMap eSpn) ∧ (∀ g, v.ownBlock = some g → w.heap.size ≤ g) ∧ Below w.heap.size w w' := by
  obtain ⟨io, zo, hio, hzo, ho1, ho2, ho3⟩ := info_at (P := Try.prog) (e := 89) (f := (3, 32, 3)) (by kernel_rfl)
  obtain ⟨v0, l, hl, hsl, hvR, rfl, hk, _⟩ := h.look k
  have hl0 := hl w rfl
  have h48 := hI.sp48 k
  have hsm := hI.small k
  have h16 := hI.n16
  have hrg : ∀ i ∈ lgetA k (mS m), 0 ≤ i ∧ i < (N : Int) ∧ 1 ≤ (bufAt bf i).n := fun i hi => by
    obtain ⟨l2, e2, hm2⟩ := mem_lgetA hi
    have h1 := hI.rg i (List.mem_append_right _ (mem_chAll e2 hm2))
    exact ⟨h1.1, h1.2, chOk_pos (hI.ok _ _ e2) i hm2⟩
  obtain ⟨L, hL⟩ : ∃ L, L = lgetA k (mS m) := ⟨_, rfl⟩
  rw [← hL] at hsl h48 hsm hrg ⊢
  obtain ⟨va, vc, rfl⟩ := hsl.form
  have c2 := h.c2
  have hN := hI.hN
  clear hl hk hL
  go_enter Try.func104, Try.ntmps104
  go_wp2
  clear hl0 c2
  go_loopw [17, 4] (fun i v wr => ∃ q : Nat, q ≤ L.length ∧ i = .int .i64 q ∧ SL wr.heap 89 3 v (spOf bf (L.take q)).length ((spOf bf (L.take q)).flatMap eSpn) ∧ (∀ g, v.ownBlock = some g → w.heap.size ≤ g) ∧ Below w.heap.size w wr) (fun i _ _ => L.length - (intOf i).toNat)
  case atStart => exact ⟨0, Nat.zero_le _, rfl, SL.nil _ _ _, fun g hg => by simp [Value.ownBlock] at hg, Below.refl _ _⟩
  case round =>
    obtain ⟨q, hq, rfl, hs, hn, hb⟩ := hrel
    by_cases hqN : q < L.length
    · obtain ⟨i, hi⟩ : ∃ i, L[q]? = some i := ⟨_, List.getElem?_eq_getElem hqN⟩
      obtain ⟨h0, h1, h2⟩ := hrg i (List.mem_of_getElem? hi)
      obtain ⟨n, rfl⟩ : ∃ n : Nat, i = n := ⟨i.toNat, by omega⟩
      have h3 := hI.bn (n : Int)
      have hP := h.below hb
      have hslr := hsl.only (only_of_below hb (fun _ => False)) (fun _ _ => id)
      obtain ⟨vb, vo, vcap, ev, _⟩ := hsl.form' (by omega)
      simp only [Value.slice.injEq] at ev
      obtain ⟨rfl, _, rfl⟩ := ev
      have g0 : wr.cell? ⟨vb, vo + q, none⟩ = some (.int .i64 (n : Int)) := hslr.cell (j := q) (u := .int .i64 (n : Int)) (by rw [List.getElem?_map, hi]; rfl)
      have hnb : n < bf.length := by rw [hN]; omega
      have hbn : bf[n]? = some (bufAt bf (n : Int)) := by unfold bufAt; rw [Int.toNat_natCast, List.getD_eq_getElem?_getD, List.getElem?_eq_getElem hnb]; rfl
      have c0 := hP.c0
      have hT : L.take (q + 1) = L.take q ++ [(n : Int)] := by rw [List.take_add_one, hi]; rfl
      have hTS : spOf bf (L.take (q + 1)) = spOf bf (L.take q) ++ cont (bufAt bf (n : Int)) := by rw [hT, spOf_append, spOf_one]
      have hle : (spOf bf (L.take (q + 1))).length ≤ 48 := by
        have : L = L.take (q + 1) ++ L.drop (q + 1) := (List.take_append_drop _ _).symm
        rw [this, spOf_append, List.length_append] at h48
        omega
      have hcl := cont_len h3
      rw [hTS, List.length_append, hcl] at hle
      obtain ⟨s, hes⟩ := eBf_cont h3
      have hcell : ∀ j u, ((cont (bufAt bf (n : Int))).flatMap eSpn)[j]? = some u → wr.cell? ((⟨bb, n * 10, none⟩ : Addr).add j) = some u := fun j u hu => by
        rw [Addr.add_lit]
        exact hP.buf hbn (by rw [hes, List.getElem?_append_left (List.getElem?_eq_some_iff.1 hu).1]; exact hu)
      have g9 : wr.cell? ⟨bb, n * 10 + 9, none⟩ = some (.int .i64 ((bufAt bf (n : Int)).n : Int)) := hP.buf hbn rfl
      have hfl : ((cont (bufAt bf (n : Int))).flatMap eSpn).length = (bufAt bf (n : Int)).n * 3 := by rw [flat_length eSpn_len3, hcl]
      have HTS := Lib.hid (And.intro hTS hcl)
      generalize spOf bf (L.take q) = S at hs hle HTS
      generalize cont (bufAt bf (n : Int)) = C at HTS hcell hfl hcl
      generalize (bufAt bf (n : Int)).n = bn at h2 h3 hle hfl g9 HTS hcl
      obtain ⟨sa, sc, rfl⟩ := hs.form
      have hCc := eSpn_one C
      clear hes hbn hi hrg hT hTS hcl hslr hsl hI hP h48
      generalize bf.length = bl at c0 hnb hN
      go_wp2
      have hsD := hs.drew
      have hcD : ∀ j u, (C.flatMap eSpn)[j]? = some u → wr.drew.cell? ((⟨bb, n * 10, none⟩ : Addr).add j) = some u := hcell
      have hSl := fun w2 => slice_arr w2 bb (n * 10) (show bn ≤ 3 by omega)
      go_region_law
        ((refine step_appd (v := .slice sa S.length sc) rfl _ _ _ rfl Try.underlying35 hio hzo ho1 ho2 ho3 rfl hsD (by omega) (m := bn) (news := C.flatMap eSpn) rfl hfl hcD hCc (by unfold maxLen; omega) (by omega) rfl ?_; intro b8 o8 c8 w8 hs8 ho8 hv8))
      all_goals (
        have hB8 : Below w.heap.size w w8 := (hb.drew).trans (ho8.below (hb.drew).size fun i hi e => by have := hn i e; omega)
        have hn8 : ∀ g, (Value.slice (some ⟨b8, o8, none⟩) (S.length + bn) c8).ownBlock = some g → w.heap.size ≤ g := fun g hg => by
          simp [Value.ownBlock] at hg
          subst hg
          rcases hv8 with e | e
          · exact hn _ e
          · have := (hb.drew).size; omega
        have hs9 : SL w8.heap 89 3 (.slice (some ⟨b8, o8, none⟩) (S.length + bn) c8) (S ++ C).length ((S ++ C).flatMap eSpn) := by
          rw [List.length_append, HTS.out.2, List.flatMap_append]; exact hs8
        clear ho8 hv8 hs hn hb g0 c0 g9 hs8 hcell hcD hsD hSl
        go_wp2
        exact ⟨⟨q + 1, by omega, by go_num, by rw [HTS.out.1]; exact hs9, hn8, hB8⟩, by simp [intOf]; omega⟩)
    · have hqe : q = L.length := by omega
      rw [hqe, List.take_length] at hs
      clear hqe
      go_wp2
      go_ret
      exact ⟨_, rfl, hs, hn, hb⟩

set_option maxRecDepth 100000 in
set_option maxHeartbeats 2000000 in
theorem drop_any (h : Prep w R pb bb mb fv bf fr m) (hI : Pinv N bf fr (mS m)) (k : Int) : Calls Try.prog 122 #[.pointer (some ⟨pb, 0, none⟩), .int .i64 k] w fun e w' => e = .returned (.int .i64 (lgetA k (mS m)).length) ∧ ∃ fv' R', Prep w' R' pb bb mb fv' bf (fr ++ lgetA k (mS m)) (mdel k m) ∧ (∀ b, R' b → R b ∨ w.heap.size ≤ b) ∧ Only R w w' := by
  obtain ⟨io, zo, hio, hzo, ho1, ho2, ho3⟩ := info_at (P := Try.prog) (e := 3) (f := (1, 8, 1)) (by kernel_rfl)
  obtain ⟨v0, l, hl, hsl, hvR, rfl, hk, hvp, hvm, hvb, hvf, hvd⟩ := h.look k
  have hl0 := hl w rfl
  have hsm := hI.small k
  have h16 := hI.n16
  have hfr := hI.frlen
  obtain ⟨L, hL⟩ : ∃ L, L = lgetA k (mS m) := ⟨_, rfl⟩
  rw [← hL] at hsl hsm ⊢
  have hr := SL.rs (enc := eInt) (size := 1) (fun _ => rfl) (show SL w.heap 3 1 v0 L.length (L.flatMap eInt) by rw [flat_ints]; exact hsl)
  obtain ⟨va, vc, rfl⟩ := hsl.form
  have hf := h.free
  obtain ⟨fa, fc, rfl⟩ := hf.form
  have c1 := h.c1
  have c2 := h.c2
  clear hl hk hL
  go_enter Try.func122, Try.ntmps122
  go_wp2_with (at_builtin; refine halt ?_)
  refine Halt.go ?_
  refine wpList_app rfl _ _ 31 rfl (R := fun v8 w8 => SL w8.heap 3 1 v8 (fr.length + L.length) (fr.map Sp.zI ++ L.flatMap eInt) ∧ Only (fun g => (Value.slice fa fr.length fc).ownBlock = some g) w w8 ∧ (v8.ownBlock = (Value.slice fa fr.length fc).ownBlock ∨ v8.ownBlock = some w.heap.size)) (SL.appendR (enc := eInt) (fun _ => rfl) hf Try.underlying31 hio hzo ho1 ho2 ho3 hr (fun x _ u hu => by simp [eInt] at hu; rw [hu]; rfl) (by unfold maxLen; omega) (by omega)) ?_
  rintro v8 w8 ⟨hs8, ho8, hv8⟩
  replace hs8 : SL w8.heap 3 1 v8 (fr ++ L).length ((fr ++ L).map Sp.zI) := by rw [List.length_append, List.map_append]; rw [flat_ints] at hs8; exact hs8
  obtain ⟨n8, hn8⟩ : ∃ n8, n8 = (fr ++ L).length := ⟨_, rfl⟩
  rw [← hn8] at hs8
  obtain ⟨a8, cp8, rfl⟩ := hs8.form
  have hs8' : SL w8.heap 3 1 (.slice a8 n8 cp8) (fr ++ L).length ((fr ++ L).map Sp.zI) := by rw [← hn8]; exact hs8
  obtain ⟨hP9, hO9⟩ := h.setFree ho8 hs8' (by
    rcases hv8 with e | e
    · exact .inl e
    · exact .inr ⟨_, e, Nat.le_refl _⟩)
  have hp8 := ho8.heap h.blk h.fp
  have fz := froz_blk hp8 1
  have e1 : w8.cell? ⟨pb, 1, none⟩ = some (.slice fa fr.length fc) := cell_blk hp8 rfl
  have H9 := Lib.hid (And.intro hP9 (And.intro hO9 hv8))
  clear hs8 hs8' ho8 hv8 hP9 hO9 hn8 hl0 c1 c2 hf hr hsl hp8
  go_upto_region 5 with (fail)
  obtain ⟨hP9, hO9, hv8⟩ := H9.out
  generalize w8.setCell ⟨pb, 1, none⟩ (.slice a8 n8 cp8) = w9 at hP9 hO9 ⊢
  have c2 := hP9.c2
  go_wp2_with (at_delete; refine halt ?_)
  refine Halt.go ?_
  refine wpList_dele (enc := Prod.fst) rfl _ _ _ _ rfl Try.underlying188 Try.underlying3 rfl rfl hP9.mp ?_
  rintro w10 hm10 ho10
  obtain ⟨hP10, hO10⟩ := hP9.del k hm10 ho10
  go_wp2
  go_ret
  refine ⟨rfl, _, _, hP10, fun b hb => ?_, hO9.trans' hO10 fun b hlt e => ?_⟩
  · rcases hb with hb | hb
    · exact .inl hb
    · rcases hv8 with e | e
      · rw [e] at hb; exact .inl (h.fo b hb)
      · rw [e] at hb; cases hb; exact .inr (Nat.le_refl _)
  · rcases e with e | e
    · exact e
    · rcases hv8 with e2 | e2
      · rw [e2] at e; exact h.fo b e
      · rw [e2] at e; cases e; omega
end
end Go.Proofs.Ytniggacgkhkgiaa.Pool
