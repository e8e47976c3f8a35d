/- The walk of the reference's Write at its pool where the trace is new. Conditions: the receiver lies in memory as Qrep says, its traces are rising, trace and text are such as may be, there is room. -/
import Derived.Test.YtniggacgkhkgiaaPref4
namespace Go.Proofs.Ytniggacgkhkgiaa.Pref
open Go.RowKit Go.Sp Msg Ev Pool
theorem sl_all {w : World} {b e size n : Nat} {cs : List Value} {c : Array Value} (hb : w.heap[b]? = some (.cells c e (0, 0))) (hc : c.toList = cs) (hl : cs.length = n * size) (hn : n ≤ 4) : SL w.heap e size (.slice (some ⟨b, 0, none⟩) n n) n cs := by
  refine ⟨hl, .inr ⟨b, 0, n, c, rfl, Nat.le_refl _, by unfold maxLen; omega, hb, ?_, fun j u hu => ?_⟩⟩
  · have := congrArg List.length hc
    simp at this
    omega
  · rw [Nat.zero_add, ← Array.getElem?_toList, hc]; exact hu
section
variable {w w' w3 wr w2 : World} {R : Nat → Prop} {pb N : Nat} {M F : List (Int × List Spn)} {tv av T A : Value} {us us2 : List Value} {k : Int} {s : ByteArray}
/-- what was built is the pool's -/
theorem Two3.out (h : Qrep w3 R pb N M tv av us) (hT : Two3 w3 wr (fun g => R g ∨ w3.heap.size ≤ g) F T A us2) : QOut w3 R pb N F ((wr.setCell ⟨pb, 1, none⟩ T).setCell ⟨pb, 2, none⟩ A) := by
  have hw := h.below hT.below
  have hb1 := (heap_setCell_cells (o := 1) hw.blk T)
  have hb2 := (heap_setCell_cells (w := wr.setCell ⟨pb, 1, none⟩ T) (o := 2) hb1 A).trans rfl
  have hset : Only (· = pb) wr ((wr.setCell ⟨pb, 1, none⟩ T).setCell ⟨pb, 2, none⟩ A) :=
    ((Only.refl (· = pb) wr).setCell (p := ⟨pb, 1, none⟩) (fun _ => rfl) _).setCell (p := ⟨pb, 2, none⟩) (fun _ => rfl) _
  have hpz := h.rlt pb h.rr
  refine h.next ((only_of_below hT.below (· = pb)).trans hset) hb2 (hT.st.only hset (fun g hg e => by have := hT.nt g hg; omega)) (hT.sa.only hset (fun g hg e => by have := hT.na g hg; omega)) hT.nt hT.na (fun i u p hu hp => (hT.el i u p hu hp).only hset (fun g hg e => sl_not hw.blk (hT.el i u p hu hp) (by decide) (by rw [hg, e]))) hT.re

set_option maxRecDepth 100000 in
set_option maxHeartbeats 8000000 in
theorem pw_new (h : Qrep w R pb N M tv av us) (hN : N ≤ 16) (hU : usedM M < N) (hL : ∀ p ∈ M, p.2.length ≤ 1000) (hk : 1 ≤ k ∧ k ≤ 65535) (hz : (s.size : Int) ≤ 40) (hM : M.length ≤ 1000) (hno : mget k M = none) :
    Calls Try.prog 101 #[.pointer (some ⟨pb, 0, none⟩), .int .i64 k, .string s] w fun e w' => e = .returned (.tuple #[.agg #[.int .i64 k, .int .i64 1, .string s], .int .i64 0]) ∧ QOut w R pb N (mput k [(k, 1, s)] M) w' := by
  obtain ⟨i0, z0, hi, hzz, hz1, hz2, hz3⟩ := info_at (P := Try.prog) (e := 3) (f := (1, 8, 1)) (by kernel_rfl)
  obtain ⟨i1, zz, gi, gz, gz1, gz2, gz3⟩ := info_at (P := Try.prog) (e := 35) (f := (1, 24, 1)) (by kernel_rfl)
  have hlt := h.rlt
  have hA := below_alloc (Below.refl w.heap.size w) (.cells #[.int .i64 0, .int .i64 0, .string ⟨#[]⟩] 89)
  have hbx := heap_new w (.cells #[.int .i64 0, .int .i64 0, .string ⟨#[]⟩] 89) rfl
  have hBz : w.heap.size ≤ w.heap.size ∧ w.heap.size < (w.alloc (.cells #[.int .i64 0, .int .i64 0, .string ⟨#[]⟩] 89)).heap.size := by simp
  have h1 := h.below hA
  have hF := free_any h1 hN (by omega) hL
  have b1 : decide (k < 1) = false := decide_eq_false (by omega)
  have b2 : decide (65535 < k) = false := decide_eq_false (by omega)
  have b3 : decide (40 < (s.size : Int)) = false := decide_eq_false (by omega)
  have b4 : decide (40 < s.size) = false := decide_eq_false (by omega)
  have HO := of_any h1 k
  rw [show lgetA k M = [] by unfold lgetA; rw [hno]; rfl] at HO
  generalize hf : N - usedM M = f at hF
  have u1 : ((f : Int) == 0) = false := by simp; omega
  have u2 : (f == 0) = false := by simp; omega
  have HLT := Lib.hid hlt
  have hP : ∀ p ∈ M, p.1 ≠ k := mget_none.1 hno
  have HNO := Lib.hid (And.intro hno hP)
  clear h hlt hL hN hf hU hno hP
  go_enter Try.func101, Try.ntmps101
  go_wp2_with fail
  generalize (w.alloc (.cells #[.int .i64 0, .int .i64 0, .string ⟨#[]⟩] 89)) = w1 at hA hbx HO hF h1 hBz ⊢
  refine HO.mono ?_
  rintro e w2 ⟨rfl, u, rfl, hsu, _⟩
  obtain ⟨va, vc, rfl⟩ := hsu.form
  clear HO hsu
  rw [List.length_nil]
  go_wp2_with fail
  refine hF.mono ?_
  rintro e w2 ⟨rfl, hb2⟩
  have h2 := h1.below hb2
  have hbx2 := (hb2.block _ (Array.getElem?_eq_some_iff.1 hbx).1).trans hbx
  have hA3 := below_alloc (Below.refl w2.heap.size w2) (.cells #[.int .i64 k, .int .i64 1, .string s] 89)
  have hbs := heap_new w2 (.cells #[.int .i64 k, .int .i64 1, .string s] 89) rfl
  have h3 := h2.below hA3
  have hbx3 := (hA3.block _ (Array.getElem?_eq_some_iff.1 hbx2).1).trans hbx2
  have hB3 := hb2.trans (hA3.mono hb2.size)
  clear h1 h2 hbx hbx2 hA3 hF
  go_wp2_with fail
  generalize (w2.alloc (.cells #[.int .i64 k, .int .i64 1, .string s] 89)) = w3 at hbs h3 hbx3 hB3 ⊢
  generalize w2.heap.size = sb at hbs ⊢
  refine (find_any h3 k).mono ?_
  rintro e w4 ⟨rfl, ⟨rfl, _⟩ | ⟨j, l, rfl, hj, hl⟩⟩
  case' inr =>
    exfalso
    rw [HNO.out.1] at hl; cases hl
  have H3 := Lib.hid (And.intro hbs (And.intro hbx3 hB3))
  have hsz := (Array.getElem?_eq_some_iff.1 hbs).1
  clear hb2 hB3 hbx3
  go_wp2
  go_loopw [11, 12, 13, 14] (fun T A dn i wr => ∃ (j : Nat) (us2 : List Value), j ≤ M.length ∧ i = .int .i64 j ∧ dn = .bool (putG k [((k, 1, s) : Spn)] (M.take j)).2 ∧ Two3 w3 wr (fun g => R g ∨ w3.heap.size ≤ g) (putG k [((k, 1, s) : Spn)] (M.take j)).1 T A us2) (fun _ _ _ i _ => M.length - (intOf i).toNat)
  case atStart => exact ⟨0, [], Nat.zero_le _, rfl, rfl, Two3.nil _ _⟩
  case round =>
    obtain ⟨j, us2, hj, rfl, rfl, hT⟩ := hrel
    have hl1 : (putG k [((k, 1, s) : Spn)] (M.take j)).1.length ≤ 2000 := by
      have := putG_len k [((k, 1, s) : Spn)] (M.take j)
      have h2 : (M.take j).length ≤ 1000 := by simp; omega
      omega
    have hw := h3.below hT.below
    obtain ⟨ta, tc, rfl⟩ := h3.st.form
    obtain ⟨aa, ac, rfl⟩ := h3.sa.form
    have q1 := hw.cell (j := 1) rfl
    have q2 := hw.cell (j := 2) rfl
    have hbs' := (hT.below.block _ hsz).trans H3.out.1
    have s0 := cell_blk hbs' (j := 0) (u := .int .i64 k) rfl
    have s1 := cell_blk hbs' (j := 1) (u := .int .i64 1) rfl
    have s2 := cell_blk hbs' (j := 2) (u := .string s) rfl
    by_cases hjn : j < M.length
    · obtain ⟨⟨x, lx⟩, hp⟩ : ∃ p, M[j]? = some p := ⟨_, List.getElem?_eq_getElem hjn⟩
      obtain ⟨tb, toff, tcap, hv, _⟩ := h3.st.form' (by omega)
      simp only [Value.slice.injEq, true_and] at hv
      obtain ⟨rfl, rfl⟩ := hv
      obtain ⟨ab, aoff, acap, hv, _⟩ := h3.sa.form' (by omega)
      simp only [Value.slice.injEq, true_and] at hv
      obtain ⟨rfl, rfl⟩ := hv
      have hct : wr.cell? ⟨tb, toff + j, none⟩ = some (.int .i64 x) := hw.st.cell (by rw [List.getElem?_map, hp]; rfl)
      obtain ⟨u, hux⟩ := h3.at hp
      have hex := h3.el j u _ hux hp
      have pux : ∀ g, u.ownBlock = some g → R g ∨ w3.heap.size ≤ g := fun g hg => .inl (h3.re j u hux g hg)
      obtain ⟨ua, uc, rfl⟩ := hex.form
      have hcu : wr.cell? ⟨ab, aoff + j, none⟩ = some _ := hw.sa.cell hux
      have hF : putG k [((k, 1, s) : Spn)] (M.take (j + 1)) = pt1G k [((k, 1, s) : Spn)] (putG k [((k, 1, s) : Spn)] (M.take j)) (x, lx) := by rw [List.take_add_one, hp]; exact putG_snoc _ _ _ _
      generalize putG k [((k, 1, s) : Spn)] (M.take j) = st at *
      obtain ⟨F, dn⟩ := st
      have HF := Lib.hid hF
      have HCX := Lib.hid (show ∀ W, Below w3.heap.size w3 W → W.cell? ⟨tb, toff + j, none⟩ = some (.int .i64 x) from fun W hW => (h3.below hW).st.cell (by rw [List.getElem?_map, hp]; rfl))
      have HE := Lib.hid (And.intro hex (And.intro pux hux))
      clear hF hp hex pux hux
      replace hT : Two3 w3 wr (fun g => R g ∨ w3.heap.size ≤ g) F u11 u12 us2 := hT
      replace hl1 : F.length ≤ 2000 := hl1
      have hcase : (dn = true ∨ ¬ k < x) ∨ (dn = false ∧ k < x) := by
        cases dn
        · by_cases h : k < x
          · exact .inr ⟨rfl, h⟩
          · exact .inl (.inr h)
        · exact .inl (.inl rfl)
      rcases hcase with hc | ⟨rfl, hkx⟩
      · have HE2 := Lib.hid (show pt1G k [((k, 1, s) : Spn)] (F, dn) (x, lx) = (F ++ [(x, lx)], dn) by
          unfold pt1G
          rcases hc with rfl | h
          · simp
          · simp only [decide_eq_false h, Bool.and_false]; rfl)
        have hcs : dn = true ∨ (dn = false ∧ decide (k < x) = false) := by
          rcases hc with rfl | h
          · exact .inl rfl
          · cases dn
            · exact .inr ⟨rfl, decide_eq_false h⟩
            · exact .inl rfl
        clear hc
        rcases hcs with rfl | ⟨rfl, d1⟩
        all_goals (
          go_wp2_with (at_builtin; refine halt ?_)
          refine Halt.go ?_
          refine wpList_appd (v := u11) rfl _ _ _ rfl Try.underlying31 hi hzz hz1 hz2 hz3 rfl (hT.st.alloc _) (m := 1) (news := [.int .i64 x]) rfl rfl (cells_new _ _ _ rfl) (by simp [Value.oneCell']) (by unfold maxLen; omega) (by omega) ?_
          rintro v5 w5 hs5 ho5 hv5
          obtain ⟨hb5, hn5, ha5, hE5⟩ := hT.stepT (below_alloc (Below.refl _ wr) _) ho5 hv5
          have hwA := h3.below hb5
          have cA := hwA.cell (j := 2) rfl
          have cB := hwA.sa.cell HE.out.2.2
          go_wp2_with (at_builtin; refine halt ?_)
          refine Halt.go ?_
          refine wpList_appd (v := u12) rfl _ _ _ rfl Try.underlying110 gi gz gz1 gz2 gz3 rfl (ha5.alloc _) (m := 1) (news := [.slice ua lx.length uc]) rfl rfl (cells_new _ _ _ rfl) (by simp [Value.oneCell']) (by unfold maxLen; omega) (by omega) ?_
          rintro v7 w7 hs7 ho7 hv7
          obtain ⟨hb7, hn7, ht7, hE7, _⟩ := hT.stepA hs5 ha5 hb5 (below_alloc (Below.refl _ w5) _) ho7 hv7
          have hT7 := hT.snoc ht7 hs7 hn5 hn7 hb7 (fun u n cs h => hE7 u n cs (hE5 u n cs h)) (HE.out.1.only (only_of_below hb7 (fun _ => False)) (fun _ _ => id)) HE.out.2.1
          clear cA cB hwA hct hcu q1 q2 hT ho5 hs5 ho7 hs7 ht7 hE5 hE7
          go_wp2
          exact ⟨⟨j + 1, _, by omega, by go_num, by rw [HF.out, HE2.out], by rw [HF.out, HE2.out]; exact hT7⟩, by simp [intOf]; omega⟩)
      · have d1 : decide (k < x) = true := decide_eq_true hkx
        have HE2 := Lib.hid (show pt1G k [((k, 1, s) : Spn)] (F, false) (x, lx) = (F ++ [(k, [((k, 1, s) : Spn)])] ++ [(x, lx)], true) by
          unfold pt1G; simp only [d1]; simp)
        clear hkx
        go_wp2_with (at_builtin; refine halt ?_)
        refine Halt.go ?_
        refine wpList_appd (v := u11) rfl _ _ _ rfl Try.underlying31 hi hzz hz1 hz2 hz3 rfl (hT.st.alloc _) (m := 1) (news := [.int .i64 k]) rfl rfl (cells_new _ _ _ rfl) (by simp [Value.oneCell']) (by unfold maxLen; omega) (by omega) ?_
        rintro v5 w5 hs5 ho5 hv5
        obtain ⟨hb5, hn5, ha5, hE5⟩ := hT.stepT (below_alloc (Below.refl _ wr) _) ho5 hv5
        have hbs5 := (hb5.block _ hsz).trans H3.out.1
        have s0 := cell_blk hbs5 (j := 0) (u := .int .i64 k) rfl
        have s1 := cell_blk hbs5 (j := 1) (u := .int .i64 1) rfl
        have s2 := cell_blk hbs5 (j := 2) (u := .string s) rfl
        go_wp2_with (at_builtin; refine halt ?_)
        refine Halt.go ?_
        have hbn : ((w5.alloc (.cells #[.int .i64 k, .int .i64 1, .string s] 89)).alloc (.cells #[.slice (some ⟨w5.heap.size, 0, none⟩) 1 1] 35)).heap[w5.heap.size]? = some (.cells #[.int .i64 k, .int .i64 1, .string s] 89 (0, 0)) :=
          ((below_alloc (Below.refl _ (w5.alloc (.cells #[.int .i64 k, .int .i64 1, .string s] 89))) (.cells #[.slice (some ⟨w5.heap.size, 0, none⟩) 1 1] 35)).block _ (by simp)).trans (heap_new w5 _ rfl)
        have hsn := sl_all (size := 3) (n := 1) (cs := eSpn (k, 1, s)) hbn rfl rfl (by omega)
        refine wpList_appd (v := u12) rfl _ _ _ rfl Try.underlying110 gi gz gz1 gz2 gz3 rfl ((ha5.alloc _).alloc _) (m := 1) (news := [.slice (some ⟨w5.heap.size, 0, none⟩) 1 1]) rfl rfl (cells_new _ _ _ (by simp)) (by simp [Value.oneCell']) (by unfold maxLen; omega) (by omega) ?_
        rintro v7 w7 hs7 ho7 hv7
        obtain ⟨hb7, hn7, ht7, hE7, hE8⟩ := hT.stepA hs5 ha5 hb5 (below_alloc (below_alloc (Below.refl _ w5) _) _) ho7 hv7
        have hT7 := hT.snoc (l := [((k, 1, s) : Spn)]) ht7 hs7 hn5 hn7 hb7 (fun u n cs h => hE7 u n cs (hE5 u n cs h)) (hE8 _ _ _ hsn) (fun g hg => .inr (by simp [Value.ownBlock] at hg; rw [← hg]; exact hb5.size))
        clear s0 s1 s2 hct hcu q1 q2 hT ho5 hs5 ho7 hs7 ht7 hE5 hE7 hE8 hbn hsn hbs5 hb5 ha5 hn5
        have hwB := h3.below hb7
        have cC := hwB.cell (j := 1) rfl
        have cE := HCX.out w7 hb7
        obtain ⟨t4, c4, rfl⟩ := hT7.st.form
        obtain ⟨t6, c6, rfl⟩ := hT7.sa.form
        have hl7 : (F ++ [(k, [((k, 1, s) : Spn)])]).length ≤ 2001 := by simp; omega
        have hFl : (F ++ [(k, [((k, 1, s) : Spn)])]).length = F.length + 1 := by simp
        have HFL := Lib.hid hFl
        rw [hFl] at hT7
        have hst7 := hT7.st
        rw [hFl] at hst7
        clear hFl hl7
        go_wp2_with (at_builtin; refine halt ?_)
        refine Halt.go ?_
        refine wpList_appd (v := .slice t4 (F.length + 1) c4) rfl _ _ _ rfl Try.underlying31 hi hzz hz1 hz2 hz3 rfl (hst7.alloc _) (m := 1) (news := [.int .i64 x]) rfl rfl (cells_new _ _ _ rfl) (by simp [Value.oneCell']) (by unfold maxLen; omega) (by omega) ?_
        rintro v5 w5 hs5 ho5 hv5
        obtain ⟨hb5, hn5, ha5, hE5⟩ := hT7.stepT (below_alloc (Below.refl _ w7) _) ho5 hv5
        have ha5' := ha5
        rw [HFL.out] at ha5'
        have hwA := h3.below hb5
        have cA := hwA.cell (j := 2) rfl
        have cB := hwA.sa.cell HE.out.2.2
        go_wp2_with (at_builtin; refine halt ?_)
        refine Halt.go ?_
        refine wpList_appd (v := .slice t6 (F.length + 1) c6) rfl _ _ _ rfl Try.underlying110 gi gz gz1 gz2 gz3 rfl (ha5'.alloc _) (m := 1) (news := [.slice ua lx.length uc]) rfl rfl (cells_new _ _ _ rfl) (by simp [Value.oneCell']) (by unfold maxLen; omega) (by omega) ?_
        rintro v9 w9 hs9 ho9 hv9
        obtain ⟨hb9, hn9, ht9, hE9, _⟩ := hT7.stepA hs5 ha5 hb5 (below_alloc (Below.refl _ w5) _) ho9 hv9
        have hT9 := hT7.snoc (by rw [HFL.out]; exact ht9) (by rw [HFL.out]; exact hs9) hn5 hn9 hb9 (fun u n cs h => hE9 u n cs (hE5 u n cs h)) (HE.out.1.only (only_of_below hb9 (fun _ => False)) (fun _ _ => id)) HE.out.2.1
        clear cA cB cC cE hwA hwB hT7 ho5 hs5 ho9 hs9 ht9 hE5 hE9 hst7 ha5'
        go_wp2
        exact ⟨⟨j + 1, _, by omega, by go_num, by rw [HF.out, HE2.out], by rw [HF.out, HE2.out]; exact hT9⟩, by simp [intOf]; omega⟩
    · have hje : j = M.length := by omega
      subst hje
      rw [List.take_length] at hT hl1 ⊢
      have hI := putG_put k [((k, 1, s) : Spn)] HNO.out.2
      generalize putG k [((k, 1, s) : Spn)] M = st at *
      obtain ⟨F, dn⟩ := st
      replace hT : Two3 w3 wr (fun g => R g ∨ w3.heap.size ≤ g) F u11 u12 us2 := hT
      replace hl1 : F.length ≤ 2000 := hl1
      have hFin : ∀ (W : World) (F' : List (Int × List Spn)) (T A : Value) (us' : List Value), Two3 w3 W (fun g => R g ∨ w3.heap.size ≤ g) F' T A us' → F' = mput k [(k, 1, s)] M →
          QOut w R pb N (mput k [(k, 1, s)] M) (((((W.setCell ⟨pb, 1, none⟩ T).setCell ⟨pb, 2, none⟩ A).setCell ⟨w.heap.size, 0, none⟩ (.int .i64 k)).setCell ⟨w.heap.size, 1, none⟩ (.int .i64 1)).setCell ⟨w.heap.size, 2, none⟩ (.string s)) ∧
          ((W.setCell ⟨pb, 1, none⟩ T).setCell ⟨pb, 2, none⟩ A).heap[w.heap.size]? = some (.cells #[.int .i64 0, .int .i64 0, .string ⟨#[]⟩] 89 (0, 0)) ∧ ((W.setCell ⟨pb, 1, none⟩ T).setCell ⟨pb, 2, none⟩ A).heap[sb]? = some (.cells #[.int .i64 k, .int .i64 1, .string s] 89 (0, 0)) ∧ W.frozen? ⟨pb, 1, none⟩ = false ∧ W.frozen? ⟨pb, 2, none⟩ = false ∧ (W.cell? ⟨pb, 1, none⟩).isSome = true ∧ (W.cell? ⟨pb, 2, none⟩).isSome = true := fun W F' T A us' hT' e => by
        subst e
        have hset : Only (· = pb) W ((W.setCell ⟨pb, 1, none⟩ T).setCell ⟨pb, 2, none⟩ A) :=
          ((Only.refl (· = pb) W).setCell (p := ⟨pb, 1, none⟩) (fun _ => rfl) _).setCell (p := ⟨pb, 2, none⟩) (fun _ => rfl) _
        have hpz := HLT.out pb h3.rr
        have hps : sb ≠ pb := fun e => by
          have := H3.out.1
          rw [e, h3.blk] at this
          simp at this
        have hw := h3.below hT'.below
        refine ⟨((hT'.out h3).base H3.out.2.2).res HLT.out hA hBz _ _ _, hset.heap ((hT'.below.block _ (Array.getElem?_eq_some_iff.1 H3.out.2.1).1).trans H3.out.2.1) (by omega), hset.heap ((hT'.below.block _ hsz).trans H3.out.1) hps, froz_blk hw.blk 1, froz_blk hw.blk 2, by rw [hw.cell (j := 1) rfl]; rfl, by rw [hw.cell (j := 2) rfl]; rfl⟩
      clear hbs hbs' hw
      cases dn with
      | true =>
        replace hI : F = mput k [(k, 1, s)] M := hI
        obtain ⟨t4, c4, rfl⟩ := hT.st.form
        obtain ⟨t5, c5, rfl⟩ := hT.sa.form
        obtain ⟨hQ, hbxc, hbsc, f1, f2, _, _⟩ := hFin wr F (.slice t4 F.length c4) (.slice t5 F.length c5) _ hT hI
        have y0 := cell_blk hbsc (j := 0) (u := .int .i64 k) rfl
        have y1 := cell_blk hbsc (j := 1) (u := .int .i64 1) rfl
        have y2 := cell_blk hbsc (j := 2) (u := .string s) rfl
        have g0 := froz_blk hbxc 0
        have g1 := froz_blk hbxc 1
        have g2 := froz_blk hbxc 2
        have e0 := cell_blk hbxc (j := 0) (u := .int .i64 0) rfl
        have e1 := cell_blk hbxc (j := 1) (u := .int .i64 0) rfl
        have e2 := cell_blk hbxc (j := 2) (u := .string ⟨#[]⟩) rfl
        have hR := Lib.hid hQ
        have hr3 := Lib.hid (res3 hbxc (.int .i64 k) (.int .i64 1) (.string s))
        clear hFin hI hT hbxc hbsc hQ
        go_wp2
        have x0 := cell_blk hr3.out (j := 0) (u := .int .i64 k) rfl
        have x1 := cell_blk hr3.out (j := 1) (u := .int .i64 1) rfl
        have x2 := cell_blk hr3.out (j := 2) (u := .string s) rfl
        replace hR := hR.out
        generalize ((((wr.setCell ⟨pb, 1, none⟩ (.slice t4 F.length c4)).setCell ⟨pb, 2, none⟩ (.slice t5 F.length c5)).setCell ⟨w.heap.size, 0, none⟩ (.int .i64 k)).setCell ⟨w.heap.size, 1, none⟩ (.int .i64 1)).setCell ⟨w.heap.size, 2, none⟩ (.string s) = w5 at hR x0 x1 x2 ⊢
        refine bodyPost_ret (by simp [results, Try.results101, go_sem, x0, x1, x2]; try rfl) rfl ?_
        exact ⟨rfl, hR⟩
      | false =>
        replace hI : F ++ [(k, [((k, 1, s) : Spn)])] = mput k [(k, 1, s)] M := hI
        go_wp2_with (at_builtin; refine halt ?_)
        refine Halt.go ?_
        refine wpList_appd (v := u11) rfl _ _ _ rfl Try.underlying31 hi hzz hz1 hz2 hz3 rfl (hT.st.alloc _) (m := 1) (news := [.int .i64 k]) rfl rfl (cells_new _ _ _ rfl) (by simp [Value.oneCell']) (by unfold maxLen; omega) (by omega) ?_
        rintro v5 w5 hs5 ho5 hv5
        obtain ⟨hb5, hn5, ha5, hE5⟩ := hT.stepT (below_alloc (Below.refl _ wr) _) ho5 hv5
        have hbs5 := (hb5.block _ hsz).trans H3.out.1
        have s0 := cell_blk hbs5 (j := 0) (u := .int .i64 k) rfl
        have s1 := cell_blk hbs5 (j := 1) (u := .int .i64 1) rfl
        have s2 := cell_blk hbs5 (j := 2) (u := .string s) rfl
        go_wp2_with (at_builtin; refine halt ?_)
        refine Halt.go ?_
        have hbn : ((w5.alloc (.cells #[.int .i64 k, .int .i64 1, .string s] 89)).alloc (.cells #[.slice (some ⟨w5.heap.size, 0, none⟩) 1 1] 35)).heap[w5.heap.size]? = some (.cells #[.int .i64 k, .int .i64 1, .string s] 89 (0, 0)) :=
          ((below_alloc (Below.refl _ (w5.alloc (.cells #[.int .i64 k, .int .i64 1, .string s] 89))) (.cells #[.slice (some ⟨w5.heap.size, 0, none⟩) 1 1] 35)).block _ (by simp)).trans (heap_new w5 _ rfl)
        have hsn := sl_all (size := 3) (n := 1) (cs := eSpn (k, 1, s)) hbn rfl rfl (by omega)
        refine wpList_appd (v := u12) rfl _ _ _ rfl Try.underlying110 gi gz gz1 gz2 gz3 rfl ((ha5.alloc _).alloc _) (m := 1) (news := [.slice (some ⟨w5.heap.size, 0, none⟩) 1 1]) rfl rfl (cells_new _ _ _ (by simp)) (by simp [Value.oneCell']) (by unfold maxLen; omega) (by omega) ?_
        rintro v7 w7 hs7 ho7 hv7
        obtain ⟨hb7, hn7, ht7, hE7, hE8⟩ := hT.stepA hs5 ha5 hb5 (below_alloc (below_alloc (Below.refl _ w5) _) _) ho7 hv7
        have hT7 := hT.snoc (l := [((k, 1, s) : Spn)]) ht7 hs7 hn5 hn7 hb7 (fun u n cs h => hE7 u n cs (hE5 u n cs h)) (hE8 _ _ _ hsn) (fun g hg => .inr (by simp [Value.ownBlock] at hg; rw [← hg]; exact hb5.size))
        have hFl : (F ++ [(k, [((k, 1, s) : Spn)])]).length = F.length + 1 := by simp
        clear s0 s1 s2 q1 q2 hT ho5 hs5 ho7 hs7 ht7 hE5 hE7 hE8 hbn hsn hbs5 hb5 ha5 hn5
        obtain ⟨t4, c4, rfl⟩ := hT7.st.form
        obtain ⟨t5, c5, rfl⟩ := hT7.sa.form
        rw [hFl] at hT7
        have hw7 := h3.below hT7.below
        have q1 := hw7.cell (j := 1) rfl
        have q2 := hw7.cell (j := 2) rfl
        clear hFl hw7
        obtain ⟨hQ, hbxc, hbsc, f1, f2, _, _⟩ := hFin w7 (F ++ [(k, [((k, 1, s) : Spn)])]) (.slice t4 (F.length + 1) c4) (.slice t5 (F.length + 1) c5) _ hT7 hI
        have y0 := cell_blk hbsc (j := 0) (u := .int .i64 k) rfl
        have y1 := cell_blk hbsc (j := 1) (u := .int .i64 1) rfl
        have y2 := cell_blk hbsc (j := 2) (u := .string s) rfl
        have g0 := froz_blk hbxc 0
        have g1 := froz_blk hbxc 1
        have g2 := froz_blk hbxc 2
        have e0 := cell_blk hbxc (j := 0) (u := .int .i64 0) rfl
        have e1 := cell_blk hbxc (j := 1) (u := .int .i64 0) rfl
        have e2 := cell_blk hbxc (j := 2) (u := .string ⟨#[]⟩) rfl
        have hR := Lib.hid hQ
        have hr3 := Lib.hid (res3 hbxc (.int .i64 k) (.int .i64 1) (.string s))
        clear hFin hI hT7 hbxc hbsc hQ
        go_wp2
        have x0 := cell_blk hr3.out (j := 0) (u := .int .i64 k) rfl
        have x1 := cell_blk hr3.out (j := 1) (u := .int .i64 1) rfl
        have x2 := cell_blk hr3.out (j := 2) (u := .string s) rfl
        replace hR := hR.out
        generalize ((((w7.setCell ⟨pb, 1, none⟩ (.slice t4 (F.length + 1) c4)).setCell ⟨pb, 2, none⟩ (.slice t5 (F.length + 1) c5)).setCell ⟨w.heap.size, 0, none⟩ (.int .i64 k)).setCell ⟨w.heap.size, 1, none⟩ (.int .i64 1)).setCell ⟨w.heap.size, 2, none⟩ (.string s) = w5 at hR x0 x1 x2 ⊢
        refine bodyPost_ret (by simp [results, Try.results101, go_sem, x0, x1, x2]; try rfl) rfl ?_
        exact ⟨rfl, hR⟩
end
end Go.Proofs.Ytniggacgkhkgiaa.Pref
