/- UNDER WAY: what the reference's Add does to its object where it does not refuse. -/
import Derived.Test.YtcdjeblcmgghhaaCrumbRef5
namespace Go.Proofs.Ytcdjeblcmgghhaa.Crumb
open Go.RowKit Go.Sp

structure Two2 (w0 wr : World) (P : Nat → Prop) (F : List (Int × List Int)) (T A : Value) (us2 : List Value) : Prop where
  st : SL wr.heap 3 1 T F.length (F.map fun p => .int .i64 p.1)
  sa : SL wr.heap 28 1 A F.length us2
  nt : ∀ g, T.ownBlock = some g → w0.heap.size ≤ g
  na : ∀ g, A.ownBlock = some g → w0.heap.size ≤ g
  below : Below w0.heap.size w0 wr
  el : ∀ (i : Nat) (u : Value) (p : Int × List Int), us2[i]? = some u → F[i]? = some p → SL w0.heap 3 1 u p.2.length (p.2.map Sp.zI)
  re : ∀ (i : Nat) (u : Value), us2[i]? = some u → ∀ g, u.ownBlock = some g → P g

theorem Two2.snoc {w0 wr w7 : World} {P : Nat → Prop} {F : List (Int × List Int)} {T A T' A' u : Value} {us2 : List Value} {x : Int} {l : List Int} (h : Two2 w0 wr P F T A us2) (hu : SL w0.heap 3 1 u l.length (l.map Sp.zI)) (pu : ∀ g, u.ownBlock = some g → P g)
    (st : SL w7.heap 3 1 T' (F.length + 1) ((F.map fun p => Value.int .i64 p.1) ++ [.int .i64 x])) (sa : SL w7.heap 28 1 A' (F.length + 1) (us2 ++ [u])) (nt : ∀ g, T'.ownBlock = some g → w0.heap.size ≤ g) (na : ∀ g, A'.ownBlock = some g → w0.heap.size ≤ g) (b7 : Below w0.heap.size w0 w7) :
    Two2 w0 w7 P (F ++ [(x, l)]) T' A' (us2 ++ [u]) := by
  have hul : us2.length = F.length := by have := h.sa.1; omega
  refine ⟨by rw [List.length_append, List.map_append]; exact st, by rw [List.length_append]; exact sa, nt, na, b7, fun i v p hv hp => ?_, fun i v hv => ?_⟩
  · by_cases hi : i < F.length
    · rw [List.getElem?_append_left (by omega)] at hv hp
      exact h.el i v p hv hp
    · rw [List.getElem?_append_right (by omega)] at hv hp
      have hi0 : i - F.length = 0 := by have := (List.getElem?_eq_some_iff.1 hp).1; simp at this; omega
      rw [hul, hi0] at hv
      rw [hi0] at hp
      simp at hv hp
      subst hv; subst hp
      exact hu
  · by_cases hi : i < us2.length
    · rw [List.getElem?_append_left hi] at hv
      exact h.re i v hv
    · rw [List.getElem?_append_right (by omega)] at hv
      have hi0 : i - us2.length = 0 := by have := (List.getElem?_eq_some_iff.1 hv).1; simp at this; omega
      rw [hi0] at hv
      simp at hv
      subst hv
      exact pu

section
variable {w w' : World} {R : Nat → Prop} {rb : Nat} {n t : Int} {M : List (Int × List Int)} {tv av : Value} {us : List Value}

theorem two2_out {w3 wr : World} {R3 : Nat → Prop} {M3 F : List (Int × List Int)} {tv3 av3 T A : Value} {us3 us2 : List Value} (h3 : Frep w3 R3 rb n M3 tv3 av3 us3) (hT : Two2 w3 wr (fun g => g < w3.heap.size ∧ (R3 g ∨ w.heap.size ≤ g)) F T A us2)
    (hR3 : ∀ b, R3 b → R b ∨ w.heap.size ≤ b) (hO : Only R w w3) : RefOut w R rb n M F ((wr.setCell ⟨rb, 1, none⟩ T).setCell ⟨rb, 2, none⟩ A) := by
  have h3' : Frep w3 (fun b => R3 b ∨ (w.heap.size ≤ b ∧ b < w3.heap.size)) rb n M3 tv3 av3 us3 :=
    ⟨h3.blk, h3.st, h3.sa, h3.el, .inl h3.rr, fun g hg => .inl (h3.rt g hg), fun g hg => .inl (h3.ra g hg), fun i u hu g hg => .inl (h3.re i u hu g hg), fun b hb => hb.elim (h3.rlt b) And.right⟩
  have hs := hO.size
  obtain ⟨R', hF, hR', hO'⟩ := two_put h3' hT.below hT.st hT.sa hT.nt hT.na (fun i u p hu hp => (hT.el i u p hu hp).only (only_of_below hT.below (fun _ => False)) (fun _ _ => id)) (fun i u hu g hg => by
    obtain ⟨h1, h2⟩ := hT.re i u hu g hg
    exact .inl (h2.imp id fun h => ⟨h, h1⟩))
  refine ⟨R', _, _, us2, hF, fun b hb => ?_, hO.trans' hO' fun i hi h => ?_⟩
  · rcases hR' b hb with (h | h) | h
    · exact hR3 b h
    · exact .inr h.1
    · exact .inr (Nat.le_trans hs h)
  · rcases h with h | h
    · rcases hR3 i h with h | h
      · exact h
      · omega
    · omega

set_option maxRecDepth 100000 in
set_option maxHeartbeats 2000000 in
theorem refAdd_yes (h : Frep w R rb n M tv av us) (hn : M.length ≤ 50000) (hok : (lget t M).length ≤ 1000) {a : Int} (hc : addM n M t a = (0, mput t (insI a (lget t M)) M)) (hk : KS M) :
    Calls Try.prog 48 #[.pointer (some ⟨rb, 0, none⟩), .int .i64 t, .int .i64 a] w fun e w' => e = .returned (.int .i64 0) ∧ RefOut w R rb n M (mput t (insI a (lget t M)) M) w' := by
  have c0 := h.c0
  obtain ⟨i0, z0, hi, hz, hz1, hz2, hz3⟩ := info_at (P := Try.prog) (e := 3) (f := (1, 8, 1)) (by kernel_rfl)
  obtain ⟨i1, zz, gi, gz, gz1, gz2, gz3⟩ := info_at (P := Try.prog) (e := 28) (f := (1, 24, 1)) (by kernel_rfl)
  by_cases hin : t < 1 ∨ 65535 < t
  · rw [addM_arg hin] at hc; cases hc
  by_cases hin2 : a < 0 ∨ n ≤ a
  · rw [addM_range hin hin2] at hc; cases hc
  cases hcn : (lget t M).contains a with
  | true => rw [addM_once hin hin2 hcn] at hc; cases hc
  | false =>
    have b1 : decide (t < 1) = false := by simp; omega
    have b2 : decide (65535 < t) = false := by simp; omega
    have b3 : decide (a < 0) = false := by simp; omega
    have b4 : decide (n ≤ a) = false := by simp; omega
    have hM1 : (mdel t M).length ≤ 50000 := Nat.le_trans mdel_length_le hn
    have hP : ∀ p ∈ mdel t M, p.1 ≠ t := fun p hp => (mem_mdel.1 hp).2
    have HK := Lib.hid hk
    clear hin hin2 hc hk
    go_enter Try.func48, Try.ntmps48
    go_wp2_with fail
    refine (refOf_any h t).mono ?_
    rintro e w' ⟨u, rfl, hsu, _, rfl⟩
    go_wp2_with fail
    refine (in_any (SL.ints hsu) (by omega) a).mono ?_
    rintro e w' ⟨rfl, rfl⟩
    rw [hcn]
    go_wp2_with fail
    refine (refOf_any h t).mono ?_
    rintro e w' ⟨u2, rfl, hsu2, _, rfl⟩
    go_wp2_with fail
    refine (refInsert_any (SL.ints hsu2) (by omega) a).mono ?_
    rintro e w1 ⟨v7, rfl, hs7, hn7, hb1⟩
    have h1 := h.only (only_of_below hb1 (fun _ => False)) (fun _ _ => id)
    go_wp2_with fail
    refine (refDrop_any h1 (by omega) t).mono ?_
    rintro e w3 ⟨rfl, R3, tv3, av3, us3, h3, hR3, hO3⟩
    have hs73 := hs7.only hO3 (fun g hg hRg => by have := hn7 g hg; have := h.rlt g hRg; omega)
    obtain ⟨a7, c7, rfl⟩ := hs73.form
    go_wp2
    go_loopw [8, 9, 10, 11] (fun T A dn i wr => ∃ (j : Nat) (us2 : List Value), j ≤ (mdel t M).length ∧ i = .int .i64 j ∧ dn = .bool (putTo t (insI a (lget t M)) ((mdel t M).take j)).2 ∧ Two2 w3 wr (fun g => g < w3.heap.size ∧ (R3 g ∨ w.heap.size ≤ g)) (putTo t (insI a (lget t M)) ((mdel t M).take j)).1 T A us2) (fun _ _ _ i _ => (mdel t M).length - (intOf i).toNat)
    case atStart => exact ⟨0, [], Nat.zero_le _, rfl, rfl, SL.nil _ _ _, SL.nil _ _ _, fun g hg => by simp [Value.ownBlock] at hg, fun g hg => by simp [Value.ownBlock] at hg, Below.refl _ _, fun i u p hu => by simp at hu, fun i u hu => by simp at hu⟩
    case round =>
      obtain ⟨j, us2, hj, rfl, rfl, hT⟩ := hrel
      have hl1 : (putTo t (insI a (lget t M)) ((mdel t M).take j)).1.length ≤ 100000 := by
        have := putTo_len t (insI a (lget t M)) ((mdel t M).take j)
        have h2 : ((mdel t M).take j).length ≤ 50000 := by simp; omega
        omega
      have pu7 : ∀ g, (Value.slice a7 (insI a (lget t M)).length c7).ownBlock = some g → g < w3.heap.size ∧ (R3 g ∨ w.heap.size ≤ g) := fun g hg => ⟨hs73.lt g hg, .inr (hn7 g hg)⟩
      have hw := h3.only (only_of_below hT.below (fun _ => False)) (fun _ _ => id)
      obtain ⟨ta, tc, rfl⟩ := h3.st.form
      obtain ⟨aa, ac, rfl⟩ := h3.sa.form
      have q1 := hw.c1
      have q2 := hw.c2
      by_cases hjn : j < (mdel t M).length
      · obtain ⟨⟨x, lx⟩, hp⟩ : ∃ p, (mdel t M)[j]? = some p := ⟨_, List.getElem?_eq_getElem hjn⟩
        obtain ⟨tb, toff, tcap, hv, _⟩ := h3.st.form' (by omega)
        simp only [Value.slice.injEq, true_and] at hv
        obtain ⟨rfl, rfl⟩ := hv
        obtain ⟨ab, aoff, acap, hv, _⟩ := h3.sa.form' (by omega)
        simp only [Value.slice.injEq, true_and] at hv
        obtain ⟨rfl, rfl⟩ := hv
        have hct : wr.cell? ⟨tb, toff + j, none⟩ = some (.int .i64 x) := hw.st.cell (by rw [List.getElem?_map, hp]; rfl)
        obtain ⟨u, hux⟩ : ∃ u, us3[j]? = some u := ⟨_, List.getElem?_eq_getElem (by have := h3.ul; omega)⟩
        have hex := h3.el j u _ hux hp
        have pux : ∀ g, u.ownBlock = some g → g < w3.heap.size ∧ (R3 g ∨ w.heap.size ≤ g) := fun g hg => ⟨hex.lt g hg, .inl (h3.re j u hux g hg)⟩
        obtain ⟨ua, uc, rfl⟩ := hex.form
        have hcu : wr.cell? ⟨ab, aoff + j, none⟩ = some _ := hw.sa.cell hux
        have hF : putTo t (insI a (lget t M)) ((mdel t M).take (j + 1)) = pt1 t (insI a (lget t M)) (putTo t (insI a (lget t M)) ((mdel t M).take j)) (x, lx) := by rw [List.take_add_one, hp]; exact putTo_snoc _ _ _ _
        generalize putTo t (insI a (lget t M)) ((mdel t M).take j) = s at *
        obtain ⟨F, dn⟩ := s
        have HF := Lib.hid hF
        clear hF hp
        replace hT : Two2 w3 wr (fun g => g < w3.heap.size ∧ (R3 g ∨ w.heap.size ≤ g)) F u8 u9 us2 := hT
        replace hl1 : F.length ≤ 100000 := hl1
        cases dn with
        | true =>
          go_wp2_with (at_builtin; refine halt ?_)
          refine Halt.go ?_
          refine wpList_appd (v := u8) rfl _ _ _ rfl Try.underlying28 hi hz hz1 hz2 hz3 rfl (hT.st.alloc _) (m := 1) (news := [.int .i64 x]) rfl rfl (cells_new _ _ _ rfl) (by simp [Value.oneCell']) (by unfold maxLen; omega) (by omega) ?_
          rintro v5a w5a hs5 ho5 hv5
          have hb5a : Below w3.heap.size w3 w5a := (hT.below.alloc hT.below.size _).trans (ho5.below (by have := hT.below.size; simp; omega) (fun i hi e => by have := hT.nt i e; omega))
          have hn5a : ∀ g, v5a.ownBlock = some g → w3.heap.size ≤ g := fun g hg => by
            rcases hv5 with e | e
            · exact hT.nt g (by rw [← e]; exact hg)
            · rw [e] at hg; cases hg; have := hT.below.size; simp; omega
          have ha5 := (hT.sa.alloc (.cells #[.int .i64 x] 3)).only ho5 (fun g hg e => sl_two hT.st hT.sa (by decide) g e hg)
          have hwA := h3.only (only_of_below hb5a (fun _ => False)) (fun _ _ => id)
          have cA := hwA.c2
          have cB := hwA.sa.cell hux
          go_wp2_with (at_builtin; refine halt ?_)
          refine Halt.go ?_
          refine wpList_appd (v := u9) rfl _ _ _ rfl Try.underlying97 gi gz gz1 gz2 gz3 rfl (ha5.alloc _) (m := 1) (news := [.slice ua lx.length uc]) rfl rfl (cells_new _ _ _ rfl) (by simp [Value.oneCell']) (by unfold maxLen; omega) (by omega) ?_
          rintro v7a w7a hs7 ho7 hv7
          have hb7a : Below w3.heap.size w3 w7a := (hb5a.alloc hb5a.size _).trans (ho7.below (by have := hb5a.size; simp; omega) (fun i hi e => by have := hT.na i e; omega))
          have ht7 := (hs5.alloc (.cells #[.slice ua lx.length uc] 28)).only ho7 (fun g hg e => sl_two hs5 ha5 (by decide) g hg e)
          have hn7a : ∀ g, v7a.ownBlock = some g → w3.heap.size ≤ g := fun g hg => by
            rcases hv7 with e | e
            · exact hT.na g (by rw [← e]; exact hg)
            · rw [e] at hg; cases hg; have := hb5a.size; simp; omega
          have hTa := hT.snoc hex pux ht7 hs7 hn5a hn7a hb7a
          go_wp2
          refine ⟨⟨j + 1, _, by omega, by go_num, by rw [HF.out]; simp [pt1], by rw [HF.out]; simpa [pt1] using hTa⟩, by simp [intOf]; omega⟩
        | false =>
          by_cases htx : t < x
          · have d1 : decide (t < x) = true := decide_eq_true htx
            go_wp2_with (at_builtin; refine halt ?_)
            refine Halt.go ?_
            refine wpList_appd (v := u8) rfl _ _ _ rfl Try.underlying28 hi hz hz1 hz2 hz3 rfl (hT.st.alloc _) (m := 1) (news := [.int .i64 t]) rfl rfl (cells_new _ _ _ rfl) (by simp [Value.oneCell']) (by unfold maxLen; omega) (by omega) ?_
            rintro v5b w5b hs5 ho5 hv5
            have hb5b : Below w3.heap.size w3 w5b := (hT.below.alloc hT.below.size _).trans (ho5.below (by have := hT.below.size; simp; omega) (fun i hi e => by have := hT.nt i e; omega))
            have hn5b : ∀ g, v5b.ownBlock = some g → w3.heap.size ≤ g := fun g hg => by
              rcases hv5 with e | e
              · exact hT.nt g (by rw [← e]; exact hg)
              · rw [e] at hg; cases hg; have := hT.below.size; simp; omega
            have ha5 := (hT.sa.alloc (.cells #[.int .i64 t] 3)).only ho5 (fun g hg e => sl_two hT.st hT.sa (by decide) g e hg)
            go_wp2_with (at_builtin; refine halt ?_)
            refine Halt.go ?_
            refine wpList_appd (v := u9) rfl _ _ _ rfl Try.underlying97 gi gz gz1 gz2 gz3 rfl (ha5.alloc _) (m := 1) (news := [.slice a7 (insI a (lget t M)).length c7]) rfl rfl (cells_new _ _ _ rfl) (by simp [Value.oneCell']) (by unfold maxLen; omega) (by omega) ?_
            rintro v7b w7b hs7 ho7 hv7
            have hb7b : Below w3.heap.size w3 w7b := (hb5b.alloc hb5b.size _).trans (ho7.below (by have := hb5b.size; simp; omega) (fun i hi e => by have := hT.na i e; omega))
            have ht7 := (hs5.alloc (.cells #[.slice a7 (insI a (lget t M)).length c7] 28)).only ho7 (fun g hg e => sl_two hs5 ha5 (by decide) g hg e)
            have hn7b : ∀ g, v7b.ownBlock = some g → w3.heap.size ≤ g := fun g hg => by
              rcases hv7 with e | e
              · exact hT.na g (by rw [← e]; exact hg)
              · rw [e] at hg; cases hg; have := hb5b.size; simp; omega
            have hTb := hT.snoc hs73 pu7 ht7 hs7 hn5b hn7b hb7b
            have hwB := h3.only (only_of_below hb7b (fun _ => False)) (fun _ _ => id)
            have cC := hwB.c1
            have cD := hwB.c2
            have cE : w7b.cell? ⟨tb, toff + j, none⟩ = some (.int .i64 x) := by rw [World.cell?_of_block (w := wr) ((only_of_below (hT.below.trans (Below.refl _ wr)) (fun _ => False)).block tb (h3.st.lt tb rfl) id |> fun e => by rw [((only_of_below hb7b (fun _ => False)).block tb (h3.st.lt tb rfl) id), e])]; exact hct
            replace hTb : Two2 w3 w7b (fun g => g < w3.heap.size ∧ (R3 g ∨ w.heap.size ≤ g)) (F ++ [(t, insI a (lget t M))]) v5b v7b (us2 ++ [.slice a7 (insI a (lget t M)).length c7]) := hTb
            have hl1 : (F ++ [(t, insI a (lget t M))]).length ≤ 100001 := by simp; omega
            go_wp2_with (at_builtin; refine halt ?_)
            refine Halt.go ?_
            refine wpList_appd (v := v5b) rfl _ _ _ rfl Try.underlying28 hi hz hz1 hz2 hz3 rfl (hTb.st.alloc _) (m := 1) (news := [.int .i64 x]) rfl rfl (cells_new _ _ _ rfl) (by simp [Value.oneCell']) (by unfold maxLen; omega) (by omega) ?_
            rintro v5a w5a hs5 ho5 hv5
            have hb5a : Below w3.heap.size w3 w5a := (hTb.below.alloc hTb.below.size _).trans (ho5.below (by have := hTb.below.size; simp; omega) (fun i hi e => by have := hTb.nt i e; omega))
            have hn5a : ∀ g, v5a.ownBlock = some g → w3.heap.size ≤ g := fun g hg => by
              rcases hv5 with e | e
              · exact hTb.nt g (by rw [← e]; exact hg)
              · rw [e] at hg; cases hg; have := hTb.below.size; simp; omega
            have ha5 := (hTb.sa.alloc (.cells #[.int .i64 x] 3)).only ho5 (fun g hg e => sl_two hTb.st hTb.sa (by decide) g e hg)
            have hwA := h3.only (only_of_below hb5a (fun _ => False)) (fun _ _ => id)
            have cA := hwA.c2
            have cB := hwA.sa.cell hux
            go_wp2_with (at_builtin; refine halt ?_)
            refine Halt.go ?_
            refine wpList_appd (v := v7b) rfl _ _ _ rfl Try.underlying97 gi gz gz1 gz2 gz3 rfl (ha5.alloc _) (m := 1) (news := [.slice ua lx.length uc]) rfl rfl (cells_new _ _ _ rfl) (by simp [Value.oneCell']) (by unfold maxLen; omega) (by omega) ?_
            rintro v7a w7a hs7 ho7 hv7
            have hb7a : Below w3.heap.size w3 w7a := (hb5a.alloc hb5a.size _).trans (ho7.below (by have := hb5a.size; simp; omega) (fun i hi e => by have := hTb.na i e; omega))
            have ht7 := (hs5.alloc (.cells #[.slice ua lx.length uc] 28)).only ho7 (fun g hg e => sl_two hs5 ha5 (by decide) g hg e)
            have hn7a : ∀ g, v7a.ownBlock = some g → w3.heap.size ≤ g := fun g hg => by
              rcases hv7 with e | e
              · exact hTb.na g (by rw [← e]; exact hg)
              · rw [e] at hg; cases hg; have := hb5a.size; simp; omega
            have hTa := hTb.snoc hex pux ht7 hs7 hn5a hn7a hb7a
            go_wp2
            refine ⟨⟨j + 1, _, by omega, by go_num, by rw [HF.out]; simp [pt1, htx], by rw [HF.out]; simpa [pt1, htx] using hTa⟩, by simp [intOf]; omega⟩
          · have d1 : decide (t < x) = false := decide_eq_false htx
            have HE2 := Lib.hid (show pt1 t (insI a (lget t M)) (F, false) (x, lx) = (F ++ [(x, lx)], false) by unfold pt1; simp only [d1]; rfl)
            go_wp2_with (at_builtin; refine halt ?_)
            refine Halt.go ?_
            refine wpList_appd (v := u8) rfl _ _ _ rfl Try.underlying28 hi hz hz1 hz2 hz3 rfl (hT.st.alloc _) (m := 1) (news := [.int .i64 x]) rfl rfl (cells_new _ _ _ rfl) (by simp [Value.oneCell']) (by unfold maxLen; omega) (by omega) ?_
            rintro v5a w5a hs5 ho5 hv5
            have hb5a : Below w3.heap.size w3 w5a := (hT.below.alloc hT.below.size _).trans (ho5.below (by have := hT.below.size; simp; omega) (fun i hi e => by have := hT.nt i e; omega))
            have hn5a : ∀ g, v5a.ownBlock = some g → w3.heap.size ≤ g := fun g hg => by
              rcases hv5 with e | e
              · exact hT.nt g (by rw [← e]; exact hg)
              · rw [e] at hg; cases hg; have := hT.below.size; simp; omega
            have ha5 := (hT.sa.alloc (.cells #[.int .i64 x] 3)).only ho5 (fun g hg e => sl_two hT.st hT.sa (by decide) g e hg)
            have hwA := h3.only (only_of_below hb5a (fun _ => False)) (fun _ _ => id)
            have cA := hwA.c2
            have cB := hwA.sa.cell hux
            go_wp2_with (at_builtin; refine halt ?_)
            refine Halt.go ?_
            refine wpList_appd (v := u9) rfl _ _ _ rfl Try.underlying97 gi gz gz1 gz2 gz3 rfl (ha5.alloc _) (m := 1) (news := [.slice ua lx.length uc]) rfl rfl (cells_new _ _ _ rfl) (by simp [Value.oneCell']) (by unfold maxLen; omega) (by omega) ?_
            rintro v7a w7a hs7 ho7 hv7
            have hb7a : Below w3.heap.size w3 w7a := (hb5a.alloc hb5a.size _).trans (ho7.below (by have := hb5a.size; simp; omega) (fun i hi e => by have := hT.na i e; omega))
            have ht7 := (hs5.alloc (.cells #[.slice ua lx.length uc] 28)).only ho7 (fun g hg e => sl_two hs5 ha5 (by decide) g hg e)
            have hn7a : ∀ g, v7a.ownBlock = some g → w3.heap.size ≤ g := fun g hg => by
              rcases hv7 with e | e
              · exact hT.na g (by rw [← e]; exact hg)
              · rw [e] at hg; cases hg; have := hb5a.size; simp; omega
            have hTa := hT.snoc hex pux ht7 hs7 hn5a hn7a hb7a
            go_wp2
            refine ⟨⟨j + 1, _, by omega, by go_num, by rw [HF.out, HE2.out], by rw [HF.out, HE2.out]; exact hTa⟩, by simp [intOf]; omega⟩
      · have hje : j = (mdel t M).length := by omega
        subst hje
        rw [List.take_length] at hT hl1 ⊢
        have hI := putTo_put t (insI a (lget t M)) hP
        rw [mput_mdel t _ HK.out] at hI
        generalize putTo t (insI a (lget t M)) (mdel t M) = s at *
        obtain ⟨F, dn⟩ := s
        replace hT : Two2 w3 wr (fun g => g < w3.heap.size ∧ (R3 g ∨ w.heap.size ≤ g)) F u8 u9 us2 := hT
        replace hl1 : F.length ≤ 100000 := hl1
        cases dn with
        | true =>
          replace hI : F = mput t (insI a (lget t M)) M := hI
          obtain ⟨t4, c4, rfl⟩ := hT.st.form
          obtain ⟨t5, c5, rfl⟩ := hT.sa.form
          have f1 : wr.frozen? ⟨rb, 1, none⟩ = false := by simp [World.frozen?, hw.blk]
          have f2 : wr.frozen? ⟨rb, 2, none⟩ = false := by simp [World.frozen?, hw.blk]
          have hRO := two2_out h3 hT (M := M) (fun b hb => (hR3 b hb).imp id fun h => Nat.le_trans hb1.size h) ((only_of_below hb1 R).trans hO3)
          have HI := Lib.hid hI
          clear hI hT
          go_wp2
          go_ret
          refine ⟨rfl, ?_⟩
          rw [← HI.out]; exact hRO
        | false =>
          replace hI : F ++ [(t, insI a (lget t M))] = mput t (insI a (lget t M)) M := hI
          go_wp2_with (at_builtin; refine halt ?_)
          refine Halt.go ?_
          refine wpList_appd (v := u8) rfl _ _ _ rfl Try.underlying28 hi hz hz1 hz2 hz3 rfl (hT.st.alloc _) (m := 1) (news := [.int .i64 t]) rfl rfl (cells_new _ _ _ rfl) (by simp [Value.oneCell']) (by unfold maxLen; omega) (by omega) ?_
          rintro v5b w5b hs5 ho5 hv5
          have hb5b : Below w3.heap.size w3 w5b := (hT.below.alloc hT.below.size _).trans (ho5.below (by have := hT.below.size; simp; omega) (fun i hi e => by have := hT.nt i e; omega))
          have hn5b : ∀ g, v5b.ownBlock = some g → w3.heap.size ≤ g := fun g hg => by
            rcases hv5 with e | e
            · exact hT.nt g (by rw [← e]; exact hg)
            · rw [e] at hg; cases hg; have := hT.below.size; simp; omega
          have ha5 := (hT.sa.alloc (.cells #[.int .i64 t] 3)).only ho5 (fun g hg e => sl_two hT.st hT.sa (by decide) g e hg)
          go_wp2_with (at_builtin; refine halt ?_)
          refine Halt.go ?_
          refine wpList_appd (v := u9) rfl _ _ _ rfl Try.underlying97 gi gz gz1 gz2 gz3 rfl (ha5.alloc _) (m := 1) (news := [.slice a7 (insI a (lget t M)).length c7]) rfl rfl (cells_new _ _ _ rfl) (by simp [Value.oneCell']) (by unfold maxLen; omega) (by omega) ?_
          rintro v7b w7b hs7 ho7 hv7
          have hb7b : Below w3.heap.size w3 w7b := (hb5b.alloc hb5b.size _).trans (ho7.below (by have := hb5b.size; simp; omega) (fun i hi e => by have := hT.na i e; omega))
          have ht7 := (hs5.alloc (.cells #[.slice a7 (insI a (lget t M)).length c7] 28)).only ho7 (fun g hg e => sl_two hs5 ha5 (by decide) g hg e)
          have hn7b : ∀ g, v7b.ownBlock = some g → w3.heap.size ≤ g := fun g hg => by
            rcases hv7 with e | e
            · exact hT.na g (by rw [← e]; exact hg)
            · rw [e] at hg; cases hg; have := hb5b.size; simp; omega
          have hTb := hT.snoc hs73 pu7 ht7 hs7 hn5b hn7b hb7b
          obtain ⟨t4, c4, rfl⟩ := hTb.st.form
          obtain ⟨t5, c5, rfl⟩ := hTb.sa.form
          have hwB := h3.only (only_of_below hb7b (fun _ => False)) (fun _ _ => id)
          have cC := hwB.c1
          have cD := hwB.c2
          have f1 : w7b.frozen? ⟨rb, 1, none⟩ = false := by simp [World.frozen?, hwB.blk]
          have f2 : w7b.frozen? ⟨rb, 2, none⟩ = false := by simp [World.frozen?, hwB.blk]
          have hRO := two2_out h3 hTb (M := M) (fun b hb => (hR3 b hb).imp id fun h => Nat.le_trans hb1.size h) ((only_of_below hb1 R).trans hO3)
          have HI := Lib.hid hI
          clear hI hT hTb
          go_wp2
          go_ret
          refine ⟨rfl, ?_⟩
          rw [← HI.out]; rw [List.length_append] at hRO; exact hRO
end
end Go.Proofs.Ytcdjeblcmgghhaa.Crumb
