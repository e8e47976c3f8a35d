/- What the reference's Drop does to its object. Conditions: the receiver lies in memory as Frep says; at most a hundred thousand traces. -/
import Derived.Test.YtcdjeblcmgghhaaCrumbRef2
namespace Go.Proofs.Ytcdjeblcmgghhaa.Crumb
open Go.RowKit Go.Sp

/-- two slices built side by side: keys tv and lists' slices us in av, of what F holds -/
structure Two (w0 wr : World) (us : List Value) (M F : List (Int × List Int)) (tv av : Value) (us2 : List Value) : Prop where
  st : SL wr.heap 3 1 tv F.length (F.map fun p => .int .i64 p.1)
  sa : SL wr.heap 28 1 av F.length us2
  fr : ∀ (i : Nat) (u : Value) (p : Int × List Int), us2[i]? = some u → F[i]? = some p → ∃ i' : Nat, us[i']? = some u ∧ M[i']? = some p
  nt : ∀ g, tv.ownBlock = some g → w0.heap.size ≤ g
  na : ∀ g, av.ownBlock = some g → w0.heap.size ≤ g
  below : Below w0.heap.size w0 wr

theorem sl_two {h : Array Obj} {e e' n n' s s' : Nat} {v v' : Value} {cs cs' : List Value} (x : SL h e s v n cs) (y : SL h e' s' v' n' cs') (he : e ≠ e') : ∀ g, v.ownBlock = some g → v'.ownBlock ≠ some g := by
  intro g hg
  rcases x.2 with ⟨rfl, _⟩ | ⟨b, off, cap, cur, rfl, _, _, hb, _⟩
  · simp [Value.ownBlock] at hg
  · simp [Value.ownBlock] at hg
    subst hg
    exact sl_not hb y he

section
variable {w w' : World} {R : Nat → Prop} {rb : Nat} {n : Int} {M : List (Int × List Int)} {tv av : Value} {us : List Value}

theorem two_put (h : Frep w R rb n M tv av us) {wr : World} {F : List (Int × List Int)} {T A : Value} {us2 : List Value} (hb : Below w.heap.size w wr)
    (st : SL wr.heap 3 1 T F.length (F.map fun p => .int .i64 p.1)) (sa : SL wr.heap 28 1 A F.length us2) (nt : ∀ g, T.ownBlock = some g → w.heap.size ≤ g) (na : ∀ g, A.ownBlock = some g → w.heap.size ≤ g)
    (el : ∀ (i : Nat) (u : Value) (p : Int × List Int), us2[i]? = some u → F[i]? = some p → SL wr.heap 3 1 u p.2.length (p.2.map Sp.zI)) (re : ∀ (i : Nat) (u : Value), us2[i]? = some u → ∀ g, u.ownBlock = some g → (R g ∨ w.heap.size ≤ g)) :
    ∃ R', Frep ((wr.setCell ⟨rb, 1, none⟩ T).setCell ⟨rb, 2, none⟩ A) R' rb n F T A us2 ∧ (∀ b, R' b → R b ∨ w.heap.size ≤ b) ∧ Only R w ((wr.setCell ⟨rb, 1, none⟩ T).setCell ⟨rb, 2, none⟩ A) := by
  have hw := h.only (only_of_below hb (fun _ => False)) (fun _ _ => id)
  have hrb := h.rlt rb h.rr
  have hb1 := heap_setCell_cells (o := 1) hw.blk T
  have hb2 := heap_setCell_cells (w := wr.setCell ⟨rb, 1, none⟩ T) (o := 2) hb1 A
  have hset : Only (· = rb) wr ((wr.setCell ⟨rb, 1, none⟩ T).setCell ⟨rb, 2, none⟩ A) :=
    ((Only.refl (· = rb) wr).setCell (p := ⟨rb, 1, none⟩) (fun _ => rfl) _).setCell (p := ⟨rb, 2, none⟩) (fun _ => rfl) _
  have hsz := hb.size
  have hul : us2.length = F.length := by have := sa.1; omega
  have hel : ∀ (i : Nat) (u : Value), us2[i]? = some u → ∃ p : Int × List Int, SL wr.heap 3 1 u p.2.length (p.2.map Sp.zI) := fun i u hu => by
    have hi := (List.getElem?_eq_some_iff.1 hu).1
    exact ⟨F[i]'(by omega), el i u _ hu (List.getElem?_eq_getElem (by omega))⟩
  refine ⟨fun b => R b ∨ (w.heap.size ≤ b ∧ b < wr.heap.size), ⟨?_, ?_, ?_, fun i u p hu hp => ?_, .inl h.rr, fun g hg => .inr ⟨nt g hg, st.lt g hg⟩, fun g hg => .inr ⟨na g hg, sa.lt g hg⟩, fun i u hu g hg => ?_, fun b hb' => ?_⟩, fun b hb' => hb'.imp id And.left, ?_⟩
  · rw [hb2]; rfl
  · exact st.only hset (fun g hg e => by have := nt g hg; omega)
  · exact sa.only hset (fun g hg e => by have := na g hg; omega)
  · refine (el i u p hu hp).only hset (fun g hg e => ?_)
    subst e
    exact sl_not hw.blk (el i u p hu hp) (by decide) hg
  · obtain ⟨p, hp⟩ := hel i u hu
    exact (re i u hu g hg).imp id (fun h1 => ⟨h1, hp.lt g hg⟩)
  · have := hset.size
    rcases hb' with h1 | h1
    · have := h.rlt b h1; omega
    · omega
  · exact (only_of_below hb R).trans (hset.mono fun i _ e => by subst e; exact h.rr)

set_option maxRecDepth 100000 in
set_option maxHeartbeats 2000000 in
theorem refDrop_any (h : Frep w R rb n M tv av us) (hn : M.length ≤ 100000) (k : Int) :
    Calls Try.prog 50 #[.pointer (some ⟨rb, 0, none⟩), .int .i64 k] w fun e w' => e = .returned (.tuple #[]) ∧ ∃ R' tv' av' us', Frep w' R' rb n (mdel k M) tv' av' us' ∧ (∀ b, R' b → R b ∨ w.heap.size ≤ b) ∧ Only R w w' := by
  obtain ⟨ta, tc, rfl⟩ := h.st.form
  obtain ⟨aa, ac, rfl⟩ := h.sa.form
  obtain ⟨i0, z0, hi, hz, hz1, hz2, hz3⟩ := info_at (P := Try.prog) (e := 3) (f := (1, 8, 1)) (by kernel_rfl)
  obtain ⟨i1, zz, gi, gz, gz1, gz2, gz3⟩ := info_at (P := Try.prog) (e := 28) (f := (1, 24, 1)) (by kernel_rfl)
  have hrb := h.rlt rb h.rr
  go_enter Try.func50, Try.ntmps50
  go_wp2
  go_loopw [4, 5, 6] (fun t a i wr => ∃ (j : Nat) (us2 : List Value), j ≤ M.length ∧ i = .int .i64 j ∧ Two w wr us M ((M.take j).filter (fun p => decide (p.1 ≠ k))) t a us2) (fun _ _ i _ => M.length - (intOf i).toNat)
  case atStart => exact ⟨0, [], Nat.zero_le _, rfl, SL.nil _ _ _, SL.nil _ _ _, fun i u p hu => by simp at hu, fun g hg => by simp [Value.ownBlock] at hg, fun g hg => by simp [Value.ownBlock] at hg, Below.refl _ _⟩
  case round =>
    obtain ⟨j, us2, hj, rfl, hT⟩ := hrel
    have hw := h.only (only_of_below hT.below (fun _ => False)) (fun _ _ => id)
    have c1 := hw.c1
    have c2 := hw.c2
    by_cases hjn : j < M.length
    · obtain ⟨⟨t, l⟩, hp⟩ : ∃ p, M[j]? = some p := ⟨_, List.getElem?_eq_getElem hjn⟩
      obtain ⟨tb, toff, tcap, hv, _⟩ := h.st.form' (by omega)
      simp only [Value.slice.injEq, true_and] at hv
      obtain ⟨rfl, rfl⟩ := hv
      have hct : wr.cell? ⟨tb, toff + j, none⟩ = some (.int .i64 t) := hw.st.cell (by rw [List.getElem?_map, hp]; rfl)
      have hF : (M.take (j + 1)).filter (fun p => decide (p.1 ≠ k)) = (M.take j).filter (fun p => decide (p.1 ≠ k)) ++ if decide (t ≠ k) then [(t, l)] else [] := by
        rw [List.take_add_one, hp, Option.toList_some, List.filter_append]
        by_cases e : t = k <;> simp [e]
      have hlen : ((M.take j).filter (fun p => decide (p.1 ≠ k))).length ≤ 100000 := Nat.le_trans (List.length_filter_le _ _) (by simp; omega)
      by_cases e : t = k
      · have htk : (t != k) = false := by simp [e]
        have HF := Lib.hid hF
        clear hF hp
        go_wp2
        refine ⟨⟨j + 1, us2, by omega, by go_num, ?_⟩, by simp [intOf]; omega⟩
        rw [HF.out, if_neg (by simp [e]), List.append_nil]
        exact hT
      · have htk : (t != k) = true := by simp [e]
        obtain ⟨ab, aoff, acap, hv, _⟩ := h.sa.form' (by omega)
        simp only [Value.slice.injEq, true_and] at hv
        obtain ⟨rfl, rfl⟩ := hv
        obtain ⟨u, hu⟩ : ∃ u, us[j]? = some u := ⟨_, List.getElem?_eq_getElem (by have := h.ul; omega)⟩
        have hel := h.el j u _ hu hp
        obtain ⟨ua, uc, rfl⟩ := hel.form
        generalize (M.take j).filter (fun p => decide (p.1 ≠ k)) = F at hT hF hlen
        have HF := Lib.hid hF
        have HP := Lib.hid hp
        have HU := Lib.hid hu
        have hws := hT.below.size
        clear hF hp hu hel
        go_wp2_with (at_builtin; refine halt ?_)
        refine Halt.go ?_
        refine wpList_appd (v := u4) rfl _ _ _ rfl Try.underlying28 hi hz hz1 hz2 hz3 rfl (hT.st.alloc _) (m := 1) (news := [.int .i64 t]) rfl rfl (cells_new _ _ _ rfl) (by simp [Value.oneCell']) (by unfold maxLen; omega) (by omega) ?_
        rintro v5 w5 hs5 ho5 hv5
        have hb5 : Below w.heap.size w w5 := (hT.below.alloc hws _).trans (ho5.below (by simp; omega) (fun i hi e => by have := hT.nt i e; omega))
        have hn5 : ∀ g, v5.ownBlock = some g → w.heap.size ≤ g := fun g hg => by
          rcases hv5 with e | e
          · exact hT.nt g (by rw [← e]; exact hg)
          · rw [e] at hg; cases hg; simp; omega
        have ha5 : SL w5.heap 28 1 u5 F.length us2 := (hT.sa.alloc _).only ho5 (fun g hg e => sl_two hT.st hT.sa (by decide) g e hg)
        have hw5 := h.only (only_of_below hb5 (fun _ => False)) (fun _ _ => id)
        have c5 := hw5.c2
        have hcu := hw5.sa.cell HU.out
        have hs5b := hb5.size
        clear c1 c2 hct hw
        go_wp2_with (at_builtin; refine halt ?_)
        refine Halt.go ?_
        refine wpList_appd (v := u5) rfl _ _ _ rfl Try.underlying97 gi gz gz1 gz2 gz3 rfl (ha5.alloc _) (m := 1) (news := [.slice ua l.length uc]) rfl rfl (cells_new _ _ _ rfl) (by simp [Value.oneCell']) (by unfold maxLen; omega) (by omega) ?_
        rintro v7 w7 hs7 ho7 hv7
        have hb7 : Below w.heap.size w w7 := (hb5.alloc hs5b _).trans (ho7.below (by simp; omega) (fun i hi e => by have := hT.na i e; omega))
        have ht7 := (hs5.alloc (.cells #[.slice ua l.length uc] 28)).only ho7 (fun g hg e => sl_two hs5 ha5 (by decide) g hg e)
        have hn7 : ∀ g, v7.ownBlock = some g → w.heap.size ≤ g := fun g hg => by
          rcases hv7 with e | e
          · exact hT.na g (by rw [← e]; exact hg)
          · rw [e] at hg; cases hg; simp; omega
        clear c5 hcu hw5
        go_wp2
        refine ⟨⟨j + 1, us2 ++ [.slice ua l.length uc], by omega, by go_num, ?_⟩, by simp [intOf]; omega⟩
        rw [HF.out, if_pos (by simp [e])]
        refine ⟨by rw [List.length_append, List.map_append]; exact ht7, by rw [List.length_append]; exact hs7, fun i u p hu hp => ?_, hn5, hn7, hb7⟩
        have hul : us2.length = F.length := by have := hT.sa.1; omega
        by_cases hi : i < F.length
        · rw [List.getElem?_append_left (by omega)] at hu hp
          exact hT.fr i u p hu hp
        · rw [List.getElem?_append_right (by omega)] at hu hp
          have hi0 : i - F.length = 0 := by
            have := (List.getElem?_eq_some_iff.1 hp).1
            simp at this; omega
          rw [hul, hi0] at hu
          rw [hi0] at hp
          simp at hu hp
          subst hu; subst hp
          exact ⟨j, HU.out, HP.out⟩
    · have hje : j = M.length := by omega
      subst hje
      rw [List.take_length, ← mdel_eq] at hT
      obtain ⟨t4, c4, rfl⟩ := hT.st.form
      obtain ⟨t5, c5, rfl⟩ := hT.sa.form
      have f1 : wr.frozen? ⟨rb, 1, none⟩ = false := by simp [World.frozen?, hw.blk]
      have f2 : wr.frozen? ⟨rb, 2, none⟩ = false := by simp [World.frozen?, hw.blk]
      obtain ⟨R', hF, hR', hO⟩ := two_put h hT.below hT.st hT.sa hT.nt hT.na (fun i u p hu hp => by
        obtain ⟨i', h1, h2⟩ := hT.fr i u p hu hp
        exact (h.el i' u p h1 h2).only (only_of_below hT.below (fun _ => False)) (fun _ _ => id)) (fun i u hu g hg => by
        have hul : us2.length = (mdel k M).length := by have := hT.sa.1; omega
        have hi := (List.getElem?_eq_some_iff.1 hu).1
        obtain ⟨i', h1, h2⟩ := hT.fr i u _ hu (List.getElem?_eq_getElem (by omega))
        exact .inl (h.re i' u h1 g hg))
      go_wp2
      go_end0
      exact ⟨rfl, R', _, _, us2, hF, hR', hO⟩
end
end Go.Proofs.Ytcdjeblcmgghhaa.Crumb
