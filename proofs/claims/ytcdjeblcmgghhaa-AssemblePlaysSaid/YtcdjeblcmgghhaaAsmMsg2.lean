/- What the law's Message answers. Conditions: the call's slices lie in memory; it has few counts. -/
import Derived.Test.YtcdjeblcmgghhaaAsmMsg
import Derived.Deep.Cut
namespace Go.Sp
open Go.RowKit
/-- a manifest's parts of the first q counts -/
def partsTo (t j : Int) (l : Bool) (cs : List Int) : Nat → List Pt
  | 0 => []
  | q + 1 => partsTo t j l cs q ++ (match cs[q]? with
    | some n => bif decide (0 ≤ n) then [⟨q, t, j, n, .slice none 0 0, [], l && decide (q = 0)⟩] else []
    | none => [])
theorem partsTo_len (t j : Int) (l : Bool) (cs : List Int) : ∀ q, (partsTo t j l cs q).length ≤ q
  | 0 => by simp [partsTo]
  | q + 1 => by
    have := partsTo_len t j l cs q
    unfold partsTo
    rw [List.length_append]
    cases cs[q]? with
    | none => simp; omega
    | some n => cases h : decide (0 ≤ n) <;> simp [h] <;> omega
theorem partsTo_nil (t j : Int) (l : Bool) (cs : List Int) : ∀ q, ∀ p ∈ partsTo t j l cs q, p.cv = .slice none 0 0 ∧ p.cl = []
  | 0, p, h => by simp [partsTo] at h
  | q + 1, p, h => by
    unfold partsTo at h
    rcases List.mem_append.1 h with h | h
    · exact partsTo_nil t j l cs q p h
    · cases hc : cs[q]? with
      | none => rw [hc] at h; simp at h
      | some n =>
        rw [hc] at h
        cases hd : decide (0 ≤ n) <;> simp [hd] at h
        subst h; exact ⟨rfl, rfl⟩
/-- the message of a call -/
def MsgOf (o : OpD) (m : Mg) : Prop := (o.k ≠ 7 ∧ m = makeM o.k o.a o.t o.j o.i o.n o.l o.sv o.xs) ∨ (o.k = 7 ∧ ∃ pv, m = .mani o.t o.j o.i pv (partsTo o.t o.j o.l o.cs o.cs.length))
end Go.Sp
namespace Go.Proofs.Ytcdjeblcmgghhaa.Asm
open Go.RowKit Go.Sp Msg

theorem val_form (m : Mg) : (∃ t v, val m = .iface t v) ∨ val m = .nilIface := by
  cases m <;> first | exact .inl ⟨_, _, rfl⟩ | exact .inr rfl

set_option maxRecDepth 100000 in
set_option maxHeartbeats 4000000 in
theorem message_any (w : World) {k a t j i n : Int} {sv cv : Value} {xs : List Spn} {cs : List Int} {l : Bool} (hxs : RS w 3 eSpn sv xs) (hcs : RS w 1 eInt cv cs) (hcn : cs.length ≤ 1000) :
    Calls Try.prog 16 #[.agg #[.int .i64 k, .int .i64 a, .int .i64 t, .int .i64 j, .int .i64 i, .int .i64 n, sv, cv, .bool l]] w fun e w' => ∃ m, e = .returned (val m) ∧ MsgOf ⟨k, a, t, j, i, n, sv, xs, cv, cs, l⟩ m ∧ InMem w' m ∧ (∀ g pv ps, m = .mani t j i pv ps → pv.ownBlock = some g → w.heap.size ≤ g) ∧ Below w.heap.size w w' := by
  obtain ⟨i0, z0, hi, hz, hz1, hz2, hz3⟩ := info_at (P := Try.prog) (e := 65) (f := (6, 64, 6)) (by kernel_rfl)
  obtain ⟨_, xa, xc, rfl, _⟩ := id hxs
  obtain ⟨_, ca, cc, rfl, _⟩ := id hcs
  have hA := below_alloc (Below.refl w.heap.size w) (.cells #[.int .i64 k, .int .i64 a, .int .i64 t, .int .i64 j, .int .i64 i, .int .i64 n, .slice xa xs.length xc, .slice ca cs.length cc, .bool l] 39)
  have hbx := heap_new w (.cells #[.int .i64 k, .int .i64 a, .int .i64 t, .int .i64 j, .int .i64 i, .int .i64 n, .slice xa xs.length xc, .slice ca cs.length cc, .bool l] 39) rfl
  by_cases hk : k = 7
  · subst hk
    have hA2 := below_alloc hA (.cells #[.int .i64 t, .int .i64 j, .int .i64 i, .slice none 0 0] 59)
    go_enter Try.func16, Try.ntmps16
    have hs0 : (w.alloc (.cells #[.int .i64 7, .int .i64 a, .int .i64 t, .int .i64 j, .int .i64 i, .int .i64 n, .slice xa xs.length xc, .slice ca cs.length cc, .bool l] 39)).heap.size = w.heap.size + 1 := by simp
    have hmb : ((w.alloc (.cells #[.int .i64 7, .int .i64 a, .int .i64 t, .int .i64 j, .int .i64 i, .int .i64 n, .slice xa xs.length xc, .slice ca cs.length cc, .bool l] 39)).alloc (.cells #[.int .i64 t, .int .i64 j, .int .i64 i, .slice none 0 0] 59)).heap[w.heap.size + 1]? = some (.cells #[.int .i64 t, .int .i64 j, .int .i64 i, .slice none 0 0] 59 (0, 0)) := heap_new _ _ (by simp)
    have hbx2 : ((w.alloc (.cells #[.int .i64 7, .int .i64 a, .int .i64 t, .int .i64 j, .int .i64 i, .int .i64 n, .slice xa xs.length xc, .slice ca cs.length cc, .bool l] 39)).alloc (.cells #[.int .i64 t, .int .i64 j, .int .i64 i, .slice none 0 0] 59)).heap[w.heap.size]? = _ := (below_alloc (Below.refl (w.alloc (.cells #[.int .i64 7, .int .i64 a, .int .i64 t, .int .i64 j, .int .i64 i, .int .i64 n, .slice xa xs.length xc, .slice ca cs.length cc, .bool l] 39)).heap.size _) (.cells #[.int .i64 t, .int .i64 j, .int .i64 i, .slice none 0 0] 59)).block _ (by simp) |>.trans hbx
    go_upto_region 4 with (fail)
    generalize ((w.alloc (.cells #[.int .i64 7, .int .i64 a, .int .i64 t, .int .i64 j, .int .i64 i, .int .i64 n, .slice xa xs.length xc, .slice ca cs.length cc, .bool l] 39)).alloc (.cells #[.int .i64 t, .int .i64 j, .int .i64 i, .slice none 0 0] 59)) = w2 at hA2 hmb hbx2 ⊢
    clear hA hbx hs0
    have e7 : w2.cell? ⟨w.heap.size, 7, none⟩ = some (.slice ca cs.length cc) := by simp [World.cell?, hbx2]
    have hmlt := (Array.getElem?_eq_some_iff.1 hmb).1
    have hcs2 := hcs.only (only_of_below hA2 (fun _ => False)) (fun _ _ => id)
    go_wp2
    go_loopw [36] (fun v wr => ∃ (q : Nat) (pv : Value), q ≤ cs.length ∧ v = .int .i64 q ∧ wr.heap[w.heap.size + 1]? = some (.cells #[.int .i64 t, .int .i64 j, .int .i64 i, pv] 59 (0, 0)) ∧ SL wr.heap 65 6 pv (partsTo t j l cs q).length ((partsTo t j l cs q).flatMap ePt) ∧ (∀ g, pv.ownBlock = some g → w2.heap.size ≤ g) ∧ Only (· = w.heap.size + 1) w2 wr) (fun v _ => cs.length - (intOf v).toNat)
    case atStart => exact ⟨0, _, Nat.zero_le _, rfl, hmb, SL.nil _ _ _, fun g hg => by simp [Value.ownBlock] at hg, Only.refl _ _⟩
    case round =>
      obtain ⟨q, pv, hq, rfl, hmr, hs, hnp, hO⟩ := hrel
      have hbxr : wr.heap[w.heap.size]? = _ := hO.heap hbx2 (by omega)
      have hpl := partsTo_len t j l cs q
      have hbw : Below w.heap.size w wr := hA2.trans (hO.below hA2.size (fun i hi e => by omega))
      by_cases hqN : q < cs.length
      · obtain ⟨b0, o0, c0', hv, hb0, hc⟩ := RS.int hcs (by omega)
        simp only [Value.slice.injEq] at hv
        obtain ⟨rfl, _, rfl⟩ := hv
        obtain ⟨x, hx⟩ : ∃ x, cs[q]? = some x := ⟨_, List.getElem?_eq_getElem hqN⟩
        have g0 : wr.cell? ⟨b0, o0 + q, none⟩ = some (.int .i64 x) := by rw [hbw.cell (p := ⟨b0, o0 + q, none⟩) hb0]; exact hc q x hx
        have HP1 := Lib.hid (show partsTo t j l cs (q + 1) = partsTo t j l cs q ++ (bif decide (0 ≤ x) then [⟨q, t, j, x, .slice none 0 0, [], l && decide (q = 0)⟩] else []) by rw [partsTo, hx])
        clear hc hx hxs hcs hcs2 e7 hmb hbx2
        by_cases hx0 : 0 ≤ x
        · have b1 : decide (0 ≤ x) = true := decide_eq_true hx0
          have e2 : wr.cell? ⟨w.heap.size, 2, none⟩ = some (.int .i64 t) := by simp [World.cell?, hbxr]
          have e3 : wr.cell? ⟨w.heap.size, 3, none⟩ = some (.int .i64 j) := by simp [World.cell?, hbxr]
          have e8 : wr.cell? ⟨w.heap.size, 8, none⟩ = some (.bool l) := by simp [World.cell?, hbxr]
          have m3 : wr.cell? ⟨w.heap.size + 1, 3, none⟩ = some pv := by simp [World.cell?, hmr]
          have hpM : ∀ g, pv.ownBlock = some g → g ≠ w.heap.size + 1 := fun g hg e => by have := hnp g hg; omega
          have hlz : ∀ bz, bz = (l && decide (q = 0)) → partsTo t j l cs (q + 1) = partsTo t j l cs q ++ [⟨q, t, j, x, .slice none 0 0, [], bz⟩] := fun bz e => by rw [HP1.out, b1, e]; rfl
          have HLZ := Lib.hid hlz
          have CTX := Lib.hid (And.intro hbw (And.intro hnp hpM))
          clear hlz hbw
          have hcase : (l = false) ∨ (l = true ∧ q = 0) ∨ (l = true ∧ q ≠ 0) := by cases l <;> simp <;> omega
          rcases hcase with rfl | ⟨rfl, hq0⟩ | ⟨rfl, hq0⟩
          · skip
            go_wp2_with (at_builtin; refine halt ?_)
            refine Halt.go ?_
            refine wpList_appd (v := pv) rfl _ _ _ rfl Try.underlying57 hi hz hz1 hz2 hz3 rfl (hs.alloc _) (m := 1) (news := [.int .i64 q, .int .i64 t, .int .i64 j, .int .i64 x, .slice none 0 0, .bool false]) rfl rfl (cells_new _ _ _ rfl) (by simp [Value.oneCell']) (by unfold maxLen; omega) (by omega) ?_
            rintro v7 w7 hs7 ho7 hv7
            obtain ⟨hbw, hnp, hpM⟩ := CTX.out
            have hmlr := (Array.getElem?_eq_some_iff.1 hmr).1
            have hmr7 : w7.heap[w.heap.size + 1]? = _ := ho7.heap ((below_alloc (Below.refl wr.heap.size wr) (.cells #[.int .i64 q, .int .i64 t, .int .i64 j, .int .i64 x, .slice none 0 0, .bool false] 65)).block _ hmlr |>.trans hmr) (fun e => hpM _ e rfl)
            have m7 : w7.cell? ⟨w.heap.size + 1, 3, none⟩ = some pv := by simp [World.cell?, hmr7]
            have f7 : w7.frozen? ⟨w.heap.size + 1, 3, none⟩ = false := by simp [World.frozen?, hmr7]
            obtain ⟨a7, c7, rfl⟩ := hs7.form
            have hO7 : Only (· = w.heap.size + 1) w2 w7 := (hO.alloc _).trans' ho7 (fun i hi e => absurd hi (by have := hnp i e; omega))
            have hst : Only (· = w.heap.size + 1) w7 (w7.setCell ⟨w.heap.size + 1, 3, none⟩ (.slice a7 ((partsTo t j false cs q).length + 1) c7)) := (Only.refl (· = w.heap.size + 1) w7).setCell (p := ⟨w.heap.size + 1, 3, none⟩) (fun _ => rfl) _
            have hmr8 := heap_setCell_cells (o := 3) hmr7 (.slice a7 ((partsTo t j false cs q).length + 1) c7)
            have hs8 := hs7.only hst (fun g hg e => sl_not hmr7 hs7 (by decide) (by rw [← e]; exact hg))
            have hn8 : ∀ g, (Value.slice a7 ((partsTo t j false cs q).length + 1) c7).ownBlock = some g → w2.heap.size ≤ g := fun g hg => by
              rcases hv7 with e | e
              · exact hnp g (by rw [← e]; exact hg)
              · rw [e] at hg; simp at hg; have := hO.size; omega
            have hO8 := hO7.trans' hst (fun i _ e => e)
            have HE := Lib.hid (And.intro hmr8 (And.intro hs8 (And.intro hn8 hO8)))
            have HL := Lib.hid (HLZ.out false rfl)
            clear hmr8 hs8 hn8 hO8 hst hO7 hs7 ho7 hv7 hbw hnp hpM hs hmr7
            go_wp2
            obtain ⟨hmr8, hs8, hn8, hO8⟩ := HE.out
            exact ⟨⟨q + 1, _, by omega, by go_num, (by rw [hmr8]; rfl), by rw [HL.out, List.length_append, List.flatMap_append]; exact hs8, hn8, hO8⟩, by simp [intOf]; omega⟩
          · have bq : ((q : Int) == 0) = true := by simp [hq0]
            have HQ0 := Lib.hid hq0
            clear hq0
            go_wp2_with (at_builtin; refine halt ?_)
            refine Halt.go ?_
            refine wpList_appd (v := pv) rfl _ _ _ rfl Try.underlying57 hi hz hz1 hz2 hz3 rfl (hs.alloc _) (m := 1) (news := [.int .i64 q, .int .i64 t, .int .i64 j, .int .i64 x, .slice none 0 0, .bool true]) rfl rfl (cells_new _ _ _ rfl) (by simp [Value.oneCell']) (by unfold maxLen; omega) (by omega) ?_
            rintro v7 w7 hs7 ho7 hv7
            obtain ⟨hbw, hnp, hpM⟩ := CTX.out
            have hmlr := (Array.getElem?_eq_some_iff.1 hmr).1
            have hmr7 : w7.heap[w.heap.size + 1]? = _ := ho7.heap ((below_alloc (Below.refl wr.heap.size wr) (.cells #[.int .i64 q, .int .i64 t, .int .i64 j, .int .i64 x, .slice none 0 0, .bool true] 65)).block _ hmlr |>.trans hmr) (fun e => hpM _ e rfl)
            have m7 : w7.cell? ⟨w.heap.size + 1, 3, none⟩ = some pv := by simp [World.cell?, hmr7]
            have f7 : w7.frozen? ⟨w.heap.size + 1, 3, none⟩ = false := by simp [World.frozen?, hmr7]
            obtain ⟨a7, c7, rfl⟩ := hs7.form
            have hO7 : Only (· = w.heap.size + 1) w2 w7 := (hO.alloc _).trans' ho7 (fun i hi e => absurd hi (by have := hnp i e; omega))
            have hst : Only (· = w.heap.size + 1) w7 (w7.setCell ⟨w.heap.size + 1, 3, none⟩ (.slice a7 ((partsTo t j true cs q).length + 1) c7)) := (Only.refl (· = w.heap.size + 1) w7).setCell (p := ⟨w.heap.size + 1, 3, none⟩) (fun _ => rfl) _
            have hmr8 := heap_setCell_cells (o := 3) hmr7 (.slice a7 ((partsTo t j true cs q).length + 1) c7)
            have hs8 := hs7.only hst (fun g hg e => sl_not hmr7 hs7 (by decide) (by rw [← e]; exact hg))
            have hn8 : ∀ g, (Value.slice a7 ((partsTo t j true cs q).length + 1) c7).ownBlock = some g → w2.heap.size ≤ g := fun g hg => by
              rcases hv7 with e | e
              · exact hnp g (by rw [← e]; exact hg)
              · rw [e] at hg; simp at hg; have := hO.size; omega
            have hO8 := hO7.trans' hst (fun i _ e => e)
            have HE := Lib.hid (And.intro hmr8 (And.intro hs8 (And.intro hn8 hO8)))
            have HL := Lib.hid (HLZ.out true (by rw [decide_eq_true HQ0.out]; rfl))
            clear hmr8 hs8 hn8 hO8 hst hO7 hs7 ho7 hv7 hbw hnp hpM hs hmr7
            go_wp2
            obtain ⟨hmr8, hs8, hn8, hO8⟩ := HE.out
            exact ⟨⟨q + 1, _, by omega, by go_num, (by rw [hmr8]; rfl), by rw [HL.out, List.length_append, List.flatMap_append]; exact hs8, hn8, hO8⟩, by simp [intOf]; omega⟩
          · have bq : ((q : Int) == 0) = false := by simp [hq0]
            have HQ0 := Lib.hid hq0
            clear hq0
            go_wp2_with (at_builtin; refine halt ?_)
            refine Halt.go ?_
            refine wpList_appd (v := pv) rfl _ _ _ rfl Try.underlying57 hi hz hz1 hz2 hz3 rfl (hs.alloc _) (m := 1) (news := [.int .i64 q, .int .i64 t, .int .i64 j, .int .i64 x, .slice none 0 0, .bool false]) rfl rfl (cells_new _ _ _ rfl) (by simp [Value.oneCell']) (by unfold maxLen; omega) (by omega) ?_
            rintro v7 w7 hs7 ho7 hv7
            obtain ⟨hbw, hnp, hpM⟩ := CTX.out
            have hmlr := (Array.getElem?_eq_some_iff.1 hmr).1
            have hmr7 : w7.heap[w.heap.size + 1]? = _ := ho7.heap ((below_alloc (Below.refl wr.heap.size wr) (.cells #[.int .i64 q, .int .i64 t, .int .i64 j, .int .i64 x, .slice none 0 0, .bool false] 65)).block _ hmlr |>.trans hmr) (fun e => hpM _ e rfl)
            have m7 : w7.cell? ⟨w.heap.size + 1, 3, none⟩ = some pv := by simp [World.cell?, hmr7]
            have f7 : w7.frozen? ⟨w.heap.size + 1, 3, none⟩ = false := by simp [World.frozen?, hmr7]
            obtain ⟨a7, c7, rfl⟩ := hs7.form
            have hO7 : Only (· = w.heap.size + 1) w2 w7 := (hO.alloc _).trans' ho7 (fun i hi e => absurd hi (by have := hnp i e; omega))
            have hst : Only (· = w.heap.size + 1) w7 (w7.setCell ⟨w.heap.size + 1, 3, none⟩ (.slice a7 ((partsTo t j true cs q).length + 1) c7)) := (Only.refl (· = w.heap.size + 1) w7).setCell (p := ⟨w.heap.size + 1, 3, none⟩) (fun _ => rfl) _
            have hmr8 := heap_setCell_cells (o := 3) hmr7 (.slice a7 ((partsTo t j true cs q).length + 1) c7)
            have hs8 := hs7.only hst (fun g hg e => sl_not hmr7 hs7 (by decide) (by rw [← e]; exact hg))
            have hn8 : ∀ g, (Value.slice a7 ((partsTo t j true cs q).length + 1) c7).ownBlock = some g → w2.heap.size ≤ g := fun g hg => by
              rcases hv7 with e | e
              · exact hnp g (by rw [← e]; exact hg)
              · rw [e] at hg; simp at hg; have := hO.size; omega
            have hO8 := hO7.trans' hst (fun i _ e => e)
            have HE := Lib.hid (And.intro hmr8 (And.intro hs8 (And.intro hn8 hO8)))
            have HL := Lib.hid (HLZ.out false (by rw [decide_eq_false HQ0.out]; rfl))
            clear hmr8 hs8 hn8 hO8 hst hO7 hs7 ho7 hv7 hbw hnp hpM hs hmr7
            go_wp2
            obtain ⟨hmr8, hs8, hn8, hO8⟩ := HE.out
            exact ⟨⟨q + 1, _, by omega, by go_num, (by rw [hmr8]; rfl), by rw [HL.out, List.length_append, List.flatMap_append]; exact hs8, hn8, hO8⟩, by simp [intOf]; omega⟩
        · have b1 : decide (0 ≤ x) = false := decide_eq_false hx0
          have HP2 := Lib.hid (show partsTo t j l cs (q + 1) = partsTo t j l cs q by rw [HP1.out, b1]; simp)
          go_wp2
          exact ⟨⟨q + 1, pv, by omega, by go_num, hmr, by rw [HP2.out]; exact hs, hnp, hO⟩, by simp [intOf]; omega⟩
      · have hqe : q = cs.length := by omega
        subst hqe
        have m0 : wr.cell? ⟨w.heap.size + 1, 0, none⟩ = some (.int .i64 t) := by simp [World.cell?, hmr]
        have m1 : wr.cell? ⟨w.heap.size + 1, 1, none⟩ = some (.int .i64 j) := by simp [World.cell?, hmr]
        have m2 : wr.cell? ⟨w.heap.size + 1, 2, none⟩ = some (.int .i64 i) := by simp [World.cell?, hmr]
        have m3 : wr.cell? ⟨w.heap.size + 1, 3, none⟩ = some pv := by simp [World.cell?, hmr]
        have hr := SL.rs ePt_len hs
        have hpt : Pts wr pv (partsTo t j l cs cs.length) := ⟨hr, fun p hp => by rw [(partsTo_nil t j l cs _ p hp).1, (partsTo_nil t j l cs _ p hp).2]; exact RS.nil _ _ _⟩
        have hsz := hA2.size
        have CTX := Lib.hid (And.intro hpt (And.intro hbw hnp))
        clear hpt hbw hnp hr hs hmr hO hbxr
        go_wp2
        go_ret
        exact ⟨.mani t j i pv (partsTo t j l cs cs.length), rfl, .inr ⟨rfl, pv, rfl⟩, CTX.out.1, fun g pv' ps' e hg => by cases e; exact Nat.le_trans hsz (CTX.out.2.2 g hg), CTX.out.2.1⟩
  · have b1 : (k != 7) = true := by simp [hk]
    have HM := make_any _ l (k := k) (a := a) (t := t) (j := j) (c := i) (n := n) (hxs.only (only_of_below hA (fun _ => False)) (fun _ _ => id)) hk
    have HK := Lib.hid hk
    clear hxs hcs hk hbx
    go_enter Try.func16, Try.ntmps16
    go_wp2_with fail
    refine HM.mono ?_
    rintro e w1 ⟨rfl, hm, hb⟩
    have hbb := below_trans' hb hA
    have hne : ∀ g pv ps, makeM k a t j i n l (.slice xa xs.length xc) xs = .mani t j i pv ps → pv.ownBlock = some g → w.heap.size ≤ g := fun g pv ps e => by
      exfalso
      unfold makeM at e
      repeat (first | (split at e; first | cases e | skip) | cases e)
    have HH := Lib.hid (And.intro hm (And.intro hbb hne))
    obtain ⟨mv, hmv⟩ : ∃ mv, mv = val (makeM k a t j i n l (.slice xa xs.length xc) xs) := ⟨_, rfl⟩
    rw [← hmv]
    have HV := Lib.hid hmv
    have hf : (∃ t v, mv = .iface t v) ∨ mv = .nilIface := by rw [hmv]; exact val_form _
    clear hm hbb hne HM hb hmv hA
    rcases hf with ⟨tt, vv, rfl⟩ | rfl
    · go_wp2
      go_ret
      exact ⟨_, by rw [← HV.out]; rfl, .inl ⟨HK.out, rfl⟩, HH.out.1, HH.out.2.2, HH.out.2.1⟩
    · go_wp2
      go_ret
      exact ⟨_, by rw [← HV.out]; rfl, .inl ⟨HK.out, rfl⟩, HH.out.1, HH.out.2.2, HH.out.2.1⟩
end Go.Proofs.Ytcdjeblcmgghhaa.Asm
