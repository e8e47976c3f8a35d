/- The reference's keeper's Write. Conditions: it lies in memory as KfR says, its pool is sound. PRINTED BY wip/gen_kref2.py. -/
import Derived.Test.YtniggacgkhkgiaaKref1
import Derived.Deep.LoopGhost
import Derived.Deep.QuietTactic
import Derived.BigQuiet
import Derived.Deep.DeepCutAuto
namespace Go.Sp
open Go.RowKit
/-- what a sound keeper's pool is -/
def Kinv (K : Kp) : Prop := KS K.M ∧ (∀ p ∈ K.M, p.2 ≠ []) ∧ usedM K.M ≤ K.N ∧ (∀ k, (lgetA k K.M).length ≤ 48) ∧ 1 ≤ K.N ∧ K.N ≤ 16 ∧ K.M.length ≤ 16
theorem Kinv.len {K : Kp} (h : Kinv K) : ∀ p ∈ K.M, p.2.length ≤ 1000 := fun p hp => by
  have := h.2.2.2.1 p.1
  unfold lgetA at this
  rw [mget_of_mem h.1 hp] at this
  exact Nat.le_trans this (by omega)
theorem Kinv.room {K : Kp} {k : Int} (h : Kinv K) (h0 : roomE K k = 0) : Kinv (roomK K k) := by
  obtain ⟨hm, _⟩ := roomE_may h0
  obtain ⟨l, hl⟩ := least_in h0
  have hu := usedM_mdel h.1 hl
  have hr : roomK K k = { K with M := mdel (leastK K k) K.M, lost := mput (leastK K k) () K.lost, gone := K.gone ++ [leastK K k] } := by unfold roomK; rw [hm]; rfl
  rw [hr]
  obtain ⟨h1, h2, h3, h4, h5, h6, h7⟩ := h
  refine ⟨h1.mdel, fun p hp => h2 p (mem_mdel.1 hp).1, by show usedM (mdel _ _) ≤ K.N; omega, fun x => ?_, h5, h6, Nat.le_trans mdel_length_le h7⟩
  show (lgetA x (mdel _ _)).length ≤ 48
  rw [lgetA_del]
  split
  · simp
  · exact h4 x
/-- the traces that may go, of the first j, behind the one that is written -/
def mayT (K : Kp) (k : Int) (j : Nat) : List Int := k :: ((K.M.take j).map Prod.fst).filter fun x => !hasK K.pins x
theorem mayT_all (K : Kp) (k : Int) : mayT K k K.M.length = k :: mayK K := by unfold mayT mayK; rw [List.take_length]
theorem mayT_len (K : Kp) (k : Int) (j : Nat) : (mayT K k j).length ≤ K.M.length + 1 := by
  unfold mayT
  rw [List.length_cons]
  have h1 := List.length_filter_le (fun x => !hasK K.pins x) ((K.M.take j).map Prod.fst)
  rw [List.length_map, List.length_take] at h1
  omega
theorem mayT_snoc {K : Kp} {k : Int} {j : Nat} {p : Int × List Spn} (h : K.M[j]? = some p) : mayT K k (j + 1) = if hasK K.pins p.1 then mayT K k j else mayT K k j ++ [p.1] := by
  unfold mayT
  rw [List.take_add_one, h, Option.toList_some, List.map_append, List.filter_append]
  cases e : hasK K.pins p.1 <;> simp [e]
theorem least_swap (s k : Int) (l : List Int) : leastP s (k :: l) = leastP s (l ++ [k]) := by
  have m1 := leastP_mem s (l := k :: l) (by simp)
  have m2 := leastP_mem s (l := l ++ [k]) (by simp)
  have h1 := leastP_le s (l := l ++ [k]) (x := leastP s (k :: l)) (by
    rcases List.mem_cons.1 m1 with e | e
    · rw [e]; simp
    · exact List.mem_append_left _ e)
  have h2 := leastP_le s (l := k :: l) (x := leastP s (l ++ [k])) (by
    rcases List.mem_append.1 m2 with e | e
    · exact List.mem_cons_of_mem _ e
    · simp at e; rw [e]; simp)
  generalize leastP s (k :: l) = a at *
  generalize leastP s (l ++ [k]) = b at *
  by_cases e1 : lessP s a b = true
  · rw [h1] at e1; cases e1
  · by_cases e2 : lessP s b a = true
    · rw [h2] at e2; cases e2
    · rw [lessP_iff] at e1 e2; omega
end Go.Sp
namespace Go.Proofs.Ytniggacgkhkgiaa.Kref
open Go.RowKit Go.Sp Msg Ev Pool Pref Hash
section
variable {w w' w1 w2 : World} {R Rp Rp' F : Nat → Prop} {rb pb q : Nat} {pv lv gv pv' lv' gv' : Value} {K K' : Kp} {ps ls ps' ls' : List Int} {k : Int} {s : ByteArray}
theorem KfR.le {q' : Nat} (h : KfR w R rb K q) (hq : q ≤ q') : KfR w R rb K q' := by
  obtain ⟨Rp, pb, pv, lv, gv, ps, ls, h, h1, h2⟩ := h
  exact ⟨Rp, pb, pv, lv, gv, ps, ls, h, by omega, by omega⟩
theorem pw_ok (h : Kf w R Rp rb pb pv lv gv K ps ls) (hi : Kinv K) (ha : argK k s = true) (hc : canW K k = true) : Calls Try.prog 101 #[.pointer (some ⟨pb, 0, none⟩), .int .i64 k, .string s] w fun e w' => e = .returned (.tuple #[.agg #[.int .i64 (spnK K k s).1, .int .i64 (spnK K k s).2.1, .string (spnK K k s).2.2], .int .i64 0]) ∧
    ∃ Rp', Kf w' (fun b => R b ∨ Rp' b) Rp' rb pb pv lv gv (putK K k s) ps ls ∧ (∀ b, Rp' b → Rp b ∨ w.heap.size ≤ b) ∧ Only R w w' := by
  obtain ⟨tv, av, us, hQ⟩ := h.pool
  have hk : 1 ≤ k ∧ k ≤ 65535 ∧ (s.size : Int) ≤ 40 := by
    unfold argK at ha
    simp only [Bool.and_eq_true, decide_eq_true_eq] at ha
    exact ha
  have hc' : (lgetA k K.M).length % 3 ≠ 0 ∨ usedM K.M < K.N := by
    unfold canW at hc
    simpa only [Bool.or_eq_true, decide_eq_true_eq] using hc
  have hl := hi.len
  obtain ⟨h1, h2, h3, h4, h5, h6, h7⟩ := hi
  cases e : mget k K.M with
  | some l =>
    refine (pw_old hQ h1 h6 h3 hl ⟨hk.1, hk.2.1⟩ hk.2.2 hc' (by omega) (by rw [e]; rfl)).mono ?_
    rintro e w' ⟨rfl, hO⟩
    exact ⟨rfl, h.setPool hO⟩
  | none =>
    have hg : lgetA k K.M = [] := by unfold lgetA; rw [e]; rfl
    have hp : (putK K k s).M = mput k [(k, 1, s)] K.M := by
      show mput k (lgetA k K.M ++ [(k, ((lgetA k K.M).length : Int) + 1, s)]) K.M = _
      rw [hg]; rfl
    have hs : spnK K k s = (k, 1, s) := by unfold spnK; rw [hg]; rfl
    rw [hg] at hc'
    refine (pw_new hQ h6 (by rcases hc' with e | e; · simp at e
                             · exact e) hl ⟨hk.1, hk.2.1⟩ hk.2.2 (by omega) e).mono ?_
    rintro e w' ⟨rfl, hO⟩
    rw [← hp] at hO
    exact ⟨by rw [hs], h.setPool hO⟩
theorem pw_no (h : Kf w R Rp rb pb pv lv gv K ps ls) (hi : Kinv K) (ha : argK k s = true) (hc : canW K k = false) : Calls Try.prog 101 #[.pointer (some ⟨pb, 0, none⟩), .int .i64 k, .string s] w fun e w' => e = .returned (.tuple #[.agg #[.int .i64 0, .int .i64 0, .string ⟨#[]⟩], .int .i64 6]) ∧ Below w.heap.size w w' := by
  obtain ⟨tv, av, us, hQ⟩ := h.pool
  have hk : 1 ≤ k ∧ k ≤ 65535 ∧ (s.size : Int) ≤ 40 := by
    unfold argK at ha
    simp only [Bool.and_eq_true, decide_eq_true_eq] at ha
    exact ha
  unfold canW at hc
  simp only [Bool.or_eq_false_iff, decide_eq_false_iff_not] at hc
  have hl := hi.len
  obtain ⟨h1, h2, h3, h4, h5, h6, h7⟩ := hi
  exact pw_full hQ h6 (by omega) hl ⟨hk.1, hk.2.1⟩ hk.2.2 (by omega)

set_option maxRecDepth 100000 in
set_option maxHeartbeats 8000000 in
theorem write_any (h : KfR w R rb K q) (hq : q ≤ 1000) (hinv : Kinv K) (hn : Nums K) (hg : K.gone.length ≤ 500) : Calls Try.prog 48 #[.pointer (some ⟨rb, 0, none⟩), .int .i64 k, .string s] w fun e w' => e = .returned (.tuple #[.agg #[.int .i64 (writeK K k s).2.1.1, .int .i64 (writeK K k s).2.1.2.1, .string (writeK K k s).2.1.2.2], .int .i64 (writeK K k s).2.2]) ∧ KfO w R rb (writeK K k s).1 (q + 1) w' := by
  have hA := below_alloc (Below.refl w.heap.size w) (.cells #[.int .i64 0, .int .i64 0, .string ⟨#[]⟩] 89)
  have hbx := heap_new w (.cells #[.int .i64 0, .int .i64 0, .string ⟨#[]⟩] 89) rfl
  have hK1 := h.below hA
  have hlt := h.lt
  have hzx : w.heap.size < (w.alloc (.cells #[.int .i64 0, .int .i64 0, .string ⟨#[]⟩] 89)).heap.size := by simp
  have hE0 := cell_blk hbx (j := 0) (u := .int .i64 0) rfl
  have hE1 := cell_blk hbx (j := 1) (u := .int .i64 0) rfl
  have hE2 := cell_blk hbx (j := 2) (u := .string ⟨#[]⟩) rfl
  obtain ⟨T, hT⟩ : ∃ T, T = writeK K k s := ⟨_, rfl⟩
  rw [← hT]
  obtain ⟨K2, ⟨x1, x2, x3⟩, e2⟩ := T
  simp only
  have f0 := froz_blk hbx 0
  have f1 := froz_blk hbx 1
  have f2 := froz_blk hbx 2
  have early : KfO w R rb K (q + 1) (w.alloc (.cells #[.int .i64 0, .int .i64 0, .string ⟨#[]⟩] 89)) := ⟨R, hK1.le (by omega), fun b hb => .inl hb, only_of_below hA R⟩
  cases ha : argK k s with
  | false =>
    have h3 : k < 1 ∨ (1 ≤ k ∧ 65535 < k) ∨ (1 ≤ k ∧ k ≤ 65535 ∧ 40 < (s.size : Int)) := by
      unfold argK at ha
      simp only [Bool.and_eq_false_iff, decide_eq_false_iff_not] at ha
      omega
    rcases h3 with h3 | ⟨h2, h3⟩ | ⟨h1, h2, h3⟩
    · have b1 : decide (k < 1) = true := decide_eq_true h3
      clear h3
      obtain ⟨rfl, e3, rfl⟩ : K2 = K ∧ (x1, x2, x3) = zSpn ∧ e2 = 1 := by
        have := hT
        unfold writeK at this; rw [ha] at this; simp only [Bool.not_false, cond_true, Prod.mk.injEq] at this
        simpa using this
      cases e3
      have HEO := Lib.hid early
      clear early hT hK1 hbx h hn hlt
      go_enter Try.func48, Try.ntmps48
      go_wp2
      refine bodyPost_ret (by simp [results, Try.results48, go_sem, hE0, hE1, hE2]; try rfl) rfl ?_
      exact ⟨rfl, HEO.out⟩
    · have b1 : decide (k < 1) = false := decide_eq_false (by omega)
      have b2 : decide (65535 < k) = true := decide_eq_true h3
      clear h3 h2
      obtain ⟨rfl, e3, rfl⟩ : K2 = K ∧ (x1, x2, x3) = zSpn ∧ e2 = 1 := by
        have := hT
        unfold writeK at this; rw [ha] at this; simp only [Bool.not_false, cond_true, Prod.mk.injEq] at this
        simpa using this
      cases e3
      have HEO := Lib.hid early
      clear early hT hK1 hbx h hn hlt
      go_enter Try.func48, Try.ntmps48
      go_wp2
      refine bodyPost_ret (by simp [results, Try.results48, go_sem, hE0, hE1, hE2]; try rfl) rfl ?_
      exact ⟨rfl, HEO.out⟩
    · have b1 : decide (k < 1) = false := decide_eq_false (by omega)
      have b2 : decide (65535 < k) = false := decide_eq_false (by omega)
      have b3 : decide (40 < (s.size : Int)) = true := decide_eq_true h3
      have b4 : decide (40 < s.size) = true := decide_eq_true (by omega)
      clear h3 h2 h1
      obtain ⟨rfl, e3, rfl⟩ : K2 = K ∧ (x1, x2, x3) = zSpn ∧ e2 = 1 := by
        have := hT
        unfold writeK at this; rw [ha] at this; simp only [Bool.not_false, cond_true, Prod.mk.injEq] at this
        simpa using this
      cases e3
      have HEO := Lib.hid early
      clear early hT hK1 hbx h hn hlt
      go_enter Try.func48, Try.ntmps48
      go_wp2
      refine bodyPost_ret (by simp [results, Try.results48, go_sem, hE0, hE1, hE2]; try rfl) rfl ?_
      exact ⟨rfl, HEO.out⟩
  | true =>
    have hk16 : 1 ≤ k ∧ k ≤ 65535 ∧ (s.size : Int) ≤ 40 := by
      unfold argK at ha
      simp only [Bool.and_eq_true, decide_eq_true_eq] at ha
      exact ha
    have b1 : decide (k < 1) = false := decide_eq_false (by omega)
    have b2 : decide (65535 < k) = false := decide_eq_false (by omega)
    have b3 : decide (40 < (s.size : Int)) = false := decide_eq_false (by omega)
    have b4 : decide (40 < s.size) = false := decide_eq_false (by omega)
    obtain ⟨Rp, pb, pv, lv, gv, ps, ls, hK, hq1, hq2⟩ := id hK1
    have c3 := hK.cell (j := 3) rfl
    have c2 := hK.cell (j := 2) rfl
    have HIl := in_any (SL.ints hK.lost) (by omega) k
    have HIp := in_any (SL.ints hK.pins) (by omega) k
    rw [has_of hK.lsm] at HIl
    rw [has_of hK.psm] at HIp
    cases hL : hasK K.lost k with
    | true =>
      rw [hL] at HIl
      clear hK hk16
      obtain ⟨rfl, e3, rfl⟩ : K2 = K ∧ (x1, x2, x3) = zSpn ∧ e2 = 10 := by
        have := hT
        unfold writeK at this; rw [ha, hL] at this; simp only [Bool.not_true, cond_false, cond_true, Prod.mk.injEq] at this
        simpa using this
      cases e3
      have HEO := Lib.hid early
      clear early hT hK1 hbx h hn hlt
      go_enter Try.func48, Try.ntmps48
      go_wp2_with fail
      refine HIl.mono ?_
      rintro e w' ⟨rfl, rfl⟩
      clear HIl HIp
      go_wp2
      refine bodyPost_ret (by simp [results, Try.results48, go_sem, hE0, hE1, hE2]; try rfl) rfl ?_
      exact ⟨rfl, HEO.out⟩
    | false =>
      rw [hL] at HIl
      cases hI : hasK K.pins k with
      | true =>
        rw [hI] at HIp
        clear hK hk16
        obtain ⟨rfl, e3, rfl⟩ : K2 = K ∧ (x1, x2, x3) = zSpn ∧ e2 = 12 := by
          have := hT
          unfold writeK at this; rw [ha, hL, hI] at this; simp only [Bool.not_true, cond_false, cond_true, Prod.mk.injEq] at this
          simpa using this
        cases e3
        have HEO := Lib.hid early
        clear early hT hK1 hbx h hn hlt
        go_enter Try.func48, Try.ntmps48
        go_wp2_with fail
        refine HIl.mono ?_
        rintro e w' ⟨rfl, rfl⟩
        go_wp2_with fail
        refine HIp.mono ?_
        rintro e w' ⟨rfl, rfl⟩
        clear HIl HIp
        go_wp2
        refine bodyPost_ret (by simp [results, Try.results48, go_sem, hE0, hE1, hE2]; try rfl) rfl ?_
        exact ⟨rfl, HEO.out⟩
      | false =>
        rw [hI] at HIp
        have hT1 : write1 K k s = (K2, (x1, x2, x3), e2) := by
          have := hT
          unfold writeK at this
          rw [ha, hL, hI] at this
          simpa using this.symm
        have HX := Lib.hid (And.intro hT1 (And.intro hinv (And.intro hn (And.intro hg (And.intro hbx (And.intro hK1 (And.intro hlt hzx)))))))
        clear hT1 hT hK1 hn hg hbx early hlt hE0 hE1 hE2 f0 f1 f2 hL hI h hinv hK
        go_enter Try.func48, Try.ntmps48
        go_wp2_with fail
        refine HIl.mono ?_
        rintro e w' ⟨rfl, rfl⟩
        go_wp2_with fail
        refine HIp.mono ?_
        rintro e w' ⟨rfl, rfl⟩
        clear HIl HIp
        go_wp2
        obtain ⟨hT1, hinv, hn, hg, hbx, hK1, hlt, hzx⟩ := HX.out
        clear HX
        generalize (w.alloc (.cells #[.int .i64 0, .int .i64 0, .string ⟨#[]⟩] 89)) = w1 at hA hbx hK1 hzx c3 c2 ⊢
        clear c3 c2 hq1 hq2
        have hxR : ¬ R w.heap.size := fun e => by have := hlt _ e; omega
        have HQ := Lib.hid (And.intro hbx (And.intro hA (And.intro hxR hzx)))
        clear hbx hlt
        go_loopg [] 1 (fun gk wr => ∃ K' R' q', KfR wr R' rb K' q' ∧ Kinv K' ∧ Nums K' ∧ K'.gone.length + gk ≤ 501 ∧ q' + gk ≤ q + 1 ∧ write1 K' k s = (K2, (x1, x2, x3), e2) ∧ (gk = 0 → canW K' k = true) ∧ gk ≤ 1 ∧ (∀ b, R' b → R b ∨ w1.heap.size ≤ b) ∧ Only R w1 wr)
        case atStart => exact ⟨K, R, q, hK1, hinv, hn, by omega, by omega, hT1, by omega, by omega, fun b hb => .inl hb, Only.refl _ _⟩
        case round =>
          clear hK1 hn hg hT1 hinv
          obtain ⟨K', R', q', hK', hi', hn', hg', hqq, hT', hc0, hg1, hR', hO'⟩ := hrel
          obtain ⟨hbx, hA, hxR, hzx⟩ := HQ.out
          have hbxr := hO'.heap hbx hxR
          have hxR' : ¬ R' w.heap.size := fun e => by
            rcases hR' _ e with h | h
            · exact hxR h
            · omega
          obtain ⟨Rp', pb', pv', lv', gv', ps', ls', hKr, hq1, hq2⟩ := id hK'
          have c0 := hKr.cell (j := 0) rfl
          cases hc : canW K' k with
          | true =>
            have hTe : K2 = putK K' k s ∧ (x1, x2, x3) = spnK K' k s ∧ e2 = 0 := by
              unfold write1 at hT'
              rw [hc] at hT'
              simp only [cond_true, Prod.mk.injEq] at hT'
              exact ⟨hT'.1.symm, by rw [← hT'.2.1], hT'.2.2.symm⟩
            have HW := pw_ok hKr hi' ha hc
            rw [← hTe.2.1, ← hTe.1] at HW
            obtain ⟨rfl⟩ := hTe.2.2
            have HQ2 := Lib.hid (And.intro hbxr (And.intro hR' (And.intro hO' (And.intro hxR' (And.intro hA (And.intro hzx hKr.rp))))))
            clear hTe hT' hc hK' hn' hg' hc0 hg1 hKr hbxr hR' hO' hxR' hbx hA hxR hi'
            go_wp2_with fail
            refine HW.mono ?_
            rintro e w3 ⟨rfl, Rp3, hK3, hRp3, hO3⟩
            obtain ⟨hbxr, hR', hO', hxR', hA, hzx, hrp⟩ := HQ2.out
            have hbx3 := hO3.heap hbxr hxR'
            have hA4 := below_alloc (Below.refl w3.heap.size w3) (.cells #[.int .i64 x1, .int .i64 x2, .string x3] 89)
            have hby4 := heap_new w3 (.cells #[.int .i64 x1, .int .i64 x2, .string x3] 89) rfl
            have hbx4 := (hA4.block _ (Array.getElem?_eq_some_iff.1 hbx3).1).trans hbx3
            have hK4 := hK3.below hA4
            have hR4 : ∀ b, (R' b ∨ Rp3 b) → R b ∨ w1.heap.size ≤ b := fun b hb => by
              rcases hb with hb | hb
              · exact hR' b hb
              · rcases hRp3 b hb with e | e
                · exact hR' b (hrp b e)
                · exact .inr (Nat.le_trans hO'.size e)
            have hO4 : Only R w1 (w3.alloc (.cells #[.int .i64 x1, .int .i64 x2, .string x3] 89)) := (hO'.trans' hO3 (fun i hi e => (hR' i e).resolve_right (by omega))).trans (only_of_below hA4 R)
            have hxlt := (Array.getElem?_eq_some_iff.1 hbx3).1
            clear HW hbxr hR' hO' hxR' hK3 hRp3 hO3 hbx3 hA4 c0 hrp
            go_upto_region 8 with (fail)
            generalize (w3.alloc (.cells #[.int .i64 x1, .int .i64 x2, .string x3] 89)) = w4 at hby4 hbx4 hK4 hO4 ⊢
            generalize w3.heap.size = yb at hby4 hxlt ⊢
            have y0 := cell_blk hby4 (j := 0) (u := .int .i64 x1) rfl
            have y1 := cell_blk hby4 (j := 1) (u := .int .i64 x2) rfl
            have y2 := cell_blk hby4 (j := 2) (u := .string x3) rfl
            have hxw : ¬ (R' w.heap.size ∨ Rp3 w.heap.size) := fun e => by
              rcases hR4 _ e with h | h
              · exact HQ.out.2.2.1 h
              · omega
            clear HQ2
            have f0 := froz_blk hbx4 0
            have f1 := froz_blk hbx4 1
            have f2 := froz_blk hbx4 2
            have d0 := cell_blk hbx4 (j := 0) (u := .int .i64 0) rfl
            have d1 := cell_blk hbx4 (j := 1) (u := .int .i64 0) rfl
            have d2 := cell_blk hbx4 (j := 2) (u := .string ⟨#[]⟩) rfl
            have hr3 := res3 hbx4 (.int .i64 x1) (.int .i64 x2) (.string x3)
            have hset : Only (· = w.heap.size) w4 (((w4.setCell ⟨w.heap.size, 0, none⟩ (.int .i64 x1)).setCell ⟨w.heap.size, 1, none⟩ (.int .i64 x2)).setCell ⟨w.heap.size, 2, none⟩ (.string x3)) :=
              (((Only.refl (· = w.heap.size) _).setCell (p := ⟨w.heap.size, 0, none⟩) (fun _ => rfl) _).setCell (p := ⟨w.heap.size, 1, none⟩) (fun _ => rfl) _).setCell (p := ⟨w.heap.size, 2, none⟩) (fun _ => rfl) _
            have hK5 := hK4.only hset (fun b hb e => hxw (by rw [← e]; exact hb))
            have hO5 := ((only_of_below hA R).trans hO4).trans' hset (fun i hi e => by omega)
            have hR5 : ∀ b, (fun b => R' b ∨ Rp3 b) b → R b ∨ w.heap.size ≤ b := fun b hb => (hR4 b hb).imp id (fun e => by omega)
            have HF := Lib.hid (And.intro (show KfO w R rb K2 (q + 1) _ from ⟨_, ⟨Rp3, pb', pv', lv', gv', ps', ls', hK5, by omega, by omega⟩, hR5, hO5⟩) hr3)
            clear hK5 hO5 hR5 hset hxw hr3 hK4 hO4 hR4 hbx4 HQ hA hzx
            go_wp2
            obtain ⟨hfin, hr3⟩ := HF.out
            have z0 := cell_blk hr3 (j := 0) (u := .int .i64 x1) rfl
            have z1 := cell_blk hr3 (j := 1) (u := .int .i64 x2) rfl
            have z2 := cell_blk hr3 (j := 2) (u := .string x3) rfl
            generalize (((w4.setCell ⟨w.heap.size, 0, none⟩ (.int .i64 x1)).setCell ⟨w.heap.size, 1, none⟩ (.int .i64 x2)).setCell ⟨w.heap.size, 2, none⟩ (.string x3)) = w9 at hfin z0 z1 z2 ⊢
            refine bodyPost_ret (by simp [results, Try.results48, go_sem, z0, z1, z2]; try rfl) rfl ?_
            exact ⟨rfl, hfin⟩
          | false =>
            have hgk : gk = 1 := by
              rcases Nat.lt_or_ge 0 gk with h | h
              · omega
              · have := hc0 (by omega); rw [hc] at this; cases this
            subst hgk
            have HW := pw_no hKr hi' ha hc
            have hk16' : 1 ≤ k ∧ k ≤ 65535 := ⟨hk16.1, hk16.2.1⟩
            have hcr := fun h0 => canW_room (k := k) hi'.1 hi'.2.1 hi'.2.2.1 h0
            have HQ2 := Lib.hid (And.intro hbxr (And.intro hR' (And.intro hO' (And.intro hxR' (And.intro hA (And.intro hzx (And.intro hT' (And.intro hc (And.intro hn' (And.intro hg' (And.intro hcr (And.intro hi' hKr))))))))))))
            have hrz := hKr.rlt rb hKr.rr.1
            clear hT' hc hK' hn' hg' hc0 hg1 hbxr hR' hO' hxR' hbx hA hxR hcr hi' hKr
            go_wp2_with fail
            refine HW.mono ?_
            rintro e w3 ⟨rfl, hb3⟩
            have hA4 := below_trans' (below_alloc (Below.refl w3.heap.size w3) (.cells #[.int .i64 0, .int .i64 0, .string ⟨#[]⟩] 89)) hb3
            have hA5 := below_trans' (below_alloc (Below.refl _ (w3.alloc (.cells #[.int .i64 0, .int .i64 0, .string ⟨#[]⟩] 89))) (.cells #[.int .i64 k] 3)) hA4
            have hbm := heap_new (w3.alloc (.cells #[.int .i64 0, .int .i64 0, .string ⟨#[]⟩] 89)) (.cells #[.int .i64 k] 3) (b := w3.heap.size + 1) (by simp)
            have hmz : wr.heap.size ≤ w3.heap.size + 1 := by have := hb3.size; omega
            clear HW c0 hb3 hA4
            go_wp2
            generalize ((w3.alloc (.cells #[.int .i64 0, .int .i64 0, .string ⟨#[]⟩] 89)).alloc (.cells #[.int .i64 k] 3)) = w5 at hA5 hbm ⊢
            generalize w3.heap.size + 1 = mb at hbm hmz ⊢
            obtain ⟨hbxr, hR', hO', hxR', hA, hzx, hT', hc, hn', hg', hcr, hi', hKr⟩ := HQ2.out
            have hK5 := hKr.below hA5
            have hbx5 := (hA5.block _ (Array.getElem?_eq_some_iff.1 hbxr).1).trans hbxr
            have hO5 : Only R w1 w5 := hO'.trans (only_of_below hA5 R)
            have hnm : ¬ R' mb := fun e => by have := hKr.rlt _ e; omega
            have hR5 : ∀ b, R' b → R b ∨ w1.heap.size ≤ b := hR'
            have hxm : w.heap.size ≠ mb := by have := (Array.getElem?_eq_some_iff.1 hbxr).1; omega
            have hw1m : w1.heap.size ≤ mb := Nat.le_trans hO'.size hmz
            have hm0 : SL w5.heap 3 1 (.slice (some ⟨mb, 0, none⟩) 1 1) (mayT K' k 0).length ((mayT K' k 0).map Sp.zI) := sl_all hbm rfl rfl (by omega)
            obtain ⟨tv, av, us, hQ5⟩ := hK5.pool
            obtain ⟨ta, tc, rfl⟩ := hQ5.st.form
            have hm16 : K'.M.length ≤ 16 := hi'.2.2.2.2.2.2
            have HZ := Lib.hid (And.intro hK5 (And.intro hQ5 (And.intro hbx5 (And.intro hO5 (And.intro hn' (And.intro hi' (And.intro hT' (And.intro hc (And.intro hcr hg')))))))))
            obtain ⟨i0, z0, hi0, hz0, hz1, hz2, hz3⟩ := info_at (P := Try.prog) (e := 3) (f := (1, 8, 1)) (by kernel_rfl)
            clear hbxr hR' hO' hT' hc hn' hg' hcr hi' hKr hK5 hbx5 hO5 hA5 hbm hQ5 hmz hxR HQ2 hrz
            go_loopw [10, 11] (fun t10 i wy => ∃ j : Nat, j ≤ K'.M.length ∧ i = .int .i64 j ∧ SL wy.heap 3 1 t10 (mayT K' k j).length ((mayT K' k j).map Sp.zI) ∧ (∀ g, t10.ownBlock = some g → g = mb ∨ w5.heap.size ≤ g) ∧ Only (· = mb) w5 wy) (fun _ i _ => K'.M.length - (intOf i).toNat)
            case atStart => exact ⟨0, Nat.zero_le _, rfl, hm0, fun g hg => by simp [Value.ownBlock] at hg; exact .inl hg.symm, Only.refl _ _⟩
            case round =>
              clear hm0
              obtain ⟨j, hj, rfl, hs6, hn6, hO6⟩ := hrel
              have hK6 := HZ.out.1.only hO6 (fun b hb e => hnm (by rw [← e]; exact hb))
              have hQ6 := HZ.out.2.1.only hO6 (fun b hb e => hnm (by rw [← e]; exact hK6.rp b hb))
              have c0 := hK6.cell (j := 0) rfl
              have p1 := hQ6.cell (j := 1) rfl
              have hlen := mayT_len K' k j
              by_cases hjn : j < K'.M.length
              · have c2 := hK6.cell (j := 2) rfl
                obtain ⟨⟨t, l⟩, hp⟩ : ∃ p, K'.M[j]? = some p := ⟨_, List.getElem?_eq_getElem hjn⟩
                obtain ⟨tb, toff, tcap, hv, _⟩ := hQ6.st.form' (by omega)
                simp only [Value.slice.injEq, true_and] at hv
                obtain ⟨rfl, rfl⟩ := hv
                have hct : wr.cell? ⟨tb, toff + j, none⟩ = some (.int .i64 t) := hQ6.st.cell (by rw [List.getElem?_map, hp]; rfl)
                have hsn := mayT_snoc (k := k) hp
                simp only at hsn
                have q : ∀ n, Calls Try.prog 53 #[pv', .int .i64 t] (wr.drewN n) fun e w' => e = .returned (.bool (hasK K'.pins t)) ∧ w' = wr.drewN n := fun n => (in_any (w := wr.drewN n) (RS.heap (w' := wr.drewN n) (SL.ints hK6.pins) rfl) (by omega) t).mono fun e w' h => ⟨by rw [h.1, has_of hK6.psm], h.2.symm⟩
                cases hpt : hasK K'.pins t with
                | true =>
                  rw [hpt] at hsn
                  simp only [hpt] at q
                  have HS := Lib.hid hsn
                  clear hsn hpt hp
                  go_wp2
                  go_quiet (first | (go_at_call 53; exact Calls.quiet_of_same (q _)))
                  clear q
                  go_wp2
                  exact ⟨⟨j + 1, by omega, by go_num, by rw [HS.out]; exact hs6, hn6, hO6.drewN _⟩, by simp [intOf]; omega⟩
                | false =>
                  rw [hpt] at hsn
                  simp only [hpt] at q
                  have HS := Lib.hid hsn
                  clear hsn hpt
                  go_wp2
                  go_quiet (first | (go_at_call 53; exact Calls.quiet_of_same (q _)))
                  clear q c0 c2 p1 hct
                  have hO7 := hO6.drewN nq
                  have hs7 : SL (wr.drewN nq).heap 3 1 u10 (mayT K' k j).length ((mayT K' k j).map Sp.zI) := hs6
                  have hK7 := HZ.out.1.only hO7 (fun b hb e => hnm (by rw [← e]; exact hb))
                  have hQ7 := HZ.out.2.1.only hO7 (fun b hb e => hnm (by rw [← e]; exact hK6.rp b hb))
                  clear hs6 hO6 hK6 hQ6
                  generalize wr.drewN nq = w7 at hO7 hs7 hK7 hQ7 ⊢
                  have c0 := hK7.cell (j := 0) rfl
                  have p1 := hQ7.cell (j := 1) rfl
                  have hct : w7.cell? ⟨tb, toff + j, none⟩ = some (.int .i64 t) := hQ7.st.cell (by rw [List.getElem?_map, hp]; rfl)
                  go_wp2_with (at_builtin; refine halt ?_)
                  refine Halt.go ?_
                  refine wpList_appd (v := u10) rfl _ _ _ rfl Try.underlying31 hi0 hz0 hz1 hz2 hz3 rfl (hs7.alloc _) (m := 1) (news := [.int .i64 t]) rfl rfl (cells_new _ _ _ rfl) (by simp [Value.oneCell']) (by unfold maxLen; omega) (by omega) ?_
                  rintro v8 w8 hs8 ho8 hv8
                  have hmz5 := hO7.size
                  have hO8 : Only (· = mb) w5 w8 := (hO7.trans (only_of_below (below_alloc (Below.refl _ w7) _) _)).trans' ho8 fun i hi e => by
                    rcases hn6 i e with e | e
                    · exact e
                    · omega
                  have hn8 : ∀ g, v8.ownBlock = some g → g = mb ∨ w5.heap.size ≤ g := fun g hg => by
                    rcases hv8 with e | e
                    · exact hn6 g (by rw [← e]; exact hg)
                    · rw [e] at hg; cases hg; exact .inr (by simp; omega)
                  clear c0 p1 hct hK7 hQ7 hs7 ho8 hv8 hO7
                  go_wp2
                  exact ⟨⟨j + 1, by omega, by go_num, by rw [HS.out]; simp only [Bool.false_eq_true, if_false]; rw [List.length_append, List.map_append]; exact hs8, hn8, hO8⟩, by simp [intOf]; omega⟩
              · have hje : j = K'.M.length := by omega
                rw [hje, mayT_all] at hs6
                have hbx6 := hO6.heap HZ.out.2.2.1 hxm
                have hO6' : Only R w1 wr := HZ.out.2.2.2.1.trans' hO6 fun i hi e => by omega
                have hn' := HZ.out.2.2.2.2.1
                have hi' := HZ.out.2.2.2.2.2.1
                have hm17 : (mayK K').length ≤ 16 := by unfold mayK; exact Nat.le_trans (List.length_filter_le _ _) (by rw [List.length_map]; exact hm16)
                clear hlen
                cases hmk : mayK K' with
                | nil =>
                  rw [hmk] at hs6
                  obtain ⟨a6, k6, rfl⟩ := hs6.form
                  have hrm : roomK K' k = { K' with lost := mput k () K'.lost } := by unfold roomK; rw [hmk]; rfl
                  have hre : roomE K' k = 6 := by unfold roomE; rw [hmk]; rfl
                  have hTe : K2 = roomK K' k ∧ (x1, x2, x3) = zSpn ∧ e2 = 6 := by
                    have hT' := HZ.out.2.2.2.2.2.2.1
                    unfold write1 at hT'
                    rw [HZ.out.2.2.2.2.2.2.2.1, hre, decide_eq_false (show ¬ ((6 : Int) = 0) by omega)] at hT'
                    simp only [cond_false, Prod.mk.injEq] at hT'
                    exact ⟨hT'.1.symm, hT'.2.1.symm, hT'.2.2.symm⟩
                  obtain ⟨h1, h2, h3⟩ := hTe
                  cases h2
                  subst h1
                  subst h3
                  have c3 := hK6.cell (j := 3) rfl
                  obtain ⟨la, lc, rfl⟩ := hK6.lost.form
                  clear hmk hre hm17 hn' hi' hs6 hn6
                  go_wp2_with (at_builtin; refine halt ?_)
                  refine Halt.go ?_
                  refine wpList_appd (v := .slice la ls'.length lc) rfl _ _ _ rfl Try.underlying31 hi0 hz0 hz1 hz2 hz3 rfl (hK6.lost.alloc _) (m := 1) (news := [.int .i64 k]) rfl rfl (cells_new _ _ _ rfl) (by simp [Value.oneCell']) (by unfold maxLen; omega) (by omega) ?_
                  rintro v7 w7 hs7 ho7 hv7
                  obtain ⟨a7, k7, rfl⟩ := hs7.form
                  have hO7 := (only_of_below (below_alloc (Below.refl _ wr) (.cells #[.int .i64 k] 3)) _).trans ho7
                  have hblk7 := hO7.heap hK6.blk (hK6.nb hK6.lost)
                  have c3' := cell_blk hblk7 (j := 3) rfl
                  have f3 := froz_blk hblk7 3
                  obtain ⟨hK8, hO8⟩ := hK6.setLost (ls' := ls' ++ [k]) hO7 (by rw [List.length_append, List.map_append]; exact hs7) (fun g hg => by
                    rcases hv7 with e | e
                    · exact .inl (by rw [← e]; exact hg)
                    · rw [e] at hg; cases hg; exact .inr (by simp)) (add_mem hK6.lsm k)
                  rw [← hrm] at hK8
                  have hbx8 := hO8.heap hbx6 hxR'
                  have hO8' : Only R w1 _ := hO6'.trans' hO8 fun i hi e => (hR5 i e).resolve_right (by omega)
                  clear hK6 hO6 hQ6 hbx6 c3 hs7 ho7 hv7 hO7 hblk7 hO8 hrm c0 p1
                  go_upto_region 18 with (fail)
                  have hR8 : ∀ b, (R' b ∨ (wr.heap.size ≤ b ∧ b < (w7.setCell ⟨rb, 3, none⟩ (.slice a7 (ls'.length + 1) k7)).heap.size ∧ ¬ Rp' b)) → R b ∨ w1.heap.size ≤ b := fun b hb => by
                    rcases hb with hb | hb
                    · exact hR5 b hb
                    · exact .inr (Nat.le_trans hO6'.size hb.1)
                  obtain ⟨R8, hR8e⟩ : ∃ R8 : Nat → Prop, R8 = (fun b => R' b ∨ (wr.heap.size ≤ b ∧ b < (w7.setCell ⟨rb, 3, none⟩ (.slice a7 (ls'.length + 1) k7)).heap.size ∧ ¬ Rp' b)) := ⟨_, rfl⟩
                  rw [← hR8e] at hK8
                  replace hR8 : ∀ b, R8 b → R b ∨ w1.heap.size ≤ b := fun b hb => hR8 b (by rw [hR8e] at hb; exact hb)
                  clear hR8e
                  generalize (w7.setCell ⟨rb, 3, none⟩ (.slice a7 (ls'.length + 1) k7)) = w8 at hK8 hbx8 hO8' ⊢
                  have hxw : ¬ R8 w.heap.size := fun e => by
                    rcases hR8 _ e with h | h
                    · exact HQ.out.2.2.1 h
                    · omega
                  have f0 := froz_blk hbx8 0
                  have f1 := froz_blk hbx8 1
                  have f2 := froz_blk hbx8 2
                  have d0 := cell_blk hbx8 (j := 0) (u := .int .i64 0) rfl
                  have d1 := cell_blk hbx8 (j := 1) (u := .int .i64 0) rfl
                  have d2 := cell_blk hbx8 (j := 2) (u := .string ⟨#[]⟩) rfl
                  have hr3 := res3 hbx8 (.int .i64 0) (.int .i64 0) (.string ⟨#[]⟩)
                  have hset : Only (· = w.heap.size) w8 (((w8.setCell ⟨w.heap.size, 0, none⟩ (.int .i64 0)).setCell ⟨w.heap.size, 1, none⟩ (.int .i64 0)).setCell ⟨w.heap.size, 2, none⟩ (.string ⟨#[]⟩)) :=
                    (((Only.refl (· = w.heap.size) _).setCell (p := ⟨w.heap.size, 0, none⟩) (fun _ => rfl) _).setCell (p := ⟨w.heap.size, 1, none⟩) (fun _ => rfl) _).setCell (p := ⟨w.heap.size, 2, none⟩) (fun _ => rfl) _
                  have hK5 := hK8.only hset (fun b hb e => hxw (by rw [← e]; exact hb))
                  have hO5 := ((only_of_below hA R).trans hO8').trans' hset (fun i hi e => by omega)
                  have hR5 : ∀ b, R8 b → R b ∨ w.heap.size ≤ b := fun b hb => (hR8 b hb).imp id (fun e => by omega)
                  have HF := Lib.hid (And.intro (show KfO w R rb (roomK K' k) (q + 1) _ from ⟨_, ⟨Rp', pb', _, _, _, _, _, hK5, by omega, by simp; omega⟩, hR5, hO5⟩) hr3)
                  clear hK5 hO5 hR5 hset hxw hr3 hK8 hO8' hR8 hbx8 HQ hA hzx
                  go_wp2
                  obtain ⟨hfin, hr3⟩ := HF.out
                  have z0 := cell_blk hr3 (j := 0) (u := .int .i64 0) rfl
                  have z1 := cell_blk hr3 (j := 1) (u := .int .i64 0) rfl
                  have z2 := cell_blk hr3 (j := 2) (u := .string ⟨#[]⟩) rfl
                  generalize (((w8.setCell ⟨w.heap.size, 0, none⟩ (.int .i64 0)).setCell ⟨w.heap.size, 1, none⟩ (.int .i64 0)).setCell ⟨w.heap.size, 2, none⟩ (.string ⟨#[]⟩)) = w9 at hfin z0 z1 z2 ⊢
                  refine bodyPost_ret (by simp [results, Try.results48, go_sem, z0, z1, z2]; try rfl) rfl ?_
                  exact ⟨rfl, hfin⟩
                | cons y ys =>
                  rw [hmk] at hs6
                  obtain ⟨a6, k6, rfl⟩ := hs6.form
                  have hl : leastP K'.seed (k :: y :: ys) = leastK K' k := by rw [← hmk, least_swap]; rfl
                  have hrg := leastK_rg hn' hk16'
                  obtain ⟨lk, hlk⟩ : ∃ lk, lk = leastK K' k := ⟨_, rfl⟩
                  have hrm : roomK K' k = { K' with M := mdel lk K'.M, lost := mput lk () K'.lost, gone := K'.gone ++ [lk] } := by unfold roomK; rw [hmk, hlk]; rfl
                  have hre : roomE K' k = bif decide (lk = k) then 10 else 0 := by unfold roomE; rw [hmk, hlk]; rfl
                  have hrs : ∀ x ∈ k :: y :: ys, 0 ≤ x ∧ x < 9223372036854775808 := fun x hx => by
                    rcases List.mem_cons.1 hx with e | e
                    · omega
                    · rw [← hmk] at e
                      obtain ⟨l, hl⟩ := Option.isSome_iff_exists.1 (mem_mayK.1 e).1
                      have := hn' _ (mget_mem hl)
                      simp only at this; omega
                  rw [hmk] at hm17
                  rw [← hlk] at hl hrg
                  have hy0 : (y :: ys).length ≠ 0 := by simp
                  have HL := refleast_any (s := K'.seed) (SL.ints hs6) hrs
                  rw [hl] at HL
                  have HM := Lib.hid (And.intro hrm hre)
                  have c1 := hK6.cell (j := 1) (u := .int .u64 K'.seed) rfl
                  obtain ⟨ny, hny⟩ : ∃ ny, ny = (y :: ys).length := ⟨_, rfl⟩
                  have hcl : (k :: y :: ys).length = ny + 1 := by rw [hny]; rfl
                  rw [hcl] at HL
                  rw [hcl]
                  rw [← hny] at hy0 hm17
                  clear hmk hl hlk hrm hre hrs hs6 hn6 hny hcl
                  have d1 : (((ny + 1 : Nat) : Int) == 1) = false := by simp; omega
                  have d2 : ((ny : Int) + 1 == 1) = false := by simp; omega
                  have d3 : (ny + 1 == 1) = false := by simp; omega
                  have d4 : (ny == 0) = false := by simp; omega
                  have d5 : ((ny : Int) == 0) = false := by simp; omega
                  go_wp2_with fail
                  refine HL.mono ?_
                  rintro e w7 ⟨rfl, hb7⟩
                  clear c0 p1
                  have hK7 := hK6.below hb7
                  have hQ7 := hQ6.below hb7
                  have hbx7 := (hb7.block _ (Array.getElem?_eq_some_iff.1 hbx6).1).trans hbx6
                  have hO7 : Only R w1 w7 := hO6'.trans (only_of_below hb7 R)
                  have c0 := hK7.cell (j := 0) rfl
                  clear HL hK6 hQ6 hbx6 hO6 hO6' hb7 c1 d1 d2 d3 d4 d5
                  go_wp2_with fail
                  refine (drop_any hQ7 hi'.1 (by omega) hi'.len lk).mono ?_
                  rintro e w8 ⟨⟨n8, rfl⟩, hQ8⟩
                  obtain ⟨Rp8, hK8, hRp8, hO8⟩ := hK7.setPool hQ8
                  have hbx8 := hO8.heap hbx7 hxR'
                  have hO8' : Only R w1 w8 := hO7.trans' hO8 fun i hi e => (hR5 i e).resolve_right (by omega)
                  have hR8 : ∀ b, (R' b ∨ Rp8 b) → R b ∨ w1.heap.size ≤ b := fun b hb => by
                    rcases hb with hb | hb
                    · exact hR5 b hb
                    · rcases hRp8 b hb with e | e
                      · exact hR5 b (hK7.rp b e)
                      · exact .inr (Nat.le_trans hO7.size e)
                  have c3 := hK8.cell (j := 3) rfl
                  obtain ⟨la, lc, rfl⟩ := hK8.lost.form
                  obtain ⟨R8, hR8e⟩ : ∃ R8 : Nat → Prop, R8 = (fun b => R' b ∨ Rp8 b) := ⟨_, rfl⟩
                  rw [← hR8e] at hK8
                  replace hR8 : ∀ b, R8 b → R b ∨ w1.heap.size ≤ b := fun b hb => hR8 b (by rw [hR8e] at hb; exact hb)
                  have hx8 : ¬ R8 w.heap.size := fun e => by
                    rcases hR8 _ e with h | h
                    · exact HQ.out.2.2.1 h
                    · omega
                  clear hR8e hK7 hQ7 hQ8 hbx7 hO7 hO8 hRp8 c0
                  go_wp2_with (at_builtin; refine halt ?_)
                  refine Halt.go ?_
                  refine wpList_appd (v := .slice la ls'.length lc) rfl _ _ _ rfl Try.underlying31 hi0 hz0 hz1 hz2 hz3 rfl (hK8.lost.alloc _) (m := 1) (news := [.int .i64 lk]) rfl rfl (cells_new _ _ _ rfl) (by simp [Value.oneCell']) (by unfold maxLen; omega) (by omega) ?_
                  rintro v9 w9 hs9 ho9 hv9
                  obtain ⟨a9, k9, rfl⟩ := hs9.form
                  have hO9 := (only_of_below (below_alloc (Below.refl _ w8) (.cells #[.int .i64 lk] 3)) _).trans ho9
                  have hblk9 := hO9.heap hK8.blk (hK8.nb hK8.lost)
                  have c3' := cell_blk hblk9 (j := 3) rfl
                  have f3 := froz_blk hblk9 3
                  obtain ⟨hK10, hO10⟩ := hK8.setLost (ls' := ls' ++ [lk]) hO9 (by rw [List.length_append, List.map_append]; exact hs9) (fun g hg => by
                    rcases hv9 with e | e
                    · exact .inl (by rw [← e]; exact hg)
                    · rw [e] at hg; cases hg; exact .inr (by simp)) (add_mem hK8.lsm lk)
                  have hbx10 := hO10.heap hbx8 hx8
                  have hO10' : Only R w1 _ := hO8'.trans' hO10 fun i hi e => (hR8 i e).resolve_right (by omega)
                  have hR10 : ∀ b, (R8 b ∨ (w8.heap.size ≤ b ∧ b < (w9.setCell ⟨rb, 3, none⟩ (.slice a9 (ls'.length + 1) k9)).heap.size ∧ ¬ Rp8 b)) → R b ∨ w1.heap.size ≤ b := fun b hb => by
                    rcases hb with hb | hb
                    · exact hR8 b hb
                    · exact .inr (Nat.le_trans hO8'.size hb.1)
                  clear hK8 hbx8 c3 hs9 ho9 hv9 hO9 hblk9 hO10 hx8 hO8'
                  go_upto_region 22 with (fail)
                  obtain ⟨R10, hR10e⟩ : ∃ R10 : Nat → Prop, R10 = (fun b => R8 b ∨ (w8.heap.size ≤ b ∧ b < (w9.setCell ⟨rb, 3, none⟩ (.slice a9 (ls'.length + 1) k9)).heap.size ∧ ¬ Rp8 b)) := ⟨_, rfl⟩
                  rw [← hR10e] at hK10
                  replace hR10 : ∀ b, R10 b → R b ∨ w1.heap.size ≤ b := fun b hb => hR10 b (by rw [hR10e] at hb; exact hb)
                  have hx10 : ¬ R10 w.heap.size := fun e => by
                    rcases hR10 _ e with h | h
                    · exact HQ.out.2.2.1 h
                    · omega
                  clear hR10e hR8 f3 c3'
                  generalize (w9.setCell ⟨rb, 3, none⟩ (.slice a9 (ls'.length + 1) k9)) = w10 at hK10 hbx10 hO10' ⊢
                  have c4 := hK10.cell (j := 4) rfl
                  have hgl : K'.gone.length ≤ 501 := by have := HZ.out.2.2.2.2.2.2.2.2.2; omega
                  have hgs : SL w10.heap 3 1 gv' K'.gone.length (K'.gone.map Sp.zI) := hK10.gone
                  obtain ⟨ga, gc, rfl⟩ := hgs.form
                  go_wp2_with (at_builtin; refine halt ?_)
                  refine Halt.go ?_
                  refine wpList_appd (v := .slice ga K'.gone.length gc) rfl _ _ _ rfl Try.underlying31 hi0 hz0 hz1 hz2 hz3 rfl (hgs.alloc _) (m := 1) (news := [.int .i64 lk]) rfl rfl (cells_new _ _ _ rfl) (by simp [Value.oneCell']) (by unfold maxLen; omega) (by omega) ?_
                  rintro v11 w11 hs11 ho11 hv11
                  obtain ⟨a11, k11, rfl⟩ := hs11.form
                  have hO11 := (only_of_below (below_alloc (Below.refl _ w10) (.cells #[.int .i64 lk] 3)) _).trans ho11
                  have hblk11 := hO11.heap hK10.blk (hK10.nb hK10.gone)
                  have c4' := cell_blk hblk11 (j := 4) rfl
                  have f4 := froz_blk hblk11 4
                  obtain ⟨hK12, hO12⟩ := hK10.setGone (gs := K'.gone ++ [lk]) hO11 (by rw [List.length_append, List.map_append]; exact hs11) (fun g hg => by
                    rcases hv11 with e | e
                    · exact .inl (by rw [← e]; exact hg)
                    · rw [e] at hg; cases hg; exact .inr (by simp))
                  have hbx12 := hO12.heap hbx10 hx10
                  have hO12' : Only R w1 _ := hO10'.trans' hO12 fun i hi e => (hR10 i e).resolve_right (by omega)
                  have hR12 : ∀ b, (R10 b ∨ (w10.heap.size ≤ b ∧ b < (w11.setCell ⟨rb, 4, none⟩ (.slice a11 (K'.gone.length + 1) k11)).heap.size ∧ ¬ Rp8 b)) → R b ∨ w1.heap.size ≤ b := fun b hb => by
                    rcases hb with hb | hb
                    · exact hR10 b hb
                    · exact .inr (Nat.le_trans hO10'.size hb.1)
                  clear hK10 hbx10 c4 hs11 ho11 hv11 hO11 hblk11 hO12 hx10 hO10' hgs
                  go_upto_region 23 with (fail)
                  obtain ⟨R12, hR12e⟩ : ∃ R12 : Nat → Prop, R12 = (fun b => R10 b ∨ (w10.heap.size ≤ b ∧ b < (w11.setCell ⟨rb, 4, none⟩ (.slice a11 (K'.gone.length + 1) k11)).heap.size ∧ ¬ Rp8 b)) := ⟨_, rfl⟩
                  rw [← hR12e] at hK12
                  replace hR12 : ∀ b, R12 b → R b ∨ w1.heap.size ≤ b := fun b hb => hR12 b (by rw [hR12e] at hb; exact hb)
                  have hxw : ¬ R12 w.heap.size := fun e => by
                    rcases hR12 _ e with h | h
                    · exact HQ.out.2.2.1 h
                    · omega
                  clear hR12e hR10 f4 c4'
                  generalize (w11.setCell ⟨rb, 4, none⟩ (.slice a11 (K'.gone.length + 1) k11)) = w12 at hK12 hbx12 hO12' ⊢
                  have hKr12 : KfR w12 R12 rb (roomK K' k) (q + 1) := ⟨Rp8, pb', _, _, _, _, _, by rw [HM.out.1]; exact hK12, by omega, by simp; omega⟩
                  have hKr12' : KfR w12 R12 rb (roomK K' k) (q' + 1) := ⟨Rp8, pb', _, _, _, _, _, by rw [HM.out.1]; exact hK12, by omega, by simp; omega⟩
                  clear hK12
                  by_cases hlk : lk = k
                  · have b1 : (lk == k) = true := by simp [hlk]
                    have hTe : K2 = roomK K' k ∧ (x1, x2, x3) = zSpn ∧ e2 = 10 := by
                      have hT' := HZ.out.2.2.2.2.2.2.1
                      unfold write1 at hT'
                      rw [HZ.out.2.2.2.2.2.2.2.1, HM.out.2, decide_eq_true hlk, cond_true, decide_eq_false (show ¬ ((10 : Int) = 0) by omega)] at hT'
                      simp only [cond_false, Prod.mk.injEq] at hT'
                      exact ⟨hT'.1.symm, hT'.2.1.symm, hT'.2.2.symm⟩
                    obtain ⟨h1, h2, h3⟩ := hTe
                    cases h2
                    subst h1
                    subst h3
                    clear hlk hKr12'
                    have f0 := froz_blk hbx12 0
                    have f1 := froz_blk hbx12 1
                    have f2 := froz_blk hbx12 2
                    have d0 := cell_blk hbx12 (j := 0) (u := .int .i64 0) rfl
                    have d1 := cell_blk hbx12 (j := 1) (u := .int .i64 0) rfl
                    have d2 := cell_blk hbx12 (j := 2) (u := .string ⟨#[]⟩) rfl
                    have hr3 := res3 hbx12 (.int .i64 0) (.int .i64 0) (.string ⟨#[]⟩)
                    have hset : Only (· = w.heap.size) w12 (((w12.setCell ⟨w.heap.size, 0, none⟩ (.int .i64 0)).setCell ⟨w.heap.size, 1, none⟩ (.int .i64 0)).setCell ⟨w.heap.size, 2, none⟩ (.string ⟨#[]⟩)) :=
                      (((Only.refl (· = w.heap.size) _).setCell (p := ⟨w.heap.size, 0, none⟩) (fun _ => rfl) _).setCell (p := ⟨w.heap.size, 1, none⟩) (fun _ => rfl) _).setCell (p := ⟨w.heap.size, 2, none⟩) (fun _ => rfl) _
                    have hK5 := hKr12.only hset (fun b hb e => hxw (by rw [← e]; exact hb))
                    have hO5 := ((only_of_below hA R).trans hO12').trans' hset (fun i hi e => by omega)
                    have hR5 : ∀ b, R12 b → R b ∨ w.heap.size ≤ b := fun b hb => (hR12 b hb).imp id (fun e => by omega)
                    have HF := Lib.hid (And.intro (show KfO w R rb (roomK K' k) (q + 1) _ from ⟨_, hK5, hR5, hO5⟩) hr3)
                    clear hK5 hO5 hR5 hset hxw hr3 hKr12 hO12' hR12 hbx12 HQ hA hzx
                    go_wp2
                    obtain ⟨hfin, hr3⟩ := HF.out
                    have z0 := cell_blk hr3 (j := 0) (u := .int .i64 0) rfl
                    have z1 := cell_blk hr3 (j := 1) (u := .int .i64 0) rfl
                    have z2 := cell_blk hr3 (j := 2) (u := .string ⟨#[]⟩) rfl
                    generalize (((w12.setCell ⟨w.heap.size, 0, none⟩ (.int .i64 0)).setCell ⟨w.heap.size, 1, none⟩ (.int .i64 0)).setCell ⟨w.heap.size, 2, none⟩ (.string ⟨#[]⟩)) = w9 at hfin z0 z1 z2 ⊢
                    refine bodyPost_ret (by simp [results, Try.results48, go_sem, z0, z1, z2]; try rfl) rfl ?_
                    exact ⟨rfl, hfin⟩
                  · have b1 : (lk == k) = false := by simp [hlk]
                    have h0 : roomE K' k = 0 := by rw [HM.out.2, decide_eq_false hlk]; rfl
                    have hc2 := HZ.out.2.2.2.2.2.2.2.2.1 h0
                    have HY := Lib.hid (And.intro hKr12' (And.intro (hi'.room h0) (And.intro (Nums.room (k := k) hn') (And.intro (gone_room K' k) (And.intro (write1_room (s := s) HZ.out.2.2.2.2.2.2.2.1 h0 hc2) (And.intro hc2 (And.intro hR12 hO12')))))))
                    clear hKr12 hKr12' h0 hc2 hR12 hO12' hlk hi' hn' hbx12 hxw
                    go_wp2
                    go_roundg 0
                    case measure => exact Nat.zero_lt_one
                    case rel =>
                      obtain ⟨h1, h2, h3, h4, h5, h6, h7, h8⟩ := HY.out
                      exact ⟨roomK K' k, R12, q' + 1, h1, h2, h3, by have := HZ.out.2.2.2.2.2.2.2.2.2; omega, by omega, h5.trans HZ.out.2.2.2.2.2.2.1, fun _ => h6, by omega, h7, h8⟩
end
end Go.Proofs.Ytniggacgkhkgiaa.Kref
