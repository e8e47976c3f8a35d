/- What the keeper's Write, Forget and New do. Conditions: it lies in memory as KpR says, its traces are traces' numbers. -/
import Derived.Test.YtniggacgkhkgiaaEv2
import Derived.Deep.LoopGhost
namespace Go.Sp
open Go.RowKit
def canW (K : Kp) (k : Int) : Bool := decide ((lgetA k K.M).length % 3 ≠ 0) || decide (usedM K.M < K.N)
def spnK (K : Kp) (k : Int) (s : ByteArray) : Spn := (k, ((lgetA k K.M).length : Int) + 1, s)
def putK (K : Kp) (k : Int) (s : ByteArray) : Kp := { K with M := mput k (lgetA k K.M ++ [spnK K k s]) K.M }
def write1 (K : Kp) (k : Int) (s : ByteArray) : Kp × Spn × Int :=
  bif canW K k then (putK K k s, spnK K k s, 0) else bif decide (roomE K k = 0) then (putK (roomK K k) k s, spnK (roomK K k) k s, 0) else (roomK K k, zSpn, roomE K k)
def argK (k : Int) (s : ByteArray) : Bool := decide (1 ≤ k) && (decide (k ≤ 65535) && decide ((s.size : Int) ≤ 40))
/-- the keeper behind a write, the span, the error -/
def writeK (K : Kp) (k : Int) (s : ByteArray) : Kp × Spn × Int :=
  bif !argK k s then (K, zSpn, 1) else bif hasK K.lost k then (K, zSpn, 10) else bif hasK K.pins k then (K, zSpn, 12) else write1 K k s
theorem usedM_mdel {M : List (Int × List Spn)} {k : Int} {l : List Spn} (h : KS M) (e : mget k M = some l) : usedM (mdel k M) + (l.length + 2) / 3 = usedM M := by
  have hp := (perm_of_get h e).map (fun p => (p.2.length + 2) / 3)
  have h2 := hp.sum_nat
  unfold usedM
  rw [h2]
  simp; omega
theorem roomE_may {K : Kp} {k : Int} (h : roomE K k = 0) : (mayK K).isEmpty = false ∧ leastK K k ≠ k := by
  unfold roomE at h
  cases hm : (mayK K).isEmpty with
  | true => rw [hm] at h; simp at h
  | false =>
    rw [hm] at h
    refine ⟨rfl, fun e => ?_⟩
    rw [decide_eq_true e] at h
    simp at h
theorem least_in {K : Kp} {k : Int} (h : roomE K k = 0) : ∃ l, mget (leastK K k) K.M = some l := by
  obtain ⟨_, h2⟩ := roomE_may h
  have hm := leastP_mem K.seed (l := mayK K ++ [k]) (by simp)
  rcases List.mem_append.1 hm with e | e
  · obtain ⟨e1, _⟩ := List.mem_filter.1 e
    obtain ⟨p, hp, e2⟩ := List.mem_map.1 e1
    cases hg : mget (leastK K k) K.M with
    | some l => exact ⟨l, rfl⟩
    | none => exact absurd e2 (mget_none.1 hg p hp)
  · simp at e
    exact absurd e h2
theorem canW_room {K : Kp} {k : Int} (hs : KS K.M) (hn : ∀ p ∈ K.M, p.2 ≠ []) (hu : usedM K.M ≤ K.N) (h : roomE K k = 0) : canW (roomK K k) k = true := by
  obtain ⟨l, hl⟩ := least_in h
  have hm := (roomE_may h).1
  have h1 := usedM_mdel hs hl
  have h2 := hn _ (mget_mem hl)
  have h3 : 0 < l.length := List.length_pos_iff.2 h2
  unfold canW roomK
  rw [hm]
  simp only [cond_false]
  rw [decide_eq_true (show usedM (mdel (leastK K k) K.M) < K.N by omega)]
  simp
theorem write1_room {K : Kp} {k : Int} {s : ByteArray} (h1 : canW K k = false) (h2 : roomE K k = 0) (h3 : canW (roomK K k) k = true) : write1 (roomK K k) k s = write1 K k s := by
  unfold write1
  rw [h1, h3, decide_eq_true h2]
  rfl
theorem Nums.room {K : Kp} {k : Int} (h : Nums K) : Nums (roomK K k) := fun p hp => by
  unfold roomK at hp
  cases hm : (mayK K).isEmpty with
  | true => rw [hm] at hp; exact h p hp
  | false => rw [hm] at hp; exact h p (mem_mdel.1 hp).1
theorem gone_room (K : Kp) (k : Int) : (roomK K k).gone.length ≤ K.gone.length + 1 := by
  unfold roomK
  cases (mayK K).isEmpty <;> simp
end Go.Sp
namespace Go.Proofs.Ytniggacgkhkgiaa.Ev
open Go.RowKit Go.Sp Msg Pool Hash
section
variable {w w' w1 w2 : World} {R Rp Rp' : Nat → Prop} {kb pb ib lb : Nat} {gv gv' : Value} {K : Kp} {k : Int} {s : ByteArray}
theorem KpR.inv (h : KpR w R kb K) : KS K.M ∧ (∀ p ∈ K.M, p.2 ≠ []) ∧ usedM K.M ≤ K.N ∧ (∀ k, (lgetA k K.M).length ≤ 48) ∧ 1 ≤ K.N ∧ K.N ≤ 16 ∧ K.M.length ≤ 16 := by
  obtain ⟨Rp, pb, ib, lb, gv, h⟩ := h
  exact ⟨h.pm.ks, h.pm.ne, by have := h.pm.used; omega, h.pm.sp48, h.pm.used.2.1, h.pm.used.2.2, h.pm.keys⟩
theorem right_x (K : Kp) (hk : argK k s = true) (hl : (lgetA k K.M).length ≤ 48) : rightSp (k, ((lgetA k K.M).length : Int) + 1, s) = true := by
  unfold argK at hk
  simp only [Bool.and_eq_true, decide_eq_true_eq] at hk
  unfold rightSp
  simp only [Bool.and_eq_true, decide_eq_true_eq]
  omega
/-- the pool's Write, as the keeper calls it -/
theorem pwrite_ok (h : Krep w R Rp kb pb ib lb gv K) (hk : argK k s = true) (hc : canW K k = true) : Calls Try.prog 94 #[.pointer (some ⟨pb, 0, none⟩), .int .i64 k, .string s] w fun e w' => e = .returned (.tuple #[.agg #[.int .i64 (spnK K k s).1, .int .i64 (spnK K k s).2.1, .string (spnK K k s).2.2], .int .i64 0]) ∧
    ∃ R' Rp', Krep w' R' Rp' kb pb ib lb gv (putK K k s) ∧ (∀ b, R' b → R b ∨ w.heap.size ≤ b) ∧ Only R w w' := by
  have hr : (lgetA k K.M).length % 3 ≠ 0 ∨ 0 < K.N - usedM K.M := by
    unfold canW at hc
    simp only [Bool.or_eq_true, decide_eq_true_eq] at hc
    omega
  refine (h.pm.write_ok (right_x K hk (h.pm.sp48 k)) hr).mono ?_
  rintro e w' ⟨rfl, R1, hP, hR, hO⟩
  obtain ⟨h1, h2⟩ := h.setPool hP hR hO
  refine ⟨rfl, _, _, h1, fun b hb => ?_, h2⟩
  rcases hb with hb | hb
  · exact .inl hb
  · exact (hR b hb).imp (h.rp b) id
theorem pwrite_full (h : Krep w R Rp kb pb ib lb gv K) (hk : argK k s = true) (hc : canW K k = false) : Calls Try.prog 94 #[.pointer (some ⟨pb, 0, none⟩), .int .i64 k, .string s] w fun e w' => e = .returned (.tuple #[.agg #[.int .i64 0, .int .i64 0, .string ⟨#[]⟩], .int .i64 6]) ∧ Below w.heap.size w w' := by
  unfold canW at hc
  simp only [Bool.or_eq_false_iff, decide_eq_false_iff_not] at hc
  have hu := h.pm.used
  exact h.pm.write_full (right_x K hk (h.pm.sp48 k)) (by omega) (by omega)

set_option maxRecDepth 100000 in
set_option maxHeartbeats 4000000 in
theorem write_any (h : KpR w R kb K) (hn : Nums K) (hg : K.gone.length ≤ 500) : Calls Try.prog 39 #[.pointer (some ⟨kb, 0, none⟩), .int .i64 k, .string s] w fun e w' => e = .returned (.tuple #[.agg #[.int .i64 (writeK K k s).2.1.1, .int .i64 (writeK K k s).2.1.2.1, .string (writeK K k s).2.1.2.2], .int .i64 (writeK K k s).2.2]) ∧ KOut w R kb (writeK K k s).1 w' := by
  have hA := below_alloc (Below.refl w.heap.size w) (.cells #[.int .i64 0, .int .i64 0, .string ⟨#[]⟩] 89)
  have hbx := heap_new w (.cells #[.int .i64 0, .int .i64 0, .string ⟨#[]⟩] 89) rfl
  have hK1 := h.below hA
  have hlt := h.lt
  have hzx : w.heap.size < (w.alloc (.cells #[.int .i64 0, .int .i64 0, .string ⟨#[]⟩] 89)).heap.size := by simp
  have hE0 := cell_blk hbx (j := 0) (u := .int .i64 0) rfl
  have hE1 := cell_blk hbx (j := 1) (u := .int .i64 0) rfl
  have hE2 := cell_blk hbx (j := 2) (u := .string ⟨#[]⟩) rfl
  obtain ⟨T, hT⟩ : ∃ T, T = writeK K k s := ⟨_, rfl⟩
  rw [← hT]
  obtain ⟨K2, ⟨x1, x2, x3⟩, e2⟩ := T
  simp only
  have f0 := froz_blk hbx 0
  have f1 := froz_blk hbx 1
  have f2 := froz_blk hbx 2
  have early : KOut w R kb K (w.alloc (.cells #[.int .i64 0, .int .i64 0, .string ⟨#[]⟩] 89)) := ⟨R, hK1, fun b hb => .inl hb, only_of_below hA R⟩
  cases ha : argK k s with
  | false =>
    have h3 : k < 1 ∨ (1 ≤ k ∧ 65535 < k) ∨ (1 ≤ k ∧ k ≤ 65535 ∧ 40 < (s.size : Int)) := by
      unfold argK at ha
      simp only [Bool.and_eq_false_iff, decide_eq_false_iff_not] at ha
      omega
    rcases h3 with h3 | ⟨h2, h3⟩ | ⟨h1, h2, h3⟩
    · have b1 : decide (k < 1) = true := decide_eq_true h3
      clear h3
      obtain ⟨rfl, e3, rfl⟩ : K2 = K ∧ (x1, x2, x3) = zSpn ∧ e2 = 1 := by
        have := hT
        unfold writeK at this; rw [ha] at this; simp only [Bool.not_false, cond_true, Prod.mk.injEq] at this
        simpa using this
      cases e3
      have HEO := Lib.hid early
      clear early hT hK1 hbx h hn hlt
      go_enter Try.func39, Try.ntmps39
      go_wp2
      refine bodyPost_ret (by simp [results, Try.results39, go_sem, hE0, hE1, hE2]; try rfl) rfl ?_
      exact ⟨rfl, HEO.out⟩
    · have b1 : decide (k < 1) = false := decide_eq_false (by omega)
      have b2 : decide (65535 < k) = true := decide_eq_true h3
      clear h3 h2
      obtain ⟨rfl, e3, rfl⟩ : K2 = K ∧ (x1, x2, x3) = zSpn ∧ e2 = 1 := by
        have := hT
        unfold writeK at this; rw [ha] at this; simp only [Bool.not_false, cond_true, Prod.mk.injEq] at this
        simpa using this
      cases e3
      have HEO := Lib.hid early
      clear early hT hK1 hbx h hn hlt
      go_enter Try.func39, Try.ntmps39
      go_wp2
      refine bodyPost_ret (by simp [results, Try.results39, go_sem, hE0, hE1, hE2]; try rfl) rfl ?_
      exact ⟨rfl, HEO.out⟩
    · have b1 : decide (k < 1) = false := decide_eq_false (by omega)
      have b2 : decide (65535 < k) = false := decide_eq_false (by omega)
      have b3 : decide (40 < (s.size : Int)) = true := decide_eq_true h3
      have b4 : decide (40 < s.size) = true := decide_eq_true (by omega)
      clear h3 h2 h1
      obtain ⟨rfl, e3, rfl⟩ : K2 = K ∧ (x1, x2, x3) = zSpn ∧ e2 = 1 := by
        have := hT
        unfold writeK at this; rw [ha] at this; simp only [Bool.not_false, cond_true, Prod.mk.injEq] at this
        simpa using this
      cases e3
      have HEO := Lib.hid early
      clear early hT hK1 hbx h hn hlt
      go_enter Try.func39, Try.ntmps39
      go_wp2
      refine bodyPost_ret (by simp [results, Try.results39, go_sem, hE0, hE1, hE2]; try rfl) rfl ?_
      exact ⟨rfl, HEO.out⟩
  | true =>
    have hk16 : 1 ≤ k ∧ k ≤ 65535 ∧ (s.size : Int) ≤ 40 := by
      unfold argK at ha
      simp only [Bool.and_eq_true, decide_eq_true_eq] at ha
      exact ha
    have b1 : decide (k < 1) = false := decide_eq_false (by omega)
    have b2 : decide (65535 < k) = false := decide_eq_false (by omega)
    have b3 : decide (40 < (s.size : Int)) = false := decide_eq_false (by omega)
    have b4 : decide (40 < s.size) = false := decide_eq_false (by omega)
    obtain ⟨Rp, pb, ib, lb, gv, hK⟩ := id hK1
    have c3 := hK.cell (j := 3) rfl
    have c2 := hK.cell (j := 2) rfl
    have hlL := hK.lookL k
    have hlI := hK.lookI k
    cases hL : hasK K.lost k with
    | true =>
      rw [hL] at hlL
      clear hK hk16
      obtain ⟨rfl, e3, rfl⟩ : K2 = K ∧ (x1, x2, x3) = zSpn ∧ e2 = 10 := by
        have := hT
        unfold writeK at this; rw [ha, hL] at this; simp only [Bool.not_true, cond_false, cond_true, Prod.mk.injEq] at this
        simpa using this
      cases e3
      have HEO := Lib.hid early
      clear early hT hK1 hbx h hn hlt
      go_enter Try.func39, Try.ntmps39
      go_wp2
      refine bodyPost_ret (by simp [results, Try.results39, go_sem, hE0, hE1, hE2]; try rfl) rfl ?_
      exact ⟨rfl, HEO.out⟩
    | false =>
      rw [hL] at hlL
      cases hI : hasK K.pins k with
      | true =>
        rw [hI] at hlI
        clear hK hk16
        obtain ⟨rfl, e3, rfl⟩ : K2 = K ∧ (x1, x2, x3) = zSpn ∧ e2 = 12 := by
          have := hT
          unfold writeK at this; rw [ha, hL, hI] at this; simp only [Bool.not_true, cond_false, cond_true, Prod.mk.injEq] at this
          simpa using this
        cases e3
        have HEO := Lib.hid early
        clear early hT hK1 hbx h hn hlt
        go_enter Try.func39, Try.ntmps39
        go_wp2
        refine bodyPost_ret (by simp [results, Try.results39, go_sem, hE0, hE1, hE2]; try rfl) rfl ?_
        exact ⟨rfl, HEO.out⟩
      | false =>
        rw [hI] at hlI
        have hT1 : write1 K k s = (K2, (x1, x2, x3), e2) := by
          have := hT
          unfold writeK at this
          rw [ha, hL, hI] at this
          simpa using this.symm
        have HX := Lib.hid (And.intro hT1 (And.intro h.inv (And.intro hn (And.intro hg (And.intro hbx (And.intro hK1 (And.intro hlt hzx)))))))
        clear hT1 hT hK hK1 hn hg hbx early hlt hE0 hE1 hE2 f0 f1 f2 hL hI h
        go_enter Try.func39, Try.ntmps39
        go_wp2
        obtain ⟨hT1, hinv, hn, hg, hbx, hK1, hlt, hzx⟩ := HX.out
        clear HX
        generalize (w.alloc (.cells #[.int .i64 0, .int .i64 0, .string ⟨#[]⟩] 89)) = w1 at hA hbx hK1 hzx c3 c2 hlL hlI ⊢
        clear c3 c2 hlL hlI
        have hxR : ¬ R w.heap.size := fun e => by have := hlt _ e; omega
        have HQ := Lib.hid (And.intro hbx (And.intro hA (And.intro hxR hzx)))
        clear hbx hlt
        go_loopg [] 1 (fun gk wr => ∃ K' R', KpR wr R' kb K' ∧ Nums K' ∧ K'.gone.length + gk ≤ 501 ∧ write1 K' k s = (K2, (x1, x2, x3), e2) ∧ (gk = 0 → canW K' k = true) ∧ gk ≤ 1 ∧ (∀ b, R' b → R b ∨ w1.heap.size ≤ b) ∧ Only R w1 wr)
        case atStart => exact ⟨K, R, hK1, hn, by omega, hT1, by omega, by omega, fun b hb => .inl hb, Only.refl _ _⟩
        case round =>
          clear hK1 hn hg hT1 hinv
          obtain ⟨K', R', hK', hn', hg', hT', hc0, hg1, hR', hO'⟩ := hrel
          obtain ⟨hbx, hA, hxR, hzx⟩ := HQ.out
          have hbxr := hO'.heap hbx hxR
          have hxR' : ¬ R' w.heap.size := fun e => by
            rcases hR' _ e with h | h
            · exact hxR h
            · omega
          obtain ⟨Rp', pb', ib', lb', gv', hKr⟩ := id hK'
          have c0 := hKr.cell (j := 0) rfl
          cases hc : canW K' k with
          | true =>
            have hTe : K2 = putK K' k s ∧ (x1, x2, x3) = spnK K' k s ∧ e2 = 0 := by
              unfold write1 at hT'
              rw [hc] at hT'
              simp only [cond_true, Prod.mk.injEq] at hT'
              exact ⟨hT'.1.symm, by rw [← hT'.2.1], hT'.2.2.symm⟩
            have HW := pwrite_ok hKr ha hc
            rw [← hTe.2.1, ← hTe.1] at HW
            obtain ⟨rfl⟩ := hTe.2.2
            have HQ2 := Lib.hid (And.intro hbxr (And.intro hR' (And.intro hO' (And.intro hxR' (And.intro hA hzx)))))
            clear hTe hT' hc hK' hn' hg' hc0 hg1 hKr hbxr hR' hO' hxR' hbx hA hxR
            go_wp2_with fail
            refine HW.mono ?_
            rintro e w3 ⟨rfl, R3, Rp3, hK3, hR3, hO3⟩
            obtain ⟨hbxr, hR', hO', hxR', hA, hzx⟩ := HQ2.out
            have hbx3 := hO3.heap hbxr hxR'
            have hA4 := below_alloc (Below.refl w3.heap.size w3) (.cells #[.int .i64 x1, .int .i64 x2, .string x3] 89)
            have hby4 := heap_new w3 (.cells #[.int .i64 x1, .int .i64 x2, .string x3] 89) rfl
            have hbx4 := (hA4.block _ (Array.getElem?_eq_some_iff.1 hbx3).1).trans hbx3
            have hK4 := hK3.below hA4
            have hR4 : ∀ b, R3 b → R b ∨ w1.heap.size ≤ b := fun b hb => by
              rcases hR3 b hb with e | e
              · exact hR' b e
              · exact .inr (Nat.le_trans hO'.size e)
            have hO4 : Only R w1 (w3.alloc (.cells #[.int .i64 x1, .int .i64 x2, .string x3] 89)) := (hO'.trans' hO3 (fun i hi e => (hR' i e).resolve_right (by omega))).trans (only_of_below hA4 R)
            have hxlt := (Array.getElem?_eq_some_iff.1 hbx3).1
            clear HW hbxr hR' hO' hxR' hK3 hR3 hO3 hbx3 hA4 c0
            go_upto_region 10 with (fail)
            generalize (w3.alloc (.cells #[.int .i64 x1, .int .i64 x2, .string x3] 89)) = w4 at hby4 hbx4 hK4 hO4 ⊢
            generalize w3.heap.size = yb at hby4 hxlt ⊢
            have y0 := cell_blk hby4 (j := 0) (u := .int .i64 x1) rfl
            have y1 := cell_blk hby4 (j := 1) (u := .int .i64 x2) rfl
            have y2 := cell_blk hby4 (j := 2) (u := .string x3) rfl
            have f0 := froz_blk hbx4 0
            have f1 := froz_blk hbx4 1
            have f2 := froz_blk hbx4 2
            have e0 := cell_blk hbx4 (j := 0) (u := .int .i64 0) rfl
            have e1 := cell_blk hbx4 (j := 1) (u := .int .i64 0) rfl
            have e2 := cell_blk hbx4 (j := 2) (u := .string ⟨#[]⟩) rfl
            have hr3 := res3 hbx4 (.int .i64 x1) (.int .i64 x2) (.string x3)
            have hxw : ¬ R3 w.heap.size := fun e => by
              rcases hR4 _ e with h | h
              · exact HQ.out.2.2.1 h
              · omega
            have hset : Only (· = w.heap.size) w4 (((w4.setCell ⟨w.heap.size, 0, none⟩ (.int .i64 x1)).setCell ⟨w.heap.size, 1, none⟩ (.int .i64 x2)).setCell ⟨w.heap.size, 2, none⟩ (.string x3)) :=
              (((Only.refl (· = w.heap.size) _).setCell (p := ⟨w.heap.size, 0, none⟩) (fun _ => rfl) _).setCell (p := ⟨w.heap.size, 1, none⟩) (fun _ => rfl) _).setCell (p := ⟨w.heap.size, 2, none⟩) (fun _ => rfl) _
            have hK5 := hK4.only hset (fun b hb e => hxw (by rw [← e]; exact hb))
            have hO5 := ((only_of_below hA R).trans hO4).trans' hset (fun i hi e => by omega)
            have hR5 : ∀ b, R3 b → R b ∨ w.heap.size ≤ b := fun b hb => (hR4 b hb).imp id (fun e => by omega)
            have HF := Lib.hid (And.intro (show KOut w R kb K2 _ from ⟨R3, ⟨Rp3, pb', ib', lb', gv', hK5⟩, hR5, hO5⟩) hr3)
            clear hK5 hO5 hR5 hset hxw hr3 hK4 hO4 hR4 hby4 hbx4 HQ HQ2 hA hzx
            go_wp2
            obtain ⟨hfin, hr3⟩ := HF.out
            have z0 := cell_blk hr3 (j := 0) (u := .int .i64 x1) rfl
            have z1 := cell_blk hr3 (j := 1) (u := .int .i64 x2) rfl
            have z2 := cell_blk hr3 (j := 2) (u := .string x3) rfl
            generalize (((w4.setCell ⟨w.heap.size, 0, none⟩ (.int .i64 x1)).setCell ⟨w.heap.size, 1, none⟩ (.int .i64 x2)).setCell ⟨w.heap.size, 2, none⟩ (.string x3)) = w5 at hfin z0 z1 z2 ⊢
            refine bodyPost_ret (by simp [results, Try.results39, go_sem, z0, z1, z2]; try rfl) rfl ?_
            exact ⟨rfl, hfin⟩
          | false =>
            have hgk : gk = 1 := by
              rcases Nat.lt_or_ge 0 gk with h | h
              · omega
              · have := hc0 (by omega); rw [hc] at this; cases this
            subst hgk
            have hi := hK'.inv
            have HW := pwrite_full hKr ha hc
            have hk16' : 1 ≤ k ∧ k ≤ 65535 := ⟨hk16.1, hk16.2.1⟩
            have HR := fun w' (hb : Below wr.heap.size wr w') => room_any (hK'.below hb) hk16' hn' (by omega)
            have hcr := fun h0 => canW_room (k := k) hi.1 hi.2.1 hi.2.2.1 h0
            have HQ2 := Lib.hid (And.intro hbxr (And.intro hR' (And.intro hO' (And.intro hxR' (And.intro hA (And.intro hzx (And.intro hT' (And.intro hc (And.intro hn' (And.intro hg' hcr))))))))))
            clear hT' hc hK' hn' hg' hc0 hg1 hKr hbxr hR' hO' hxR' hbx hA hxR hi hcr
            go_wp2_with fail
            refine HW.mono ?_
            rintro e w3 ⟨rfl, hb3⟩
            have hA4 := below_trans' (below_alloc (Below.refl w3.heap.size w3) (.cells #[.int .i64 0, .int .i64 0, .string ⟨#[]⟩] 89)) hb3
            have HR4 := HR _ hA4
            clear HW HR c0 hb3
            go_wp2_with fail
            generalize (w3.alloc (.cells #[.int .i64 0, .int .i64 0, .string ⟨#[]⟩] 89)) = w4 at hA4 HR4 ⊢
            refine HR4.mono ?_
            rintro e w5 ⟨rfl, R5, hK5, hR5, hO5⟩
            obtain ⟨hbxr, hR', hO', hxR', hA, hzx, hT', hc, hn', hg', hcr⟩ := HQ2.out
            have hbx4 := (hA4.block _ (Array.getElem?_eq_some_iff.1 hbxr).1).trans hbxr
            have hbx5 := hO5.heap hbx4 hxR'
            have hR5' : ∀ b, R5 b → R b ∨ w1.heap.size ≤ b := fun b hb => by
              rcases hR5 b hb with e | e
              · exact hR' b e
              · exact .inr (Nat.le_trans hO'.size (Nat.le_trans hA4.size e))
            have hO5' : Only R w1 w5 := (hO'.trans (only_of_below hA4 R)).trans' hO5 (fun i hi e => (hR' i e).resolve_right (by omega))
            clear HR4 hbxr hbx4 hA4 hR5 hO5 HQ2 hR' hO' hxR'
            obtain ⟨E, hE⟩ : ∃ E, E = roomE K' k := ⟨_, rfl⟩
            rw [← hE]
            by_cases hE0 : E = 0
            · have h0 : roomE K' k = 0 := by rw [← hE]; exact hE0
              have hc2 := hcr h0
              have HZ := Lib.hid (And.intro hK5 (And.intro (Nums.room (k := k) hn') (And.intro (gone_room K' k) (And.intro (write1_room (s := s) hc h0 hc2) (And.intro hc2 (And.intro hR5' (And.intro hO5' (And.intro hT' hg'))))))))
              have b1 : (E != 0) = false := by simp [hE0]
              clear hK5 hn' hc h0 hc2 hR5' hO5' hT' hg' hcr hE hE0 hbx5 hA hzx
              go_wp2
              go_roundg 0
              case measure => exact Nat.zero_lt_one
              case rel =>
                obtain ⟨h1, h2, h3, h4, h5, h6, h7, h8, h9⟩ := HZ.out
                exact ⟨roomK K' k, R5, h1, h2, by omega, h4.trans h8, fun _ => h5, by omega, h6, h7⟩
            · have hTe : K2 = roomK K' k ∧ (x1, x2, x3) = zSpn ∧ e2 = E := by
                unfold write1 at hT'
                rw [hc, decide_eq_false (show ¬ roomE K' k = 0 by rw [← hE]; exact hE0)] at hT'
                simp only [cond_false, Prod.mk.injEq] at hT'
                exact ⟨hT'.1.symm, by rw [← hT'.2.1], by rw [hE]; exact hT'.2.2.symm⟩
              obtain ⟨h1, h2, h3⟩ := hTe
              cases h2
              subst h1
              subst h3
              have b1 : (e2 != 0) = true := by simp [hE0]
              have f0 := froz_blk hbx5 0
              have f1 := froz_blk hbx5 1
              have f2 := froz_blk hbx5 2
              have d0 := cell_blk hbx5 (j := 0) (u := .int .i64 0) rfl
              have d1 := cell_blk hbx5 (j := 1) (u := .int .i64 0) rfl
              have d2 := cell_blk hbx5 (j := 2) (u := .string ⟨#[]⟩) rfl
              have hr3 := res3 hbx5 (.int .i64 0) (.int .i64 0) (.string ⟨#[]⟩)
              have hxw : ¬ R5 w.heap.size := fun e => by
                rcases hR5' _ e with h | h
                · exact HQ.out.2.2.1 h
                · omega
              have hset : Only (· = w.heap.size) w5 (((w5.setCell ⟨w.heap.size, 0, none⟩ (.int .i64 0)).setCell ⟨w.heap.size, 1, none⟩ (.int .i64 0)).setCell ⟨w.heap.size, 2, none⟩ (.string ⟨#[]⟩)) :=
                (((Only.refl (· = w.heap.size) _).setCell (p := ⟨w.heap.size, 0, none⟩) (fun _ => rfl) _).setCell (p := ⟨w.heap.size, 1, none⟩) (fun _ => rfl) _).setCell (p := ⟨w.heap.size, 2, none⟩) (fun _ => rfl) _
              have hK6 := hK5.only hset (fun b hb e => hxw (by rw [← e]; exact hb))
              have hO6 := ((only_of_below hA R).trans hO5').trans' hset (fun i hi e => by omega)
              have hR6 : ∀ b, R5 b → R b ∨ w.heap.size ≤ b := fun b hb => (hR5' b hb).imp id (fun e => by omega)
              have HF := Lib.hid (And.intro (show KOut w R kb (roomK K' k) _ from ⟨R5, hK6, hR6, hO6⟩) hr3)
              clear hK6 hO6 hR6 hset hxw hr3 hK5 hO5' hR5' hbx5 HQ hA hzx hT' hc hn' hg' hcr hE hE0
              go_wp2
              obtain ⟨hfin, hr3⟩ := HF.out
              have z0 := cell_blk hr3 (j := 0) (u := .int .i64 0) rfl
              have z1 := cell_blk hr3 (j := 1) (u := .int .i64 0) rfl
              have z2 := cell_blk hr3 (j := 2) (u := .string ⟨#[]⟩) rfl
              generalize (((w5.setCell ⟨w.heap.size, 0, none⟩ (.int .i64 0)).setCell ⟨w.heap.size, 1, none⟩ (.int .i64 0)).setCell ⟨w.heap.size, 2, none⟩ (.string ⟨#[]⟩)) = w6 at hfin z0 z1 z2 ⊢
              refine bodyPost_ret (by simp [results, Try.results39, go_sem, z0, z1, z2]; try rfl) rfl ?_
              exact ⟨rfl, hfin⟩
end
end Go.Proofs.Ytniggacgkhkgiaa.Ev
