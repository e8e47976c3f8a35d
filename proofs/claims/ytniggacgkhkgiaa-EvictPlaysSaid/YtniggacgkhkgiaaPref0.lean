/- The reference's pool in memory, and what its find, Of and Free answer. Conditions: the receiver lies in memory as Qrep says. -/
import Derived.Test.YtniggacgkhkgiaaEv3
namespace Go.Sp
open Go.RowKit
theorem mget_at' {α : Type} {k : Int} : ∀ {m : List (Int × α)} {j : Nat} {l : α}, m[j]? = some (k, l) → (∀ i, i < j → ∀ p, m[i]? = some p → p.1 ≠ k) → mget k m = some l
  | [], j, l, h, _ => by simp at h
  | p :: r, 0, l, h, _ => by simp at h; subst h; simp [mget]
  | p :: r, j + 1, l, h, hn => by
    have h0 := hn 0 (by omega) p rfl
    have := mget_at' (m := r) (j := j) (by simpa using h) (fun i hi q hq => hn (i + 1) (by omega) q (by simpa using hq))
    simp [mget, h0, this]
theorem mget_none' {α : Type} {k : Int} {m : List (Int × α)} (hn : ∀ (i : Nat), ∀ p, m[i]? = some p → p.1 ≠ k) : mget k m = none :=
  mget_none.2 fun p hp => by
    obtain ⟨i, hi, e⟩ := List.mem_iff_getElem.1 hp
    exact hn i p (by rw [List.getElem?_eq_getElem hi, e])
theorem usedM_take (M : List (Int × List Spn)) {j : Nat} {p : Int × List Spn} (h : M[j]? = some p) : usedM (M.take (j + 1)) = usedM (M.take j) + (p.2.length + 2) / 3 := by
  unfold usedM
  rw [List.take_add_one, h]
  simp
theorem usedM_take_le (M : List (Int × List Spn)) (j : Nat) : usedM (M.take j) ≤ usedM M := by
  have h : usedM M = usedM (M.take j) + usedM (M.drop j) := by
    unfold usedM
    rw [← List.sum_append_nat, ← List.map_append, List.take_append_drop]
  omega
end Go.Sp
namespace Go.Proofs.Ytniggacgkhkgiaa.Pref
open Go.RowKit Go.Sp Msg

/-- the pool at block pb: N buffers, the traces in tv, their spans' slices us in av; R: the blocks that are its own -/
structure Qrep (w : World) (R : Nat → Prop) (pb N : Nat) (M : List (Int × List Spn)) (tv av : Value) (us : List Value) : Prop where
  blk : w.heap[pb]? = some (.cells #[.int .i64 N, tv, av] 112 (0, 0))
  st : SL w.heap 3 1 tv M.length (M.map fun p => .int .i64 p.1)
  sa : SL w.heap 35 1 av M.length us
  el : ∀ (i : Nat) (u : Value) (p : Int × List Spn), us[i]? = some u → M[i]? = some p → SL w.heap 89 3 u p.2.length (p.2.flatMap eSpn)
  rr : R pb
  rt : ∀ g, tv.ownBlock = some g → R g
  ra : ∀ g, av.ownBlock = some g → R g
  re : ∀ (i : Nat) (u : Value), us[i]? = some u → ∀ g, u.ownBlock = some g → R g
  rlt : ∀ b, R b → b < w.heap.size
section
variable {w w' : World} {R : Nat → Prop} {pb N : Nat} {M : List (Int × List Spn)} {tv av : Value} {us : List Value}
theorem Qrep.cell (h : Qrep w R pb N M tv av us) {j : Nat} {u : Value} (hu : (#[.int .i64 N, tv, av] : Array Value)[j]? = some u) : w.cell? ⟨pb, j, none⟩ = some u := cell_blk h.blk hu
theorem Qrep.only {F : Nat → Prop} (h : Qrep w R pb N M tv av us) (o : Only F w w') (hF : ∀ b, R b → ¬ F b) : Qrep w' R pb N M tv av us :=
  ⟨o.heap h.blk (hF _ h.rr), h.st.only o (fun g hg => hF _ (h.rt g hg)), h.sa.only o (fun g hg => hF _ (h.ra g hg)), fun i u p hu hp => (h.el i u p hu hp).only o (fun g hg => hF _ (h.re i u hu g hg)), h.rr, h.rt, h.ra, h.re, fun b hb => Nat.lt_of_lt_of_le (h.rlt b hb) o.size⟩
theorem Qrep.below (h : Qrep w R pb N M tv av us) (o : Below w.heap.size w w') : Qrep w' R pb N M tv av us := h.only (only_of_below o (fun _ => False)) (fun _ _ => id)
theorem Qrep.ul (h : Qrep w R pb N M tv av us) : us.length = M.length := by have := h.sa.1; omega
theorem Qrep.at (h : Qrep w R pb N M tv av us) {j : Nat} {p : Int × List Spn} (hp : M[j]? = some p) : ∃ u, us[j]? = some u := ⟨_, List.getElem?_eq_getElem (by have := h.ul; have := (List.getElem?_eq_some_iff.1 hp).1; omega)⟩

set_option maxRecDepth 100000 in
set_option maxHeartbeats 1000000 in
theorem find_any (h : Qrep w R pb N M tv av us) (k : Int) :
    Calls Try.prog 105 #[.pointer (some ⟨pb, 0, none⟩), .int .i64 k] w fun e w' => w = w' ∧ ((e = .returned (.int .i64 (-1)) ∧ mget k M = none) ∨ ∃ (j : Nat) (l : List Spn), e = .returned (.int .i64 j) ∧ M[j]? = some (k, l) ∧ mget k M = some l) := by
  have c1 := h.cell (j := 1) rfl
  obtain ⟨ta, tc, rfl⟩ := h.st.form
  have hml := h.st.le
  unfold maxLen at hml
  go_enter Try.func105, Try.ntmps105
  go_wp2
  go_loopw [5] (fun i wr => ∃ j : Nat, j ≤ M.length ∧ i = .int .i64 j ∧ wr = w ∧ ∀ q, q < j → ∀ p, M[q]? = some p → p.1 ≠ k) (fun i _ => M.length - (intOf i).toNat)
  case atStart => exact ⟨0, Nat.zero_le _, rfl, rfl, fun q hq => by omega⟩
  case round =>
    obtain ⟨j, hj, rfl, rfl, hJ⟩ := hrel
    by_cases hjn : j < M.length
    · obtain ⟨⟨t, l⟩, hp⟩ : ∃ p, M[j]? = some p := ⟨_, List.getElem?_eq_getElem hjn⟩
      obtain ⟨tb, toff, tcap, hv, _⟩ := h.st.form' (by omega)
      simp only [Value.slice.injEq, true_and] at hv
      obtain ⟨rfl, rfl⟩ := hv
      have hct : wr.cell? ⟨tb, toff + j, none⟩ = some (.int .i64 t) := h.st.cell (by rw [List.getElem?_map, hp]; rfl)
      have HJ := Lib.hid hJ
      have HP := Lib.hid hp
      clear hJ hp h
      by_cases e : t = k
      · subst e
        go_wp2
        go_ret
        exact ⟨by first | rfl | trivial, .inr ⟨j, l, rfl, HP.out, mget_at' HP.out HJ.out⟩⟩
      · have htk : (t == k) = false := by simp [e]
        go_wp2
        refine ⟨⟨j + 1, by omega, by go_num, by first | rfl | trivial, fun q hq p hp => ?_⟩, by simp [intOf]; omega⟩
        by_cases eq : q = j
        · subst eq
          rw [HP.out] at hp; cases hp; exact e
        · exact HJ.out q (by omega) p hp
    · have hje : j = M.length := by omega
      subst hje
      have HL := Lib.hid (mget_none' (m := M) (k := k) (fun i p hp => hJ i (List.getElem?_eq_some_iff.1 hp).1 p hp))
      clear hJ
      go_wp2
      go_ret
      exact ⟨by first | rfl | trivial, .inl ⟨rfl, HL.out⟩⟩

set_option maxRecDepth 100000 in
set_option maxHeartbeats 1000000 in
theorem of_any (h : Qrep w R pb N M tv av us) (k : Int) :
    Calls Try.prog 56 #[.pointer (some ⟨pb, 0, none⟩), .int .i64 k] w fun e w' => w = w' ∧ ∃ u, e = .returned u ∧ SL w.heap 89 3 u (lgetA k M).length ((lgetA k M).flatMap eSpn) ∧ (∀ g, u.ownBlock = some g → R g) := by
  have c2 := h.cell (j := 2) rfl
  obtain ⟨aa, ac, rfl⟩ := h.sa.form
  have hml := h.sa.le
  unfold maxLen at hml
  have HF := find_any h k
  go_enter Try.func56, Try.ntmps56
  go_wp2_with fail
  refine HF.mono ?_
  rintro e w1 ⟨rfl, ⟨rfl, hN⟩ | ⟨j, l, rfl, hj, hl⟩⟩
  · clear HF
    have HL := Lib.hid (show lgetA k M = [] by unfold lgetA; rw [hN]; rfl)
    clear hN
    go_wp2
    go_ret
    refine ⟨by first | rfl | trivial, _, rfl, ?_, fun g hg => by simp [Value.ownBlock] at hg⟩
    rw [HL.out]; exact SL.nil _ _ _
  · clear HF
    have hjn := (List.getElem?_eq_some_iff.1 hj).1
    obtain ⟨ab, aoff, acap, hv, _⟩ := h.sa.form' (by omega)
    simp only [Value.slice.injEq, true_and] at hv
    obtain ⟨rfl, rfl⟩ := hv
    obtain ⟨u, hu⟩ := h.at hj
    have hcu : w.cell? ⟨ab, aoff + j, none⟩ = some u := h.sa.cell hu
    have HL := Lib.hid (show lgetA k M = l by unfold lgetA; rw [hl]; rfl)
    have HE := Lib.hid (And.intro (h.el j u _ hu hj) (h.re j u hu))
    have hb : decide ((j : Int) < 0) = false := decide_eq_false (by omega)
    clear hj hl hu h
    go_wp2
    go_ret
    refine ⟨by first | rfl | trivial, _, rfl, ?_, HE.out.2⟩
    rw [HL.out]; exact HE.out.1

set_option maxRecDepth 100000 in
theorem buf_any (w : World) {n : Nat} (hn : n ≤ 1000000) : Calls Try.prog 106 #[.int .i64 n] w fun e w' => e = .returned (.int .i64 ((n + 2) / 3 : Nat)) ∧ w = w' := by
  have HW := Lib.hid (show IntKind.i64.wrap ((IntKind.i64.wrap ((n : Int) + 2)).tdiv 3) = (((n + 2) / 3 : Nat) : Int) by
    rw [i64_little (x := (n : Int) + 2) (by omega) (by omega), Int.tdiv_eq_ediv_of_nonneg (by omega)]
    rw [i64_little (by omega) (by omega)]
    omega)
  go_enter Try.func106, Try.ntmps106
  go_wp2
  go_ret
  refine ⟨?_, by first | rfl | trivial⟩
  first | rfl | (congr 2; first | exact HW.out | omega) | simp [HW.out]

set_option maxRecDepth 100000 in
set_option maxHeartbeats 1000000 in
theorem free_any (h : Qrep w R pb N M tv av us) (hN : N ≤ 16) (hU : usedM M ≤ N) (hL : ∀ p ∈ M, p.2.length ≤ 1000) :
    Calls Try.prog 57 #[.pointer (some ⟨pb, 0, none⟩)] w fun e w' => e = .returned (.int .i64 ((N - usedM M : Nat) : Int)) ∧ Below w.heap.size w w' := by
  have c0 := h.cell (j := 0) rfl
  have c2 := h.cell (j := 2) rfl
  obtain ⟨aa, ac, rfl⟩ := h.sa.form
  have hml := h.sa.le
  unfold maxLen at hml
  have HU := Lib.hid (And.intro hU hL)
  clear hU hL
  go_enter Try.func57, Try.ntmps57
  go_wp2
  go_loopw [3, 4] (fun nv i wr => ∃ (j f : Nat), j ≤ M.length ∧ i = .int .i64 j ∧ nv = .int .i64 f ∧ f = N - usedM (M.take j) ∧ wr = w) (fun _ i _ => M.length - (intOf i).toNat)
  case atStart => exact ⟨0, N, Nat.zero_le _, rfl, rfl, by simp [usedM], rfl⟩
  case round =>
    obtain ⟨j, f, hj, rfl, rfl, hf, rfl⟩ := hrel
    by_cases hjn : j < M.length
    · obtain ⟨⟨t, l⟩, hp⟩ : ∃ p, M[j]? = some p := ⟨_, List.getElem?_eq_getElem hjn⟩
      obtain ⟨ab, aoff, acap, hv, _⟩ := h.sa.form' (by omega)
      simp only [Value.slice.injEq, true_and] at hv
      obtain ⟨rfl, rfl⟩ := hv
      obtain ⟨u, hu⟩ := h.at hp
      have hcu : wr.cell? ⟨ab, aoff + j, none⟩ = some u := h.sa.cell hu
      obtain ⟨ua, uc, rfl⟩ := (h.el j u _ hu hp).form
      have hll : l.length ≤ 1000 := HU.out.2 (t, l) (List.mem_of_getElem? hp)
      have ht := usedM_take M hp
      have hle := Nat.le_trans (usedM_take_le M (j + 1)) HU.out.1
      simp only at ht
      have hfs : (l.length + 2) / 3 ≤ f := by omega
      have HF := Lib.hid (show f - (l.length + 2) / 3 = N - usedM (M.take (j + 1)) by omega)
      have hf16 : f ≤ 16 := by omega
      clear hp hu ht hle hf
      go_wp2_with fail
      refine (buf_any wr (n := l.length) (by omega)).mono ?_
      rintro e w1 ⟨rfl, rfl⟩
      generalize (l.length + 2) / 3 = bq at HF hfs ⊢
      go_wp2
      exact ⟨⟨j + 1, f - bq, by omega, by go_num, by go_num, HF.out, by first | rfl | trivial⟩, by simp [intOf]; omega⟩
    · have hje : j = M.length := by omega
      subst hje
      rw [List.take_length] at hf
      have HF := Lib.hid hf
      clear hf
      go_wp2
      go_ret
      exact ⟨by rw [HF.out]; rfl, Below.refl _ _⟩
end
end Go.Proofs.Ytniggacgkhkgiaa.Pref
