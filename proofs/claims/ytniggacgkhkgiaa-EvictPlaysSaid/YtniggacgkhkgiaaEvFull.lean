/- EvictFull: where all buffers are pinned a new trace's write is refused, and it is lost; nothing goes; the law answers true for every input. No condition. -/
import Derived.Test.YtniggacgkhkgiaaEvAwake
namespace Go.Sp
open Go.RowKit
theorem wrapL {x : Int} (h0 : 0 ≤ x) (h1 : x ≤ 1000000000) : wrap64 x = x := by unfold wrap64; omega
theorem u64L (x : Int) : 0 ≤ IntKind.u64.wrap x ∧ IntKind.u64.wrap x < 18446744073709551616 := by
  simp only [IntKind.wrap, IntKind.signed, IntKind.bits]
  simp; omega
theorem modL (x m : Int) (hm : 0 < m) (hm2 : m ≤ 1000000) : ∃ A : Nat, wrap64 ((IntKind.u64.wrap x).tmod m) = A ∧ (A : Int) < m := by
  have hx := u64L x
  rw [Int.tmod_eq_emod_of_nonneg hx.1]
  have h0 := Int.emod_nonneg (IntKind.u64.wrap x) (by omega : m ≠ 0)
  have h1 := Int.emod_lt_of_pos (IntKind.u64.wrap x) hm
  refine ⟨((IntKind.u64.wrap x) % m).toNat, ?_, by omega⟩
  rw [wrapL h0 (by omega)]; omega
theorem addModL (c x m : Int) (hc : 0 ≤ c) (hc2 : c ≤ 1000) (hm : 0 < m) (hm2 : m ≤ 1000) : ∃ A : Nat, wrap64 (c + wrap64 ((IntKind.u64.wrap x).tmod m)) = A ∧ c ≤ A ∧ (A : Int) < c + m := by
  obtain ⟨A, e, h⟩ := modL x m hm (by omega)
  rw [e]
  refine ⟨(c + A).toNat, ?_, by omega, by omega⟩
  rw [wrapL (by omega) (by omega)]; omega
theorem mput_last {α : Type} {k : Int} {v : α} : ∀ {m : List (Int × α)}, (∀ p ∈ m, p.1 < k) → mput k v m = m ++ [(k, v)]
  | [], _ => rfl
  | p :: r, h => by
    have h1 := h p List.mem_cons_self
    show (if k < p.1 then (k, v) :: p :: r else if p.1 = k then (k, v) :: r else p :: mput k v r) = _
    rw [if_neg (by omega), if_neg (by omega), mput_last (fun q hq => h q (List.mem_cons_of_mem _ hq))]
    rfl
def strX : ByteArray := ⟨#[120]⟩
def strY : ByteArray := ⟨#[121]⟩
/-- the first q traces, a span each, all pinned -/
def rowsQ {α : Type} (f : Int → α) (q : Nat) : List (Int × α) := (List.range q).map fun i : Nat => ((i : Int) + 1, f ((i : Int) + 1))
theorem rowsQ_succ {α : Type} (f : Int → α) (q : Nat) : rowsQ f (q + 1) = rowsQ f q ++ [((q : Int) + 1, f ((q : Int) + 1))] := by
  unfold rowsQ; rw [List.range_succ, List.map_append]; rfl
theorem rowsQ_lt {α : Type} (f : Int → α) (q : Nat) : ∀ p ∈ rowsQ f q, 1 ≤ p.1 ∧ p.1 ≤ q := fun p hp => by
  unfold rowsQ at hp
  obtain ⟨i, hi, rfl⟩ := List.mem_map.1 hp
  have := List.mem_range.1 hi
  simp only; omega
theorem rowsQ_none {α : Type} (f : Int → α) {q : Nat} {k : Int} (h : (q : Int) < k) : mget k (rowsQ f q) = none :=
  mget_none.2 fun p hp e => by have := rowsQ_lt f q p hp; omega
def spF (k : Int) : List Spn := [(k, 1, strX)]
def fullK (n : Nat) (s : Int) (q : Nat) : Kp := ⟨n, s, rowsQ spF q, rowsQ (fun _ => ()) q, [], []⟩
theorem usedQ (q : Nat) : usedM (rowsQ spF q) = q := by
  induction q with
  | zero => rfl
  | succ q ih =>
    rw [rowsQ_succ]
    unfold usedM at ih ⊢
    rw [List.map_append, List.sum_append, ih]
    simp [spF]
theorem fullK_write {n q : Nat} {s : Int} (hn : n ≤ 16) (hq : q < n) : writeK (fullK n s q) ((q : Int) + 1) strX = ({ fullK n s q with M := rowsQ spF (q + 1) }, ((q : Int) + 1, 1, strX), 0) := by
  have h0 : lgetA ((q : Int) + 1) (fullK n s q).M = [] := by unfold lgetA fullK; simp only; rw [rowsQ_none spF (by omega)]; rfl
  have h1 : argK ((q : Int) + 1) strX = true := by
    unfold argK
    simp only [Bool.and_eq_true, decide_eq_true_eq]
    have : (strX.size : Int) = 1 := rfl
    omega
  have h2 : hasK (fullK n s q).lost ((q : Int) + 1) = false := rfl
  have h3 : hasK (fullK n s q).pins ((q : Int) + 1) = false := by unfold hasK fullK; simp only; rw [rowsQ_none _ (by omega)]; rfl
  have h4 : canW (fullK n s q) ((q : Int) + 1) = true := by
    unfold canW
    rw [decide_eq_true (show usedM (fullK n s q).M < (fullK n s q).N by show usedM (rowsQ spF q) < n; rw [usedQ]; exact hq)]
    simp
  have h5 : putK (fullK n s q) ((q : Int) + 1) strX = { fullK n s q with M := rowsQ spF (q + 1) } := by
    unfold putK spnK
    rw [h0]
    show ({ fullK n s q with M := mput ((q : Int) + 1) [((q : Int) + 1, 1, strX)] (rowsQ spF q) } : Kp) = _
    rw [mput_last (fun p hp => by have := rowsQ_lt spF q p hp; omega), rowsQ_succ]
    rfl
  unfold writeK write1
  rw [h1, h2, h3, h4, h5]
  unfold spnK
  rw [h0]
  rfl
theorem fullK_pin (n q : Nat) (s : Int) : ({ ({ fullK n s q with M := rowsQ spF (q + 1) } : Kp) with pins := mput ((q : Int) + 1) () (fullK n s q).pins } : Kp) = fullK n s (q + 1) := by
  show (⟨n, s, rowsQ spF (q + 1), mput ((q : Int) + 1) () (rowsQ (fun _ => ()) q), [], []⟩ : Kp) = ⟨n, s, rowsQ spF (q + 1), rowsQ (fun _ => ()) (q + 1), [], []⟩
  rw [mput_last (fun p hp => by have := rowsQ_lt (fun _ => ()) q p hp; omega), rowsQ_succ (fun _ => ())]
def lastK (n : Nat) (s : Int) (k : Int) : Kp := { fullK n s n with lost := [(k, ())] }
theorem fullK_more {n : Nat} {s k : Int} (hn : 1 ≤ n ∧ n ≤ 16) (hk : 1000 ≤ k ∧ k < 2000) : writeK (fullK n s n) k strY = (lastK n s k, (0, 0, ⟨#[]⟩), 6) := by
  have h0 : lgetA k (fullK n s n).M = [] := by unfold lgetA fullK; simp only; rw [rowsQ_none spF (by omega)]; rfl
  have h1 : argK k strY = true := by
    unfold argK
    simp only [Bool.and_eq_true, decide_eq_true_eq]
    have : (strY.size : Int) = 1 := rfl
    omega
  have h2 : hasK (fullK n s n).lost k = false := rfl
  have h3 : hasK (fullK n s n).pins k = false := by unfold hasK fullK; simp only; rw [rowsQ_none _ (by omega)]; rfl
  have h4 : canW (fullK n s n) k = false := by
    unfold canW
    rw [h0, decide_eq_false (show ¬ usedM (fullK n s n).M < (fullK n s n).N by show ¬ usedM (rowsQ spF n) < n; rw [usedQ]; omega)]
    rfl
  have h5 : (mayK (fullK n s n)).isEmpty = true := by
    rw [List.isEmpty_iff]
    unfold mayK
    rw [List.filter_eq_nil_iff]
    intro x hx
    obtain ⟨p, hp, rfl⟩ := List.mem_map.1 hx
    have hp' : p ∈ rowsQ spF n := hp
    unfold rowsQ at hp'
    obtain ⟨i, hi, rfl⟩ := List.mem_map.1 hp'
    have hm : ((i : Int) + 1, ()) ∈ rowsQ (fun _ => ()) n := by unfold rowsQ; exact List.mem_map.2 ⟨i, hi, rfl⟩
    have hks : KS (rowsQ (fun _ => ()) n) := by
      unfold rowsQ KS
      rw [List.pairwise_map]
      exact List.pairwise_lt_range.imp fun h => by simp only; omega
    have hg : hasK (fullK n s n).pins ((i : Int) + 1) = true := by unfold hasK fullK; simp only; rw [mget_of_mem hks hm]; rfl
    simp [hg]
  have h6 : roomE (fullK n s n) k = 6 := by unfold roomE; rw [h5]; rfl
  have h7 : roomK (fullK n s n) k = lastK n s k := by unfold roomK; rw [h5]; rfl
  unfold writeK write1
  rw [h1, h2, h3, h4, h6, h7]
  rfl
theorem lastK_again {n : Nat} {s k : Int} (hk : 1000 ≤ k ∧ k < 2000) : writeK (lastK n s k) k strY = (lastK n s k, (0, 0, ⟨#[]⟩), 10) := by
  have h1 : argK k strY = true := by
    unfold argK
    simp only [Bool.and_eq_true, decide_eq_true_eq]
    have : (strY.size : Int) = 1 := rfl
    omega
  have h2 : hasK (lastK n s k).lost k = true := by
    show hasK [(k, ())] k = true
    unfold hasK
    simp [mget]
  unfold writeK
  rw [h1, h2]
  rfl
theorem nums_full {n q : Nat} {s : Int} (hq : q ≤ 16) : Nums (fullK n s q) := fun p hp => by
  have := rowsQ_lt spF q p hp
  omega
end Go.Sp
namespace Go.Proofs.Ytniggacgkhkgiaa.Ev
open Go.RowKit Go.Sp Msg Pool Hash

set_option maxRecDepth 100000 in
set_option maxHeartbeats 4000000 in
theorem full_any (n s more : Int) (w : World) (_ : (Lit.int .i64 n).wf = true) (_ : (Lit.int .u64 s).wf = true) (_ : (Lit.int .i64 more).wf = true) : Calls Try.prog 8 #[.int .i64 n, .int .u64 s, .int .i64 more] w fun e w' => e = .returned (.bool true) ∧ Below w.heap.size w w' := by
  obtain ⟨A, eA, hA1, hA16⟩ := addModL 1 n 16 (by omega) (by omega) (by omega) (by omega)
  obtain ⟨B, eB, hB1, hB2⟩ := addModL 1000 more 1000 (by omega) (by omega) (by omega) (by omega)
  have hA : 1 ≤ A ∧ A ≤ 16 := by omega
  have hBk : 1000 ≤ (B : Int) ∧ (B : Int) < 2000 := by omega
  clear hA1 hA16 hB1 hB2
  go_enter Try.func8, Try.ntmps8
  go_upto_region 2 with fail
  rw [eA, eB]
  clear eA eB
  go_wp2_with fail
  refine (Sk.new w s hA.1 hA.2).mono ?_
  rintro e w1 ⟨kb, rfl, hS1, _⟩
  change Sk w w1 _ kb (fullK A s 0) at hS1
  go_wp2_with fail
  refine (awake_any _).mono ?_
  rintro e w2 ⟨rfl, hb2⟩
  have hS2 := hS1.step hb2
  clear hS1 hb2
  go_wp2
  go_loopw [9] (fun v wr => ∃ q : Nat, q ≤ A ∧ v = .int .i64 ((q : Int) + 1) ∧ Sk w wr (fun _ => False) kb (fullK A s q)) (fun v _ => A + 1 - (intOf v).toNat)
  case atStart => exact ⟨0, Nat.zero_le _, rfl, hS2⟩
  case round =>
    clear hS2
    obtain ⟨q, hq, rfl, hS⟩ := hrel
    by_cases hqA : q < A
    · have b1 : decide ((q : Int) + 1 ≤ (A : Int)) = true := decide_eq_true (by omega)
      have HW := hS.write (k := (q : Int) + 1) (s := strX) (fun b h => h.elim) (nums_full (by omega)) (by simp [fullK]) (fullK_write hA.2 hqA)
      clear hS
      go_wp2_with fail
      refine HW.mono ?_
      rintro e w3 ⟨rfl, hS3, _⟩
      have hS4 := hS3.step (below_alloc (Below.refl w3.heap.size w3) (.cells #[.int .i64 ((q : Int) + 1), .int .i64 1, .string strX] 89))
      clear HW hS3
      go_wp2_with fail
      generalize (w3.alloc (.cells #[.int .i64 ((q : Int) + 1), .int .i64 1, .string strX] 89)) = w4 at hS4 ⊢
      refine (hS4.pin (k := (q : Int) + 1) (fun b h => h.elim) (WalkArith.wf_i64 (by omega))).mono ?_
      rintro e w5 ⟨rfl, hS5, _⟩
      rw [show ({ ({ fullK A s q with M := rowsQ spF (q + 1) } : Kp) with pins := mput ((q : Int) + 1) () (fullK A s q).pins } : Kp) = fullK A s (q + 1) from fullK_pin A q s] at hS5
      clear hS4 b1
      go_wp2
      exact ⟨⟨q + 1, by omega, by go_num, hS5⟩, by simp [intOf] <;> omega⟩
    · have hqe : q = A := by omega
      subst hqe
      have b1 : decide ((q : Int) + 1 ≤ (q : Int)) = false := decide_eq_false (by omega)
      have HW := hS.write (k := (B : Int)) (s := strY) (fun b h => h.elim) (nums_full hA.2) (by simp [fullK]) (fullK_more hA hBk)
      clear hS
      go_wp2_with fail
      refine HW.mono ?_
      rintro e w3 ⟨rfl, hS3, _⟩
      have hS4 := hS3.step (below_alloc (Below.refl w3.heap.size w3) (.cells #[.int .i64 0, .int .i64 0, .string ⟨#[]⟩] 89))
      clear HW hS3 b1
      go_wp2_with fail
      generalize (w3.alloc (.cells #[.int .i64 0, .int .i64 0, .string ⟨#[]⟩] 89)) = w4 at hS4 ⊢
      refine (hS4.write (k := (B : Int)) (s := strY) (fun b h => h.elim) (show Nums (lastK q s (B : Int)) from fun p hp => nums_full (n := q) (s := s) hA.2 p hp) (by simp [lastK, fullK]) (lastK_again hBk)).mono ?_
      rintro e w5 ⟨rfl, hS5, _⟩
      have hS6 := hS5.step (below_alloc (Below.refl w5.heap.size w5) (.cells #[.int .i64 0, .int .i64 0, .string ⟨#[]⟩] 89))
      clear hS4 hS5
      go_wp2_with fail
      generalize (w5.alloc (.cells #[.int .i64 0, .int .i64 0, .string ⟨#[]⟩] 89)) = w6 at hS6 ⊢
      refine (hS6.lost (B : Int)).mono ?_
      rintro e w' ⟨rfl, rfl⟩
      rw [show hasK (lastK q s (B : Int)).lost (B : Int) = true by show hasK [((B : Int), ())] (B : Int) = true; unfold hasK; simp [mget]]
      go_wp2_with fail
      refine (hS6.evicted (by simp [lastK, fullK])).mono ?_
      rintro e w7 ⟨⟨v7, rfl, hr7, _⟩, hb7⟩
      change RS w7 1 eInt v7 [] at hr7
      obtain ⟨_, a7, c7, rfl, _⟩ := hr7
      rw [show ([] : List Int).length = 0 from rfl]
      have hS7 := hS6.step hb7
      clear hS6 hb7
      go_wp2_with fail
      refine (hS7.used).mono ?_
      rintro e w8 ⟨rfl, hb8⟩
      rw [show usedM (lastK q s (B : Int)).M = q from usedQ q]
      have hS8 := hS7.step hb8
      clear hS7 hb8
      go_wp2_with fail
      refine (hS8.traces).mono ?_
      rintro e w9 ⟨⟨v9, rfl, hr9, _⟩, hb9⟩
      obtain ⟨_, a9, c9, rfl, _⟩ := hr9
      rw [show ((lastK q s (B : Int)).M.map Prod.fst).length = q by show ((rowsQ spF q).map Prod.fst).length = q; simp [rowsQ]]
      have hB9 := (hS8.step hb9).bel
      clear hS8 hb9
      go_wp2
      go_ret
      exact ⟨rfl, hB9⟩
end Go.Proofs.Ytniggacgkhkgiaa.Ev
