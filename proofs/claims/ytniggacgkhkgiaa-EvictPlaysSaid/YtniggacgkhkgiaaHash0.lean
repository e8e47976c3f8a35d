/- What the program's hash says: FNV-1a over a trace's and a seed's bytes. Conditions: the slices lie in memory. -/
import Derived.Test.YtniggacgkhkgiaaMsg4
import Derived.Test.YtniggacgkhkgiaaBase
namespace Go.Sp
open Go.RowKit
def eB8 (b : Int) : List Value := [.int .u8 b]
/-- a byte more -/
def mixB (x c : Int) : Int := IntKind.u64.wrap (bits BinOp.xor IntKind.u64 x (IntKind.u64.wrap c) * 1099511628211)
theorem eB8_len (b : Int) : (eB8 b).length = 1 := rfl
def byteN (n : Int) (i : Nat) : Int := n / 2 ^ i % 256
def seedL (s : Int) : List Int := (List.range 8).map fun j => byteN s (56 - 8 * j)
def trL (t : Int) : List Int := [t / 16777216 % 256, t / 65536 % 256, t / 256 % 256, t % 256]
/-- a trace's worth, of the seed's and its bytes -/
def prio (s t : Int) : Int := (trL t).foldl mixB ((seedL s).foldl mixB 14695981039346656037)
theorem seedL_len (s : Int) : (seedL s).length = 8 := by simp [seedL]
theorem seedL_get (s : Int) {j : Nat} (h : j < 8) : (seedL s)[j]? = some (byteN s (56 - 8 * j)) := by
  unfold seedL; rw [List.getElem?_map, List.getElem?_range h]; rfl
end Go.Sp
namespace Go.Proofs.Ytniggacgkhkgiaa.Hash
open Go.RowKit Go.Sp Msg

set_option maxRecDepth 100000 in
set_option maxHeartbeats 2000000 in
theorem more_any {w : World} {v : Value} {bs : List Int} (h : RS w 1 eB8 v bs) (x : Int) : Calls Try.prog 156 #[.int .u64 x, v] w fun e w' => e = .returned (.int .u64 (bs.foldl mixB x)) ∧ w = w' := by
  have hl := h.1
  unfold maxLen at hl
  obtain ⟨_, a, c, rfl, h2⟩ := id h
  go_enter Try.func156, Try.ntmps156
  go_wp2
  go_loopw [0, 9] (fun y i wr => ∃ q : Nat, q ≤ bs.length ∧ i = .int .i64 q ∧ y = .int .u64 ((bs.take q).foldl mixB x) ∧ wr = w) (fun _ i _ => bs.length - (intOf i).toNat)
  case atStart => exact ⟨0, Nat.zero_le _, rfl, rfl, rfl⟩
  case round =>
    obtain ⟨q, hq, rfl, rfl, rfl⟩ := hrel
    by_cases hqN : q < bs.length
    · obtain ⟨b, off, rfl, hb, hcl⟩ := h2 (by omega)
      obtain ⟨c0, hc⟩ : ∃ c, bs[q]? = some c := ⟨_, List.getElem?_eq_getElem hqN⟩
      have g := hcl q c0 0 _ hc rfl
      rw [← Nat.add_assoc] at g
      rw [Nat.mul_one, Nat.add_zero] at g
      have HT : (bs.take (q + 1)).foldl mixB x = mixB ((bs.take q).foldl mixB x) c0 := by rw [List.take_add_one, hc]; simp
      have HT := Lib.hid HT
      generalize (bs.take q).foldl mixB x = y at HT ⊢
      clear hcl hc h2
      go_wp2
      exact ⟨⟨q + 1, by omega, by go_num, by rw [HT.out]; rfl, trivial⟩, by simp [intOf]; omega⟩
    · have hqe : q = bs.length := by omega
      subst hqe
      rw [List.take_length]
      go_wp2
      go_ret
      exact ⟨rfl, rfl⟩

set_option maxRecDepth 100000 in
set_option maxHeartbeats 2000000 in
theorem priority_any (w : World) (s t : Int) : Calls Try.prog 147 #[.int .u64 s, .int .i64 t] w fun e w' => e = .returned (.int .u64 (prio s t)) ∧ Below w.heap.size w w' := by
  obtain ⟨L8, hL8⟩ : ∃ L8, L8 = seedL s := ⟨_, rfl⟩
  have hln : L8.length = 8 := by rw [hL8]; exact seedL_len s
  have HG := Lib.hid (show ∀ j, j < 8 → L8[j]? = some (byteN s (56 - 8 * j)) from fun j hj => by rw [hL8]; exact seedL_get s hj)
  have HP := Lib.hid (show prio s t = (trL t).foldl mixB (L8.foldl mixB 14695981039346656037) by rw [hL8]; rfl)
  clear hL8
  obtain ⟨X0, hX0⟩ : ∃ X0 : Int, X0 = 14695981039346656037 := ⟨_, rfl⟩
  have HX := Lib.hid hX0
  rw [← hX0] at HP
  go_enter Try.func147, Try.ntmps147
  go_wp2
  rw [← HX.out]
  clear hX0
  go_loopw [5, 6] (fun x i wr => ∃ j : Nat, j ≤ 8 ∧ i = .int .i64 (56 - 8 * (j : Int)) ∧ x = .int .u64 ((L8.take j).foldl mixB X0) ∧ Below w.heap.size w wr) (fun _ i _ => (64 + intOf i).toNat)
  case atStart => exact ⟨0, by omega, rfl, rfl, Below.refl _ _⟩
  case round =>
    obtain ⟨j, hj, rfl, rfl, hb⟩ := hrel
    by_cases hj8 : j < 8
    · have b1 : decide (0 ≤ 56 - 8 * (j : Int)) = true := decide_eq_true (by omega)
      have HT := Lib.hid (show (L8.take (j + 1)).foldl mixB X0 = mixB ((L8.take j).foldl mixB X0) (byteN s (56 - 8 * j)) by rw [List.take_add_one, HG.out j hj8]; simp)
      generalize (L8.take j).foldl mixB X0 = Y at HT ⊢
      have hA := below_alloc hb (.cells #[.int .u8 (byteN s (56 - 8 * j))] 5)
      have hrs := rs_lits (enc := eB8) (size := 1) eB8_len wr [byteN s (56 - 8 * j)] 5 (by unfold maxLen; simp) (b := wr.heap.size) (cap := 1) rfl
      clear hb
      go_wp2_with fail
      refine (more_any hrs Y).mono ?_
      rintro e w2 ⟨rfl, rfl⟩
      clear hrs
      go_wp2
      exact ⟨⟨j + 1, by omega, by first | go_num | (congr 1; omega), by rw [HT.out] <;> rfl, hA⟩, by simp [intOf] <;> omega⟩
    · have hj' : j = 8 := by omega
      subst hj'
      have HE := Lib.hid (show L8.take 8 = L8 by rw [← hln, List.take_length])
      rw [HE.out]
      have HQ := Lib.hid (show prio s t = (trL t).foldl mixB (L8.foldl mixB X0) from HP.out)
      generalize L8.foldl mixB X0 = Y at HQ ⊢
      have hA := below_alloc hb (.cells #[.int .u8 (t / 16777216 % 256), .int .u8 (t / 65536 % 256), .int .u8 (t / 256 % 256), .int .u8 (t % 256)] 5)
      have hrs := rs_lits (enc := eB8) (size := 1) eB8_len wr (trL t) 5 (by unfold maxLen; simp [trL]) (b := wr.heap.size) (cap := 4) rfl
      clear hb
      go_wp2_with fail
      refine (more_any hrs Y).mono ?_
      rintro e w2 ⟨rfl, rfl⟩
      clear hrs
      go_wp2
      go_ret
      exact ⟨by rw [HQ.out] <;> rfl, hA⟩
end Go.Proofs.Ytniggacgkhkgiaa.Hash
