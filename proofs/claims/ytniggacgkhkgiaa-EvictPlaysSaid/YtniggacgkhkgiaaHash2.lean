/- The reference's hash says what the program's says. Conditions: traces are traces' numbers; the list lies in memory. -/
import Derived.Test.YtniggacgkhkgiaaHash1
import Derived.Laws.BytesArg
namespace Go.Sp
open Go.RowKit
def eU8 (x : Int) : Value := .int .u8 x
/-- a number's bytes, k of them, the greatest first -/
def bL (n : Int) (k : Nat) : List Int := (List.range k).map fun j => byteN n (8 * (k - 1 - j))
theorem bL_len (n : Int) (k : Nat) : (bL n k).length = k := by simp [bL]
theorem bL_get (n : Int) {k j : Nat} (h : j < k) : (bL n k)[j]? = some (byteN n (8 * (k - 1 - j))) := by
  unfold bL; rw [List.getElem?_map, List.getElem?_range h]; rfl
theorem byteN_rg (n : Int) (i : Nat) : 0 ≤ byteN n i ∧ byteN n i < 256 := by unfold byteN; omega
theorem bL_rg (n : Int) (k : Nat) : ∀ x ∈ bL n k, 0 ≤ x ∧ x < 256 := fun x hx => by
  unfold bL at hx
  obtain ⟨j, _, rfl⟩ := List.mem_map.1 hx
  exact byteN_rg _ _
theorem bL8 (n : Int) : bL n 8 = seedL n := by
  unfold bL seedL
  refine List.map_congr_left fun j hj => ?_
  have := List.mem_range.1 hj
  congr 1; omega
theorem bL4 (n : Int) : bL n 4 = trL n := by
  simp [bL, trL, List.range, List.range.loop, byteN]
theorem u64_id {t : Int} (h0 : 0 ≤ t) (h1 : t < 9223372036854775808) : IntKind.u64.wrap t = t := by
  simp only [IntKind.wrap, IntKind.signed, IntKind.bits]
  simp; omega
theorem strGet (xs : List Int) (h : ∀ x ∈ xs, 0 ≤ x ∧ x < 256) {q : Nat} (hq : q < xs.length) (hs : q < (strOfNums xs).size) : (((strOfNums xs)[q]'hs).toNat : Int) = xs[q] := by
  have hx := h _ (List.getElem_mem hq)
  have : ((strOfNums xs)[q]'hs) = UInt8.ofNat (xs[q]).toNat := by
    simp [strOfNums, ByteArray.getElem_eq_getElem_data]
  rw [this, UInt8.toNat_ofNat']
  omega
theorem strApp (xs ys : List Int) : strOfNums xs ++ strOfNums ys = strOfNums (xs ++ ys) := by
  simp [strOfNums, ByteArray.append_eq, ByteArray.ext_iff]
end Go.Sp
namespace Go.Proofs.Ytniggacgkhkgiaa.Hash
open Go.RowKit Go.Sp Msg

theorem idx_str (w : World) (xs : List Int) (h : ∀ x ∈ xs, 0 ≤ x ∧ x < 256) {q : Nat} {x : Int} (hx : xs[q]? = some x) : (Instr.index 9 (.string (strOfNums xs)) (.int .i64 (q : Int))).run Try.prog w = .ok (.int .u8 x) w := by
  obtain ⟨hq, rfl⟩ := List.getElem?_eq_some_iff.1 hx
  have hs : q < (strOfNums xs).size := by rw [strOfNums_size]; exact hq
  rw [run_index_string w 9 _ .i64 (q : Int) Try.underlying9, dif_pos ⟨by omega, by omega⟩]
  have := strGet xs h hq hs
  simp only [Int.toNat_natCast]
  rw [this]

set_option maxRecDepth 100000 in
set_option maxHeartbeats 2000000 in
theorem sum_any (w : World) {xs : List Int} (h : ∀ x ∈ xs, 0 ≤ x ∧ x < 256) (hl : xs.length ≤ 1000) : Calls Try.prog 124 #[.string (strOfNums xs)] w fun e w' => e = .returned (.int .u64 (xs.foldl mixB 14695981039346656037)) ∧ w = w' := by
  obtain ⟨X0, hX0⟩ : ∃ X0 : Int, X0 = 14695981039346656037 := ⟨_, rfl⟩
  have HX := Lib.hid hX0
  rw [← hX0]
  clear hX0
  have hsz := strOfNums_size xs
  have hIX := fun q x hx => idx_str w xs h (q := q) (x := x) hx
  generalize strOfNums xs = s at hsz hIX ⊢
  go_enter Try.func124, Try.ntmps124
  go_wp2
  rw [← HX.out]
  go_loopw [3, 4] (fun y i wr => ∃ q : Nat, q ≤ xs.length ∧ i = .int .i64 q ∧ y = .int .u64 ((xs.take q).foldl mixB X0) ∧ wr = w) (fun _ i _ => xs.length - (intOf i).toNat)
  case atStart => exact ⟨0, Nat.zero_le _, rfl, rfl, rfl⟩
  case round =>
    obtain ⟨q, hq, rfl, rfl, rfl⟩ := hrel
    by_cases hqN : q < xs.length
    · obtain ⟨c0, hc⟩ : ∃ c, xs[q]? = some c := ⟨_, List.getElem?_eq_getElem hqN⟩
      have hI := hIX q c0 hc
      have HT := Lib.hid (show (xs.take (q + 1)).foldl mixB X0 = mixB ((xs.take q).foldl mixB X0) c0 by rw [List.take_add_one, hc]; simp)
      generalize (xs.take q).foldl mixB X0 = y at HT ⊢
      have HSZ := Lib.hid hsz
      have b1 : decide ((q : Int) < (s.size : Int)) = true := decide_eq_true (by omega)
      have b2 : decide (q < s.size) = true := decide_eq_true (by omega)
      clear hc hIX hsz h
      go_wp2
      exact ⟨⟨q + 1, by omega, by go_num, by rw [HT.out] <;> rfl, by first | rfl | trivial⟩, by simp [intOf] <;> omega⟩
    · have hqe : q = xs.length := by omega
      subst hqe
      rw [List.take_length]
      have b1 : decide ((xs.length : Int) < (s.size : Int)) = false := decide_eq_false (by omega)
      have b2 : decide (xs.length < s.size) = false := decide_eq_false (by omega)
      clear hIX hsz h
      obtain ⟨y, hy⟩ : ∃ y, y = xs.foldl mixB X0 := ⟨_, rfl⟩
      rw [← hy]
      have HY := Lib.hid hy
      clear hy
      go_wp2
      go_ret
      exact ⟨by rw [← HY.out] <;> rfl, by first | rfl | trivial⟩

set_option maxRecDepth 100000 in
set_option maxHeartbeats 2000000 in
theorem bytes_any (w : World) (n : Int) {k : Nat} (h1 : 1 ≤ k) (h8 : k ≤ 8) : Calls Try.prog 125 #[.int .u64 n, .int .i64 k] w fun e w' => e = .returned (.string (strOfNums (bL n k))) ∧ Below w.heap.size w w' := by
  obtain ⟨io, zo, hio, hzo, ho1, ho2, ho3⟩ := info_at (P := Try.prog) (e := 5) (f := (1, 1, 1)) (by kernel_rfl)
  obtain ⟨L, hL⟩ : ∃ L, L = bL n k := ⟨_, rfl⟩
  have hLl : L.length = k := by rw [hL]; exact bL_len n k
  have HG := Lib.hid (show ∀ j, j < k → L[j]? = some (byteN n (8 * (k - 1 - j))) from fun j hj => by rw [hL]; exact bL_get n hj)
  rw [← hL]
  clear hL
  have hE := sl_empty' w 5 1 (b := w.heap.size) rfl
  have hA := below_alloc (Below.refl w.heap.size w) (.cells #[] 5)
  go_enter Try.func125, Try.ntmps125
  go_wp2
  generalize (w.alloc (.cells #[] 5)) = w1 at hE hA ⊢
  go_loopw [5, 6] (fun v i wr => ∃ j : Nat, j ≤ k ∧ i = .int .i64 ((k : Int) - 1 - (j : Int)) ∧ SL wr.heap 5 1 v j ((L.take j).map eU8) ∧ (∀ g, v.ownBlock = some g → w.heap.size ≤ g) ∧ Below w.heap.size w wr) (fun _ i _ => (16 + intOf i).toNat)
  case atStart => exact ⟨0, by omega, by first | rfl | simp, hE, fun g hg => by simp [Value.ownBlock] at hg; omega, hA⟩
  case round =>
    clear hE hA
    obtain ⟨j, hj, rfl, hs, hn, hb⟩ := hrel
    by_cases hjk : j < k
    · obtain ⟨i, hi⟩ : ∃ i : Nat, i = k - 1 - j := ⟨_, rfl⟩
      have hi2 : ((k : Int) - 1 - (j : Int)) = (i : Int) := by omega
      rw [hi2]
      have hi8 : i ≤ 7 := by omega
      obtain ⟨va, vc, rfl⟩ := hs.form
      have HT := Lib.hid (show L.take (j + 1) = L.take j ++ [byteN n (8 * i)] by rw [List.take_add_one, HG.out j hjk, hi]; rfl)
      have HI := Lib.hid (And.intro hi hi2)
      clear hi hi2
      go_wp2_with (at_builtin; refine halt ?_)
      refine Sp.Halt.go ?_
      refine wpList_appd (v := .slice va j vc) rfl _ _ _ rfl Try.underlying206 hio hzo ho1 ho2 ho3 rfl (hs.alloc _) (m := 1) (news := [.int .u8 (byteN n (8 * i))]) rfl rfl (cells_new _ _ _ rfl) (by simp [Value.oneCell']) (by unfold maxLen; omega) (by omega) ?_
      rintro v8 w8 hs8 ho8 hv8
      have hB8 : Below w.heap.size w w8 := (below_alloc hb _).trans (ho8.below (below_alloc hb _).size fun i hi e => by have := hn i e; omega)
      have hn8 : ∀ g, v8.ownBlock = some g → w.heap.size ≤ g := fun g hg => by
        rcases hv8 with e | e
        · exact hn g (by rw [← e]; exact hg)
        · rw [e] at hg; cases hg; have := hb.size; simp; omega
      have hs9 : SL w8.heap 5 1 v8 (j + 1) ((L.take (j + 1)).map eU8) := by
        rw [HT.out, List.map_append]; exact hs8
      clear hs8 ho8 hv8 hs hn hb
      go_wp2
      exact ⟨⟨j + 1, by omega, by congr 1; have := HI.out; omega, hs9, hn8, hB8⟩, by simp [intOf] <;> omega⟩
    · have hje : j = k := by omega
      subst hje
      obtain ⟨b, o, cap, rfl, _⟩ := hs.form' (by omega)
      have htk : L.take j = L := by rw [← hLl, List.take_length]
      rw [htk] at hs
      have hcv := run_convert_bytes_arg (P := Try.prog) wr 206 5 Try.underlying206 Try.underlying5 b o j cap L hLl (fun i hi => hs.cell (j := i) (by
        rw [List.getElem?_map, List.getElem?_eq_getElem (by omega)]
        simp [eU8, List.getD_eq_getElem?_getD, List.getElem?_eq_getElem (show i < L.length by omega)])) 9 Try.underlying9
      have b1 : decide (0 ≤ (j : Int) - 1 - (j : Int)) = false := decide_eq_false (by omega)
      clear hs hn htk
      obtain ⟨S, hS⟩ : ∃ S, S = strOfNums L := ⟨_, rfl⟩
      rw [← hS] at hcv
      have HS := Lib.hid hS
      clear hS
      go_wp2
      go_ret
      exact ⟨by rw [← HS.out] <;> rfl, hb⟩

set_option maxRecDepth 100000 in
set_option maxHeartbeats 2000000 in
theorem refprio_any (w : World) (s : Int) {t : Int} (h0 : 0 ≤ t) (h1 : t < 9223372036854775808) : Calls Try.prog 107 #[.int .u64 s, .int .i64 t] w fun e w' => e = .returned (.int .u64 (prio s t)) ∧ Below w.heap.size w w' := by
  have HB1 := fun w => bytes_any w s (k := 8) (by omega) (by omega)
  have HB2 := fun w => bytes_any w t (k := 4) (by omega) (by omega)
  have HS := fun w => sum_any w (xs := bL s 8 ++ bL t 4) (fun x hx => by
    rcases List.mem_append.1 hx with hx | hx
    · exact bL_rg _ _ x hx
    · exact bL_rg _ _ x hx) (by rw [List.length_append, bL_len, bL_len]; omega)
  rw [← strApp] at HS
  have hP : prio s t = (bL s 8 ++ bL t 4).foldl mixB 14695981039346656037 := by rw [bL8, bL4, List.foldl_append]; rfl
  rw [← hP] at HS
  clear hP
  generalize prio s t = p at HS ⊢
  have hs1 : (strOfNums (bL s 8)).size = 8 := by rw [strOfNums_size, bL_len]
  have hs2 : (strOfNums (bL t 4)).size = 4 := by rw [strOfNums_size, bL_len]
  generalize strOfNums (bL s 8) = S1 at HB1 HS hs1
  generalize strOfNums (bL t 4) = S2 at HB2 HS hs2
  have hu : IntKind.u64.wrap t = t := u64_id h0 h1
  go_enter Try.func107, Try.ntmps107
  go_wp2_with fail
  refine (HB1 _).mono ?_
  rintro e w1 ⟨rfl, hb1⟩
  go_wp2_with fail
  refine (HB2 _).mono ?_
  rintro e w2 ⟨rfl, hb2⟩
  have hB := below_trans' hb2 hb1
  clear hb1 hb2 HB1 HB2 hu
  go_wp2_with fail
  refine (HS _).mono ?_
  rintro e w3 ⟨rfl, rfl⟩
  go_wp2
  go_ret
  exact ⟨rfl, hB⟩

set_option maxRecDepth 100000 in
set_option maxHeartbeats 2000000 in
theorem refless_any (w : World) (s : Int) {a b : Int} (ha : 0 ≤ a ∧ a < 9223372036854775808) (hb : 0 ≤ b ∧ b < 9223372036854775808) : Calls Try.prog 58 #[.int .u64 s, .int .i64 a, .int .i64 b] w fun e w' => e = .returned (.bool (lessP s a b)) ∧ Below w.heap.size w w' := by
  have HP1 := fun w => refprio_any w s ha.1 ha.2
  have HP2 := fun w => refprio_any w s hb.1 hb.2
  have hv : lessP s a b = (decide (prio s a < prio s b) || (decide (prio s a = prio s b) && decide (a < b))) := rfl
  generalize prio s a = p at HP1 hv
  generalize prio s b = q at HP2 hv
  generalize lessP s a b = r at hv ⊢
  have HV := Lib.hid hv
  clear hv
  go_enter Try.func58, Try.ntmps58
  go_wp2_with fail
  refine (HP1 _).mono ?_
  rintro e w1 ⟨rfl, hb1⟩
  go_wp2_with fail
  refine (HP2 _).mono ?_
  rintro e w2 ⟨rfl, hb2⟩
  have hB := below_trans' hb2 hb1
  clear hb1 hb2 HP1 HP2
  by_cases h1 : p < q
  · have b1 : decide (p < q) = true := decide_eq_true h1
    have H := Lib.hid (show r = true by rw [HV.out, b1]; rfl)
    clear h1
    go_wp2
    go_ret
    exact ⟨by rw [H.out] <;> rfl, hB⟩
  · have b1 : decide (p < q) = false := decide_eq_false h1
    by_cases h2 : p = q
    · have b2 : (p == q) = true := by simp [h2]
      have b3 : decide (p = q) = true := decide_eq_true h2
      by_cases h3 : a < b
      · have b4 : decide (a < b) = true := decide_eq_true h3
        have H := Lib.hid (show r = true by rw [HV.out, b1, b3, b4]; rfl)
        clear h1 h2 h3 b3
        go_wp2
        go_ret
        exact ⟨by rw [H.out] <;> rfl, hB⟩
      · have b4 : decide (a < b) = false := decide_eq_false h3
        have H := Lib.hid (show r = false by rw [HV.out, b1, b3, b4]; rfl)
        clear h1 h2 h3 b3
        go_wp2
        go_ret
        exact ⟨by rw [H.out] <;> rfl, hB⟩
    · have b2 : (p == q) = false := by simp [h2]
      have H := Lib.hid (show r = false by rw [HV.out, b1, decide_eq_false h2]; rfl)
      clear h1 h2
      go_wp2
      go_ret
      exact ⟨by rw [H.out] <;> rfl, hB⟩

theorem leastG_self (s x : Int) (r : List Int) : leastG (lessP s) x (x :: r) = leastG (lessP s) x r := by
  have h : lessP s x x = false := by unfold lessP; simp
  show leastG (lessP s) (bif lessP s x x then x else x) r = _
  rw [h]; rfl
set_option maxRecDepth 100000 in
set_option maxHeartbeats 2000000 in
theorem refleast_gen {w : World} {s : Int} {less : Int → Int → Bool} {v : Value} {x0 : Int} {r : List Int} (h : RS w 1 eInt v (x0 :: r))
    (HL : ∀ w' x m, Below w.heap.size w w' → x ∈ x0 :: r → m ∈ x0 :: r → Calls Try.prog 58 #[.int .u64 s, .int .i64 x, .int .i64 m] w' fun e w'' => e = .returned (.bool (less x m)) ∧ Below w'.heap.size w' w'') :
    Calls Try.prog 93 #[.int .u64 s, v] w fun e w' => e = .returned (.int .i64 (leastG less x0 (x0 :: r))) ∧ Below w.heap.size w w' := by
  have hl := h.1
  unfold maxLen at hl
  obtain ⟨bb, o, c, rfl, hb0, hcl⟩ := h.int (by simp)
  have g0 := hcl 0 x0 rfl
  rw [Nat.add_zero] at g0
  obtain ⟨xs, hxs⟩ : ∃ xs, xs = x0 :: r := ⟨_, rfl⟩
  have hpos : 0 < xs.length := by rw [hxs]; simp
  have hx0 : x0 ∈ xs := by rw [hxs]; exact List.mem_cons_self
  rw [← hxs] at hcl HL hl ⊢
  obtain ⟨n, hn⟩ : ∃ n, n = xs.length := ⟨_, rfl⟩
  rw [← hn] at hl hpos ⊢
  have HN := Lib.hid (And.intro hn hxs)
  have hz : ((n : Int) == 0) = false := by simp; omega
  clear h hn hxs
  go_enter Try.func93, Try.ntmps93
  go_wp2
  clear hz
  go_loopw [5, 6] (fun m i wr => ∃ (j : Nat) (mm : Int), j ≤ n ∧ i = .int .i64 (j : Int) ∧ m = .int .i64 mm ∧ mm = leastG less x0 (xs.take j) ∧ mm ∈ xs ∧ Below w.heap.size w wr) (fun _ i _ => n - (intOf i).toNat)
  case atStart => exact ⟨0, x0, Nat.zero_le _, rfl, rfl, rfl, hx0, Below.refl _ _⟩
  case round =>
    obtain ⟨j, m, hj, rfl, rfl, hm, hmx, hb⟩ := hrel
    by_cases hjl : j < n
    · obtain ⟨x, hx⟩ : ∃ x, xs[j]? = some x := ⟨_, List.getElem?_eq_getElem (by rw [← HN.out.1]; exact hjl)⟩
      have g : wr.cell? ⟨bb, o + j, none⟩ = some (.int .i64 x) := by rw [hb.cell (p := ⟨bb, o + j, none⟩) hb0]; exact hcl j x hx
      have HT := Lib.hid (show leastG less x0 (xs.take (j + 1)) = bif less x m then x else m by rw [leastG_succ less x0 xs hx, ← hm])
      have HC := HL wr x m hb (List.mem_of_getElem? hx) hmx
      have HX := Lib.hid (And.intro (List.mem_of_getElem? hx) hmx)
      clear hx hcl g0 hm hmx HL hx0
      go_wp2_with fail
      refine HC.mono ?_
      rintro e w2 ⟨rfl, hb2⟩
      have hb3 := below_trans' hb2 hb
      have g2 : w2.cell? ⟨bb, o + j, none⟩ = some (.int .i64 x) := by rw [hb2.cell (World.block_lt_of_cell? _ _ g)]; exact g
      clear hb2 hb g HC
      cases hq : less x m with
      | true =>
        have HQ := Lib.hid hq
        clear hq
        go_wp2
        exact ⟨⟨j + 1, x, by omega, by go_num, by first | rfl | trivial, by rw [HT.out, HQ.out] <;> rfl, HX.out.1, hb3⟩, by simp [intOf] <;> omega⟩
      | false =>
        have HQ := Lib.hid hq
        clear hq
        go_wp2
        exact ⟨⟨j + 1, m, by omega, by go_num, by first | rfl | trivial, by rw [HT.out, HQ.out] <;> rfl, HX.out.2, hb3⟩, by simp [intOf] <;> omega⟩
    · have hje : j = n := by omega
      subst hje
      have hmf : m = leastG less x0 xs := by rw [hm, HN.out.1, List.take_length]
      have HM := Lib.hid hmf
      clear hm hmf hcl g0 HL hmx
      go_wp2
      go_ret
      exact ⟨by rw [← HM.out] <;> rfl, hb⟩
theorem refleast_any {w : World} {s : Int} {v : Value} {x0 : Int} {r : List Int} (h : RS w 1 eInt v (x0 :: r)) (hr : ∀ x ∈ x0 :: r, 0 ≤ x ∧ x < 9223372036854775808) :
    Calls Try.prog 93 #[.int .u64 s, v] w fun e w' => e = .returned (.int .i64 (leastP s (x0 :: r))) ∧ Below w.heap.size w w' := by
  have := refleast_gen (s := s) (less := lessP s) h (fun w' x m _ hx hm => refless_any w' s (hr x hx) (hr m hm))
  rw [leastG_self] at this
  exact this
end Go.Proofs.Ytniggacgkhkgiaa.Hash
