/- slices.DeleteFunc at a slice of ints that is one's own, under a closure that reads alone: those that stay, in order. Conditions: the slice may be written, the closure answers f. -/
import Derived.Test.YtniggacgkhkgiaaEv0
namespace Go.Sp
open Go.RowKit
theorem run_clear {P : Program} {w : World} {t e : TypeId} {ty : TypeId} {b o n c : Nat} {z : Value} (ht : P.underlying t = some (.slice e)) (hz : ∀ w : World, (zeroValue e).run P w = .ok z w) (hz1 : z.cells = #[z]) (hz2 : z.oneCell' = true)
    (hn : 0 < n) (hc : ∀ j, j < n → (w.cell? ⟨b, o + j, none⟩).isSome = true) (hf : ∀ j, j < n → w.frozen? ⟨b, o + j, none⟩ = false) :
    (Builtin.clear_ #[t] ty #[.slice (some ⟨b, o, none⟩) n c]).run P w = .ok (.tuple #[]) (w.setCells b o (List.replicate n z)) := by
  have hzc : (Builtin.zeroCells z.cells n).toList = List.replicate n z := by
    rw [hz1]
    unfold Builtin.zeroCells
    simp [List.eq_replicate_iff]
    intro a _; rw [Nat.mod_one]; rfl
  have hst := run_storeCells_cells (P := P) b o (List.replicate n z) 0 w (by simpa using hc) (by simpa using hf) (fun v hv => by rw [List.eq_of_mem_replicate hv]; exact hz2)
  obtain ⟨n, rfl⟩ : ∃ k, n = k + 1 := ⟨n - 1, by omega⟩
  simp [Builtin.clear_, run_underlying ht, hz, hzc, hst]
theorem SL.pre {h : Array Obj} {e : TypeId} {b o N i cap : Nat} {A C : List Value} (x : SL h e 1 (.slice (some ⟨b, o, none⟩) N cap) N (A ++ C)) (hA : A.length = i) (hi : i ≤ N) : SL h e 1 (.slice (some ⟨b, o, none⟩) i cap) i A := by
  obtain ⟨hl, hx⟩ := x
  refine ⟨by omega, ?_⟩
  rcases hx with ⟨hv, _⟩ | ⟨b', off', cap', cur, hv, q1, q2, hb, q3, q4⟩
  · simp at hv
  simp only [Value.slice.injEq, Option.some.injEq, Addr.mk.injEq] at hv
  obtain ⟨⟨rfl, rfl, _⟩, _, rfl⟩ := hv
  exact .inr ⟨b, o, cap, cur, rfl, by omega, q2, hb, q3, fun j u hu => q4 j u (by rw [List.getElem?_append_left (List.getElem?_eq_some_iff.1 hu).1]; exact hu)⟩
end Go.Sp
namespace Go.Proofs.Ytniggacgkhkgiaa.Ev
open Go.RowKit Go.Sp Msg Pool

theorem slice_from (w : World) {b o N cap i : Nat} (h1 : i < N) (h2 : N ≤ cap) : (Instr.sliceAt 31 (.slice (some ⟨b, o, none⟩) N cap) (some (.int .i64 (i : Int))) none none).run Try.prog w = .ok (.slice (some ⟨b, o + i, none⟩) (N - i) (cap - i)) w := by
  have hsz : (sizeOf (Try.prog.elem 31)).run Try.prog w = .ok 1 w := by kernel_rfl
  have hu : Try.prog.underlying 31 = some (.slice (Try.prog.elem 31)) := by kernel_rfl
  rw [run_sliceAt_slice w 31 _ _ _ _ hu, run_slice_l w 31 _ _ _ hu .i64 (i : Int) (by omega) (by omega), hsz]
  have : cap ≠ i := by omega
  simp [sliced, Result.andThen, this, Addr.add]
theorem slice_to (w : World) {b o N cap i : Nat} (h1 : i ≤ cap) : (Instr.sliceAt 31 (.slice (some ⟨b, o, none⟩) N cap) none (some (.int .i64 (i : Int))) none).run Try.prog w = .ok (.slice (some ⟨b, o, none⟩) i cap) w := by
  have hsz : (sizeOf (Try.prog.elem 31)).run Try.prog w = .ok 1 w := by kernel_rfl
  have hu : Try.prog.underlying 31 = some (.slice (Try.prog.elem 31)) := by kernel_rfl
  rw [run_sliceAt_slice w 31 _ _ _ _ hu, run_slice_h w 31 _ _ _ hu .i64 (i : Int) (by omega) (by omega), hsz]
  simp [sliced, Result.andThen, Addr.add]

/-- what the closure answers -/
def Says (w : World) (xb : Nat) (f : Int → Bool) : Prop := ∀ x, Calls Try.prog 120 #[.int .i64 x, .pointer (some ⟨xb, 0, none⟩)] w fun e w' => e = .returned (.bool (f x)) ∧ w = w'

set_option maxRecDepth 100000 in
set_option maxHeartbeats 2000000 in
theorem index_any {w : World} {f : Int → Bool} {xb : Nat} {v : Value} {xs : List Int} (h : RS w 1 eInt v xs) (HC : Says w xb f) : Calls Try.prog 126 #[v, .func (.func 120) #[] #[.pointer (some ⟨xb, 0, none⟩)]] w fun e w' =>
    ((e = .returned (.int .i64 (-1)) ∧ ∀ x ∈ xs, f x = false) ∨ ∃ (q : Nat) (x : Int), e = .returned (.int .i64 q) ∧ (∀ y ∈ xs.take q, f y = false) ∧ xs[q]? = some x ∧ f x = true) ∧ w = w' := by
  have hl := h.1
  unfold maxLen at hl
  obtain ⟨_, a, c, rfl, h2⟩ := id h
  go_enter Try.func126, Try.ntmps126
  go_wp2
  go_loopw [8] (fun i wr => ∃ j : Nat, j ≤ xs.length ∧ i = .int .i64 j ∧ wr = w ∧ (∀ y ∈ xs.take j, f y = false)) (fun i _ => xs.length - (intOf i).toNat)
  case atStart => exact ⟨0, Nat.zero_le _, rfl, rfl, by simp⟩
  case round =>
    obtain ⟨j, hj, rfl, rfl, hJ⟩ := hrel
    by_cases hjl : j < xs.length
    · obtain ⟨b, off, rfl, hb, hcl⟩ := h2 (by omega)
      obtain ⟨x, hx⟩ : ∃ x, xs[j]? = some x := ⟨_, List.getElem?_eq_getElem hjl⟩
      have g := hcl j x 0 _ hx rfl
      rw [Nat.mul_one, Nat.add_zero] at g
      have HX := Lib.hid (And.intro hx hJ)
      have HCx := HC x
      clear hcl hx hJ h2 HC h
      go_wp2_with fail
      refine HCx.mono ?_
      rintro e w2 ⟨rfl, rfl⟩
      clear HCx
      cases hf : f x with
      | true =>
        have HF := Lib.hid hf
        clear hf
        go_wp2
        go_ret
        exact ⟨.inr ⟨j, x, rfl, HX.out.2, HX.out.1, HF.out⟩, by first | rfl | trivial⟩
      | false =>
        have HF := Lib.hid hf
        clear hf
        go_wp2
        exact ⟨⟨j + 1, by omega, by go_num, by first | rfl | trivial, fun y hy => by
          rw [List.take_add_one, HX.out.1] at hy
          rcases List.mem_append.1 hy with hy | hy
          · exact HX.out.2 y hy
          · simp at hy; rw [hy]; exact HF.out⟩, by simp [intOf] <;> omega⟩
    · have hje : j = xs.length := by omega
      subst hje
      rw [List.take_length] at hJ
      have HX := Lib.hid hJ
      clear hJ HC h2 h
      go_wp2
      go_ret
      exact ⟨.inl ⟨rfl, HX.out⟩, by first | rfl | trivial⟩

set_option maxRecDepth 100000 in
set_option maxHeartbeats 4000000 in
theorem delf_any {w : World} {f : Int → Bool} {xb : Nat} {v : Value} {xs : List Int} (h : SL w.heap 3 1 v xs.length (xs.map Sp.zI)) (hN : xs.length ≤ 1000) (HC : ∀ w', Only (fun g => v.ownBlock = some g) w w' → Says w' xb f) :
    Calls Try.prog 110 #[v, .func (.func 120) #[] #[.pointer (some ⟨xb, 0, none⟩)]] w fun e w' => ∃ v', e = .returned v' ∧ SL w'.heap 3 1 v' (xs.filter fun x => !f x).length ((xs.filter fun x => !f x).map Sp.zI) ∧ (∀ g, v'.ownBlock = some g → v.ownBlock = some g) ∧ Only (fun g => v.ownBlock = some g) w w' := by
  have HI := index_any (SL.ints h) (HC w (Only.refl _ _))
  obtain ⟨va, vc, rfl⟩ := h.form
  go_enter Try.func110, Try.ntmps110
  go_wp2_with fail
  refine HI.mono ?_
  rintro e w1 ⟨hI, rfl⟩
  clear HI
  rcases hI with ⟨rfl, hall⟩ | ⟨i0, x0, rfl, hall, hx0, hf0⟩
  · have hfl : xs.filter (fun x => !f x) = xs := List.filter_eq_self.2 (fun x hx => by rw [hall x hx]; rfl)
    have H := Lib.hid (And.intro hfl h)
    clear hall hfl h HC
    go_wp2
    go_ret
    exact ⟨_, rfl, by rw [H.out.1]; exact H.out.2, fun g hg => hg, Only.refl _ _⟩
  · have hi0 := (List.getElem?_eq_some_iff.1 hx0).1
    obtain ⟨b, o, cap, ev, hb, hNc, hcm⟩ := h.form' (by omega)
    simp only [Value.slice.injEq] at ev
    obtain ⟨rfl, _, rfl⟩ := ev
    have hneg : ((i0 : Int) == -1) = false := by simp
    have hneg' : decide ((i0 : Int) = -1) = false := by simp
    have HST : (xs.take (i0 + 1)).filter (fun x => !f x) = xs.take i0 := by
      rw [List.take_add_one, hx0, List.filter_append]
      simp [hf0]
      exact hall
    have HSTa := Lib.hid HST
    have hsplit : xs.map Sp.zI = (xs.take i0).map Sp.zI ++ [Sp.zI x0] ++ (xs.drop (i0 + 1)).map Sp.zI := by
      rw [show [Sp.zI x0] = [x0].map Sp.zI from rfl, ← List.map_append, ← List.map_append]
      congr 1
      have h1 : xs = xs.take (i0 + 1) ++ xs.drop (i0 + 1) := (List.take_append_drop _ _).symm
      rw [List.take_add_one, hx0] at h1
      simpa using h1
    have h1 := h
    rw [hsplit] at h1
    have H1 := Lib.hid (And.intro h1 (And.intro hsplit (And.intro hall (And.intro hx0 hf0))))
    have hlen0 : (xs.take i0).length = i0 := by simp; omega
    clear h1 hsplit hall hx0 hf0 HST h
    obtain ⟨cap, hcap⟩ : ∃ c, c = vc := ⟨_, rfl⟩
    subst hcap
    obtain ⟨N, hNe⟩ : ∃ N, N = xs.length := ⟨_, rfl⟩
    rw [← hNe] at hN hi0 hNc H1 HC ⊢
    have HNE := Lib.hid hNe
    clear hNe
    go_wp2
    go_loopw [5, 6] (fun i j wr => ∃ (q : Nat) (K : List Int) (mid : List Value), q ≤ N ∧ j = .int .i64 q ∧ K = (xs.take q).filter (fun x => !f x) ∧ i = .int .i64 K.length ∧ K.length < q ∧ SL wr.heap 3 1 (.slice (some ⟨b, o, none⟩) N cap) N (K.map Sp.zI ++ mid ++ (xs.drop q).map Sp.zI) ∧ Only (fun g => b = g) w wr) (fun _ j _ => N - (intOf j).toNat)
    case atStart => exact ⟨i0 + 1, xs.take i0, [Sp.zI x0], by omega, by go_num, HSTa.out.symm, by rw [hlen0], by omega, H1.out.1, Only.refl _ _⟩
    case round =>
      obtain ⟨q, K, mid, hq, rfl, hK, rfl, hKq, hS, hO⟩ := hrel
      have hdl : (xs.drop q).length = N - q := by rw [List.length_drop, ← HNE.out]
      have hml : K.length + mid.length = q := by
        have h1 := hS.1
        simp only [List.length_append, List.length_map, hdl] at h1
        omega
      obtain ⟨m0, mid', rfl⟩ : ∃ m0 mid', mid = m0 :: mid' := by
        cases mid with
        | nil => simp at hml; omega
        | cons m0 mid' => exact ⟨m0, mid', rfl⟩
      rw [List.length_cons] at hml
      have hic : wr.cell? ⟨b, o + K.length, none⟩ = some m0 := hS.cell (j := K.length) (u := m0) (by
        rw [List.append_assoc, List.getElem?_append_right (by simp)]
        simp)
      have hif : wr.frozen? ⟨b, o + K.length, none⟩ = false := hS.free _
      by_cases hqN : q < N
      · obtain ⟨x, hx⟩ : ∃ x, xs[q]? = some x := ⟨_, List.getElem?_eq_getElem (by rw [← HNE.out]; exact hqN)⟩
        have hdr : xs.drop q = x :: xs.drop (q + 1) := by
          have hlt : q < xs.length := by rw [← HNE.out]; exact hqN
          rw [List.drop_eq_getElem_cons hlt]
          congr 1
          exact (List.getElem?_eq_some_iff.1 hx).2
        have hxc : wr.cell? ⟨b, o + q, none⟩ = some (.int .i64 x) := hS.cell (j := q) (u := Sp.zI x) (by
          rw [hdr, List.getElem?_append_right (by simp; omega)]
          simp [← hml, Nat.add_assoc])
        have HT : (xs.take (q + 1)).filter (fun x => !f x) = K ++ [x].filter (fun x => !f x) := by
          rw [List.take_add_one, hx, List.filter_append, ← hK]; rfl
        have HCx := HC wr (hO.mono fun g _ e => by rw [← e]; rfl) x
        rw [hdr] at hS
        have HW := Lib.hid (And.intro HT (And.intro hS hO))
        clear HT hS hO hdr hx hK hdl HC
        go_wp2_with fail
        refine HCx.mono ?_
        rintro e w2 ⟨rfl, rfl⟩
        clear HCx
        cases hf : f x with
        | true =>
          have HF := Lib.hid (show [x].filter (fun x => !f x) = [] by simp [hf])
          clear hf
          go_wp2
          exact ⟨⟨q + 1, K, (m0 :: mid') ++ [Sp.zI x], by omega, by go_num, by rw [HW.out.1, HF.out, List.append_nil], by first | rfl | trivial, by omega, by have := HW.out.2.1; simpa using this, HW.out.2.2⟩, by simp [intOf] <;> omega⟩
        | false =>
          have HF := Lib.hid (show [x].filter (fun x => !f x) = [x] by simp [hf])
          clear hf
          go_wp2
          have hS2 := HW.out.2.1.set (j := K.length) (by simp) (.int .i64 x)
          have hset : (K.map Sp.zI ++ m0 :: mid' ++ (x :: xs.drop (q + 1)).map Sp.zI).set K.length (.int .i64 x) = (K ++ [x]).map Sp.zI ++ (mid' ++ [Sp.zI x]) ++ (xs.drop (q + 1)).map Sp.zI := by
            rw [List.append_assoc, List.set_append_right _ _ (by simp)]
            simp [zI]
          rw [hset] at hS2
          exact ⟨⟨q + 1, K ++ [x], mid' ++ [Sp.zI x], by omega, by go_num, by rw [HW.out.1, HF.out], by simp, by simp; omega, hS2, HW.out.2.2.setCell (p := ⟨b, o + K.length, none⟩) (fun _ => rfl) _⟩, by simp [intOf] <;> omega⟩
      · have hqe : q = N := by omega
        have hKN : K.length < N := by omega
        have hKe : K = xs.filter (fun x => !f x) := by rw [hK, hqe, HNE.out, List.take_length]
        have hdn : xs.drop q = [] := List.drop_eq_nil_of_le (by rw [← HNE.out]; omega)
        rw [hdn, List.map_nil, List.append_nil] at hS
        have hcell : ∀ j, j < N - K.length → (wr.cell? ⟨b, o + K.length + j, none⟩).isSome = true := fun j hj => by
          have hl : K.length + j < (K.map Sp.zI ++ m0 :: mid').length := by simp; omega
          have := hS.cell (j := K.length + j) (List.getElem?_eq_getElem hl)
          rw [Nat.add_assoc, this]; rfl
        have hcl := fun ty => run_clear (P := Try.prog) (w := wr) (t := 31) (e := 3) (ty := ty) (b := b) (o := o + K.length) (n := N - K.length) (c := cap - K.length) (z := .int .i64 0) Try.underlying31 (fun w => by kernel_rfl) rfl rfl (by omega) hcell (fun j _ => hS.free _)
        have hSl1 := slice_from wr (b := b) (o := o) hKN hNc
        have hSl2 := fun w2 => slice_to w2 (b := b) (o := o) (N := N) (cap := cap) (i := K.length) (by omega)
        have hP := SL.putC (List.replicate (N - K.length) (.int .i64 0)) K.length hS (by simp; omega)
        have hsp : K.map Sp.zI ++ m0 :: mid' = K.map Sp.zI ++ (m0 :: mid' ++ []) := by simp
        rw [hsp] at hP
        have hpe := putC_eq (List.replicate (N - K.length) (.int .i64 0)) (K.map Sp.zI) (m0 :: mid') [] (by simp; omega)
        rw [List.length_map] at hpe
        rw [hpe] at hP
        have hF := hP.pre (A := K.map Sp.zI) (i := K.length) (by simp) (by omega)
        have hOs : Only (fun g => b = g) w (wr.setCells b (o + K.length) (List.replicate (N - K.length) (.int .i64 0))) := hO.trans ((only_setCells _ _ _ _).mono fun g _ e => e.symm)
        have HZ := Lib.hid (And.intro hF (And.intro hOs hKe))
        clear hP hpe hsp hF hOs hKe hdn hS hO hcell HC hK hic hif hqN
        subst hqe
        clear hdl
        go_wp2
        go_ret
        obtain ⟨hF, hOs, hKe⟩ := HZ.out
        exact ⟨_, rfl, by rw [← hKe]; exact hF, fun g hg => hg, hOs.mono fun g _ e => by rw [← e]; rfl⟩
end Go.Proofs.Ytniggacgkhkgiaa.Ev
