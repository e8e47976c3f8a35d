/- lease.Leases' methods at a nil receiver; the law's awake. No condition. -/
import Derived.Test.YtcdjeblcmgghhaaLease1
import Derived.Test.YtcdjeblcmgghhaaInts
namespace Go.Proofs.Ytcdjeblcmgghhaa.Lease
open Go.RowKit Go.Sp

section
variable {w : World}

theorem job_nil (k : Int) : Calls Try.prog 38 #[.pointer none, .int .i64 k] w fun e w' => e = .returned (.int .i64 0) ∧ w = w' := by
  go_enter Try.func38, Try.ntmps38
  go_wp2
  go_ret
  exact ⟨rfl, rfl⟩
theorem left_nil (k : Int) : Calls Try.prog 39 #[.pointer none, .int .i64 k] w fun e w' => e = .returned (.int .i64 0) ∧ w = w' := by
  go_enter Try.func39, Try.ntmps39
  go_wp2
  go_ret
  exact ⟨rfl, rfl⟩
theorem over_nil (k : Int) : Calls Try.prog 40 #[.pointer none, .int .i64 k] w fun e w' => e = .returned (.int .i64 0) ∧ w = w' := by
  go_enter Try.func40, Try.ntmps40
  go_wp2
  go_ret
  exact ⟨rfl, rfl⟩
theorem len_nil : Calls Try.prog 42 #[.pointer none] w fun e w' => e = .returned (.int .i64 0) ∧ w = w' := by
  go_enter Try.func42, Try.ntmps42
  go_wp2
  go_ret
  exact ⟨rfl, rfl⟩
theorem tick_nil : Calls Try.prog 35 #[.pointer none] w fun e w' => e = .returned (.slice none 0 0) ∧ w = w' := by
  go_enter Try.func35, Try.ntmps35
  go_wp2
  go_ret
  exact ⟨rfl, rfl⟩
theorem grant_nil (k j : Int) : Calls Try.prog 31 #[.pointer none, .int .i64 k, .int .i64 j] w fun e w' => e = .returned (.tuple #[]) ∧ w = w' := by
  go_enter Try.func31, Try.ntmps31
  go_wp2
  go_end0
  exact ⟨rfl, rfl⟩
theorem end_nil (k : Int) : Calls Try.prog 33 #[.pointer none, .int .i64 k] w fun e w' => e = .returned (.tuple #[]) ∧ w = w' := by
  go_enter Try.func33, Try.ntmps33
  go_wp2
  go_end0
  exact ⟨rfl, rfl⟩

variable {lb hb ob : Nat} {ticks : Int} {H : List (Int × (Int × Int))} {O : List (Int × Int)}
theorem job_is {x : Int} (k : Int) (h : Lrep w lb hb ob ticks H O) (hx : ((mget k H).getD (0, 0)).1 = x) :
    Calls Try.prog 38 #[.pointer (some ⟨lb, 0, none⟩), .int .i64 k] w fun e w' => e = .returned (.int .i64 x) ∧ w = w' := hx ▸ job_any k h
theorem left_is {x : Int} (k : Int) (h : Lrep w lb hb ob ticks H O) (hx : ((mget k H).getD (0, 0)).2 = x) :
    Calls Try.prog 39 #[.pointer (some ⟨lb, 0, none⟩), .int .i64 k] w fun e w' => e = .returned (.int .i64 x) ∧ w = w' := hx ▸ left_any k h
theorem over_is {x : Int} (k : Int) (h : Lrep w lb hb ob ticks H O) (hx : (mget k O).getD 0 = x) :
    Calls Try.prog 40 #[.pointer (some ⟨lb, 0, none⟩), .int .i64 k] w fun e w' => e = .returned (.int .i64 x) ∧ w = w' := hx ▸ over_any k h
theorem len_is {x : Int} (h : Lrep w lb hb ob ticks H O) (hx : (H.length : Int) = x) :
    Calls Try.prog 42 #[.pointer (some ⟨lb, 0, none⟩)] w fun e w' => e = .returned (.int .i64 x) ∧ w = w' := hx ▸ len_any h
theorem tick_is (h : Lrep w lb hb ob ticks H O) (hn : H.length ≤ 1000000) {H' : List (Int × (Int × Int))} {O' : List (Int × Int)} {g : List Int} (he : tickAll H O = (H', O', g)) :
    Calls Try.prog 35 #[.pointer (some ⟨lb, 0, none⟩)] w fun e w' => ∃ a cap, e = .returned (.slice a g.length cap) ∧
      Lrep w' lb hb ob ticks H' O' ∧ RS w' 1 eInt (.slice a g.length cap) g ∧ (∀ k, (Value.slice a g.length cap).ownBlock = some k → w.heap.size ≤ k) ∧ Only (fun k => k = hb ∨ k = ob) w w' := by
  refine (tick_any h hn).mono ?_
  rintro e w' ⟨v, rfl, h1, h2, h3, h4⟩
  rw [he] at h1 h2
  obtain ⟨a, cap, rfl⟩ := h2.form
  exact ⟨a, cap, rfl, h1, h2.ints, h3, h4⟩

theorem tick_is2 (h : Lrep w lb hb ob ticks H O) (hn : H.length ≤ 1000000) {H' : List (Int × (Int × Int))} {O' : List (Int × Int)} {g : List Int} (he : tickAll H O = (H', O', g)) :
    Calls Try.prog 35 #[.pointer (some ⟨lb, 0, none⟩)] w fun e w' => ∃ a cap, e = .returned (.slice a g.length cap) ∧
      Lrep w' lb hb ob ticks H' O' ∧ RS w' 1 eInt (.slice a g.length cap) g ∧ (∀ k, (Value.slice a g.length cap).ownBlock = some k → w.heap.size ≤ k ∧ k < w'.heap.size) ∧ Only (fun k => k = hb ∨ k = ob) w w' := by
  refine (tick_any h hn).mono ?_
  rintro e w' ⟨v, rfl, h1, h2, h3, h4⟩
  rw [he] at h1 h2
  obtain ⟨a, cap, rfl⟩ := h2.form
  exact ⟨a, cap, rfl, h1, h2.ints, fun k hk => ⟨h3 k hk, h2.lt k hk⟩, h4⟩

set_option maxRecDepth 100000 in
set_option maxHeartbeats 1000000 in
theorem awake_true : Calls Try.prog 29 #[] w fun e w' => e = .returned (.bool true) ∧ Below w.heap.size w w' := by
  go_enter Try.func29, Try.ntmps29
  go_wp2_with fail
  refine (new_yes (by omega) (by omega)).mono ?_
  rintro e w1 ⟨lb, hb, ob, rfl, h1, hlb, hhb, hob, hb1⟩
  go_wp2_with fail
  refine (new_no (by omega)).mono ?_
  rintro e w' ⟨rfl, rfl⟩
  go_wp2_with fail
  refine (grant_any (by decide) h1).mono ?_
  rintro e w2 ⟨rfl, h2, o2⟩
  go_wp2_with fail
  refine (tick_is h2 (by decide) (H' := [(7, (3, 1))]) (O' := []) (g := []) (by decide +kernel)).mono ?_
  rintro e w3 ⟨a3, c3, rfl, h3, s3, n3, o3⟩
  go_wp2_with fail
  refine (job_is 7 h3 (x := 3) rfl).mono ?_
  rintro e w' ⟨rfl, rfl⟩
  go_wp2_with fail
  refine (left_is 7 h3 (x := 1) rfl).mono ?_
  rintro e w' ⟨rfl, rfl⟩
  go_wp2_with fail
  refine (tick_is h3 (by decide) (H' := []) (O' := [(7, 3)]) (g := [7]) (by decide +kernel)).mono ?_
  rintro e w4 ⟨a4, c4, rfl, h4, s4, n4, o4⟩
  go_wp2_with fail
  have o5 : Only (fun _ => False) w4 (w4.alloc (.cells #[.int .i64 7] 3)) := (Only.refl _ _).alloc _
  refine (sameInts_any (s4.only o5 (fun _ _ => id)) (RS.lit w4 [7] 3 (by decide) rfl)).mono ?_
  rintro e w' ⟨rfl, n, rfl⟩
  have h5 := (h4.only o5 id id id).heap (w' := (w4.alloc (.cells #[.int .i64 7] 3)).drewN n) rfl
  have hfin : Below w.heap.size w ((w4.alloc (.cells #[.int .i64 7] 3)).drewN n) :=
    ((only_of_below hb1 (fun _ => False)).trans' (((o2.mono (G := fun k => k = hb ∨ k = ob) (fun _ _ h => .inl h)).trans (o3.trans o4)).trans' (o5.drewN n) (fun _ _ h => h.elim)) (fun i hi e => by omega)).below (Nat.le_refl _) (fun _ _ h => h)
  generalize (w4.alloc (.cells #[.int .i64 7] 3)).drewN n = W at h5 hfin
  go_wp2_with fail
  refine (job_is 7 h5 (x := 0) rfl).mono ?_
  rintro e w' ⟨rfl, rfl⟩
  go_wp2_with fail
  refine (over_is 7 h5 (x := 3) rfl).mono ?_
  rintro e w' ⟨rfl, rfl⟩
  go_wp2_with fail
  refine (len_is h5 (x := 0) rfl).mono ?_
  rintro e w' ⟨rfl, rfl⟩
  go_wp2
  go_ret
  exact ⟨rfl, hfin⟩

end
end Go.Proofs.Ytcdjeblcmgghhaa.Lease
