/- What the laws' Make says, of any crumbs and spans. Conditions: the slices lie in memory. -/
import Derived.Test.YtniggacgkhkgiaaMsg5
import Derived.Test.YtniggacgkhkgiaaBase
import Derived.IntWalk
namespace Go.Sp
open Go.RowKit
def makeN (k a t j c n : Int) (l : Bool) (cv : Value) (cs : List Int) (sv : Value) (xs : List Spn) : Mg :=
  if k = 1 then .trig a t c else if k = 2 then .pin t j else if k = 3 then .pinned ⟨a, t, j, n, cv, cs, l⟩ else if k = 4 then .gone a t j else if k = 5 then .coll t j
  else if k = 6 then .chunk a t j c n sv xs else if k = 8 then .stor t j else if k = 9 then .unp t j else if k = 10 then .unpd a t j else .none
/-- m is what Make makes -/
def MakeIs (k a t j c n : Int) (l : Bool) (cv : Value) (cs : List Int) (sv : Value) (xs : List Spn) (m : Mg) : Prop :=
  (k ≠ 7 ∧ m = makeN k a t j c n l cv cs sv xs) ∨ (k = 7 ∧ ∃ pv, m = .mani t j c pv [⟨a, t, j, n, cv, cs, l⟩, ⟨wrap64 (a + 1), t, j, n, cv, cs, l⟩])
theorem ePt_len2 (p : Pt) : (ePt p).length = 6 := rfl
end Go.Sp
namespace Go.Proofs.Ytniggacgkhkgiaa.Msg
open Go.RowKit Go.Sp

set_option maxRecDepth 100000 in
set_option maxHeartbeats 4000000 in
theorem make2_any (w : World) {k a t j c n : Int} (l : Bool) {cv sv : Value} {cs : List Int} {xs : List Spn} (hc : RS w 1 eInt cv cs) (h : RS w 3 eSpn sv xs) :
    Calls Try.prog 74 #[.int .i64 k, .int .i64 a, .int .i64 t, .int .i64 j, .int .i64 c, .int .i64 n, cv, .bool l, sv] w fun e w' => ∃ m, e = .returned (val m) ∧ MakeIs k a t j c n l cv cs sv xs m ∧ InMem w' m ∧ Small m ∧ Below w.heap.size w w' := by
  obtain ⟨_, sa, sc, rfl, _⟩ := id h
  obtain ⟨_, ca, cc, rfl, _⟩ := id hc
  have hb := below_alloc (Below.refl w.heap.size w) (.cells #[.int .i64 a, .int .i64 t, .int .i64 j, .int .i64 n, .slice ca cs.length cc, .bool l] 72)
  have hs := h.only (only_of_below hb (fun _ => False)) (fun _ _ => id)
  have hc1 := hc.only (only_of_below hb (fun _ => False)) (fun _ _ => id)
  have hcase : k = 1 ∨ k = 2 ∨ k = 3 ∨ k = 4 ∨ k = 5 ∨ k = 6 ∨ k = 7 ∨ k = 8 ∨ k = 9 ∨ k = 10 ∨ (k ≠ 1 ∧ k ≠ 2 ∧ k ≠ 3 ∧ k ≠ 4 ∧ k ≠ 5 ∧ k ≠ 6 ∧ k ≠ 7 ∧ k ≠ 8 ∧ k ≠ 9 ∧ k ≠ 10) := by omega
  rcases hcase with rfl | rfl | rfl | rfl | rfl | rfl | rfl | rfl | rfl | rfl | hcase
  case inr.inr.inl =>
    have H := Lib.hid (And.intro hs (And.intro hb hc1))
    clear hs hb h hc hc1
    go_enter Try.func74, Try.ntmps74
    go_wp2
    go_ret
    exact ⟨.pinned ⟨a, t, j, n, .slice ca cs.length cc, cs, l⟩, rfl, .inl ⟨by omega, by simp [makeN]⟩, H.out.2.2, trivial, H.out.2.1⟩
  case inr.inr.inr.inr.inr.inl =>
    have H := Lib.hid (And.intro hs (And.intro hb hc1))
    clear hs hb h hc hc1
    go_enter Try.func74, Try.ntmps74
    go_wp2
    go_ret
    exact ⟨.chunk a t j c n (.slice sa xs.length sc) xs, rfl, .inl ⟨by omega, by simp [makeN]⟩, H.out.1, trivial, H.out.2.1⟩
  case inr.inr.inr.inr.inr.inr.inl =>
    have H := Lib.hid (And.intro hs (And.intro hb hc1))
    clear hs hb h
    go_enter Try.func74, Try.ntmps74
    go_wp2
    go_ret
    have hb1 := below_alloc (below_alloc (Below.refl w.heap.size w) (.cells #[.int .i64 a, .int .i64 t, .int .i64 j, .int .i64 n, .slice ca cs.length cc, .bool l] 72)) (.cells #[.int .i64 (wrap64 (a + 1)), .int .i64 t, .int .i64 j, .int .i64 n, .slice ca cs.length cc, .bool l] 72)
    generalize hW : ((w.alloc (.cells #[.int .i64 a, .int .i64 t, .int .i64 j, .int .i64 n, .slice ca cs.length cc, .bool l] 72)).alloc (.cells #[.int .i64 (wrap64 (a + 1)), .int .i64 t, .int .i64 j, .int .i64 n, .slice ca cs.length cc, .bool l] 72)) = W at *
    have hrs : RS (W.alloc (.cells #[.int .i64 a, .int .i64 t, .int .i64 j, .int .i64 n, .slice ca cs.length cc, .bool l, .int .i64 (wrap64 (a + 1)), .int .i64 t, .int .i64 j, .int .i64 n, .slice ca cs.length cc, .bool l] 72)) 6 ePt (.slice (some ⟨W.heap.size, 0, none⟩) 2 2) [⟨a, t, j, n, .slice ca cs.length cc, cs, l⟩, ⟨wrap64 (a + 1), t, j, n, .slice ca cs.length cc, cs, l⟩] :=
      rs_lits (enc := ePt) (size := 6) ePt_len2 W [⟨a, t, j, n, .slice ca cs.length cc, cs, l⟩, ⟨wrap64 (a + 1), t, j, n, .slice ca cs.length cc, cs, l⟩] 72 (by unfold maxLen; simp) rfl
    have hb2 := below_alloc hb1 (.cells #[.int .i64 a, .int .i64 t, .int .i64 j, .int .i64 n, .slice ca cs.length cc, .bool l, .int .i64 (wrap64 (a + 1)), .int .i64 t, .int .i64 j, .int .i64 n, .slice ca cs.length cc, .bool l] 72)
    have hc2 := hc.only (only_of_below hb2 (fun _ => False)) (fun _ _ => id)
    have hsW : W.heap.size = w.heap.size + 1 + 1 := by rw [← hW]; simp
    rw [hsW] at hrs
    exact ⟨.mani t j c (.slice (some ⟨w.heap.size + 1 + 1, 0, none⟩) 2 2) [⟨a, t, j, n, .slice ca cs.length cc, cs, l⟩, ⟨wrap64 (a + 1), t, j, n, .slice ca cs.length cc, cs, l⟩], rfl, .inr ⟨rfl, _, rfl⟩, ⟨hrs, fun p hp => by simp at hp; rcases hp with rfl | rfl <;> exact hc2⟩, by simp [Small], hb2⟩
  case inr.inr.inr.inr.inr.inr.inr.inr.inr.inr =>
    obtain ⟨n1, n2, n3, n4, n5, n6, n7, n8, n9, n10⟩ := hcase
    have hM : makeN k a t j c n l (.slice ca cs.length cc) cs (.slice sa xs.length sc) xs = .none := by simp [makeN, n1, n2, n3, n4, n5, n6, n8, n9, n10]
    have b1 : (k == 1) = false := by simp [n1]
    have b2 : (k == 2) = false := by simp [n2]
    have b3 : (k == 3) = false := by simp [n3]
    have b4 : (k == 4) = false := by simp [n4]
    have b5 : (k == 5) = false := by simp [n5]
    have b6 : (k == 6) = false := by simp [n6]
    have b7 : (k == 7) = false := by simp [n7]
    have b8 : (k == 8) = false := by simp [n8]
    have b9 : (k == 9) = false := by simp [n9]
    have b10 : (k == 10) = false := by simp [n10]
    have H := Lib.hid (And.intro (And.intro n7 hM.symm) hb)
    clear hs hb h hc hc1 n1 n2 n3 n4 n5 n6 n7 n8 n9 n10 hM
    go_enter Try.func74, Try.ntmps74
    go_wp2
    go_ret
    exact ⟨.none, rfl, .inl H.out.1, trivial, trivial, H.out.2⟩
  all_goals (
    have H := Lib.hid hb
    clear hs hb h hc hc1
    go_enter Try.func74, Try.ntmps74
    go_wp2
    go_ret
    first
    | exact ⟨.trig a t c, rfl, .inl ⟨by omega, by simp [makeN]⟩, trivial, trivial, H.out⟩
    | exact ⟨.pin t j, rfl, .inl ⟨by omega, by simp [makeN]⟩, trivial, trivial, H.out⟩
    | exact ⟨.gone a t j, rfl, .inl ⟨by omega, by simp [makeN]⟩, trivial, trivial, H.out⟩
    | exact ⟨.coll t j, rfl, .inl ⟨by omega, by simp [makeN]⟩, trivial, trivial, H.out⟩
    | exact ⟨.stor t j, rfl, .inl ⟨by omega, by simp [makeN]⟩, trivial, trivial, H.out⟩
    | exact ⟨.unp t j, rfl, .inl ⟨by omega, by simp [makeN]⟩, trivial, trivial, H.out⟩
    | exact ⟨.unpd a t j, rfl, .inl ⟨by omega, by simp [makeN]⟩, trivial, trivial, H.out⟩)
end Go.Proofs.Ytniggacgkhkgiaa.Msg
