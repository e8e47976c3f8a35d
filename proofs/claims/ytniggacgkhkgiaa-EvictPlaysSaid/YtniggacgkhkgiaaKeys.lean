/- The contracts of slices.Sorted(maps.Keys(m)) at this translation, over a map that IMap describes. Condition: the map holds at most maxLen keys. PRINTED BY wip/keys.py. -/
import Derived.Test.YtniggacgkhkgiaaKeysLaid
import Derived.Test.YtniggacgkhkgiaaKeysOf
namespace Go.Proofs.Ytniggacgkhkgiaa
open Go.RowKit Go.Maps Go.Sort Go.Shelf Go.Sp

theorem sortsIn (m : Nat) : AnyZI.SortsIn Try.prog Try.sorted79_ren Fence.wide m :=
  ⟨fun blk off cap ss W hH hblk hsz => callsIn_wide.2 (AnyM.slices_Sort_int Try.sort116 blk off cap ss W hH hblk hsz),
   fun p cap W => callsIn_wide.2 (AnyM.slices_Sort_int_none Try.sort116 p cap W)⟩

/-- maps.Keys[map[int]*spoor/job.visit,int,*spoor/job.visit] -/
theorem keys_80 (mb : Option Nat) (W : World) : Calls Try.prog 80 #[.map mb] W fun e w' => e = .returned (.func (.func 117) #[] #[.pointer (some ⟨W.heap.size, 0, none⟩)]) ∧ W.alloc (.cells #[.map mb] 139) = w' :=
  ((callsIn_wide (n := 6)).1 (AnyZI.keys_in Try.keys80 Fence.wide 6 trivial rfl mb W)).mono fun _ _ ⟨h1, h2⟩ => ⟨h1, h2.symm⟩

set_option maxHeartbeats 1000000 in
theorem sorted_80 {α : Type} {enc : α → Value} {m : List (Int × α)} {w : World} {b : Nat} (h : IMap w.heap b enc m) (hlen : m.length ≤ 1000000) :
    Calls Try.prog 79 #[.func (.func 117) #[] #[.pointer (some ⟨w.heap.size, 0, none⟩)]] (w.alloc (.cells #[.map (some b)] 139)) fun e w' => ∃ v, e = .returned v ∧
      SL w'.heap 3 1 v m.length (m.map fun p => .int .i64 p.1) ∧ (∀ g, v.ownBlock = some g → w.heap.size ≤ g) ∧ Below w.heap.size w w' := by
  refine (callsIn_wide (n := 5)).1 ?_
  obtain ⟨D0, hown, hsz, hperm⟩ := h.owns (P := Try.prog) Try.underlying3 hlen
  have hbl := hown.lt
  have hseq : SeqGives Fence.wide 2 Try.prog 117 #[.pointer (some ⟨w.heap.size, 0, none⟩)] encZ (fun ss => ss.Perm (intKeys D0)) (Maps.size D0) (w.alloc (.cells #[.map (some b)] 139)) :=
    AnyZI.keys_gives (ρ := Try.keys80_ren) { Try.keys80 with } Fence.wide _ trivial rfl (by omega) w.heap.size b m.length D0 _ (by simp) (by simp) (by
      obtain ⟨es, clock, hb, Ft, hs, hD⟩ := hown
      exact ⟨es, clock, (Below.heap_alloc _ _ b hbl).trans hb, Ft, hs, hD⟩)
  have cS := AnyZI.sorted_in Try.sorted79 Fence.wide 5 trivial trivial trivial trivial rfl (by omega) (sortsIn _) (enters_of Try.func116 (by kernel_rfl) rfl) 117 #[.pointer (some ⟨w.heap.size, 0, none⟩)] trivial (enters_of Try.func117 (by kernel_rfl) rfl) _ _ (by rw [hsz]; unfold maxLen; omega) (by rw [hsz]; omega) _ hseq
  refine cS.mono ?_
  rintro e w' ⟨v, ss, rfl, hS, hrow, _, hb⟩
  exact ⟨v, rfl, h.of_row (hS.trans hperm) hrow, fun g hg => by have := (hrow.lt g hg).1; simp at this; omega, ((Below.refl _ w).alloc (Nat.le_refl _) _).trans (hb.mono (by simp))⟩

/-- maps.Keys[map[int][]int,int,[]int] -/
theorem keys_123 (mb : Option Nat) (W : World) : Calls Try.prog 123 #[.map mb] W fun e w' => e = .returned (.func (.func 133) #[] #[.pointer (some ⟨W.heap.size, 0, none⟩)]) ∧ W.alloc (.cells #[.map mb] 188) = w' :=
  ((callsIn_wide (n := 6)).1 (AnyZI.keys_in Try.keys123 Fence.wide 6 trivial rfl mb W)).mono fun _ _ ⟨h1, h2⟩ => ⟨h1, h2.symm⟩

set_option maxHeartbeats 1000000 in
theorem sorted_123 {α : Type} {enc : α → Value} {m : List (Int × α)} {w : World} {b : Nat} (h : IMap w.heap b enc m) (hlen : m.length ≤ 1000000) :
    Calls Try.prog 79 #[.func (.func 133) #[] #[.pointer (some ⟨w.heap.size, 0, none⟩)]] (w.alloc (.cells #[.map (some b)] 188)) fun e w' => ∃ v, e = .returned v ∧
      SL w'.heap 3 1 v m.length (m.map fun p => .int .i64 p.1) ∧ (∀ g, v.ownBlock = some g → w.heap.size ≤ g) ∧ Below w.heap.size w w' := by
  refine (callsIn_wide (n := 5)).1 ?_
  obtain ⟨D0, hown, hsz, hperm⟩ := h.owns (P := Try.prog) Try.underlying3 hlen
  have hbl := hown.lt
  have hseq : SeqGives Fence.wide 2 Try.prog 133 #[.pointer (some ⟨w.heap.size, 0, none⟩)] encZ (fun ss => ss.Perm (intKeys D0)) (Maps.size D0) (w.alloc (.cells #[.map (some b)] 188)) :=
    AnyZI.keys_gives (ρ := Try.keys123_ren) { Try.keys123 with } Fence.wide _ trivial rfl (by omega) w.heap.size b m.length D0 _ (by simp) (by simp) (by
      obtain ⟨es, clock, hb, Ft, hs, hD⟩ := hown
      exact ⟨es, clock, (Below.heap_alloc _ _ b hbl).trans hb, Ft, hs, hD⟩)
  have cS := AnyZI.sorted_in Try.sorted79 Fence.wide 5 trivial trivial trivial trivial rfl (by omega) (sortsIn _) (enters_of Try.func116 (by kernel_rfl) rfl) 133 #[.pointer (some ⟨w.heap.size, 0, none⟩)] trivial (enters_of Try.func133 (by kernel_rfl) rfl) _ _ (by rw [hsz]; unfold maxLen; omega) (by rw [hsz]; omega) _ hseq
  refine cS.mono ?_
  rintro e w' ⟨v, ss, rfl, hS, hrow, _, hb⟩
  exact ⟨v, rfl, h.of_row (hS.trans hperm) hrow, fun g hg => by have := (hrow.lt g hg).1; simp at this; omega, ((Below.refl _ w).alloc (Nat.le_refl _) _).trans (hb.mono (by simp))⟩

end Go.Proofs.Ytniggacgkhkgiaa
