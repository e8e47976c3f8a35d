/- The contracts of slices.Sorted(maps.Keys(m)) at this translation, over a map that IMap describes. Condition: the map holds at most maxLen keys. PRINTED BY wip/keys.py. -/
import Derived.Test.YtcdjeblcmgghhaaKeysLaid
import Derived.Test.YtcdjeblcmgghhaaKeysOf
namespace Go.Proofs.Ytcdjeblcmgghhaa
open Go.RowKit Go.Maps Go.Sort Go.Shelf Go.Sp

theorem sortsIn (m : Nat) : AnyZI.SortsIn Try.prog Try.sorted65_ren Fence.wide m :=
  ⟨fun blk off cap ss W hH hblk hsz => callsIn_wide.2 (AnyM.slices_Sort_int Try.sort85 blk off cap ss W hH hblk hsz),
   fun p cap W => callsIn_wide.2 (AnyM.slices_Sort_int_none Try.sort85 p cap W)⟩

/-- maps.Keys[map[int]spoor/lease.held,int,spoor/lease.held] -/
theorem keys_66 (mb : Option Nat) (W : World) : Calls Try.prog 66 #[.map mb] W fun e w' => e = .returned (.func (.func 86) #[] #[.pointer (some ⟨W.heap.size, 0, none⟩)]) ∧ W.alloc (.cells #[.map mb] 140) = w' :=
  ((callsIn_wide (n := 6)).1 (AnyZI.keys_in Try.keys66 Fence.wide 6 trivial rfl mb W)).mono fun _ _ ⟨h1, h2⟩ => ⟨h1, h2.symm⟩

set_option maxHeartbeats 1000000 in
theorem sorted_66 {α : Type} {enc : α → Value} {m : List (Int × α)} {w : World} {b : Nat} (h : IMap w.heap b enc m) (hlen : m.length ≤ 1000000) :
    Calls Try.prog 65 #[.func (.func 86) #[] #[.pointer (some ⟨w.heap.size, 0, none⟩)]] (w.alloc (.cells #[.map (some b)] 140)) fun e w' => ∃ v, e = .returned v ∧
      SL w'.heap 3 1 v m.length (m.map fun p => .int .i64 p.1) ∧ (∀ g, v.ownBlock = some g → w.heap.size ≤ g) ∧ Below w.heap.size w w' := by
  refine (callsIn_wide (n := 5)).1 ?_
  obtain ⟨D0, hown, hsz, hperm⟩ := h.owns (P := Try.prog) Try.underlying3 hlen
  have hbl := hown.lt
  have hseq : SeqGives Fence.wide 2 Try.prog 86 #[.pointer (some ⟨w.heap.size, 0, none⟩)] encZ (fun ss => ss.Perm (intKeys D0)) (Maps.size D0) (w.alloc (.cells #[.map (some b)] 140)) :=
    AnyZI.keys_gives (ρ := Try.keys66_ren) { Try.keys66 with } Fence.wide _ trivial rfl (by omega) w.heap.size b m.length D0 _ (by simp) (by simp) (by
      obtain ⟨es, clock, hb, Ft, hs, hD⟩ := hown
      exact ⟨es, clock, (Below.heap_alloc _ _ b hbl).trans hb, Ft, hs, hD⟩)
  have cS := AnyZI.sorted_in Try.sorted65 Fence.wide 5 trivial trivial trivial trivial rfl (by omega) (sortsIn _) (enters_of Try.func85 (by kernel_rfl) rfl) 86 #[.pointer (some ⟨w.heap.size, 0, none⟩)] trivial (enters_of Try.func86 (by kernel_rfl) rfl) _ _ (by rw [hsz]; unfold maxLen; omega) (by rw [hsz]; omega) _ hseq
  refine cS.mono ?_
  rintro e w' ⟨v, ss, rfl, hS, hrow, _, hb⟩
  exact ⟨v, rfl, h.of_row (hS.trans hperm) hrow, fun g hg => by have := (hrow.lt g hg).1; simp at this; omega, ((Below.refl _ w).alloc (Nat.le_refl _) _).trans (hb.mono (by simp))⟩

/-- maps.Keys[map[int]bool,int,bool] -/
theorem keys_67 (mb : Option Nat) (W : World) : Calls Try.prog 67 #[.map mb] W fun e w' => e = .returned (.func (.func 87) #[] #[.pointer (some ⟨W.heap.size, 0, none⟩)]) ∧ W.alloc (.cells #[.map mb] 99) = w' :=
  ((callsIn_wide (n := 6)).1 (AnyZI.keys_in Try.keys67 Fence.wide 6 trivial rfl mb W)).mono fun _ _ ⟨h1, h2⟩ => ⟨h1, h2.symm⟩

set_option maxHeartbeats 1000000 in
theorem sorted_67 {α : Type} {enc : α → Value} {m : List (Int × α)} {w : World} {b : Nat} (h : IMap w.heap b enc m) (hlen : m.length ≤ 1000000) :
    Calls Try.prog 65 #[.func (.func 87) #[] #[.pointer (some ⟨w.heap.size, 0, none⟩)]] (w.alloc (.cells #[.map (some b)] 99)) fun e w' => ∃ v, e = .returned v ∧
      SL w'.heap 3 1 v m.length (m.map fun p => .int .i64 p.1) ∧ (∀ g, v.ownBlock = some g → w.heap.size ≤ g) ∧ Below w.heap.size w w' := by
  refine (callsIn_wide (n := 5)).1 ?_
  obtain ⟨D0, hown, hsz, hperm⟩ := h.owns (P := Try.prog) Try.underlying3 hlen
  have hbl := hown.lt
  have hseq : SeqGives Fence.wide 2 Try.prog 87 #[.pointer (some ⟨w.heap.size, 0, none⟩)] encZ (fun ss => ss.Perm (intKeys D0)) (Maps.size D0) (w.alloc (.cells #[.map (some b)] 99)) :=
    AnyZI.keys_gives (ρ := Try.keys67_ren) { Try.keys67 with } Fence.wide _ trivial rfl (by omega) w.heap.size b m.length D0 _ (by simp) (by simp) (by
      obtain ⟨es, clock, hb, Ft, hs, hD⟩ := hown
      exact ⟨es, clock, (Below.heap_alloc _ _ b hbl).trans hb, Ft, hs, hD⟩)
  have cS := AnyZI.sorted_in Try.sorted65 Fence.wide 5 trivial trivial trivial trivial rfl (by omega) (sortsIn _) (enters_of Try.func85 (by kernel_rfl) rfl) 87 #[.pointer (some ⟨w.heap.size, 0, none⟩)] trivial (enters_of Try.func87 (by kernel_rfl) rfl) _ _ (by rw [hsz]; unfold maxLen; omega) (by rw [hsz]; omega) _ hseq
  refine cS.mono ?_
  rintro e w' ⟨v, ss, rfl, hS, hrow, _, hb⟩
  exact ⟨v, rfl, h.of_row (hS.trans hperm) hrow, fun g hg => by have := (hrow.lt g hg).1; simp at this; omega, ((Below.refl _ w).alloc (Nat.le_refl _) _).trans (hb.mono (by simp))⟩

/-- maps.Keys[map[int][]int,int,[]int] -/
theorem keys_72 (mb : Option Nat) (W : World) : Calls Try.prog 72 #[.map mb] W fun e w' => e = .returned (.func (.func 92) #[] #[.pointer (some ⟨W.heap.size, 0, none⟩)]) ∧ W.alloc (.cells #[.map mb] 151) = w' :=
  ((callsIn_wide (n := 6)).1 (AnyZI.keys_in Try.keys72 Fence.wide 6 trivial rfl mb W)).mono fun _ _ ⟨h1, h2⟩ => ⟨h1, h2.symm⟩

set_option maxHeartbeats 1000000 in
theorem sorted_72 {α : Type} {enc : α → Value} {m : List (Int × α)} {w : World} {b : Nat} (h : IMap w.heap b enc m) (hlen : m.length ≤ 1000000) :
    Calls Try.prog 65 #[.func (.func 92) #[] #[.pointer (some ⟨w.heap.size, 0, none⟩)]] (w.alloc (.cells #[.map (some b)] 151)) fun e w' => ∃ v, e = .returned v ∧
      SL w'.heap 3 1 v m.length (m.map fun p => .int .i64 p.1) ∧ (∀ g, v.ownBlock = some g → w.heap.size ≤ g) ∧ Below w.heap.size w w' := by
  refine (callsIn_wide (n := 5)).1 ?_
  obtain ⟨D0, hown, hsz, hperm⟩ := h.owns (P := Try.prog) Try.underlying3 hlen
  have hbl := hown.lt
  have hseq : SeqGives Fence.wide 2 Try.prog 92 #[.pointer (some ⟨w.heap.size, 0, none⟩)] encZ (fun ss => ss.Perm (intKeys D0)) (Maps.size D0) (w.alloc (.cells #[.map (some b)] 151)) :=
    AnyZI.keys_gives (ρ := Try.keys72_ren) { Try.keys72 with } Fence.wide _ trivial rfl (by omega) w.heap.size b m.length D0 _ (by simp) (by simp) (by
      obtain ⟨es, clock, hb, Ft, hs, hD⟩ := hown
      exact ⟨es, clock, (Below.heap_alloc _ _ b hbl).trans hb, Ft, hs, hD⟩)
  have cS := AnyZI.sorted_in Try.sorted65 Fence.wide 5 trivial trivial trivial trivial rfl (by omega) (sortsIn _) (enters_of Try.func85 (by kernel_rfl) rfl) 92 #[.pointer (some ⟨w.heap.size, 0, none⟩)] trivial (enters_of Try.func92 (by kernel_rfl) rfl) _ _ (by rw [hsz]; unfold maxLen; omega) (by rw [hsz]; omega) _ hseq
  refine cS.mono ?_
  rintro e w' ⟨v, ss, rfl, hS, hrow, _, hb⟩
  exact ⟨v, rfl, h.of_row (hS.trans hperm) hrow, fun g hg => by have := (hrow.lt g hg).1; simp at this; omega, ((Below.refl _ w).alloc (Nat.le_refl _) _).trans (hb.mono (by simp))⟩

end Go.Proofs.Ytcdjeblcmgghhaa
