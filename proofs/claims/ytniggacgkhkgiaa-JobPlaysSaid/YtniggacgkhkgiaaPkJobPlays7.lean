/- What spoorlaw09.Like says of each kind of message but a Manifest. Conditions: a message's slices show their form. PRINTED BY wip/gen_ref5.py. -/
import Derived.Test.YtniggacgkhkgiaaPkJobPlays6
namespace Go.Proofs.Ytniggacgkhkgiaa.Msg
open Go.RowKit Go.Sp Go.Sort


set_option maxRecDepth 100000 in
set_option maxHeartbeats 4000000 in
theorem like_trig (w : World) (a t c : Int) : Calls Try.prog 19 #[.iface 23 (.agg #[.int .i64 a, .int .i64 t, .int .i64 c])] w fun e w' => e = .returned (.agg #[.int .i64 1, .int .i64 a, .int .i64 t, .int .i64 0, .int .i64 c, .int .i64 0, .int .i64 0, .int .i64 0, .int .i64 0, .int .i64 0, .int .i64 0, .slice none 0 0, .bool false, .slice none 0 0, .slice none 0 0]) ∧ Below w.heap.size w w' := by
  have hA := below_alloc (below_alloc (Below.refl w.heap.size w) (.cells #[.int .i64 1, .int .i64 a, .int .i64 t, .int .i64 0, .int .i64 c, .int .i64 0, .int .i64 0, .int .i64 0, .int .i64 0, .int .i64 0, .int .i64 0, .slice none 0 0, .bool false, .slice none 0 0, .slice none 0 0] 37)) (.cells #[.int .i64 a, .int .i64 t, .int .i64 c] 23)
  have hbx : ((w.alloc (.cells #[.int .i64 1, .int .i64 a, .int .i64 t, .int .i64 0, .int .i64 c, .int .i64 0, .int .i64 0, .int .i64 0, .int .i64 0, .int .i64 0, .int .i64 0, .slice none 0 0, .bool false, .slice none 0 0, .slice none 0 0] 37)).alloc (.cells #[.int .i64 a, .int .i64 t, .int .i64 c] 23)).heap[w.heap.size]? = some (.cells #[.int .i64 1, .int .i64 a, .int .i64 t, .int .i64 0, .int .i64 c, .int .i64 0, .int .i64 0, .int .i64 0, .int .i64 0, .int .i64 0, .int .i64 0, .slice none 0 0, .bool false, .slice none 0 0, .slice none 0 0] 37 (0, 0)) := ((below_alloc (Below.refl (w.alloc (.cells #[.int .i64 1, .int .i64 a, .int .i64 t, .int .i64 0, .int .i64 c, .int .i64 0, .int .i64 0, .int .i64 0, .int .i64 0, .int .i64 0, .int .i64 0, .slice none 0 0, .bool false, .slice none 0 0, .slice none 0 0] 37)).heap.size _) _).block _ (by simp)).trans (heap_new w _ rfl)
  go_enter Try.func19, Try.ntmps19
  go_wp2
  generalize ((w.alloc (.cells #[.int .i64 1, .int .i64 a, .int .i64 t, .int .i64 0, .int .i64 c, .int .i64 0, .int .i64 0, .int .i64 0, .int .i64 0, .int .i64 0, .int .i64 0, .slice none 0 0, .bool false, .slice none 0 0, .slice none 0 0] 37)).alloc (.cells #[.int .i64 a, .int .i64 t, .int .i64 c] 23)) = w9 at hA hbx ⊢
  have x0 : w9.cell? ⟨w.heap.size, 0, none⟩ = some (.int .i64 1) := cell_blk hbx rfl
  have x1 : w9.cell? ⟨w.heap.size, 1, none⟩ = some (.int .i64 a) := cell_blk hbx rfl
  have x2 : w9.cell? ⟨w.heap.size, 2, none⟩ = some (.int .i64 t) := cell_blk hbx rfl
  have x3 : w9.cell? ⟨w.heap.size, 3, none⟩ = some (.int .i64 0) := cell_blk hbx rfl
  have x4 : w9.cell? ⟨w.heap.size, 4, none⟩ = some (.int .i64 c) := cell_blk hbx rfl
  have x5 : w9.cell? ⟨w.heap.size, 5, none⟩ = some (.int .i64 0) := cell_blk hbx rfl
  have x6 : w9.cell? ⟨w.heap.size, 6, none⟩ = some (.int .i64 0) := cell_blk hbx rfl
  have x7 : w9.cell? ⟨w.heap.size, 7, none⟩ = some (.int .i64 0) := cell_blk hbx rfl
  have x8 : w9.cell? ⟨w.heap.size, 8, none⟩ = some (.int .i64 0) := cell_blk hbx rfl
  have x9 : w9.cell? ⟨w.heap.size, 9, none⟩ = some (.int .i64 0) := cell_blk hbx rfl
  have x10 : w9.cell? ⟨w.heap.size, 10, none⟩ = some (.int .i64 0) := cell_blk hbx rfl
  have x11 : w9.cell? ⟨w.heap.size, 11, none⟩ = some (.slice none 0 0) := cell_blk hbx rfl
  have x12 : w9.cell? ⟨w.heap.size, 12, none⟩ = some (.bool false) := cell_blk hbx rfl
  have x13 : w9.cell? ⟨w.heap.size, 13, none⟩ = some (.slice none 0 0) := cell_blk hbx rfl
  have x14 : w9.cell? ⟨w.heap.size, 14, none⟩ = some (.slice none 0 0) := cell_blk hbx rfl
  refine bodyPost_ret (by simp [results, Try.results19, go_sem, x0, x1, x2, x3, x4, x5, x6, x7, x8, x9, x10, x11, x12, x13, x14]; try rfl) rfl ?_
  exact ⟨rfl, hA⟩

set_option maxRecDepth 100000 in
set_option maxHeartbeats 4000000 in
theorem like_pin (w : World) (t j : Int) : Calls Try.prog 19 #[.iface 70 (.agg #[.int .i64 t, .int .i64 j])] w fun e w' => e = .returned (.agg #[.int .i64 2, .int .i64 0, .int .i64 t, .int .i64 j, .int .i64 0, .int .i64 0, .int .i64 0, .int .i64 0, .int .i64 0, .int .i64 0, .int .i64 0, .slice none 0 0, .bool false, .slice none 0 0, .slice none 0 0]) ∧ Below w.heap.size w w' := by
  have hA := below_alloc (below_alloc (Below.refl w.heap.size w) (.cells #[.int .i64 2, .int .i64 0, .int .i64 t, .int .i64 j, .int .i64 0, .int .i64 0, .int .i64 0, .int .i64 0, .int .i64 0, .int .i64 0, .int .i64 0, .slice none 0 0, .bool false, .slice none 0 0, .slice none 0 0] 37)) (.cells #[.int .i64 t, .int .i64 j] 70)
  have hbx : ((w.alloc (.cells #[.int .i64 2, .int .i64 0, .int .i64 t, .int .i64 j, .int .i64 0, .int .i64 0, .int .i64 0, .int .i64 0, .int .i64 0, .int .i64 0, .int .i64 0, .slice none 0 0, .bool false, .slice none 0 0, .slice none 0 0] 37)).alloc (.cells #[.int .i64 t, .int .i64 j] 70)).heap[w.heap.size]? = some (.cells #[.int .i64 2, .int .i64 0, .int .i64 t, .int .i64 j, .int .i64 0, .int .i64 0, .int .i64 0, .int .i64 0, .int .i64 0, .int .i64 0, .int .i64 0, .slice none 0 0, .bool false, .slice none 0 0, .slice none 0 0] 37 (0, 0)) := ((below_alloc (Below.refl (w.alloc (.cells #[.int .i64 2, .int .i64 0, .int .i64 t, .int .i64 j, .int .i64 0, .int .i64 0, .int .i64 0, .int .i64 0, .int .i64 0, .int .i64 0, .int .i64 0, .slice none 0 0, .bool false, .slice none 0 0, .slice none 0 0] 37)).heap.size _) _).block _ (by simp)).trans (heap_new w _ rfl)
  go_enter Try.func19, Try.ntmps19
  go_wp2
  generalize ((w.alloc (.cells #[.int .i64 2, .int .i64 0, .int .i64 t, .int .i64 j, .int .i64 0, .int .i64 0, .int .i64 0, .int .i64 0, .int .i64 0, .int .i64 0, .int .i64 0, .slice none 0 0, .bool false, .slice none 0 0, .slice none 0 0] 37)).alloc (.cells #[.int .i64 t, .int .i64 j] 70)) = w9 at hA hbx ⊢
  have x0 : w9.cell? ⟨w.heap.size, 0, none⟩ = some (.int .i64 2) := cell_blk hbx rfl
  have x1 : w9.cell? ⟨w.heap.size, 1, none⟩ = some (.int .i64 0) := cell_blk hbx rfl
  have x2 : w9.cell? ⟨w.heap.size, 2, none⟩ = some (.int .i64 t) := cell_blk hbx rfl
  have x3 : w9.cell? ⟨w.heap.size, 3, none⟩ = some (.int .i64 j) := cell_blk hbx rfl
  have x4 : w9.cell? ⟨w.heap.size, 4, none⟩ = some (.int .i64 0) := cell_blk hbx rfl
  have x5 : w9.cell? ⟨w.heap.size, 5, none⟩ = some (.int .i64 0) := cell_blk hbx rfl
  have x6 : w9.cell? ⟨w.heap.size, 6, none⟩ = some (.int .i64 0) := cell_blk hbx rfl
  have x7 : w9.cell? ⟨w.heap.size, 7, none⟩ = some (.int .i64 0) := cell_blk hbx rfl
  have x8 : w9.cell? ⟨w.heap.size, 8, none⟩ = some (.int .i64 0) := cell_blk hbx rfl
  have x9 : w9.cell? ⟨w.heap.size, 9, none⟩ = some (.int .i64 0) := cell_blk hbx rfl
  have x10 : w9.cell? ⟨w.heap.size, 10, none⟩ = some (.int .i64 0) := cell_blk hbx rfl
  have x11 : w9.cell? ⟨w.heap.size, 11, none⟩ = some (.slice none 0 0) := cell_blk hbx rfl
  have x12 : w9.cell? ⟨w.heap.size, 12, none⟩ = some (.bool false) := cell_blk hbx rfl
  have x13 : w9.cell? ⟨w.heap.size, 13, none⟩ = some (.slice none 0 0) := cell_blk hbx rfl
  have x14 : w9.cell? ⟨w.heap.size, 14, none⟩ = some (.slice none 0 0) := cell_blk hbx rfl
  refine bodyPost_ret (by simp [results, Try.results19, go_sem, x0, x1, x2, x3, x4, x5, x6, x7, x8, x9, x10, x11, x12, x13, x14]; try rfl) rfl ?_
  exact ⟨rfl, hA⟩

set_option maxRecDepth 100000 in
set_option maxHeartbeats 4000000 in
theorem like_gone (w : World) (a t j : Int) : Calls Try.prog 19 #[.iface 143 (.agg #[.int .i64 a, .int .i64 t, .int .i64 j])] w fun e w' => e = .returned (.agg #[.int .i64 4, .int .i64 a, .int .i64 t, .int .i64 j, .int .i64 0, .int .i64 0, .int .i64 0, .int .i64 0, .int .i64 0, .int .i64 0, .int .i64 0, .slice none 0 0, .bool false, .slice none 0 0, .slice none 0 0]) ∧ Below w.heap.size w w' := by
  have hA := below_alloc (below_alloc (Below.refl w.heap.size w) (.cells #[.int .i64 4, .int .i64 a, .int .i64 t, .int .i64 j, .int .i64 0, .int .i64 0, .int .i64 0, .int .i64 0, .int .i64 0, .int .i64 0, .int .i64 0, .slice none 0 0, .bool false, .slice none 0 0, .slice none 0 0] 37)) (.cells #[.int .i64 a, .int .i64 t, .int .i64 j] 143)
  have hbx : ((w.alloc (.cells #[.int .i64 4, .int .i64 a, .int .i64 t, .int .i64 j, .int .i64 0, .int .i64 0, .int .i64 0, .int .i64 0, .int .i64 0, .int .i64 0, .int .i64 0, .slice none 0 0, .bool false, .slice none 0 0, .slice none 0 0] 37)).alloc (.cells #[.int .i64 a, .int .i64 t, .int .i64 j] 143)).heap[w.heap.size]? = some (.cells #[.int .i64 4, .int .i64 a, .int .i64 t, .int .i64 j, .int .i64 0, .int .i64 0, .int .i64 0, .int .i64 0, .int .i64 0, .int .i64 0, .int .i64 0, .slice none 0 0, .bool false, .slice none 0 0, .slice none 0 0] 37 (0, 0)) := ((below_alloc (Below.refl (w.alloc (.cells #[.int .i64 4, .int .i64 a, .int .i64 t, .int .i64 j, .int .i64 0, .int .i64 0, .int .i64 0, .int .i64 0, .int .i64 0, .int .i64 0, .int .i64 0, .slice none 0 0, .bool false, .slice none 0 0, .slice none 0 0] 37)).heap.size _) _).block _ (by simp)).trans (heap_new w _ rfl)
  go_enter Try.func19, Try.ntmps19
  go_wp2
  generalize ((w.alloc (.cells #[.int .i64 4, .int .i64 a, .int .i64 t, .int .i64 j, .int .i64 0, .int .i64 0, .int .i64 0, .int .i64 0, .int .i64 0, .int .i64 0, .int .i64 0, .slice none 0 0, .bool false, .slice none 0 0, .slice none 0 0] 37)).alloc (.cells #[.int .i64 a, .int .i64 t, .int .i64 j] 143)) = w9 at hA hbx ⊢
  have x0 : w9.cell? ⟨w.heap.size, 0, none⟩ = some (.int .i64 4) := cell_blk hbx rfl
  have x1 : w9.cell? ⟨w.heap.size, 1, none⟩ = some (.int .i64 a) := cell_blk hbx rfl
  have x2 : w9.cell? ⟨w.heap.size, 2, none⟩ = some (.int .i64 t) := cell_blk hbx rfl
  have x3 : w9.cell? ⟨w.heap.size, 3, none⟩ = some (.int .i64 j) := cell_blk hbx rfl
  have x4 : w9.cell? ⟨w.heap.size, 4, none⟩ = some (.int .i64 0) := cell_blk hbx rfl
  have x5 : w9.cell? ⟨w.heap.size, 5, none⟩ = some (.int .i64 0) := cell_blk hbx rfl
  have x6 : w9.cell? ⟨w.heap.size, 6, none⟩ = some (.int .i64 0) := cell_blk hbx rfl
  have x7 : w9.cell? ⟨w.heap.size, 7, none⟩ = some (.int .i64 0) := cell_blk hbx rfl
  have x8 : w9.cell? ⟨w.heap.size, 8, none⟩ = some (.int .i64 0) := cell_blk hbx rfl
  have x9 : w9.cell? ⟨w.heap.size, 9, none⟩ = some (.int .i64 0) := cell_blk hbx rfl
  have x10 : w9.cell? ⟨w.heap.size, 10, none⟩ = some (.int .i64 0) := cell_blk hbx rfl
  have x11 : w9.cell? ⟨w.heap.size, 11, none⟩ = some (.slice none 0 0) := cell_blk hbx rfl
  have x12 : w9.cell? ⟨w.heap.size, 12, none⟩ = some (.bool false) := cell_blk hbx rfl
  have x13 : w9.cell? ⟨w.heap.size, 13, none⟩ = some (.slice none 0 0) := cell_blk hbx rfl
  have x14 : w9.cell? ⟨w.heap.size, 14, none⟩ = some (.slice none 0 0) := cell_blk hbx rfl
  refine bodyPost_ret (by simp [results, Try.results19, go_sem, x0, x1, x2, x3, x4, x5, x6, x7, x8, x9, x10, x11, x12, x13, x14]; try rfl) rfl ?_
  exact ⟨rfl, hA⟩

set_option maxRecDepth 100000 in
set_option maxHeartbeats 4000000 in
theorem like_coll (w : World) (t j : Int) : Calls Try.prog 19 #[.iface 144 (.agg #[.int .i64 t, .int .i64 j])] w fun e w' => e = .returned (.agg #[.int .i64 5, .int .i64 0, .int .i64 t, .int .i64 j, .int .i64 0, .int .i64 0, .int .i64 0, .int .i64 0, .int .i64 0, .int .i64 0, .int .i64 0, .slice none 0 0, .bool false, .slice none 0 0, .slice none 0 0]) ∧ Below w.heap.size w w' := by
  have hA := below_alloc (below_alloc (Below.refl w.heap.size w) (.cells #[.int .i64 5, .int .i64 0, .int .i64 t, .int .i64 j, .int .i64 0, .int .i64 0, .int .i64 0, .int .i64 0, .int .i64 0, .int .i64 0, .int .i64 0, .slice none 0 0, .bool false, .slice none 0 0, .slice none 0 0] 37)) (.cells #[.int .i64 t, .int .i64 j] 144)
  have hbx : ((w.alloc (.cells #[.int .i64 5, .int .i64 0, .int .i64 t, .int .i64 j, .int .i64 0, .int .i64 0, .int .i64 0, .int .i64 0, .int .i64 0, .int .i64 0, .int .i64 0, .slice none 0 0, .bool false, .slice none 0 0, .slice none 0 0] 37)).alloc (.cells #[.int .i64 t, .int .i64 j] 144)).heap[w.heap.size]? = some (.cells #[.int .i64 5, .int .i64 0, .int .i64 t, .int .i64 j, .int .i64 0, .int .i64 0, .int .i64 0, .int .i64 0, .int .i64 0, .int .i64 0, .int .i64 0, .slice none 0 0, .bool false, .slice none 0 0, .slice none 0 0] 37 (0, 0)) := ((below_alloc (Below.refl (w.alloc (.cells #[.int .i64 5, .int .i64 0, .int .i64 t, .int .i64 j, .int .i64 0, .int .i64 0, .int .i64 0, .int .i64 0, .int .i64 0, .int .i64 0, .int .i64 0, .slice none 0 0, .bool false, .slice none 0 0, .slice none 0 0] 37)).heap.size _) _).block _ (by simp)).trans (heap_new w _ rfl)
  go_enter Try.func19, Try.ntmps19
  go_wp2
  generalize ((w.alloc (.cells #[.int .i64 5, .int .i64 0, .int .i64 t, .int .i64 j, .int .i64 0, .int .i64 0, .int .i64 0, .int .i64 0, .int .i64 0, .int .i64 0, .int .i64 0, .slice none 0 0, .bool false, .slice none 0 0, .slice none 0 0] 37)).alloc (.cells #[.int .i64 t, .int .i64 j] 144)) = w9 at hA hbx ⊢
  have x0 : w9.cell? ⟨w.heap.size, 0, none⟩ = some (.int .i64 5) := cell_blk hbx rfl
  have x1 : w9.cell? ⟨w.heap.size, 1, none⟩ = some (.int .i64 0) := cell_blk hbx rfl
  have x2 : w9.cell? ⟨w.heap.size, 2, none⟩ = some (.int .i64 t) := cell_blk hbx rfl
  have x3 : w9.cell? ⟨w.heap.size, 3, none⟩ = some (.int .i64 j) := cell_blk hbx rfl
  have x4 : w9.cell? ⟨w.heap.size, 4, none⟩ = some (.int .i64 0) := cell_blk hbx rfl
  have x5 : w9.cell? ⟨w.heap.size, 5, none⟩ = some (.int .i64 0) := cell_blk hbx rfl
  have x6 : w9.cell? ⟨w.heap.size, 6, none⟩ = some (.int .i64 0) := cell_blk hbx rfl
  have x7 : w9.cell? ⟨w.heap.size, 7, none⟩ = some (.int .i64 0) := cell_blk hbx rfl
  have x8 : w9.cell? ⟨w.heap.size, 8, none⟩ = some (.int .i64 0) := cell_blk hbx rfl
  have x9 : w9.cell? ⟨w.heap.size, 9, none⟩ = some (.int .i64 0) := cell_blk hbx rfl
  have x10 : w9.cell? ⟨w.heap.size, 10, none⟩ = some (.int .i64 0) := cell_blk hbx rfl
  have x11 : w9.cell? ⟨w.heap.size, 11, none⟩ = some (.slice none 0 0) := cell_blk hbx rfl
  have x12 : w9.cell? ⟨w.heap.size, 12, none⟩ = some (.bool false) := cell_blk hbx rfl
  have x13 : w9.cell? ⟨w.heap.size, 13, none⟩ = some (.slice none 0 0) := cell_blk hbx rfl
  have x14 : w9.cell? ⟨w.heap.size, 14, none⟩ = some (.slice none 0 0) := cell_blk hbx rfl
  refine bodyPost_ret (by simp [results, Try.results19, go_sem, x0, x1, x2, x3, x4, x5, x6, x7, x8, x9, x10, x11, x12, x13, x14]; try rfl) rfl ?_
  exact ⟨rfl, hA⟩

set_option maxRecDepth 100000 in
set_option maxHeartbeats 4000000 in
theorem like_stor (w : World) (t j : Int) : Calls Try.prog 19 #[.iface 78 (.agg #[.int .i64 t, .int .i64 j])] w fun e w' => e = .returned (.agg #[.int .i64 8, .int .i64 0, .int .i64 t, .int .i64 j, .int .i64 0, .int .i64 0, .int .i64 0, .int .i64 0, .int .i64 0, .int .i64 0, .int .i64 0, .slice none 0 0, .bool false, .slice none 0 0, .slice none 0 0]) ∧ Below w.heap.size w w' := by
  have hA := below_alloc (below_alloc (Below.refl w.heap.size w) (.cells #[.int .i64 8, .int .i64 0, .int .i64 t, .int .i64 j, .int .i64 0, .int .i64 0, .int .i64 0, .int .i64 0, .int .i64 0, .int .i64 0, .int .i64 0, .slice none 0 0, .bool false, .slice none 0 0, .slice none 0 0] 37)) (.cells #[.int .i64 t, .int .i64 j] 78)
  have hbx : ((w.alloc (.cells #[.int .i64 8, .int .i64 0, .int .i64 t, .int .i64 j, .int .i64 0, .int .i64 0, .int .i64 0, .int .i64 0, .int .i64 0, .int .i64 0, .int .i64 0, .slice none 0 0, .bool false, .slice none 0 0, .slice none 0 0] 37)).alloc (.cells #[.int .i64 t, .int .i64 j] 78)).heap[w.heap.size]? = some (.cells #[.int .i64 8, .int .i64 0, .int .i64 t, .int .i64 j, .int .i64 0, .int .i64 0, .int .i64 0, .int .i64 0, .int .i64 0, .int .i64 0, .int .i64 0, .slice none 0 0, .bool false, .slice none 0 0, .slice none 0 0] 37 (0, 0)) := ((below_alloc (Below.refl (w.alloc (.cells #[.int .i64 8, .int .i64 0, .int .i64 t, .int .i64 j, .int .i64 0, .int .i64 0, .int .i64 0, .int .i64 0, .int .i64 0, .int .i64 0, .int .i64 0, .slice none 0 0, .bool false, .slice none 0 0, .slice none 0 0] 37)).heap.size _) _).block _ (by simp)).trans (heap_new w _ rfl)
  go_enter Try.func19, Try.ntmps19
  go_wp2
  generalize ((w.alloc (.cells #[.int .i64 8, .int .i64 0, .int .i64 t, .int .i64 j, .int .i64 0, .int .i64 0, .int .i64 0, .int .i64 0, .int .i64 0, .int .i64 0, .int .i64 0, .slice none 0 0, .bool false, .slice none 0 0, .slice none 0 0] 37)).alloc (.cells #[.int .i64 t, .int .i64 j] 78)) = w9 at hA hbx ⊢
  have x0 : w9.cell? ⟨w.heap.size, 0, none⟩ = some (.int .i64 8) := cell_blk hbx rfl
  have x1 : w9.cell? ⟨w.heap.size, 1, none⟩ = some (.int .i64 0) := cell_blk hbx rfl
  have x2 : w9.cell? ⟨w.heap.size, 2, none⟩ = some (.int .i64 t) := cell_blk hbx rfl
  have x3 : w9.cell? ⟨w.heap.size, 3, none⟩ = some (.int .i64 j) := cell_blk hbx rfl
  have x4 : w9.cell? ⟨w.heap.size, 4, none⟩ = some (.int .i64 0) := cell_blk hbx rfl
  have x5 : w9.cell? ⟨w.heap.size, 5, none⟩ = some (.int .i64 0) := cell_blk hbx rfl
  have x6 : w9.cell? ⟨w.heap.size, 6, none⟩ = some (.int .i64 0) := cell_blk hbx rfl
  have x7 : w9.cell? ⟨w.heap.size, 7, none⟩ = some (.int .i64 0) := cell_blk hbx rfl
  have x8 : w9.cell? ⟨w.heap.size, 8, none⟩ = some (.int .i64 0) := cell_blk hbx rfl
  have x9 : w9.cell? ⟨w.heap.size, 9, none⟩ = some (.int .i64 0) := cell_blk hbx rfl
  have x10 : w9.cell? ⟨w.heap.size, 10, none⟩ = some (.int .i64 0) := cell_blk hbx rfl
  have x11 : w9.cell? ⟨w.heap.size, 11, none⟩ = some (.slice none 0 0) := cell_blk hbx rfl
  have x12 : w9.cell? ⟨w.heap.size, 12, none⟩ = some (.bool false) := cell_blk hbx rfl
  have x13 : w9.cell? ⟨w.heap.size, 13, none⟩ = some (.slice none 0 0) := cell_blk hbx rfl
  have x14 : w9.cell? ⟨w.heap.size, 14, none⟩ = some (.slice none 0 0) := cell_blk hbx rfl
  refine bodyPost_ret (by simp [results, Try.results19, go_sem, x0, x1, x2, x3, x4, x5, x6, x7, x8, x9, x10, x11, x12, x13, x14]; try rfl) rfl ?_
  exact ⟨rfl, hA⟩

set_option maxRecDepth 100000 in
set_option maxHeartbeats 4000000 in
theorem like_unp (w : World) (t j : Int) : Calls Try.prog 19 #[.iface 79 (.agg #[.int .i64 t, .int .i64 j])] w fun e w' => e = .returned (.agg #[.int .i64 9, .int .i64 0, .int .i64 t, .int .i64 j, .int .i64 0, .int .i64 0, .int .i64 0, .int .i64 0, .int .i64 0, .int .i64 0, .int .i64 0, .slice none 0 0, .bool false, .slice none 0 0, .slice none 0 0]) ∧ Below w.heap.size w w' := by
  have hA := below_alloc (below_alloc (Below.refl w.heap.size w) (.cells #[.int .i64 9, .int .i64 0, .int .i64 t, .int .i64 j, .int .i64 0, .int .i64 0, .int .i64 0, .int .i64 0, .int .i64 0, .int .i64 0, .int .i64 0, .slice none 0 0, .bool false, .slice none 0 0, .slice none 0 0] 37)) (.cells #[.int .i64 t, .int .i64 j] 79)
  have hbx : ((w.alloc (.cells #[.int .i64 9, .int .i64 0, .int .i64 t, .int .i64 j, .int .i64 0, .int .i64 0, .int .i64 0, .int .i64 0, .int .i64 0, .int .i64 0, .int .i64 0, .slice none 0 0, .bool false, .slice none 0 0, .slice none 0 0] 37)).alloc (.cells #[.int .i64 t, .int .i64 j] 79)).heap[w.heap.size]? = some (.cells #[.int .i64 9, .int .i64 0, .int .i64 t, .int .i64 j, .int .i64 0, .int .i64 0, .int .i64 0, .int .i64 0, .int .i64 0, .int .i64 0, .int .i64 0, .slice none 0 0, .bool false, .slice none 0 0, .slice none 0 0] 37 (0, 0)) := ((below_alloc (Below.refl (w.alloc (.cells #[.int .i64 9, .int .i64 0, .int .i64 t, .int .i64 j, .int .i64 0, .int .i64 0, .int .i64 0, .int .i64 0, .int .i64 0, .int .i64 0, .int .i64 0, .slice none 0 0, .bool false, .slice none 0 0, .slice none 0 0] 37)).heap.size _) _).block _ (by simp)).trans (heap_new w _ rfl)
  go_enter Try.func19, Try.ntmps19
  go_wp2
  generalize ((w.alloc (.cells #[.int .i64 9, .int .i64 0, .int .i64 t, .int .i64 j, .int .i64 0, .int .i64 0, .int .i64 0, .int .i64 0, .int .i64 0, .int .i64 0, .int .i64 0, .slice none 0 0, .bool false, .slice none 0 0, .slice none 0 0] 37)).alloc (.cells #[.int .i64 t, .int .i64 j] 79)) = w9 at hA hbx ⊢
  have x0 : w9.cell? ⟨w.heap.size, 0, none⟩ = some (.int .i64 9) := cell_blk hbx rfl
  have x1 : w9.cell? ⟨w.heap.size, 1, none⟩ = some (.int .i64 0) := cell_blk hbx rfl
  have x2 : w9.cell? ⟨w.heap.size, 2, none⟩ = some (.int .i64 t) := cell_blk hbx rfl
  have x3 : w9.cell? ⟨w.heap.size, 3, none⟩ = some (.int .i64 j) := cell_blk hbx rfl
  have x4 : w9.cell? ⟨w.heap.size, 4, none⟩ = some (.int .i64 0) := cell_blk hbx rfl
  have x5 : w9.cell? ⟨w.heap.size, 5, none⟩ = some (.int .i64 0) := cell_blk hbx rfl
  have x6 : w9.cell? ⟨w.heap.size, 6, none⟩ = some (.int .i64 0) := cell_blk hbx rfl
  have x7 : w9.cell? ⟨w.heap.size, 7, none⟩ = some (.int .i64 0) := cell_blk hbx rfl
  have x8 : w9.cell? ⟨w.heap.size, 8, none⟩ = some (.int .i64 0) := cell_blk hbx rfl
  have x9 : w9.cell? ⟨w.heap.size, 9, none⟩ = some (.int .i64 0) := cell_blk hbx rfl
  have x10 : w9.cell? ⟨w.heap.size, 10, none⟩ = some (.int .i64 0) := cell_blk hbx rfl
  have x11 : w9.cell? ⟨w.heap.size, 11, none⟩ = some (.slice none 0 0) := cell_blk hbx rfl
  have x12 : w9.cell? ⟨w.heap.size, 12, none⟩ = some (.bool false) := cell_blk hbx rfl
  have x13 : w9.cell? ⟨w.heap.size, 13, none⟩ = some (.slice none 0 0) := cell_blk hbx rfl
  have x14 : w9.cell? ⟨w.heap.size, 14, none⟩ = some (.slice none 0 0) := cell_blk hbx rfl
  refine bodyPost_ret (by simp [results, Try.results19, go_sem, x0, x1, x2, x3, x4, x5, x6, x7, x8, x9, x10, x11, x12, x13, x14]; try rfl) rfl ?_
  exact ⟨rfl, hA⟩

set_option maxRecDepth 100000 in
set_option maxHeartbeats 4000000 in
theorem like_unpd (w : World) (a t j : Int) : Calls Try.prog 19 #[.iface 81 (.agg #[.int .i64 a, .int .i64 t, .int .i64 j])] w fun e w' => e = .returned (.agg #[.int .i64 10, .int .i64 a, .int .i64 t, .int .i64 j, .int .i64 0, .int .i64 0, .int .i64 0, .int .i64 0, .int .i64 0, .int .i64 0, .int .i64 0, .slice none 0 0, .bool false, .slice none 0 0, .slice none 0 0]) ∧ Below w.heap.size w w' := by
  have hA := below_alloc (below_alloc (Below.refl w.heap.size w) (.cells #[.int .i64 10, .int .i64 a, .int .i64 t, .int .i64 j, .int .i64 0, .int .i64 0, .int .i64 0, .int .i64 0, .int .i64 0, .int .i64 0, .int .i64 0, .slice none 0 0, .bool false, .slice none 0 0, .slice none 0 0] 37)) (.cells #[.int .i64 a, .int .i64 t, .int .i64 j] 81)
  have hbx : ((w.alloc (.cells #[.int .i64 10, .int .i64 a, .int .i64 t, .int .i64 j, .int .i64 0, .int .i64 0, .int .i64 0, .int .i64 0, .int .i64 0, .int .i64 0, .int .i64 0, .slice none 0 0, .bool false, .slice none 0 0, .slice none 0 0] 37)).alloc (.cells #[.int .i64 a, .int .i64 t, .int .i64 j] 81)).heap[w.heap.size]? = some (.cells #[.int .i64 10, .int .i64 a, .int .i64 t, .int .i64 j, .int .i64 0, .int .i64 0, .int .i64 0, .int .i64 0, .int .i64 0, .int .i64 0, .int .i64 0, .slice none 0 0, .bool false, .slice none 0 0, .slice none 0 0] 37 (0, 0)) := ((below_alloc (Below.refl (w.alloc (.cells #[.int .i64 10, .int .i64 a, .int .i64 t, .int .i64 j, .int .i64 0, .int .i64 0, .int .i64 0, .int .i64 0, .int .i64 0, .int .i64 0, .int .i64 0, .slice none 0 0, .bool false, .slice none 0 0, .slice none 0 0] 37)).heap.size _) _).block _ (by simp)).trans (heap_new w _ rfl)
  go_enter Try.func19, Try.ntmps19
  go_wp2
  generalize ((w.alloc (.cells #[.int .i64 10, .int .i64 a, .int .i64 t, .int .i64 j, .int .i64 0, .int .i64 0, .int .i64 0, .int .i64 0, .int .i64 0, .int .i64 0, .int .i64 0, .slice none 0 0, .bool false, .slice none 0 0, .slice none 0 0] 37)).alloc (.cells #[.int .i64 a, .int .i64 t, .int .i64 j] 81)) = w9 at hA hbx ⊢
  have x0 : w9.cell? ⟨w.heap.size, 0, none⟩ = some (.int .i64 10) := cell_blk hbx rfl
  have x1 : w9.cell? ⟨w.heap.size, 1, none⟩ = some (.int .i64 a) := cell_blk hbx rfl
  have x2 : w9.cell? ⟨w.heap.size, 2, none⟩ = some (.int .i64 t) := cell_blk hbx rfl
  have x3 : w9.cell? ⟨w.heap.size, 3, none⟩ = some (.int .i64 j) := cell_blk hbx rfl
  have x4 : w9.cell? ⟨w.heap.size, 4, none⟩ = some (.int .i64 0) := cell_blk hbx rfl
  have x5 : w9.cell? ⟨w.heap.size, 5, none⟩ = some (.int .i64 0) := cell_blk hbx rfl
  have x6 : w9.cell? ⟨w.heap.size, 6, none⟩ = some (.int .i64 0) := cell_blk hbx rfl
  have x7 : w9.cell? ⟨w.heap.size, 7, none⟩ = some (.int .i64 0) := cell_blk hbx rfl
  have x8 : w9.cell? ⟨w.heap.size, 8, none⟩ = some (.int .i64 0) := cell_blk hbx rfl
  have x9 : w9.cell? ⟨w.heap.size, 9, none⟩ = some (.int .i64 0) := cell_blk hbx rfl
  have x10 : w9.cell? ⟨w.heap.size, 10, none⟩ = some (.int .i64 0) := cell_blk hbx rfl
  have x11 : w9.cell? ⟨w.heap.size, 11, none⟩ = some (.slice none 0 0) := cell_blk hbx rfl
  have x12 : w9.cell? ⟨w.heap.size, 12, none⟩ = some (.bool false) := cell_blk hbx rfl
  have x13 : w9.cell? ⟨w.heap.size, 13, none⟩ = some (.slice none 0 0) := cell_blk hbx rfl
  have x14 : w9.cell? ⟨w.heap.size, 14, none⟩ = some (.slice none 0 0) := cell_blk hbx rfl
  refine bodyPost_ret (by simp [results, Try.results19, go_sem, x0, x1, x2, x3, x4, x5, x6, x7, x8, x9, x10, x11, x12, x13, x14]; try rfl) rfl ?_
  exact ⟨rfl, hA⟩
end Go.Proofs.Ytniggacgkhkgiaa.Msg
/- What spoorlaw09.Like says of a Pinned and a Chunk. Conditions: the message's slices lie in memory. PRINTED BY wip/gen_ref6.py. -/
namespace Go.Proofs.Ytniggacgkhkgiaa.Msg
open Go.RowKit Go.Sp Go.Sort


set_option maxRecDepth 100000 in
set_option maxHeartbeats 2000000 in
theorem likeP_any (w : World) (a t j n : Int) (ca : Option Addr) (cn cc : Nat) (l : Bool) : Calls Try.prog 73 #[.agg #[.int .i64 a, .int .i64 t, .int .i64 j, .int .i64 n, .slice ca cn cc, .bool l]] w fun e w' => e = .returned (.agg #[.int .i64 a, .int .i64 t, .int .i64 j, .int .i64 n, .slice ca cn cc, .bool l]) ∧ w' = (w.alloc (.cells #[.int .i64 a, .int .i64 t, .int .i64 j, .int .i64 n, .slice ca cn cc, .bool l] 72)).alloc (.cells #[.int .i64 a, .int .i64 t, .int .i64 j, .int .i64 n, .slice ca cn cc, .bool l] 33) := by
  have g5 : ((w.alloc (.cells #[.int .i64 a, .int .i64 t, .int .i64 j, .int .i64 n, .slice ca cn cc, .bool l] 72)).alloc (.cells #[.int .i64 a, .int .i64 t, .int .i64 j, .int .i64 n, .slice ca cn cc, .bool l] 33)).heap[w.heap.size + 1]? = some (.cells #[.int .i64 a, .int .i64 t, .int .i64 j, .int .i64 n, .slice ca cn cc, .bool l] 33 (0, 0)) := heap_new _ _ (by simp)
  go_enter Try.func73, Try.ntmps73
  go_wp2
  obtain ⟨w9, hw9⟩ : ∃ w9, w9 = (w.alloc (.cells #[.int .i64 a, .int .i64 t, .int .i64 j, .int .i64 n, .slice ca cn cc, .bool l] 72)).alloc (.cells #[.int .i64 a, .int .i64 t, .int .i64 j, .int .i64 n, .slice ca cn cc, .bool l] 33) := ⟨_, rfl⟩
  rw [← hw9] at g5
  have x0 : w9.cell? ⟨w.heap.size + 1, 0, none⟩ = some (.int .i64 a) := cell_blk g5 rfl
  have x1 : w9.cell? ⟨w.heap.size + 1, 1, none⟩ = some (.int .i64 t) := cell_blk g5 rfl
  have x2 : w9.cell? ⟨w.heap.size + 1, 2, none⟩ = some (.int .i64 j) := cell_blk g5 rfl
  have x3 : w9.cell? ⟨w.heap.size + 1, 3, none⟩ = some (.int .i64 n) := cell_blk g5 rfl
  have x4 : w9.cell? ⟨w.heap.size + 1, 4, none⟩ = some (.slice ca cn cc) := cell_blk g5 rfl
  have x5 : w9.cell? ⟨w.heap.size + 1, 5, none⟩ = some (.bool l) := cell_blk g5 rfl
  rw [← hw9]
  refine bodyPost_ret (by simp [results, Try.results73, go_sem, x0, x1, x2, x3, x4, x5]; try rfl) rfl ?_
  exact ⟨rfl, rfl⟩


set_option maxRecDepth 100000 in
set_option maxHeartbeats 4000000 in
theorem like_chunk (w : World) (a t j i n : Int) (sa : Option Addr) (sn sc : Nat) : Calls Try.prog 19 #[.iface 146 (.agg #[.int .i64 a, .int .i64 t, .int .i64 j, .int .i64 i, .int .i64 n, .slice sa sn sc])] w fun e w' => e = .returned (.agg #[.int .i64 6, .int .i64 a, .int .i64 t, .int .i64 j, .int .i64 0, .int .i64 i, .int .i64 n, .int .i64 0, .int .i64 0, .int .i64 0, .int .i64 0, .slice none 0 0, .bool false, .slice none 0 0, .slice sa sn sc]) ∧ Below w.heap.size w w' := by
  have hA := below_alloc (below_alloc (Below.refl w.heap.size w) (.cells #[.int .i64 6, .int .i64 a, .int .i64 t, .int .i64 j, .int .i64 0, .int .i64 i, .int .i64 n, .int .i64 0, .int .i64 0, .int .i64 0, .int .i64 0, .slice none 0 0, .bool false, .slice none 0 0, .slice sa sn sc] 37)) (.cells #[.int .i64 a, .int .i64 t, .int .i64 j, .int .i64 i, .int .i64 n, .slice sa sn sc] 146)
  have hbx : ((w.alloc (.cells #[.int .i64 6, .int .i64 a, .int .i64 t, .int .i64 j, .int .i64 0, .int .i64 i, .int .i64 n, .int .i64 0, .int .i64 0, .int .i64 0, .int .i64 0, .slice none 0 0, .bool false, .slice none 0 0, .slice sa sn sc] 37)).alloc (.cells #[.int .i64 a, .int .i64 t, .int .i64 j, .int .i64 i, .int .i64 n, .slice sa sn sc] 146)).heap[w.heap.size]? = some (.cells #[.int .i64 6, .int .i64 a, .int .i64 t, .int .i64 j, .int .i64 0, .int .i64 i, .int .i64 n, .int .i64 0, .int .i64 0, .int .i64 0, .int .i64 0, .slice none 0 0, .bool false, .slice none 0 0, .slice sa sn sc] 37 (0, 0)) := ((below_alloc (Below.refl (w.alloc (.cells #[.int .i64 6, .int .i64 a, .int .i64 t, .int .i64 j, .int .i64 0, .int .i64 i, .int .i64 n, .int .i64 0, .int .i64 0, .int .i64 0, .int .i64 0, .slice none 0 0, .bool false, .slice none 0 0, .slice sa sn sc] 37)).heap.size _) _).block _ (by simp)).trans (heap_new w _ rfl)
  go_enter Try.func19, Try.ntmps19
  go_wp2
  generalize ((w.alloc (.cells #[.int .i64 6, .int .i64 a, .int .i64 t, .int .i64 j, .int .i64 0, .int .i64 i, .int .i64 n, .int .i64 0, .int .i64 0, .int .i64 0, .int .i64 0, .slice none 0 0, .bool false, .slice none 0 0, .slice sa sn sc] 37)).alloc (.cells #[.int .i64 a, .int .i64 t, .int .i64 j, .int .i64 i, .int .i64 n, .slice sa sn sc] 146)) = w9 at hA hbx ⊢
  have x0 : w9.cell? ⟨w.heap.size, 0, none⟩ = some (.int .i64 6) := cell_blk hbx rfl
  have x1 : w9.cell? ⟨w.heap.size, 1, none⟩ = some (.int .i64 a) := cell_blk hbx rfl
  have x2 : w9.cell? ⟨w.heap.size, 2, none⟩ = some (.int .i64 t) := cell_blk hbx rfl
  have x3 : w9.cell? ⟨w.heap.size, 3, none⟩ = some (.int .i64 j) := cell_blk hbx rfl
  have x4 : w9.cell? ⟨w.heap.size, 4, none⟩ = some (.int .i64 0) := cell_blk hbx rfl
  have x5 : w9.cell? ⟨w.heap.size, 5, none⟩ = some (.int .i64 i) := cell_blk hbx rfl
  have x6 : w9.cell? ⟨w.heap.size, 6, none⟩ = some (.int .i64 n) := cell_blk hbx rfl
  have x7 : w9.cell? ⟨w.heap.size, 7, none⟩ = some (.int .i64 0) := cell_blk hbx rfl
  have x8 : w9.cell? ⟨w.heap.size, 8, none⟩ = some (.int .i64 0) := cell_blk hbx rfl
  have x9 : w9.cell? ⟨w.heap.size, 9, none⟩ = some (.int .i64 0) := cell_blk hbx rfl
  have x10 : w9.cell? ⟨w.heap.size, 10, none⟩ = some (.int .i64 0) := cell_blk hbx rfl
  have x11 : w9.cell? ⟨w.heap.size, 11, none⟩ = some (.slice none 0 0) := cell_blk hbx rfl
  have x12 : w9.cell? ⟨w.heap.size, 12, none⟩ = some (.bool false) := cell_blk hbx rfl
  have x13 : w9.cell? ⟨w.heap.size, 13, none⟩ = some (.slice none 0 0) := cell_blk hbx rfl
  have x14 : w9.cell? ⟨w.heap.size, 14, none⟩ = some (.slice sa sn sc) := cell_blk hbx rfl
  refine bodyPost_ret (by simp [results, Try.results19, go_sem, x0, x1, x2, x3, x4, x5, x6, x7, x8, x9, x10, x11, x12, x13, x14]; try rfl) rfl ?_
  exact ⟨rfl, hA⟩

set_option maxRecDepth 100000 in
set_option maxHeartbeats 4000000 in
theorem like_pinned (w : World) (a t j n : Int) (ca : Option Addr) (cn cc : Nat) (l : Bool) : Calls Try.prog 19 #[.iface 72 (.agg #[.int .i64 a, .int .i64 t, .int .i64 j, .int .i64 n, .slice ca cn cc, .bool l])] w fun e w' => e = .returned (.agg #[.int .i64 3, .int .i64 0, .int .i64 0, .int .i64 0, .int .i64 0, .int .i64 0, .int .i64 0, .int .i64 a, .int .i64 t, .int .i64 j, .int .i64 n, .slice ca cn cc, .bool l, .slice none 0 0, .slice none 0 0]) ∧ Below w.heap.size w w' := by
  have hA := below_alloc (below_alloc (below_alloc (below_alloc (Below.refl w.heap.size w) (.cells #[.int .i64 3, .int .i64 0, .int .i64 0, .int .i64 0, .int .i64 0, .int .i64 0, .int .i64 0, .int .i64 a, .int .i64 t, .int .i64 j, .int .i64 n, .slice ca cn cc, .bool l, .slice none 0 0, .slice none 0 0] 37)) (.cells #[.int .i64 a, .int .i64 t, .int .i64 j, .int .i64 n, .slice ca cn cc, .bool l] 72)) (.cells #[.int .i64 a, .int .i64 t, .int .i64 j, .int .i64 n, .slice ca cn cc, .bool l] 72)) (.cells #[.int .i64 a, .int .i64 t, .int .i64 j, .int .i64 n, .slice ca cn cc, .bool l] 33)
  have hbx : ((((w.alloc (.cells #[.int .i64 3, .int .i64 0, .int .i64 0, .int .i64 0, .int .i64 0, .int .i64 0, .int .i64 0, .int .i64 a, .int .i64 t, .int .i64 j, .int .i64 n, .slice ca cn cc, .bool l, .slice none 0 0, .slice none 0 0] 37)).alloc (.cells #[.int .i64 a, .int .i64 t, .int .i64 j, .int .i64 n, .slice ca cn cc, .bool l] 72)).alloc (.cells #[.int .i64 a, .int .i64 t, .int .i64 j, .int .i64 n, .slice ca cn cc, .bool l] 72)).alloc (.cells #[.int .i64 a, .int .i64 t, .int .i64 j, .int .i64 n, .slice ca cn cc, .bool l] 33)).heap[w.heap.size]? = some (.cells #[.int .i64 3, .int .i64 0, .int .i64 0, .int .i64 0, .int .i64 0, .int .i64 0, .int .i64 0, .int .i64 a, .int .i64 t, .int .i64 j, .int .i64 n, .slice ca cn cc, .bool l, .slice none 0 0, .slice none 0 0] 37 (0, 0)) := ((below_alloc (below_alloc (below_alloc (Below.refl (w.alloc (.cells #[.int .i64 3, .int .i64 0, .int .i64 0, .int .i64 0, .int .i64 0, .int .i64 0, .int .i64 0, .int .i64 a, .int .i64 t, .int .i64 j, .int .i64 n, .slice ca cn cc, .bool l, .slice none 0 0, .slice none 0 0] 37)).heap.size _) _) _) _).block _ (by simp)).trans (heap_new w _ rfl)
  go_enter Try.func19, Try.ntmps19
  go_wp2_with fail
  refine (likeP_any _ a t j n ca cn cc l).mono ?_
  rintro e w3 ⟨rfl, rfl⟩
  go_wp2
  generalize ((((w.alloc (.cells #[.int .i64 3, .int .i64 0, .int .i64 0, .int .i64 0, .int .i64 0, .int .i64 0, .int .i64 0, .int .i64 a, .int .i64 t, .int .i64 j, .int .i64 n, .slice ca cn cc, .bool l, .slice none 0 0, .slice none 0 0] 37)).alloc (.cells #[.int .i64 a, .int .i64 t, .int .i64 j, .int .i64 n, .slice ca cn cc, .bool l] 72)).alloc (.cells #[.int .i64 a, .int .i64 t, .int .i64 j, .int .i64 n, .slice ca cn cc, .bool l] 72)).alloc (.cells #[.int .i64 a, .int .i64 t, .int .i64 j, .int .i64 n, .slice ca cn cc, .bool l] 33)) = w9 at hA hbx ⊢
  have x0 : w9.cell? ⟨w.heap.size, 0, none⟩ = some (.int .i64 3) := cell_blk hbx rfl
  have x1 : w9.cell? ⟨w.heap.size, 1, none⟩ = some (.int .i64 0) := cell_blk hbx rfl
  have x2 : w9.cell? ⟨w.heap.size, 2, none⟩ = some (.int .i64 0) := cell_blk hbx rfl
  have x3 : w9.cell? ⟨w.heap.size, 3, none⟩ = some (.int .i64 0) := cell_blk hbx rfl
  have x4 : w9.cell? ⟨w.heap.size, 4, none⟩ = some (.int .i64 0) := cell_blk hbx rfl
  have x5 : w9.cell? ⟨w.heap.size, 5, none⟩ = some (.int .i64 0) := cell_blk hbx rfl
  have x6 : w9.cell? ⟨w.heap.size, 6, none⟩ = some (.int .i64 0) := cell_blk hbx rfl
  have x7 : w9.cell? ⟨w.heap.size, 7, none⟩ = some (.int .i64 a) := cell_blk hbx rfl
  have x8 : w9.cell? ⟨w.heap.size, 8, none⟩ = some (.int .i64 t) := cell_blk hbx rfl
  have x9 : w9.cell? ⟨w.heap.size, 9, none⟩ = some (.int .i64 j) := cell_blk hbx rfl
  have x10 : w9.cell? ⟨w.heap.size, 10, none⟩ = some (.int .i64 n) := cell_blk hbx rfl
  have x11 : w9.cell? ⟨w.heap.size, 11, none⟩ = some (.slice ca cn cc) := cell_blk hbx rfl
  have x12 : w9.cell? ⟨w.heap.size, 12, none⟩ = some (.bool l) := cell_blk hbx rfl
  have x13 : w9.cell? ⟨w.heap.size, 13, none⟩ = some (.slice none 0 0) := cell_blk hbx rfl
  have x14 : w9.cell? ⟨w.heap.size, 14, none⟩ = some (.slice none 0 0) := cell_blk hbx rfl
  refine bodyPost_ret (by simp [results, Try.results19, go_sem, x0, x1, x2, x3, x4, x5, x6, x7, x8, x9, x10, x11, x12, x13, x14]; try rfl) rfl ?_
  exact ⟨rfl, hA⟩
end Go.Proofs.Ytniggacgkhkgiaa.Msg
