/- What spoorlaw09.Like says of each kind of message but a Manifest. Conditions: a message's slices show their form. PRINTED BY wip/gen_ref5.py. -/
import Derived.Test.YtcdjeblcmgghhaaRef4
namespace Go.Proofs.Ytcdjeblcmgghhaa.Msg
open Go.RowKit Go.Sp Go.Sort


set_option maxRecDepth 100000 in
set_option maxHeartbeats 4000000 in
theorem like_trig (w : World) (a t c : Int) : Calls Try.prog 19 #[.iface 126 (.agg #[.int .i64 a, .int .i64 t, .int .i64 c])] w fun e w' => e = .returned (.agg #[.int .i64 1, .int .i64 a, .int .i64 t, .int .i64 0, .int .i64 c, .int .i64 0, .int .i64 0, .int .i64 0, .int .i64 0, .int .i64 0, .int .i64 0, .slice none 0 0, .bool false, .slice none 0 0, .slice none 0 0]) ∧ Below w.heap.size w w' := by
  have hA := below_alloc (below_alloc (Below.refl w.heap.size w) (.cells #[.int .i64 1, .int .i64 a, .int .i64 t, .int .i64 0, .int .i64 c, .int .i64 0, .int .i64 0, .int .i64 0, .int .i64 0, .int .i64 0, .int .i64 0, .slice none 0 0, .bool false, .slice none 0 0, .slice none 0 0] 34)) (.cells #[.int .i64 a, .int .i64 t, .int .i64 c] 126)
  have hbx : ((w.alloc (.cells #[.int .i64 1, .int .i64 a, .int .i64 t, .int .i64 0, .int .i64 c, .int .i64 0, .int .i64 0, .int .i64 0, .int .i64 0, .int .i64 0, .int .i64 0, .slice none 0 0, .bool false, .slice none 0 0, .slice none 0 0] 34)).alloc (.cells #[.int .i64 a, .int .i64 t, .int .i64 c] 126)).heap[w.heap.size]? = some (.cells #[.int .i64 1, .int .i64 a, .int .i64 t, .int .i64 0, .int .i64 c, .int .i64 0, .int .i64 0, .int .i64 0, .int .i64 0, .int .i64 0, .int .i64 0, .slice none 0 0, .bool false, .slice none 0 0, .slice none 0 0] 34 (0, 0)) := ((below_alloc (Below.refl (w.alloc (.cells #[.int .i64 1, .int .i64 a, .int .i64 t, .int .i64 0, .int .i64 c, .int .i64 0, .int .i64 0, .int .i64 0, .int .i64 0, .int .i64 0, .int .i64 0, .slice none 0 0, .bool false, .slice none 0 0, .slice none 0 0] 34)).heap.size _) _).block _ (by simp)).trans (heap_new w _ rfl)
  go_enter Try.func19, Try.ntmps19
  go_wp2
  generalize ((w.alloc (.cells #[.int .i64 1, .int .i64 a, .int .i64 t, .int .i64 0, .int .i64 c, .int .i64 0, .int .i64 0, .int .i64 0, .int .i64 0, .int .i64 0, .int .i64 0, .slice none 0 0, .bool false, .slice none 0 0, .slice none 0 0] 34)).alloc (.cells #[.int .i64 a, .int .i64 t, .int .i64 c] 126)) = w9 at hA hbx ⊢
  have x0 : w9.cell? ⟨w.heap.size, 0, none⟩ = some (.int .i64 1) := cell_blk hbx rfl
  have x1 : w9.cell? ⟨w.heap.size, 1, none⟩ = some (.int .i64 a) := cell_blk hbx rfl
  have x2 : w9.cell? ⟨w.heap.size, 2, none⟩ = some (.int .i64 t) := cell_blk hbx rfl
  have x3 : w9.cell? ⟨w.heap.size, 3, none⟩ = some (.int .i64 0) := cell_blk hbx rfl
  have x4 : w9.cell? ⟨w.heap.size, 4, none⟩ = some (.int .i64 c) := cell_blk hbx rfl
  have x5 : w9.cell? ⟨w.heap.size, 5, none⟩ = some (.int .i64 0) := cell_blk hbx rfl
  have x6 : w9.cell? ⟨w.heap.size, 6, none⟩ = some (.int .i64 0) := cell_blk hbx rfl
  have x7 : w9.cell? ⟨w.heap.size, 7, none⟩ = some (.int .i64 0) := cell_blk hbx rfl
  have x8 : w9.cell? ⟨w.heap.size, 8, none⟩ = some (.int .i64 0) := cell_blk hbx rfl
  have x9 : w9.cell? ⟨w.heap.size, 9, none⟩ = some (.int .i64 0) := cell_blk hbx rfl
  have x10 : w9.cell? ⟨w.heap.size, 10, none⟩ = some (.int .i64 0) := cell_blk hbx rfl
  have x11 : w9.cell? ⟨w.heap.size, 11, none⟩ = some (.slice none 0 0) := cell_blk hbx rfl
  have x12 : w9.cell? ⟨w.heap.size, 12, none⟩ = some (.bool false) := cell_blk hbx rfl
  have x13 : w9.cell? ⟨w.heap.size, 13, none⟩ = some (.slice none 0 0) := cell_blk hbx rfl
  have x14 : w9.cell? ⟨w.heap.size, 14, none⟩ = some (.slice none 0 0) := cell_blk hbx rfl
  refine bodyPost_ret (by simp [results, Try.results19, go_sem, x0, x1, x2, x3, x4, x5, x6, x7, x8, x9, x10, x11, x12, x13, x14]; try rfl) rfl ?_
  exact ⟨rfl, hA⟩

set_option maxRecDepth 100000 in
set_option maxHeartbeats 4000000 in
theorem like_pin (w : World) (t j : Int) : Calls Try.prog 19 #[.iface 128 (.agg #[.int .i64 t, .int .i64 j])] w fun e w' => e = .returned (.agg #[.int .i64 2, .int .i64 0, .int .i64 t, .int .i64 j, .int .i64 0, .int .i64 0, .int .i64 0, .int .i64 0, .int .i64 0, .int .i64 0, .int .i64 0, .slice none 0 0, .bool false, .slice none 0 0, .slice none 0 0]) ∧ Below w.heap.size w w' := by
  have hA := below_alloc (below_alloc (Below.refl w.heap.size w) (.cells #[.int .i64 2, .int .i64 0, .int .i64 t, .int .i64 j, .int .i64 0, .int .i64 0, .int .i64 0, .int .i64 0, .int .i64 0, .int .i64 0, .int .i64 0, .slice none 0 0, .bool false, .slice none 0 0, .slice none 0 0] 34)) (.cells #[.int .i64 t, .int .i64 j] 128)
  have hbx : ((w.alloc (.cells #[.int .i64 2, .int .i64 0, .int .i64 t, .int .i64 j, .int .i64 0, .int .i64 0, .int .i64 0, .int .i64 0, .int .i64 0, .int .i64 0, .int .i64 0, .slice none 0 0, .bool false, .slice none 0 0, .slice none 0 0] 34)).alloc (.cells #[.int .i64 t, .int .i64 j] 128)).heap[w.heap.size]? = some (.cells #[.int .i64 2, .int .i64 0, .int .i64 t, .int .i64 j, .int .i64 0, .int .i64 0, .int .i64 0, .int .i64 0, .int .i64 0, .int .i64 0, .int .i64 0, .slice none 0 0, .bool false, .slice none 0 0, .slice none 0 0] 34 (0, 0)) := ((below_alloc (Below.refl (w.alloc (.cells #[.int .i64 2, .int .i64 0, .int .i64 t, .int .i64 j, .int .i64 0, .int .i64 0, .int .i64 0, .int .i64 0, .int .i64 0, .int .i64 0, .int .i64 0, .slice none 0 0, .bool false, .slice none 0 0, .slice none 0 0] 34)).heap.size _) _).block _ (by simp)).trans (heap_new w _ rfl)
  go_enter Try.func19, Try.ntmps19
  go_wp2
  generalize ((w.alloc (.cells #[.int .i64 2, .int .i64 0, .int .i64 t, .int .i64 j, .int .i64 0, .int .i64 0, .int .i64 0, .int .i64 0, .int .i64 0, .int .i64 0, .int .i64 0, .slice none 0 0, .bool false, .slice none 0 0, .slice none 0 0] 34)).alloc (.cells #[.int .i64 t, .int .i64 j] 128)) = w9 at hA hbx ⊢
  have x0 : w9.cell? ⟨w.heap.size, 0, none⟩ = some (.int .i64 2) := cell_blk hbx rfl
  have x1 : w9.cell? ⟨w.heap.size, 1, none⟩ = some (.int .i64 0) := cell_blk hbx rfl
  have x2 : w9.cell? ⟨w.heap.size, 2, none⟩ = some (.int .i64 t) := cell_blk hbx rfl
  have x3 : w9.cell? ⟨w.heap.size, 3, none⟩ = some (.int .i64 j) := cell_blk hbx rfl
  have x4 : w9.cell? ⟨w.heap.size, 4, none⟩ = some (.int .i64 0) := cell_blk hbx rfl
  have x5 : w9.cell? ⟨w.heap.size, 5, none⟩ = some (.int .i64 0) := cell_blk hbx rfl
  have x6 : w9.cell? ⟨w.heap.size, 6, none⟩ = some (.int .i64 0) := cell_blk hbx rfl
  have x7 : w9.cell? ⟨w.heap.size, 7, none⟩ = some (.int .i64 0) := cell_blk hbx rfl
  have x8 : w9.cell? ⟨w.heap.size, 8, none⟩ = some (.int .i64 0) := cell_blk hbx rfl
  have x9 : w9.cell? ⟨w.heap.size, 9, none⟩ = some (.int .i64 0) := cell_blk hbx rfl
  have x10 : w9.cell? ⟨w.heap.size, 10, none⟩ = some (.int .i64 0) := cell_blk hbx rfl
  have x11 : w9.cell? ⟨w.heap.size, 11, none⟩ = some (.slice none 0 0) := cell_blk hbx rfl
  have x12 : w9.cell? ⟨w.heap.size, 12, none⟩ = some (.bool false) := cell_blk hbx rfl
  have x13 : w9.cell? ⟨w.heap.size, 13, none⟩ = some (.slice none 0 0) := cell_blk hbx rfl
  have x14 : w9.cell? ⟨w.heap.size, 14, none⟩ = some (.slice none 0 0) := cell_blk hbx rfl
  refine bodyPost_ret (by simp [results, Try.results19, go_sem, x0, x1, x2, x3, x4, x5, x6, x7, x8, x9, x10, x11, x12, x13, x14]; try rfl) rfl ?_
  exact ⟨rfl, hA⟩

set_option maxRecDepth 100000 in
set_option maxHeartbeats 4000000 in
theorem like_gone (w : World) (a t j : Int) : Calls Try.prog 19 #[.iface 131 (.agg #[.int .i64 a, .int .i64 t, .int .i64 j])] w fun e w' => e = .returned (.agg #[.int .i64 4, .int .i64 a, .int .i64 t, .int .i64 j, .int .i64 0, .int .i64 0, .int .i64 0, .int .i64 0, .int .i64 0, .int .i64 0, .int .i64 0, .slice none 0 0, .bool false, .slice none 0 0, .slice none 0 0]) ∧ Below w.heap.size w w' := by
  have hA := below_alloc (below_alloc (Below.refl w.heap.size w) (.cells #[.int .i64 4, .int .i64 a, .int .i64 t, .int .i64 j, .int .i64 0, .int .i64 0, .int .i64 0, .int .i64 0, .int .i64 0, .int .i64 0, .int .i64 0, .slice none 0 0, .bool false, .slice none 0 0, .slice none 0 0] 34)) (.cells #[.int .i64 a, .int .i64 t, .int .i64 j] 131)
  have hbx : ((w.alloc (.cells #[.int .i64 4, .int .i64 a, .int .i64 t, .int .i64 j, .int .i64 0, .int .i64 0, .int .i64 0, .int .i64 0, .int .i64 0, .int .i64 0, .int .i64 0, .slice none 0 0, .bool false, .slice none 0 0, .slice none 0 0] 34)).alloc (.cells #[.int .i64 a, .int .i64 t, .int .i64 j] 131)).heap[w.heap.size]? = some (.cells #[.int .i64 4, .int .i64 a, .int .i64 t, .int .i64 j, .int .i64 0, .int .i64 0, .int .i64 0, .int .i64 0, .int .i64 0, .int .i64 0, .int .i64 0, .slice none 0 0, .bool false, .slice none 0 0, .slice none 0 0] 34 (0, 0)) := ((below_alloc (Below.refl (w.alloc (.cells #[.int .i64 4, .int .i64 a, .int .i64 t, .int .i64 j, .int .i64 0, .int .i64 0, .int .i64 0, .int .i64 0, .int .i64 0, .int .i64 0, .int .i64 0, .slice none 0 0, .bool false, .slice none 0 0, .slice none 0 0] 34)).heap.size _) _).block _ (by simp)).trans (heap_new w _ rfl)
  go_enter Try.func19, Try.ntmps19
  go_wp2
  generalize ((w.alloc (.cells #[.int .i64 4, .int .i64 a, .int .i64 t, .int .i64 j, .int .i64 0, .int .i64 0, .int .i64 0, .int .i64 0, .int .i64 0, .int .i64 0, .int .i64 0, .slice none 0 0, .bool false, .slice none 0 0, .slice none 0 0] 34)).alloc (.cells #[.int .i64 a, .int .i64 t, .int .i64 j] 131)) = w9 at hA hbx ⊢
  have x0 : w9.cell? ⟨w.heap.size, 0, none⟩ = some (.int .i64 4) := cell_blk hbx rfl
  have x1 : w9.cell? ⟨w.heap.size, 1, none⟩ = some (.int .i64 a) := cell_blk hbx rfl
  have x2 : w9.cell? ⟨w.heap.size, 2, none⟩ = some (.int .i64 t) := cell_blk hbx rfl
  have x3 : w9.cell? ⟨w.heap.size, 3, none⟩ = some (.int .i64 j) := cell_blk hbx rfl
  have x4 : w9.cell? ⟨w.heap.size, 4, none⟩ = some (.int .i64 0) := cell_blk hbx rfl
  have x5 : w9.cell? ⟨w.heap.size, 5, none⟩ = some (.int .i64 0) := cell_blk hbx rfl
  have x6 : w9.cell? ⟨w.heap.size, 6, none⟩ = some (.int .i64 0) := cell_blk hbx rfl
  have x7 : w9.cell? ⟨w.heap.size, 7, none⟩ = some (.int .i64 0) := cell_blk hbx rfl
  have x8 : w9.cell? ⟨w.heap.size, 8, none⟩ = some (.int .i64 0) := cell_blk hbx rfl
  have x9 : w9.cell? ⟨w.heap.size, 9, none⟩ = some (.int .i64 0) := cell_blk hbx rfl
  have x10 : w9.cell? ⟨w.heap.size, 10, none⟩ = some (.int .i64 0) := cell_blk hbx rfl
  have x11 : w9.cell? ⟨w.heap.size, 11, none⟩ = some (.slice none 0 0) := cell_blk hbx rfl
  have x12 : w9.cell? ⟨w.heap.size, 12, none⟩ = some (.bool false) := cell_blk hbx rfl
  have x13 : w9.cell? ⟨w.heap.size, 13, none⟩ = some (.slice none 0 0) := cell_blk hbx rfl
  have x14 : w9.cell? ⟨w.heap.size, 14, none⟩ = some (.slice none 0 0) := cell_blk hbx rfl
  refine bodyPost_ret (by simp [results, Try.results19, go_sem, x0, x1, x2, x3, x4, x5, x6, x7, x8, x9, x10, x11, x12, x13, x14]; try rfl) rfl ?_
  exact ⟨rfl, hA⟩

set_option maxRecDepth 100000 in
set_option maxHeartbeats 4000000 in
theorem like_coll (w : World) (t j : Int) : Calls Try.prog 19 #[.iface 132 (.agg #[.int .i64 t, .int .i64 j])] w fun e w' => e = .returned (.agg #[.int .i64 5, .int .i64 0, .int .i64 t, .int .i64 j, .int .i64 0, .int .i64 0, .int .i64 0, .int .i64 0, .int .i64 0, .int .i64 0, .int .i64 0, .slice none 0 0, .bool false, .slice none 0 0, .slice none 0 0]) ∧ Below w.heap.size w w' := by
  have hA := below_alloc (below_alloc (Below.refl w.heap.size w) (.cells #[.int .i64 5, .int .i64 0, .int .i64 t, .int .i64 j, .int .i64 0, .int .i64 0, .int .i64 0, .int .i64 0, .int .i64 0, .int .i64 0, .int .i64 0, .slice none 0 0, .bool false, .slice none 0 0, .slice none 0 0] 34)) (.cells #[.int .i64 t, .int .i64 j] 132)
  have hbx : ((w.alloc (.cells #[.int .i64 5, .int .i64 0, .int .i64 t, .int .i64 j, .int .i64 0, .int .i64 0, .int .i64 0, .int .i64 0, .int .i64 0, .int .i64 0, .int .i64 0, .slice none 0 0, .bool false, .slice none 0 0, .slice none 0 0] 34)).alloc (.cells #[.int .i64 t, .int .i64 j] 132)).heap[w.heap.size]? = some (.cells #[.int .i64 5, .int .i64 0, .int .i64 t, .int .i64 j, .int .i64 0, .int .i64 0, .int .i64 0, .int .i64 0, .int .i64 0, .int .i64 0, .int .i64 0, .slice none 0 0, .bool false, .slice none 0 0, .slice none 0 0] 34 (0, 0)) := ((below_alloc (Below.refl (w.alloc (.cells #[.int .i64 5, .int .i64 0, .int .i64 t, .int .i64 j, .int .i64 0, .int .i64 0, .int .i64 0, .int .i64 0, .int .i64 0, .int .i64 0, .int .i64 0, .slice none 0 0, .bool false, .slice none 0 0, .slice none 0 0] 34)).heap.size _) _).block _ (by simp)).trans (heap_new w _ rfl)
  go_enter Try.func19, Try.ntmps19
  go_wp2
  generalize ((w.alloc (.cells #[.int .i64 5, .int .i64 0, .int .i64 t, .int .i64 j, .int .i64 0, .int .i64 0, .int .i64 0, .int .i64 0, .int .i64 0, .int .i64 0, .int .i64 0, .slice none 0 0, .bool false, .slice none 0 0, .slice none 0 0] 34)).alloc (.cells #[.int .i64 t, .int .i64 j] 132)) = w9 at hA hbx ⊢
  have x0 : w9.cell? ⟨w.heap.size, 0, none⟩ = some (.int .i64 5) := cell_blk hbx rfl
  have x1 : w9.cell? ⟨w.heap.size, 1, none⟩ = some (.int .i64 0) := cell_blk hbx rfl
  have x2 : w9.cell? ⟨w.heap.size, 2, none⟩ = some (.int .i64 t) := cell_blk hbx rfl
  have x3 : w9.cell? ⟨w.heap.size, 3, none⟩ = some (.int .i64 j) := cell_blk hbx rfl
  have x4 : w9.cell? ⟨w.heap.size, 4, none⟩ = some (.int .i64 0) := cell_blk hbx rfl
  have x5 : w9.cell? ⟨w.heap.size, 5, none⟩ = some (.int .i64 0) := cell_blk hbx rfl
  have x6 : w9.cell? ⟨w.heap.size, 6, none⟩ = some (.int .i64 0) := cell_blk hbx rfl
  have x7 : w9.cell? ⟨w.heap.size, 7, none⟩ = some (.int .i64 0) := cell_blk hbx rfl
  have x8 : w9.cell? ⟨w.heap.size, 8, none⟩ = some (.int .i64 0) := cell_blk hbx rfl
  have x9 : w9.cell? ⟨w.heap.size, 9, none⟩ = some (.int .i64 0) := cell_blk hbx rfl
  have x10 : w9.cell? ⟨w.heap.size, 10, none⟩ = some (.int .i64 0) := cell_blk hbx rfl
  have x11 : w9.cell? ⟨w.heap.size, 11, none⟩ = some (.slice none 0 0) := cell_blk hbx rfl
  have x12 : w9.cell? ⟨w.heap.size, 12, none⟩ = some (.bool false) := cell_blk hbx rfl
  have x13 : w9.cell? ⟨w.heap.size, 13, none⟩ = some (.slice none 0 0) := cell_blk hbx rfl
  have x14 : w9.cell? ⟨w.heap.size, 14, none⟩ = some (.slice none 0 0) := cell_blk hbx rfl
  refine bodyPost_ret (by simp [results, Try.results19, go_sem, x0, x1, x2, x3, x4, x5, x6, x7, x8, x9, x10, x11, x12, x13, x14]; try rfl) rfl ?_
  exact ⟨rfl, hA⟩

set_option maxRecDepth 100000 in
set_option maxHeartbeats 4000000 in
theorem like_stor (w : World) (t j : Int) : Calls Try.prog 19 #[.iface 133 (.agg #[.int .i64 t, .int .i64 j])] w fun e w' => e = .returned (.agg #[.int .i64 8, .int .i64 0, .int .i64 t, .int .i64 j, .int .i64 0, .int .i64 0, .int .i64 0, .int .i64 0, .int .i64 0, .int .i64 0, .int .i64 0, .slice none 0 0, .bool false, .slice none 0 0, .slice none 0 0]) ∧ Below w.heap.size w w' := by
  have hA := below_alloc (below_alloc (Below.refl w.heap.size w) (.cells #[.int .i64 8, .int .i64 0, .int .i64 t, .int .i64 j, .int .i64 0, .int .i64 0, .int .i64 0, .int .i64 0, .int .i64 0, .int .i64 0, .int .i64 0, .slice none 0 0, .bool false, .slice none 0 0, .slice none 0 0] 34)) (.cells #[.int .i64 t, .int .i64 j] 133)
  have hbx : ((w.alloc (.cells #[.int .i64 8, .int .i64 0, .int .i64 t, .int .i64 j, .int .i64 0, .int .i64 0, .int .i64 0, .int .i64 0, .int .i64 0, .int .i64 0, .int .i64 0, .slice none 0 0, .bool false, .slice none 0 0, .slice none 0 0] 34)).alloc (.cells #[.int .i64 t, .int .i64 j] 133)).heap[w.heap.size]? = some (.cells #[.int .i64 8, .int .i64 0, .int .i64 t, .int .i64 j, .int .i64 0, .int .i64 0, .int .i64 0, .int .i64 0, .int .i64 0, .int .i64 0, .int .i64 0, .slice none 0 0, .bool false, .slice none 0 0, .slice none 0 0] 34 (0, 0)) := ((below_alloc (Below.refl (w.alloc (.cells #[.int .i64 8, .int .i64 0, .int .i64 t, .int .i64 j, .int .i64 0, .int .i64 0, .int .i64 0, .int .i64 0, .int .i64 0, .int .i64 0, .int .i64 0, .slice none 0 0, .bool false, .slice none 0 0, .slice none 0 0] 34)).heap.size _) _).block _ (by simp)).trans (heap_new w _ rfl)
  go_enter Try.func19, Try.ntmps19
  go_wp2
  generalize ((w.alloc (.cells #[.int .i64 8, .int .i64 0, .int .i64 t, .int .i64 j, .int .i64 0, .int .i64 0, .int .i64 0, .int .i64 0, .int .i64 0, .int .i64 0, .int .i64 0, .slice none 0 0, .bool false, .slice none 0 0, .slice none 0 0] 34)).alloc (.cells #[.int .i64 t, .int .i64 j] 133)) = w9 at hA hbx ⊢
  have x0 : w9.cell? ⟨w.heap.size, 0, none⟩ = some (.int .i64 8) := cell_blk hbx rfl
  have x1 : w9.cell? ⟨w.heap.size, 1, none⟩ = some (.int .i64 0) := cell_blk hbx rfl
  have x2 : w9.cell? ⟨w.heap.size, 2, none⟩ = some (.int .i64 t) := cell_blk hbx rfl
  have x3 : w9.cell? ⟨w.heap.size, 3, none⟩ = some (.int .i64 j) := cell_blk hbx rfl
  have x4 : w9.cell? ⟨w.heap.size, 4, none⟩ = some (.int .i64 0) := cell_blk hbx rfl
  have x5 : w9.cell? ⟨w.heap.size, 5, none⟩ = some (.int .i64 0) := cell_blk hbx rfl
  have x6 : w9.cell? ⟨w.heap.size, 6, none⟩ = some (.int .i64 0) := cell_blk hbx rfl
  have x7 : w9.cell? ⟨w.heap.size, 7, none⟩ = some (.int .i64 0) := cell_blk hbx rfl
  have x8 : w9.cell? ⟨w.heap.size, 8, none⟩ = some (.int .i64 0) := cell_blk hbx rfl
  have x9 : w9.cell? ⟨w.heap.size, 9, none⟩ = some (.int .i64 0) := cell_blk hbx rfl
  have x10 : w9.cell? ⟨w.heap.size, 10, none⟩ = some (.int .i64 0) := cell_blk hbx rfl
  have x11 : w9.cell? ⟨w.heap.size, 11, none⟩ = some (.slice none 0 0) := cell_blk hbx rfl
  have x12 : w9.cell? ⟨w.heap.size, 12, none⟩ = some (.bool false) := cell_blk hbx rfl
  have x13 : w9.cell? ⟨w.heap.size, 13, none⟩ = some (.slice none 0 0) := cell_blk hbx rfl
  have x14 : w9.cell? ⟨w.heap.size, 14, none⟩ = some (.slice none 0 0) := cell_blk hbx rfl
  refine bodyPost_ret (by simp [results, Try.results19, go_sem, x0, x1, x2, x3, x4, x5, x6, x7, x8, x9, x10, x11, x12, x13, x14]; try rfl) rfl ?_
  exact ⟨rfl, hA⟩

set_option maxRecDepth 100000 in
set_option maxHeartbeats 4000000 in
theorem like_unp (w : World) (t j : Int) : Calls Try.prog 19 #[.iface 134 (.agg #[.int .i64 t, .int .i64 j])] w fun e w' => e = .returned (.agg #[.int .i64 9, .int .i64 0, .int .i64 t, .int .i64 j, .int .i64 0, .int .i64 0, .int .i64 0, .int .i64 0, .int .i64 0, .int .i64 0, .int .i64 0, .slice none 0 0, .bool false, .slice none 0 0, .slice none 0 0]) ∧ Below w.heap.size w w' := by
  have hA := below_alloc (below_alloc (Below.refl w.heap.size w) (.cells #[.int .i64 9, .int .i64 0, .int .i64 t, .int .i64 j, .int .i64 0, .int .i64 0, .int .i64 0, .int .i64 0, .int .i64 0, .int .i64 0, .int .i64 0, .slice none 0 0, .bool false, .slice none 0 0, .slice none 0 0] 34)) (.cells #[.int .i64 t, .int .i64 j] 134)
  have hbx : ((w.alloc (.cells #[.int .i64 9, .int .i64 0, .int .i64 t, .int .i64 j, .int .i64 0, .int .i64 0, .int .i64 0, .int .i64 0, .int .i64 0, .int .i64 0, .int .i64 0, .slice none 0 0, .bool false, .slice none 0 0, .slice none 0 0] 34)).alloc (.cells #[.int .i64 t, .int .i64 j] 134)).heap[w.heap.size]? = some (.cells #[.int .i64 9, .int .i64 0, .int .i64 t, .int .i64 j, .int .i64 0, .int .i64 0, .int .i64 0, .int .i64 0, .int .i64 0, .int .i64 0, .int .i64 0, .slice none 0 0, .bool false, .slice none 0 0, .slice none 0 0] 34 (0, 0)) := ((below_alloc (Below.refl (w.alloc (.cells #[.int .i64 9, .int .i64 0, .int .i64 t, .int .i64 j, .int .i64 0, .int .i64 0, .int .i64 0, .int .i64 0, .int .i64 0, .int .i64 0, .int .i64 0, .slice none 0 0, .bool false, .slice none 0 0, .slice none 0 0] 34)).heap.size _) _).block _ (by simp)).trans (heap_new w _ rfl)
  go_enter Try.func19, Try.ntmps19
  go_wp2
  generalize ((w.alloc (.cells #[.int .i64 9, .int .i64 0, .int .i64 t, .int .i64 j, .int .i64 0, .int .i64 0, .int .i64 0, .int .i64 0, .int .i64 0, .int .i64 0, .int .i64 0, .slice none 0 0, .bool false, .slice none 0 0, .slice none 0 0] 34)).alloc (.cells #[.int .i64 t, .int .i64 j] 134)) = w9 at hA hbx ⊢
  have x0 : w9.cell? ⟨w.heap.size, 0, none⟩ = some (.int .i64 9) := cell_blk hbx rfl
  have x1 : w9.cell? ⟨w.heap.size, 1, none⟩ = some (.int .i64 0) := cell_blk hbx rfl
  have x2 : w9.cell? ⟨w.heap.size, 2, none⟩ = some (.int .i64 t) := cell_blk hbx rfl
  have x3 : w9.cell? ⟨w.heap.size, 3, none⟩ = some (.int .i64 j) := cell_blk hbx rfl
  have x4 : w9.cell? ⟨w.heap.size, 4, none⟩ = some (.int .i64 0) := cell_blk hbx rfl
  have x5 : w9.cell? ⟨w.heap.size, 5, none⟩ = some (.int .i64 0) := cell_blk hbx rfl
  have x6 : w9.cell? ⟨w.heap.size, 6, none⟩ = some (.int .i64 0) := cell_blk hbx rfl
  have x7 : w9.cell? ⟨w.heap.size, 7, none⟩ = some (.int .i64 0) := cell_blk hbx rfl
  have x8 : w9.cell? ⟨w.heap.size, 8, none⟩ = some (.int .i64 0) := cell_blk hbx rfl
  have x9 : w9.cell? ⟨w.heap.size, 9, none⟩ = some (.int .i64 0) := cell_blk hbx rfl
  have x10 : w9.cell? ⟨w.heap.size, 10, none⟩ = some (.int .i64 0) := cell_blk hbx rfl
  have x11 : w9.cell? ⟨w.heap.size, 11, none⟩ = some (.slice none 0 0) := cell_blk hbx rfl
  have x12 : w9.cell? ⟨w.heap.size, 12, none⟩ = some (.bool false) := cell_blk hbx rfl
  have x13 : w9.cell? ⟨w.heap.size, 13, none⟩ = some (.slice none 0 0) := cell_blk hbx rfl
  have x14 : w9.cell? ⟨w.heap.size, 14, none⟩ = some (.slice none 0 0) := cell_blk hbx rfl
  refine bodyPost_ret (by simp [results, Try.results19, go_sem, x0, x1, x2, x3, x4, x5, x6, x7, x8, x9, x10, x11, x12, x13, x14]; try rfl) rfl ?_
  exact ⟨rfl, hA⟩

set_option maxRecDepth 100000 in
set_option maxHeartbeats 4000000 in
theorem like_unpd (w : World) (a t j : Int) : Calls Try.prog 19 #[.iface 135 (.agg #[.int .i64 a, .int .i64 t, .int .i64 j])] w fun e w' => e = .returned (.agg #[.int .i64 10, .int .i64 a, .int .i64 t, .int .i64 j, .int .i64 0, .int .i64 0, .int .i64 0, .int .i64 0, .int .i64 0, .int .i64 0, .int .i64 0, .slice none 0 0, .bool false, .slice none 0 0, .slice none 0 0]) ∧ Below w.heap.size w w' := by
  have hA := below_alloc (below_alloc (Below.refl w.heap.size w) (.cells #[.int .i64 10, .int .i64 a, .int .i64 t, .int .i64 j, .int .i64 0, .int .i64 0, .int .i64 0, .int .i64 0, .int .i64 0, .int .i64 0, .int .i64 0, .slice none 0 0, .bool false, .slice none 0 0, .slice none 0 0] 34)) (.cells #[.int .i64 a, .int .i64 t, .int .i64 j] 135)
  have hbx : ((w.alloc (.cells #[.int .i64 10, .int .i64 a, .int .i64 t, .int .i64 j, .int .i64 0, .int .i64 0, .int .i64 0, .int .i64 0, .int .i64 0, .int .i64 0, .int .i64 0, .slice none 0 0, .bool false, .slice none 0 0, .slice none 0 0] 34)).alloc (.cells #[.int .i64 a, .int .i64 t, .int .i64 j] 135)).heap[w.heap.size]? = some (.cells #[.int .i64 10, .int .i64 a, .int .i64 t, .int .i64 j, .int .i64 0, .int .i64 0, .int .i64 0, .int .i64 0, .int .i64 0, .int .i64 0, .int .i64 0, .slice none 0 0, .bool false, .slice none 0 0, .slice none 0 0] 34 (0, 0)) := ((below_alloc (Below.refl (w.alloc (.cells #[.int .i64 10, .int .i64 a, .int .i64 t, .int .i64 j, .int .i64 0, .int .i64 0, .int .i64 0, .int .i64 0, .int .i64 0, .int .i64 0, .int .i64 0, .slice none 0 0, .bool false, .slice none 0 0, .slice none 0 0] 34)).heap.size _) _).block _ (by simp)).trans (heap_new w _ rfl)
  go_enter Try.func19, Try.ntmps19
  go_wp2
  generalize ((w.alloc (.cells #[.int .i64 10, .int .i64 a, .int .i64 t, .int .i64 j, .int .i64 0, .int .i64 0, .int .i64 0, .int .i64 0, .int .i64 0, .int .i64 0, .int .i64 0, .slice none 0 0, .bool false, .slice none 0 0, .slice none 0 0] 34)).alloc (.cells #[.int .i64 a, .int .i64 t, .int .i64 j] 135)) = w9 at hA hbx ⊢
  have x0 : w9.cell? ⟨w.heap.size, 0, none⟩ = some (.int .i64 10) := cell_blk hbx rfl
  have x1 : w9.cell? ⟨w.heap.size, 1, none⟩ = some (.int .i64 a) := cell_blk hbx rfl
  have x2 : w9.cell? ⟨w.heap.size, 2, none⟩ = some (.int .i64 t) := cell_blk hbx rfl
  have x3 : w9.cell? ⟨w.heap.size, 3, none⟩ = some (.int .i64 j) := cell_blk hbx rfl
  have x4 : w9.cell? ⟨w.heap.size, 4, none⟩ = some (.int .i64 0) := cell_blk hbx rfl
  have x5 : w9.cell? ⟨w.heap.size, 5, none⟩ = some (.int .i64 0) := cell_blk hbx rfl
  have x6 : w9.cell? ⟨w.heap.size, 6, none⟩ = some (.int .i64 0) := cell_blk hbx rfl
  have x7 : w9.cell? ⟨w.heap.size, 7, none⟩ = some (.int .i64 0) := cell_blk hbx rfl
  have x8 : w9.cell? ⟨w.heap.size, 8, none⟩ = some (.int .i64 0) := cell_blk hbx rfl
  have x9 : w9.cell? ⟨w.heap.size, 9, none⟩ = some (.int .i64 0) := cell_blk hbx rfl
  have x10 : w9.cell? ⟨w.heap.size, 10, none⟩ = some (.int .i64 0) := cell_blk hbx rfl
  have x11 : w9.cell? ⟨w.heap.size, 11, none⟩ = some (.slice none 0 0) := cell_blk hbx rfl
  have x12 : w9.cell? ⟨w.heap.size, 12, none⟩ = some (.bool false) := cell_blk hbx rfl
  have x13 : w9.cell? ⟨w.heap.size, 13, none⟩ = some (.slice none 0 0) := cell_blk hbx rfl
  have x14 : w9.cell? ⟨w.heap.size, 14, none⟩ = some (.slice none 0 0) := cell_blk hbx rfl
  refine bodyPost_ret (by simp [results, Try.results19, go_sem, x0, x1, x2, x3, x4, x5, x6, x7, x8, x9, x10, x11, x12, x13, x14]; try rfl) rfl ?_
  exact ⟨rfl, hA⟩
end Go.Proofs.Ytcdjeblcmgghhaa.Msg
