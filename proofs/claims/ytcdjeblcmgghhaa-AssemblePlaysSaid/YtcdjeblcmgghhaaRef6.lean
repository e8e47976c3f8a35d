/- What spoorlaw09.Like says of a Pinned and a Chunk. Conditions: the message's slices lie in memory. PRINTED BY wip/gen_ref6.py. -/
import Derived.Test.YtcdjeblcmgghhaaRef5
namespace Go.Proofs.Ytcdjeblcmgghhaa.Msg
open Go.RowKit Go.Sp Go.Sort


set_option maxRecDepth 100000 in
set_option maxHeartbeats 2000000 in
theorem likeP_any (w : World) (a t j n : Int) (ca : Option Addr) (cn cc : Nat) (l : Bool) : Calls Try.prog 60 #[.agg #[.int .i64 a, .int .i64 t, .int .i64 j, .int .i64 n, .slice ca cn cc, .bool l]] w fun e w' => e = .returned (.agg #[.int .i64 a, .int .i64 t, .int .i64 j, .int .i64 n, .slice ca cn cc, .bool l]) ∧ w' = (w.alloc (.cells #[.int .i64 a, .int .i64 t, .int .i64 j, .int .i64 n, .slice ca cn cc, .bool l] 65)).alloc (.cells #[.int .i64 a, .int .i64 t, .int .i64 j, .int .i64 n, .slice ca cn cc, .bool l] 30) := by
  have g5 : ((w.alloc (.cells #[.int .i64 a, .int .i64 t, .int .i64 j, .int .i64 n, .slice ca cn cc, .bool l] 65)).alloc (.cells #[.int .i64 a, .int .i64 t, .int .i64 j, .int .i64 n, .slice ca cn cc, .bool l] 30)).heap[w.heap.size + 1]? = some (.cells #[.int .i64 a, .int .i64 t, .int .i64 j, .int .i64 n, .slice ca cn cc, .bool l] 30 (0, 0)) := heap_new _ _ (by simp)
  go_enter Try.func60, Try.ntmps60
  go_wp2
  obtain ⟨w9, hw9⟩ : ∃ w9, w9 = (w.alloc (.cells #[.int .i64 a, .int .i64 t, .int .i64 j, .int .i64 n, .slice ca cn cc, .bool l] 65)).alloc (.cells #[.int .i64 a, .int .i64 t, .int .i64 j, .int .i64 n, .slice ca cn cc, .bool l] 30) := ⟨_, rfl⟩
  rw [← hw9] at g5
  have x0 : w9.cell? ⟨w.heap.size + 1, 0, none⟩ = some (.int .i64 a) := cell_blk g5 rfl
  have x1 : w9.cell? ⟨w.heap.size + 1, 1, none⟩ = some (.int .i64 t) := cell_blk g5 rfl
  have x2 : w9.cell? ⟨w.heap.size + 1, 2, none⟩ = some (.int .i64 j) := cell_blk g5 rfl
  have x3 : w9.cell? ⟨w.heap.size + 1, 3, none⟩ = some (.int .i64 n) := cell_blk g5 rfl
  have x4 : w9.cell? ⟨w.heap.size + 1, 4, none⟩ = some (.slice ca cn cc) := cell_blk g5 rfl
  have x5 : w9.cell? ⟨w.heap.size + 1, 5, none⟩ = some (.bool l) := cell_blk g5 rfl
  rw [← hw9]
  refine bodyPost_ret (by simp [results, Try.results60, go_sem, x0, x1, x2, x3, x4, x5]; try rfl) rfl ?_
  exact ⟨rfl, rfl⟩


set_option maxRecDepth 100000 in
set_option maxHeartbeats 4000000 in
theorem like_chunk (w : World) (a t j i n : Int) (sa : Option Addr) (sn sc : Nat) : Calls Try.prog 19 #[.iface 67 (.agg #[.int .i64 a, .int .i64 t, .int .i64 j, .int .i64 i, .int .i64 n, .slice sa sn sc])] w fun e w' => e = .returned (.agg #[.int .i64 6, .int .i64 a, .int .i64 t, .int .i64 j, .int .i64 0, .int .i64 i, .int .i64 n, .int .i64 0, .int .i64 0, .int .i64 0, .int .i64 0, .slice none 0 0, .bool false, .slice none 0 0, .slice sa sn sc]) ∧ Below w.heap.size w w' := by
  have hA := below_alloc (below_alloc (Below.refl w.heap.size w) (.cells #[.int .i64 6, .int .i64 a, .int .i64 t, .int .i64 j, .int .i64 0, .int .i64 i, .int .i64 n, .int .i64 0, .int .i64 0, .int .i64 0, .int .i64 0, .slice none 0 0, .bool false, .slice none 0 0, .slice sa sn sc] 34)) (.cells #[.int .i64 a, .int .i64 t, .int .i64 j, .int .i64 i, .int .i64 n, .slice sa sn sc] 67)
  have hbx : ((w.alloc (.cells #[.int .i64 6, .int .i64 a, .int .i64 t, .int .i64 j, .int .i64 0, .int .i64 i, .int .i64 n, .int .i64 0, .int .i64 0, .int .i64 0, .int .i64 0, .slice none 0 0, .bool false, .slice none 0 0, .slice sa sn sc] 34)).alloc (.cells #[.int .i64 a, .int .i64 t, .int .i64 j, .int .i64 i, .int .i64 n, .slice sa sn sc] 67)).heap[w.heap.size]? = some (.cells #[.int .i64 6, .int .i64 a, .int .i64 t, .int .i64 j, .int .i64 0, .int .i64 i, .int .i64 n, .int .i64 0, .int .i64 0, .int .i64 0, .int .i64 0, .slice none 0 0, .bool false, .slice none 0 0, .slice sa sn sc] 34 (0, 0)) := ((below_alloc (Below.refl (w.alloc (.cells #[.int .i64 6, .int .i64 a, .int .i64 t, .int .i64 j, .int .i64 0, .int .i64 i, .int .i64 n, .int .i64 0, .int .i64 0, .int .i64 0, .int .i64 0, .slice none 0 0, .bool false, .slice none 0 0, .slice sa sn sc] 34)).heap.size _) _).block _ (by simp)).trans (heap_new w _ rfl)
  go_enter Try.func19, Try.ntmps19
  go_wp2
  generalize ((w.alloc (.cells #[.int .i64 6, .int .i64 a, .int .i64 t, .int .i64 j, .int .i64 0, .int .i64 i, .int .i64 n, .int .i64 0, .int .i64 0, .int .i64 0, .int .i64 0, .slice none 0 0, .bool false, .slice none 0 0, .slice sa sn sc] 34)).alloc (.cells #[.int .i64 a, .int .i64 t, .int .i64 j, .int .i64 i, .int .i64 n, .slice sa sn sc] 67)) = w9 at hA hbx ⊢
  have x0 : w9.cell? ⟨w.heap.size, 0, none⟩ = some (.int .i64 6) := cell_blk hbx rfl
  have x1 : w9.cell? ⟨w.heap.size, 1, none⟩ = some (.int .i64 a) := cell_blk hbx rfl
  have x2 : w9.cell? ⟨w.heap.size, 2, none⟩ = some (.int .i64 t) := cell_blk hbx rfl
  have x3 : w9.cell? ⟨w.heap.size, 3, none⟩ = some (.int .i64 j) := cell_blk hbx rfl
  have x4 : w9.cell? ⟨w.heap.size, 4, none⟩ = some (.int .i64 0) := cell_blk hbx rfl
  have x5 : w9.cell? ⟨w.heap.size, 5, none⟩ = some (.int .i64 i) := cell_blk hbx rfl
  have x6 : w9.cell? ⟨w.heap.size, 6, none⟩ = some (.int .i64 n) := cell_blk hbx rfl
  have x7 : w9.cell? ⟨w.heap.size, 7, none⟩ = some (.int .i64 0) := cell_blk hbx rfl
  have x8 : w9.cell? ⟨w.heap.size, 8, none⟩ = some (.int .i64 0) := cell_blk hbx rfl
  have x9 : w9.cell? ⟨w.heap.size, 9, none⟩ = some (.int .i64 0) := cell_blk hbx rfl
  have x10 : w9.cell? ⟨w.heap.size, 10, none⟩ = some (.int .i64 0) := cell_blk hbx rfl
  have x11 : w9.cell? ⟨w.heap.size, 11, none⟩ = some (.slice none 0 0) := cell_blk hbx rfl
  have x12 : w9.cell? ⟨w.heap.size, 12, none⟩ = some (.bool false) := cell_blk hbx rfl
  have x13 : w9.cell? ⟨w.heap.size, 13, none⟩ = some (.slice none 0 0) := cell_blk hbx rfl
  have x14 : w9.cell? ⟨w.heap.size, 14, none⟩ = some (.slice sa sn sc) := cell_blk hbx rfl
  refine bodyPost_ret (by simp [results, Try.results19, go_sem, x0, x1, x2, x3, x4, x5, x6, x7, x8, x9, x10, x11, x12, x13, x14]; try rfl) rfl ?_
  exact ⟨rfl, hA⟩

set_option maxRecDepth 100000 in
set_option maxHeartbeats 4000000 in
theorem like_pinned (w : World) (a t j n : Int) (ca : Option Addr) (cn cc : Nat) (l : Bool) : Calls Try.prog 19 #[.iface 65 (.agg #[.int .i64 a, .int .i64 t, .int .i64 j, .int .i64 n, .slice ca cn cc, .bool l])] w fun e w' => e = .returned (.agg #[.int .i64 3, .int .i64 0, .int .i64 0, .int .i64 0, .int .i64 0, .int .i64 0, .int .i64 0, .int .i64 a, .int .i64 t, .int .i64 j, .int .i64 n, .slice ca cn cc, .bool l, .slice none 0 0, .slice none 0 0]) ∧ Below w.heap.size w w' := by
  have hA := below_alloc (below_alloc (below_alloc (below_alloc (Below.refl w.heap.size w) (.cells #[.int .i64 3, .int .i64 0, .int .i64 0, .int .i64 0, .int .i64 0, .int .i64 0, .int .i64 0, .int .i64 a, .int .i64 t, .int .i64 j, .int .i64 n, .slice ca cn cc, .bool l, .slice none 0 0, .slice none 0 0] 34)) (.cells #[.int .i64 a, .int .i64 t, .int .i64 j, .int .i64 n, .slice ca cn cc, .bool l] 65)) (.cells #[.int .i64 a, .int .i64 t, .int .i64 j, .int .i64 n, .slice ca cn cc, .bool l] 65)) (.cells #[.int .i64 a, .int .i64 t, .int .i64 j, .int .i64 n, .slice ca cn cc, .bool l] 30)
  have hbx : ((((w.alloc (.cells #[.int .i64 3, .int .i64 0, .int .i64 0, .int .i64 0, .int .i64 0, .int .i64 0, .int .i64 0, .int .i64 a, .int .i64 t, .int .i64 j, .int .i64 n, .slice ca cn cc, .bool l, .slice none 0 0, .slice none 0 0] 34)).alloc (.cells #[.int .i64 a, .int .i64 t, .int .i64 j, .int .i64 n, .slice ca cn cc, .bool l] 65)).alloc (.cells #[.int .i64 a, .int .i64 t, .int .i64 j, .int .i64 n, .slice ca cn cc, .bool l] 65)).alloc (.cells #[.int .i64 a, .int .i64 t, .int .i64 j, .int .i64 n, .slice ca cn cc, .bool l] 30)).heap[w.heap.size]? = some (.cells #[.int .i64 3, .int .i64 0, .int .i64 0, .int .i64 0, .int .i64 0, .int .i64 0, .int .i64 0, .int .i64 a, .int .i64 t, .int .i64 j, .int .i64 n, .slice ca cn cc, .bool l, .slice none 0 0, .slice none 0 0] 34 (0, 0)) := ((below_alloc (below_alloc (below_alloc (Below.refl (w.alloc (.cells #[.int .i64 3, .int .i64 0, .int .i64 0, .int .i64 0, .int .i64 0, .int .i64 0, .int .i64 0, .int .i64 a, .int .i64 t, .int .i64 j, .int .i64 n, .slice ca cn cc, .bool l, .slice none 0 0, .slice none 0 0] 34)).heap.size _) _) _) _).block _ (by simp)).trans (heap_new w _ rfl)
  go_enter Try.func19, Try.ntmps19
  go_wp2_with fail
  refine (likeP_any _ a t j n ca cn cc l).mono ?_
  rintro e w3 ⟨rfl, rfl⟩
  go_wp2
  generalize ((((w.alloc (.cells #[.int .i64 3, .int .i64 0, .int .i64 0, .int .i64 0, .int .i64 0, .int .i64 0, .int .i64 0, .int .i64 a, .int .i64 t, .int .i64 j, .int .i64 n, .slice ca cn cc, .bool l, .slice none 0 0, .slice none 0 0] 34)).alloc (.cells #[.int .i64 a, .int .i64 t, .int .i64 j, .int .i64 n, .slice ca cn cc, .bool l] 65)).alloc (.cells #[.int .i64 a, .int .i64 t, .int .i64 j, .int .i64 n, .slice ca cn cc, .bool l] 65)).alloc (.cells #[.int .i64 a, .int .i64 t, .int .i64 j, .int .i64 n, .slice ca cn cc, .bool l] 30)) = w9 at hA hbx ⊢
  have x0 : w9.cell? ⟨w.heap.size, 0, none⟩ = some (.int .i64 3) := cell_blk hbx rfl
  have x1 : w9.cell? ⟨w.heap.size, 1, none⟩ = some (.int .i64 0) := cell_blk hbx rfl
  have x2 : w9.cell? ⟨w.heap.size, 2, none⟩ = some (.int .i64 0) := cell_blk hbx rfl
  have x3 : w9.cell? ⟨w.heap.size, 3, none⟩ = some (.int .i64 0) := cell_blk hbx rfl
  have x4 : w9.cell? ⟨w.heap.size, 4, none⟩ = some (.int .i64 0) := cell_blk hbx rfl
  have x5 : w9.cell? ⟨w.heap.size, 5, none⟩ = some (.int .i64 0) := cell_blk hbx rfl
  have x6 : w9.cell? ⟨w.heap.size, 6, none⟩ = some (.int .i64 0) := cell_blk hbx rfl
  have x7 : w9.cell? ⟨w.heap.size, 7, none⟩ = some (.int .i64 a) := cell_blk hbx rfl
  have x8 : w9.cell? ⟨w.heap.size, 8, none⟩ = some (.int .i64 t) := cell_blk hbx rfl
  have x9 : w9.cell? ⟨w.heap.size, 9, none⟩ = some (.int .i64 j) := cell_blk hbx rfl
  have x10 : w9.cell? ⟨w.heap.size, 10, none⟩ = some (.int .i64 n) := cell_blk hbx rfl
  have x11 : w9.cell? ⟨w.heap.size, 11, none⟩ = some (.slice ca cn cc) := cell_blk hbx rfl
  have x12 : w9.cell? ⟨w.heap.size, 12, none⟩ = some (.bool l) := cell_blk hbx rfl
  have x13 : w9.cell? ⟨w.heap.size, 13, none⟩ = some (.slice none 0 0) := cell_blk hbx rfl
  have x14 : w9.cell? ⟨w.heap.size, 14, none⟩ = some (.slice none 0 0) := cell_blk hbx rfl
  refine bodyPost_ret (by simp [results, Try.results19, go_sem, x0, x1, x2, x3, x4, x5, x6, x7, x8, x9, x10, x11, x12, x13, x14]; try rfl) rfl ?_
  exact ⟨rfl, hA⟩
end Go.Proofs.Ytcdjeblcmgghhaa.Msg
