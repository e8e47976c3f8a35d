/- slices.Clone, slices.BinarySearch and slices.Insert at []int, over slices that SL describes. Conditions: as named; a slice is no longer than a million elements. -/
import Derived.Test.YtcdjeblcmgghhaaListsLaid
import Derived.Test.YtcdjeblcmgghhaaSlice
import Derived.Test.YtcdjeblcmgghhaaInts
import Derived.Test.YtcdjeblcmgghhaaBase
namespace Go.Sp
open Go.RowKit


theorem SL.ofRow {w : World} {base n : Nat} {e : TypeId} {v : Value} {xs : List Value} (h : w.ownsRow base e 1 v n xs) : SL w.heap e 1 v n xs := by
  refine ⟨h.1, ?_⟩
  rcases h.2 with ⟨rfl, h0⟩ | ⟨g, cap, cur, rfl, _, hb, h1, h2, h3, h4⟩
  · exact .inl ⟨rfl, h0⟩
  · refine .inr ⟨g, 0, cap, cur, rfl, h1, h2, hb, by omega, fun j u hu => ?_⟩
    rw [← h4] at hu
    rw [Nat.zero_add]
    rw [List.getElem?_take] at hu
    split at hu
    · simpa using hu
    · simp at hu

theorem SL.cellI {w : World} {e : TypeId} {b off cap : Nat} {xs : List Int} (x : SL w.heap e 1 (.slice (some ⟨b, off, none⟩) xs.length cap) xs.length (xs.map zI)) : ∀ j, j < xs.length → w.cell? ⟨b, off + j, none⟩ = some (.int .i64 (xs.getD j 0)) := fun j hj =>
  x.cell (by simp [zI, hj])

theorem insCells {k : Nat} {xs : List Int} (x : Int) {off : Nat} {cur : Array Value} (hk : k ≤ xs.length)
    (h1 : ∀ j, j < k → ∀ u, xs[j]? = some u → cur[off + j]? = some (zI u)) (h2 : cur[off + k]? = some (zI x)) (h3 : ∀ j u, xs[k + j]? = some u → cur[off + (k + 1 + j)]? = some (zI u)) :
    ∀ j u, ((xs.take k ++ x :: xs.drop k).map zI)[j]? = some u → cur[off + j]? = some u := by
  intro j u hu
  rw [List.getElem?_map] at hu
  obtain ⟨y, hy, rfl⟩ := Option.map_eq_some_iff.1 hu
  have hl : (xs.take k).length = k := by simp [hk]
  by_cases hlt : j < k
  · rw [List.getElem?_append_left (by omega), List.getElem?_take, if_pos hlt] at hy
    exact h1 j hlt y hy
  · rw [List.getElem?_append_right (by omega), hl] at hy
    by_cases he : j = k
    · subst he
      simp at hy
      subst hy
      exact h2
    · obtain ⟨i, rfl⟩ : ∃ i, j = k + 1 + i := ⟨j - (k + 1), by omega⟩
      rw [show k + 1 + i - k = i + 1 from by omega] at hy
      rw [List.getElem?_cons_succ, List.getElem?_drop] at hy
      exact h3 i y hy

theorem insLen {k : Nat} {xs : List Int} (x : Int) (hk : k ≤ xs.length) : ((xs.take k ++ x :: xs.drop k).map zI).length = (xs.length + 1) * 1 := by
  simp; omega
end Go.Sp

namespace Go.Proofs.Ytcdjeblcmgghhaa
open Go.RowKit Go.Sp Go.Shelf

theorem clone_any {w : World} {v : Value} {xs : List Int} (h : SL w.heap 3 1 v xs.length (xs.map zI)) (hn : xs.length ≤ 1000000) :
    Calls Try.prog 63 #[v] w fun e w' => ∃ v', e = .returned v' ∧ SL w'.heap 3 1 v' xs.length (xs.map zI) ∧ (∀ g, v'.ownBlock = some g → w.heap.size ≤ g) ∧ Below w.heap.size w w' := by
  rcases h.2 with ⟨rfl, h0⟩ | ⟨b, off, cap, cur, rfl, h1, h2, h3, h4, h5⟩
  · refine (Any.slices_Clone_int_nil Try.cloneI 0 0 w).mono ?_
    rintro e w' ⟨rfl, rfl⟩
    exact ⟨_, rfl, h, fun g hg => by simp [Value.ownBlock] at hg, Below.refl _ _⟩
  · refine (Any.slices_Clone_int Try.cloneI b off xs.length cap xs w (Nat.le_refl _) (by omega) h.cellI).mono ?_
    rintro e w' ⟨v', rfl, hr, _, hb⟩
    rw [List.take_length] at hr
    exact ⟨v', rfl, SL.ofRow hr, fun g hg => (hr.lt g hg).1, hb⟩

theorem search_any {w : World} {v : Value} {xs : List Int} (h : SL w.heap 3 1 v xs.length (xs.map zI)) (hs : xs.Pairwise (· ≤ ·)) (hn : xs.length ≤ 1000000) (x : Int) :
    Calls Try.prog 68 #[v, .int .i64 x] w fun e w' => e = .returned (.tuple #[.int .i64 (xs.countP (· < x) : Nat), .bool (xs.contains x)]) ∧ ∃ q, w' = w.drewN q := by
  rcases h.2 with ⟨rfl, h0⟩ | ⟨b, off, cap, cur, rfl, h1, h2, h3, h4, h5⟩
  · refine (Any.slices_BinarySearch_int_empty Try.searchI none 0 x w).mono ?_
    rintro e w' ⟨rfl, rfl⟩
    have : xs = [] := List.eq_nil_of_length_eq_zero h0
    subst this
    exact ⟨rfl, 0, rfl⟩
  · have hx : (xs.take xs.length).Pairwise (· ≤ ·) := by rw [List.take_length]; exact hs
    refine (Any.slices_BinarySearch_int Try.searchI b off xs.length cap xs x w (Nat.le_refl _) (by omega) h.cellI hx).mono ?_
    rintro e w' ⟨rfl, hq⟩
    rw [List.take_length]
    exact ⟨rfl, hq⟩

set_option maxHeartbeats 1000000 in
theorem insert_any {w : World} {v : Value} {xs : List Int} {k vb vc : Nat} {x : Int} {tv : TypeId} (h : SL w.heap 3 1 v xs.length (xs.map zI)) (hk : k ≤ xs.length) (hn : xs.length ≤ 1000000)
    (hv : w.heap[vb]? = some (.cells #[.int .i64 x] tv (0, 0))) (hne : v.ownBlock ≠ some vb) :
    Calls Try.prog 69 #[v, .int .i64 k, .slice (some ⟨vb, 0, none⟩) 1 vc] w fun e w' => ∃ v', e = .returned v' ∧
      SL w'.heap 3 1 v' (xs.length + 1) ((xs.take k ++ x :: xs.drop k).map zI) ∧ Only (fun j => v.ownBlock = some j) w w' ∧ (v'.ownBlock = v.ownBlock ∨ v'.ownBlock = some w.heap.size) := by
  have hvs : ∀ j u, [Value.int .i64 x][j]? = some u → w.cell? ⟨vb, 0 + j, none⟩ = some u := by
    intro j u hu
    simp [World.cell?, hv, hu]
  have h1v : ∀ u ∈ [Value.int .i64 x], u.oneCell' = true := by simp [Value.oneCell']
  have h1c : ∀ u ∈ xs.map zI, u.oneCell' = true := by
    intro u hu
    obtain ⟨y, _, rfl⟩ := List.mem_map.1 hu
    rfl
  have hlen := insLen x hk
  have grown : ∀ c, c < xs.length + 1 → ∀ (cur : Array Value) (W : World), W.heap[w.heap.size]? = some (.cells cur 3 (0, 0)) → cur.size = grownCap w (xs.length + 1) c 3 → (∀ j u, ((xs.take k ++ x :: xs.drop k).map zI)[j]? = some u → cur[0 + j]? = some u) →
      SL W.heap 3 1 (.slice (some ⟨w.heap.size, 0, none⟩) (xs.length + 1) (grownCap w (xs.length + 1) c 3)) (xs.length + 1) ((xs.take k ++ x :: xs.drop k).map zI) := by
    intro c hc cur W hW hs hj
    exact ⟨hlen, .inr ⟨w.heap.size, 0, _, cur, rfl, grownCap_ge w _ c _, grownCap_le_maxLen w _ c _ (by unfold maxLen; omega), hW, by omega, hj⟩⟩
  by_cases hke : k = xs.length
  · subst hke
    have hend : (xs.take xs.length ++ x :: xs.drop xs.length) = xs ++ [x] := by simp
    have he2 : (xs ++ [x]).map zI = xs.map zI ++ [Value.int .i64 x] := by simp [zI]
    have newEnd : ∀ c, c < xs.length + 1 → ∀ W, W = w.drew.alloc (.cells ((xs.map zI ++ [Value.int .i64 x]).toArray ++ Builtin.zeroCells (Value.int .i64 0).cells (grownCap w (xs.length + 1) c 3 - (xs.length + 1))) 3) →
        SL W.heap 3 1 (.slice (some ⟨w.heap.size, 0, none⟩) (xs.length + 1) (grownCap w (xs.length + 1) c 3)) (xs.length + 1) ((xs.take xs.length ++ x :: xs.drop xs.length).map zI) ∧ Only (fun j => v.ownBlock = some j) w W := by
      rintro c hc W rfl
      refine ⟨grown c hc _ _ (heap_alloc_new w.drew _) ?_ ?_, ((Only.refl _ w).drew).alloc _⟩
      · have := grownCap_ge w (xs.length + 1) c 3
        simp [size_zeroCells, Value.cells]; omega
      · intro j u hu
        rw [hend, he2] at hu
        have hj : j < (xs.map zI ++ [Value.int .i64 x]).length := (List.getElem?_eq_some_iff.1 hu).1
        rw [Nat.zero_add, Array.getElem?_append_left (by simpa using hj)]
        simpa using hu
    rcases h.2 with ⟨rfl, h0⟩ | ⟨b, off, cap, cur, rfl, h1, h2, h3, h4, h5⟩
    · have : xs = [] := List.eq_nil_of_length_eq_zero h0
      subst this
      refine (Any2.slices_Insert_int_end_grow Try.insertI none 0 0 vb 0 1 vc [] [.int .i64 x] w (by omega) (by omega) (by omega) (by omega) rfl rfl (fun _ => rfl) (fun a ha => by cases ha) hvs h1v).mono ?_
      rintro e w' ⟨rfl, hw⟩
      obtain ⟨g1, g2⟩ := newEnd 0 (by simp) w' hw
      exact ⟨_, rfl, g1, g2, .inr rfl⟩
    · have hcell : ∀ j u, (xs.map zI)[j]? = some u → w.cell? ⟨b, off + j, none⟩ = some u := fun j u hu => h.cell hu
      by_cases hroom : xs.length + 1 ≤ cap
      · refine (Any2.slices_Insert_int_end_room Try.insertI b off xs.length cap vb 0 1 vc [.int .i64 x] w (by omega) hroom (by unfold maxLen at h2; omega) rfl (fun j hj => by simp [World.cell?, h3]; omega) (fun j hj => by simp [World.frozen?, h3]) hvs h1v).mono ?_
        rintro e w' ⟨rfl, rfl⟩
        obtain ⟨cur', g1, g2, g3⟩ := heap_setCells_cells [Value.int .i64 x] (off + xs.length) w cur h3
        refine ⟨_, rfl, ⟨hlen, .inr ⟨b, off, cap, cur', rfl, hroom, h2, g1, by omega, ?_⟩⟩, (only_setCells _ _ _ _).mono (fun i _ hi => by simp [Value.ownBlock, hi]), .inl rfl⟩
        intro j u hu
        rw [hend, he2] at hu
        rw [g3]
        have hj : j < (xs.map zI ++ [Value.int .i64 x]).length := (List.getElem?_eq_some_iff.1 hu).1
        simp at hj
        by_cases hlt : j < xs.length
        · rw [if_neg (by omega)]
          rw [List.getElem?_append_left (by simpa using hlt)] at hu
          exact h5 j u hu
        · have : j = xs.length := by omega
          subst this
          rw [if_pos (by simp; omega)]
          simp at hu ⊢
          exact hu
      · refine (Any2.slices_Insert_int_end_grow Try.insertI (some ⟨b, off, none⟩) xs.length cap vb 0 1 vc (xs.map zI) [.int .i64 x] w (by omega) h1 (by omega) (by omega) (by simp) rfl (fun h => by cases h) (fun a ha j u hu => by cases ha; rw [Addr.add_lit]; exact hcell j u hu) hvs h1v).mono ?_
        rintro e w' ⟨rfl, hw⟩
        obtain ⟨g1, g2⟩ := newEnd cap (by omega) w' hw
        exact ⟨_, rfl, g1, g2, .inr rfl⟩
  · rcases h.2 with ⟨rfl, h0⟩ | ⟨b, off, cap, cur, rfl, h1, h2, h3, h4, h5⟩
    · omega
    have hcell : ∀ j u, (xs.map zI)[j]? = some u → w.cell? ⟨b, off + j, none⟩ = some u := fun j u hu => h.cell hu
    have hvb : vb ≠ b := fun e => hne (by rw [e]; rfl)
    by_cases hroom : xs.length + 1 ≤ cap
    · refine (Any2.slices_Insert_int_shift Try.insertI b off xs.length cap k vb 0 1 vc (xs.map zI) [.int .i64 x] w (by omega) (by omega) hroom (by unfold maxLen at h2; omega) hvb (by simp) rfl hcell (fun j hj => by simp [World.cell?, h3]; omega) (fun j hj => by simp [World.frozen?, h3]) hvs h1c h1v tv 3 1 cur.size (by simp [World.shape?, hv]) (by simp [World.shape?, h3]) (by omega) (by simp [World.frozen?, hv]) (by simp [World.frozen?, hv])).mono ?_
      rintro e w' ⟨rfl, rfl⟩
      obtain ⟨cur1, g1, g2, g3⟩ := heap_setCells_cells ((xs.map zI).drop k) (off + (k + 1)) w.drew cur h3
      obtain ⟨cur2, f1, f2, f3⟩ := heap_setCells_cells [Value.int .i64 x] (off + k) _ cur1 g1
      refine ⟨_, rfl, ⟨hlen, .inr ⟨b, off, cap, cur2, rfl, hroom, h2, f1, by omega, insCells x hk ?_ ?_ ?_⟩⟩, ?_, .inl rfl⟩
      · intro j hj u hu
        rw [f3, if_neg (by simp; omega), g3, if_neg (by omega)]
        exact h5 j _ (by simp [hu, zI])
      · rw [f3, if_pos (by simp; omega)]
        simp [zI]
      · intro j u hu
        have hj : k + j < xs.length := (List.getElem?_eq_some_iff.1 hu).1
        rw [f3, if_neg (by simp; omega), g3, if_pos (by simp; omega)]
        rw [show off + (k + 1 + j) - (off + (k + 1)) = j from by omega]
        simp [hu, zI]
      · refine (((Only.refl (fun j => (Value.slice (some ⟨b, off, none⟩) xs.length cap).ownBlock = some j) w).drew).trans ((only_setCells b _ _ _).mono (fun i _ hi => by simp [Value.ownBlock, hi]))).trans ((only_setCells b _ _ _).mono (fun i _ hi => by simp [Value.ownBlock, hi]))
    · refine (Any2.slices_Insert_int_grow Try.insertI b off xs.length cap k vb 0 1 vc (xs.map zI) [.int .i64 x] w (by omega) (by omega) h1 (by omega) (by omega) (by simp) rfl hcell hvs h1c h1v).mono ?_
      rintro e w' ⟨rfl, hw⟩
      have hr : Try.insertI_ren.t 3 = 3 := rfl
      rw [hr] at hw ⊢
      have hge := grownCap_ge w (xs.length + 1) cap 3
      generalize hc0 : ((((xs.map zI).take k).toArray ++ Builtin.zeroCells (Value.int .i64 0).cells (xs.length + 1 - k) ++ Builtin.zeroCells (Value.int .i64 0).cells (grownCap w (xs.length + 1) cap 3 - (xs.length + 1)))) = cur0 at hw
      subst hw
      have hs0 : cur0.size = grownCap w (xs.length + 1) cap 3 := by
        rw [← hc0]
        simp [size_zeroCells, Value.cells]; omega
      have hb0 : ∀ j, j < k → ∀ u, xs[j]? = some u → cur0[j]? = some (zI u) := by
        intro j hj u hu
        have hj2 : j < xs.length := (List.getElem?_eq_some_iff.1 hu).1
        rw [← hc0, Array.getElem?_append_left (by simp [size_zeroCells, Value.cells]; omega), Array.getElem?_append_left (by simp; omega)]
        simp [hj, hu]
      obtain ⟨cur1, g1, g2, g3⟩ := heap_setCells_cells [Value.int .i64 x] k (w.alloc (.cells cur0 3)).drew cur0 (heap_alloc_new w _)
      obtain ⟨cur2, f1, f2, f3⟩ := heap_setCells_cells ((xs.map zI).drop k) (k + 1) (((w.alloc (.cells cur0 3)).drew.setCells w.heap.size k [.int .i64 x]).drew) cur1 g1
      refine ⟨_, rfl, grown cap (by omega) cur2 _ f1 (by omega) (insCells x hk ?_ ?_ ?_), ?_, .inr rfl⟩
      · intro j hj u hu
        rw [Nat.zero_add, f3, if_neg (by omega), g3, if_neg (by simp; omega)]
        exact hb0 j hj u hu
      · rw [Nat.zero_add, f3, if_neg (by omega), g3, if_pos (by simp; omega)]
        simp [zI]
      · intro j u hu
        have hj : k + j < xs.length := (List.getElem?_eq_some_iff.1 hu).1
        rw [Nat.zero_add, f3, if_pos (by simp; omega)]
        rw [show k + 1 + j - (k + 1) = j from by omega]
        simp [hu, zI]
      · refine (((Only.refl _ w).alloc _).drew.trans' (only_setCells _ _ _ _) ?_).drew.trans' (only_setCells _ _ _ _) ?_
        · intro i hi e; omega
        · intro i hi e; omega

end Go.Proofs.Ytcdjeblcmgghhaa
