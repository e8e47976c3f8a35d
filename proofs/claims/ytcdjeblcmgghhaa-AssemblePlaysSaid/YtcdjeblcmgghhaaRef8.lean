/- What spoorlaw09.Like says of any message, and the reference's Right of what it says. Conditions: the message's slices lie in memory, and are small. -/
import Derived.Test.YtcdjeblcmgghhaaRef7
namespace Go.Proofs.Ytcdjeblcmgghhaa.Msg
open Go.RowKit Go.Sp Go.Sort

/-- a message's slices as the document's message has them -/
def LikeIn (w : World) (pv' : Value) : Mg → Prop
  | .pinned p => RS w 1 eInt p.cv p.cl
  | .chunk _ _ _ _ _ sv xs => RS w 3 eSpn sv xs
  | .mani _ _ _ _ ps => SL w.heap 30 6 pv' ps.length (ps.flatMap ePt) ∧ ∀ p ∈ ps, RS w 1 eInt p.cv p.cl
  | _ => True
theorem LikeIn.below {w w' : World} {pv' : Value} {m : Mg} (h : LikeIn w pv' m) (o : Below w.heap.size w w') : LikeIn w' pv' m := by
  cases m <;> first | trivial | exact RS.only h (only_of_below o (fun _ => False)) (fun _ _ => id) | exact ⟨h.1.only (only_of_below o (fun _ => False)) (fun _ _ => id), fun p hp => (h.2 p hp).only (only_of_below o (fun _ => False)) (fun _ _ => id)⟩

theorem like_none (w : World) : Calls Try.prog 19 #[.nilIface] w fun e w' => e = .returned (.agg (eMs (likeM (.slice none 0 0) .none)).toArray) ∧ Below w.heap.size w w' := by
  have hA := below_alloc (Below.refl w.heap.size w) (.cells #[.int .i64 0, .int .i64 0, .int .i64 0, .int .i64 0, .int .i64 0, .int .i64 0, .int .i64 0, .int .i64 0, .int .i64 0, .int .i64 0, .int .i64 0, .slice none 0 0, .bool false, .slice none 0 0, .slice none 0 0] 34)
  have hbx := heap_new w (.cells #[.int .i64 0, .int .i64 0, .int .i64 0, .int .i64 0, .int .i64 0, .int .i64 0, .int .i64 0, .int .i64 0, .int .i64 0, .int .i64 0, .int .i64 0, .slice none 0 0, .bool false, .slice none 0 0, .slice none 0 0] 34) rfl
  go_enter Try.func19, Try.ntmps19
  go_wp2
  generalize (w.alloc (.cells #[.int .i64 0, .int .i64 0, .int .i64 0, .int .i64 0, .int .i64 0, .int .i64 0, .int .i64 0, .int .i64 0, .int .i64 0, .int .i64 0, .int .i64 0, .slice none 0 0, .bool false, .slice none 0 0, .slice none 0 0] 34)) = w9 at hA hbx ⊢
  have x0 : w9.cell? ⟨w.heap.size, 0, none⟩ = some (.int .i64 0) := cell_blk hbx rfl
  have x1 : w9.cell? ⟨w.heap.size, 1, none⟩ = some (.int .i64 0) := cell_blk hbx rfl
  have x2 : w9.cell? ⟨w.heap.size, 2, none⟩ = some (.int .i64 0) := cell_blk hbx rfl
  have x3 : w9.cell? ⟨w.heap.size, 3, none⟩ = some (.int .i64 0) := cell_blk hbx rfl
  have x4 : w9.cell? ⟨w.heap.size, 4, none⟩ = some (.int .i64 0) := cell_blk hbx rfl
  have x5 : w9.cell? ⟨w.heap.size, 5, none⟩ = some (.int .i64 0) := cell_blk hbx rfl
  have x6 : w9.cell? ⟨w.heap.size, 6, none⟩ = some (.int .i64 0) := cell_blk hbx rfl
  have x7 : w9.cell? ⟨w.heap.size, 7, none⟩ = some (.int .i64 0) := cell_blk hbx rfl
  have x8 : w9.cell? ⟨w.heap.size, 8, none⟩ = some (.int .i64 0) := cell_blk hbx rfl
  have x9 : w9.cell? ⟨w.heap.size, 9, none⟩ = some (.int .i64 0) := cell_blk hbx rfl
  have x10 : w9.cell? ⟨w.heap.size, 10, none⟩ = some (.int .i64 0) := cell_blk hbx rfl
  have x11 : w9.cell? ⟨w.heap.size, 11, none⟩ = some (.slice none 0 0) := cell_blk hbx rfl
  have x12 : w9.cell? ⟨w.heap.size, 12, none⟩ = some (.bool false) := cell_blk hbx rfl
  have x13 : w9.cell? ⟨w.heap.size, 13, none⟩ = some (.slice none 0 0) := cell_blk hbx rfl
  have x14 : w9.cell? ⟨w.heap.size, 14, none⟩ = some (.slice none 0 0) := cell_blk hbx rfl
  refine bodyPost_ret (by simp [results, Try.results19, go_sem, x0, x1, x2, x3, x4, x5, x6, x7, x8, x9, x10, x11, x12, x13, x14]; try rfl) rfl ?_
  exact ⟨rfl, hA⟩

theorem like_any {w : World} {m : Mg} (h : InMem w m) (hs : Small m) : Calls Try.prog 19 #[val m] w fun e w' => ∃ pv', e = .returned (.agg (eMs (likeM pv' m)).toArray) ∧ LikeIn w' pv' m ∧ (∀ g, pv'.ownBlock = some g → w.heap.size ≤ g) ∧ Below w.heap.size w w' := by
  have nb : ∀ g, (Value.slice none 0 0).ownBlock = some g → w.heap.size ≤ g := fun g hg => by simp [Value.ownBlock] at hg
  cases m with
  | none => exact (like_none w).mono fun e w' ⟨h1, h2⟩ => ⟨.slice none 0 0, h1, trivial, nb, h2⟩
  | trig a t c => exact (like_trig w a t c).mono fun e w' ⟨h1, h2⟩ => ⟨.slice none 0 0, h1, trivial, nb, h2⟩
  | pin t j => exact (like_pin w t j).mono fun e w' ⟨h1, h2⟩ => ⟨.slice none 0 0, h1, trivial, nb, h2⟩
  | gone a t j => exact (like_gone w a t j).mono fun e w' ⟨h1, h2⟩ => ⟨.slice none 0 0, h1, trivial, nb, h2⟩
  | coll t j => exact (like_coll w t j).mono fun e w' ⟨h1, h2⟩ => ⟨.slice none 0 0, h1, trivial, nb, h2⟩
  | stor t j => exact (like_stor w t j).mono fun e w' ⟨h1, h2⟩ => ⟨.slice none 0 0, h1, trivial, nb, h2⟩
  | unp t j => exact (like_unp w t j).mono fun e w' ⟨h1, h2⟩ => ⟨.slice none 0 0, h1, trivial, nb, h2⟩
  | unpd a t j => exact (like_unpd w a t j).mono fun e w' ⟨h1, h2⟩ => ⟨.slice none 0 0, h1, trivial, nb, h2⟩
  | pinned p =>
    obtain ⟨a, t, j, n, cv, cl, l⟩ := p
    have hr : RS w 1 eInt cv cl := h
    obtain ⟨_, ca, cc, rfl, _⟩ := id hr
    exact (like_pinned w a t j n ca cl.length cc l).mono fun e w' ⟨h1, h2⟩ => ⟨.slice none 0 0, h1, hr.only (only_of_below h2 (fun _ => False)) (fun _ _ => id), nb, h2⟩
  | chunk a t j i n sv xs =>
    have hr : RS w 3 eSpn sv xs := h
    obtain ⟨_, sa, sc, rfl, _⟩ := id hr
    exact (like_chunk w a t j i n sa xs.length sc).mono fun e w' ⟨h1, h2⟩ => ⟨.slice none 0 0, h1, hr.only (only_of_below h2 (fun _ => False)) (fun _ _ => id), nb, h2⟩
  | mani t j c pv ps =>
    have hp : Pts w pv ps := h
    obtain ⟨_, pa, pc, rfl, _⟩ := id hp.1
    refine (like_mani (t := t) (j := j) (c := c) hp hs).mono ?_
    rintro e w' ⟨pv', h1, h2, h3, h4⟩
    exact ⟨pv', h1, ⟨h2, fun p q => (hp.2 p q).only (only_of_below h4 (fun _ => False)) (fun _ _ => id)⟩, h3, h4⟩

theorem r59_any {w : World} {pv' : Value} {m : Mg} (h : LikeIn w pv' m) : Calls Try.prog 59 #[.agg (eMs (likeM pv' m)).toArray] w fun e w' => e = .returned (.bool (rightM m)) ∧ Below w.heap.size w w' := by
  cases m with
  | none => exact r59_none w
  | trig a t c => exact r59_trig w a t c
  | pin t j => exact r59_pin w t j
  | gone a t j => exact r59_gone w a t j
  | coll t j => exact r59_coll w t j
  | stor t j => exact r59_stor w t j
  | unp t j => exact r59_unp w t j
  | unpd a t j => exact r59_unpd w a t j
  | pinned p =>
    obtain ⟨a, t, j, n, cv, cl, l⟩ := p
    have hr : RS w 1 eInt cv cl := h
    obtain ⟨_, ca, cc, rfl, _⟩ := id hr
    exact r59_pinC hr
  | chunk a t j i n sv xs =>
    have hr : RS w 3 eSpn sv xs := h
    obtain ⟨_, sa, sc, rfl, _⟩ := id hr
    exact r59_chunk w a t j i n hr
  | mani t j c pv ps =>
    have hp : SL w.heap 30 6 pv' ps.length (ps.flatMap ePt) ∧ ∀ p ∈ ps, RS w 1 eInt p.cv p.cl := h
    obtain ⟨pa, pc, rfl⟩ := hp.1.form
    exact r59_mani (t := t) (j := j) (c := c) ⟨SL.rs (enc := ePt) (size := 6) (fun _ => rfl) hp.1, hp.2⟩
end Go.Proofs.Ytcdjeblcmgghhaa.Msg
