/- job.Job in memory, and what a store to it, to a visit, and a new visit do. Conditions: it lies in memory as Jrep says. -/
import Derived.Test.YtniggacgkhkgiaaPkJobPlays10
import Derived.Test.YtniggacgkhkgiaaPkJobPlays5
import Derived.StillTailTactics
import Derived.Deep.RegionHeld3
import Derived.Deep.Cut
import Derived.Handy
namespace Go.Sp
open Go.RowKit
/-- how far an agent is: pinned, free, and what it told -/
structure Vis where
  pin : Bool
  free : Bool
  a : Int
  t : Int
  j : Int
  n : Int
  cl : List Int
  l : Bool
def zVis : Vis := ⟨false, false, 0, 0, 0, 0, [], false⟩
structure Jb where
  id : Int
  ag : Int
  tr : Int
  cl : Int
  ph : Int
  full : Bool
  kept : Bool
  vs : List (Int × Vis)
def ePtr (b : Nat) : Value := .pointer (some ⟨b, 0, none⟩)
def eVis (v : Vis) (cv : Value) : Array Value := #[.bool v.pin, .bool v.free, .int .i64 v.a, .int .i64 v.t, .int .i64 v.j, .int .i64 v.n, cv, .bool v.l]
def eJob (J : Jb) (mb : Nat) : Array Value := #[.int .i64 J.id, .int .i64 J.ag, .int .i64 J.tr, .int .i64 J.cl, .int .i64 J.ph, .map (some mb), .bool J.full, .bool J.kept]
theorem mget_unit {α : Type} (k : Int) : ∀ m : List (Int × α), mget k (m.map fun p => (p.1, ())) = (mget k m).map fun _ => ()
  | [] => rfl
  | p :: r => by
    simp only [List.map_cons, mget]
    by_cases e : p.1 = k
    · simp [e]
    · simp [e, mget_unit k r]
theorem keys_eq {α β : Type} {m : List (Int × α)} {m' : List (Int × β)} (h : KS m) (h' : KS m') (e : ∀ k, mget k m = none ↔ mget k m' = none) : m.map Prod.fst = m'.map Prod.fst := by
  have e2 : (m.map fun p => (p.1, ())) = m'.map fun p => (p.1, ()) := KS.ext (by unfold KS; rw [List.pairwise_map]; exact h) (by unfold KS; rw [List.pairwise_map]; exact h') (fun k => by
    rw [mget_unit, mget_unit]
    have := e k
    cases e1 : mget k m <;> cases e2 : mget k m' <;> simp [e1, e2] at this ⊢)
  have e3 := congrArg (List.map Prod.fst) e2
  simpa [List.map_map, Function.comp_def] using e3
theorem mget_mem' {α : Type} {k : Int} {m : List (Int × α)} (hs : KS m) {v : α} : mget k m = some v ↔ (k, v) ∈ m := ⟨mget_mem, mget_of_mem hs⟩
end Go.Sp
namespace Go.Proofs.Ytniggacgkhkgiaa.Job
open Go.RowKit Go.Sp Msg

/-- R: its own blocks; D, among them: those of the told crumbs -/
structure Jrep (w : World) (R D : Nat → Prop) (jb mb : Nat) (J : Jb) (rows : List (Int × Nat)) : Prop where
  blk : w.heap[jb]? = some (.cells (eJob J mb) 141 (0, 0))
  mp : IMap w.heap mb ePtr rows
  key : ∀ k, mget k rows = none ↔ mget k J.vs = none
  ks : KS J.vs
  vis : ∀ k b v, mget k rows = some b → mget k J.vs = some v → ∃ cv, w.heap[b]? = some (.cells (eVis v cv) 138 (0, 0)) ∧ RS w 1 eInt cv v.cl ∧ ∀ g, cv.ownBlock = some g → D g
  rown : ∀ k b, mget k rows = some b → R b ∧ ¬ D b
  dis : ∀ k k' b, mget k rows = some b → mget k' rows = some b → k = k'
  kr : ∀ p ∈ J.vs, 0 ≤ p.1 ∧ p.1 < 4
  rj : R jb
  rm : R mb
  dr : ∀ b, D b → R b
  dj : ¬ D jb
  dm : ¬ D mb
  rlt : ∀ b, R b → b < w.heap.size
  cls : ∀ p ∈ J.vs, p.2.cl.length ≤ 4

section
variable {w w1 w2 : World} {R D : Nat → Prop} {jb mb : Nat} {J J' : Jb} {rows : List (Int × Nat)} {k : Int} {b : Nat} {v v' : Vis}

theorem Jrep.rks (h : Jrep w R D jb mb J rows) : KS rows := h.mp.ks
theorem Jrep.has (h : Jrep w R D jb mb J rows) (hk : mget k rows = some b) : ∃ v, mget k J.vs = some v := by
  cases e : mget k J.vs with
  | none => rw [(h.key k).2 e] at hk; cases hk
  | some v => exact ⟨v, rfl⟩
theorem Jrep.has' (h : Jrep w R D jb mb J rows) (hk : mget k J.vs = some v) : ∃ b, mget k rows = some b := by
  cases e : mget k rows with
  | none => rw [(h.key k).1 e] at hk; cases hk
  | some b => exact ⟨b, rfl⟩
theorem Jrep.krow (h : Jrep w R D jb mb J rows) : ∀ p ∈ rows, 0 ≤ p.1 ∧ p.1 < 4 := fun p hp => by
  obtain ⟨v, hv⟩ := h.has (mget_of_mem h.rks hp)
  exact h.kr _ (mget_mem hv)
theorem Jrep.len (h : Jrep w R D jb mb J rows) : rows.length ≤ 4 := by
  have := keys_len h.rks h.krow (by omega); omega
theorem Jrep.vlen (h : Jrep w R D jb mb J rows) : J.vs.length ≤ 4 := by
  have := keys_len h.ks h.kr (by omega); omega
theorem Jrep.fsts (h : Jrep w R D jb mb J rows) : rows.map Prod.fst = J.vs.map Prod.fst :=
  keys_eq h.rks h.ks h.key
theorem Jrep.only {F : Nat → Prop} (h : Jrep w R D jb mb J rows) (o : Only F w w1) (hF : ∀ b, R b → ¬ F b) : Jrep w1 R D jb mb J rows :=
  ⟨o.heap h.blk (hF _ h.rj), h.mp.only o (hF _ h.rm), h.key, h.ks, fun k b v hk hv => by
    obtain ⟨cv, h1, h2, h3⟩ := h.vis k b v hk hv
    exact ⟨cv, o.heap h1 (hF _ (h.rown k b hk).1), h2.only o (fun g hg => hF _ (h.dr _ (h3 g hg))), h3⟩, h.rown, h.dis, h.kr, h.rj, h.rm, h.dr, h.dj, h.dm, fun b hb => Nat.lt_of_lt_of_le (h.rlt b hb) o.size, h.cls⟩
theorem Jrep.below (h : Jrep w R D jb mb J rows) (o : Below w.heap.size w w1) : Jrep w1 R D jb mb J rows := h.only (only_of_below o (fun _ => False)) (fun _ _ => id)
theorem Jrep.drewN (h : Jrep w R D jb mb J rows) (q : Nat) : Jrep (w.drewN q) R D jb mb J rows := h.below (belowN (Below.refl _ w) q)
theorem Jrep.cell (h : Jrep w R D jb mb J rows) {j : Nat} {u : Value} (hu : (eJob J mb)[j]? = some u) : w.cell? ⟨jb, j, none⟩ = some u := cell_blk h.blk hu
theorem Jrep.froz (h : Jrep w R D jb mb J rows) (j : Nat) : w.frozen? ⟨jb, j, none⟩ = false := froz_blk h.blk j
theorem Jrep.jlt (h : Jrep w R D jb mb J rows) : jb < w.heap.size := h.rlt _ h.rj

theorem zP (w : World) : (zeroValue 136).run Try.prog w = .ok (.pointer none) w := by kernel_rfl
theorem Jrep.look (h : Jrep w R D jb mb J rows) (k : Int) : (Instr.lookup 139 (.map (some mb)) (.int .i64 k) false).run Try.prog w = .ok (((mget k rows).map ePtr).getD (.pointer none)) w :=
  h.mp.lookup (P := Try.prog) false Try.underlying139 Try.underlying3 (zP _) k

theorem Jrep.vne (h : Jrep w R D jb mb J rows) (hk : mget k rows = some b) : b ≠ jb ∧ b ≠ mb := by
  obtain ⟨v, hv⟩ := h.has hk
  obtain ⟨cv, h1, _⟩ := h.vis k b v hk hv
  exact ⟨cells_ne h1 h.blk (by decide), fun e => map_ne_cells h.mp h1 e.symm⟩

/-- a store to the job's own block -/
theorem Jrep.turnJ (h : Jrep w R D jb mb J rows) (hO : Only (· = jb) w w2) (hb : w2.heap[jb]? = some (.cells (eJob J' mb) 141 (0, 0))) (hvs : J'.vs = J.vs) : Jrep w2 R D jb mb J' rows ∧ Only R w w2 := by
  have hne : jb ≠ mb := fun e => map_ne_cells h.mp h.blk e.symm
  refine ⟨⟨hb, h.mp.only hO (fun e => hne e.symm), by rw [hvs]; exact h.key, by rw [hvs]; exact h.ks, fun k b v hk hv => ?_, h.rown, h.dis, by rw [hvs]; exact h.kr, h.rj, h.rm, h.dr, h.dj, h.dm, fun b hb => Nat.lt_of_lt_of_le (h.rlt b hb) hO.size, by rw [hvs]; exact h.cls⟩, hO.mono fun b _ e => by rw [e]; exact h.rj⟩
  rw [hvs] at hv
  obtain ⟨cv, h1, h2, h3⟩ := h.vis k b v hk hv
  exact ⟨cv, hO.heap h1 (h.vne hk).1, h2.only hO (fun g hg e => h.dj (by rw [← e]; exact h3 g hg)), h3⟩

/-- a store to a visit's block -/
theorem Jrep.turnV (h : Jrep w R D jb mb J rows) (hk : mget k rows = some b) {cv : Value} (hO : Only (· = b) w w2) (hb : w2.heap[b]? = some (.cells (eVis v' cv) 138 (0, 0))) (hr : RS w2 1 eInt cv v'.cl) (hl : v'.cl.length ≤ 4)
    (hn : ∀ g, cv.ownBlock = some g → D g ∨ (¬ R g ∧ g < w2.heap.size)) : Jrep w2 (fun x => R x ∨ cv.ownBlock = some x) (fun x => D x ∨ cv.ownBlock = some x) jb mb { J with vs := mput k v' J.vs } rows ∧ Only R w w2 := by
  obtain ⟨v, hv⟩ := h.has hk
  have hne := h.vne hk
  have hnD : ∀ x, R x → ¬ D x → ¬ (D x ∨ cv.ownBlock = some x) := fun x hx hd e => by
    rcases e with e | e
    · exact hd e
    · rcases hn x e with e2 | e2
      · exact hd e2
      · exact e2.1 hx
  refine ⟨⟨hO.heap h.blk hne.1.symm, h.mp.only hO hne.2.symm, fun k' => ?_, h.ks.mput, fun k' b' u hk' hu => ?_, fun k' b' hk' => ⟨.inl (h.rown k' b' hk').1, hnD _ (h.rown k' b' hk').1 (h.rown k' b' hk').2⟩, h.dis, fun p hp => ?_, .inl h.rj, .inl h.rm, fun x hx => hx.imp (h.dr x) id, hnD _ h.rj h.dj, hnD _ h.rm h.dm, fun x hx => ?_, fun p hp => ?_⟩, hO.mono fun x _ e => by rw [e]; exact (h.rown k b hk).1⟩
  · simp only [mget_mput]
    by_cases e : k' = k
    · subst e; simp [hk]
    · rw [if_neg e]; exact h.key k'
  · simp only [mget_mput] at hu
    by_cases e : k' = k
    · subst e
      rw [if_pos rfl] at hu; cases hu
      rw [hk] at hk'; cases hk'
      exact ⟨cv, hb, hr, fun g hg => .inr hg⟩
    · rw [if_neg e] at hu
      obtain ⟨c, h1, h2, h3⟩ := h.vis k' b' u hk' hu
      exact ⟨c, hO.heap h1 (fun e2 => e (h.dis k' k b' hk' (by rw [e2]; exact hk))), h2.only hO (fun g hg e2 => (h.rown k b hk).2 (by rw [← e2]; exact h3 g hg)), fun g hg => .inl (h3 g hg)⟩
  · rcases mem_mput hp with rfl | hp
    · exact h.kr (k, v) (mget_mem hv)
    · exact h.kr p hp
  · rcases hx with hx | hx
    · exact Nat.lt_of_lt_of_le (h.rlt x hx) hO.size
    · rcases hn x hx with e | e
      · exact Nat.lt_of_lt_of_le (h.rlt x (h.dr x e)) hO.size
      · exact e.2
  · rcases mem_mput hp with rfl | hp
    · exact hl
    · exact h.cls p hp

/-- a new visit, made in block B and kept in the map -/
theorem Jrep.newV (h : Jrep w R D jb mb J rows) (hk : mget k rows = none) (hk4 : 0 ≤ k ∧ k < 4) {B : Nat} (hB : B = w.heap.size) (hA : Below w.heap.size w w1) (hb : w1.heap[B]? = some (.cells (eVis zVis (.slice none 0 0)) 138 (0, 0)))
    (hI : IMap w2.heap mb ePtr (mput k B rows)) (hO : Only (· = mb) w1 w2) : Jrep w2 (fun x => R x ∨ x = B) D jb mb { J with vs := mput k zVis J.vs } (mput k B rows) ∧ Only R w w2 := by
  subst hB
  have h1 := h.below hA
  have hm := h.rlt _ h.rm
  have hBlt : w.heap.size < w1.heap.size := (Array.getElem?_eq_some_iff.1 hb).1
  have hsz := hO.size
  have hvn : ∀ k' b', mget k' rows = some b' → b' < w.heap.size := fun k' b' hk' => h.rlt _ (h.rown k' b' hk').1
  refine ⟨⟨hO.heap h1.blk (fun e => map_ne_cells h.mp h.blk e.symm), hI, fun k' => ?_, h.ks.mput, fun k' b' u hk' hu => ?_, fun k' b' hk' => ?_, fun k1 k2 b' h1' h2' => ?_, fun p hp => ?_, .inl h.rj, .inl h.rm, fun x hx => .inl (h.dr x hx), h.dj, h.dm, fun x hx => ?_, fun p hp => ?_⟩, (only_of_below hA R).trans (hO.mono fun x _ e => by rw [e]; exact h.rm)⟩
  · simp only [mget_mput]
    by_cases e : k' = k
    · simp [e]
    · rw [if_neg e, if_neg e]; exact h.key k'
  · simp only [mget_mput] at hu hk'
    by_cases e : k' = k
    · rw [if_pos e] at hu hk'
      cases hu; cases hk'
      exact ⟨_, hO.heap hb (by omega), RS.nil _ _ _, fun g hg => by simp [Value.ownBlock] at hg⟩
    · rw [if_neg e] at hu hk'
      obtain ⟨c, g1, g2, g3⟩ := h1.vis k' b' u hk' hu
      exact ⟨c, hO.heap g1 (h1.vne hk').2, g2.only hO (fun g hg e2 => h.dm (by rw [← e2]; exact g3 g hg)), g3⟩
  · simp only [mget_mput] at hk'
    by_cases e : k' = k
    · rw [if_pos e] at hk'; cases hk'
      exact ⟨.inr rfl, fun hd => by have := h.rlt _ (h.dr _ hd); omega⟩
    · rw [if_neg e] at hk'
      exact ⟨.inl (h.rown k' b' hk').1, (h.rown k' b' hk').2⟩
  · simp only [mget_mput] at h1' h2'
    by_cases e1 : k1 = k <;> by_cases e2 : k2 = k
    · rw [e1, e2]
    · rw [if_pos e1] at h1'; rw [if_neg e2] at h2'
      cases h1'
      have := hvn _ _ h2'; omega
    · rw [if_neg e1] at h1'; rw [if_pos e2] at h2'
      cases h2'
      have := hvn _ _ h1'; omega
    · rw [if_neg e1] at h1'; rw [if_neg e2] at h2'
      exact h.dis k1 k2 b' h1' h2'
  · rcases mem_mput hp with rfl | hp
    · exact hk4
    · exact h.kr p hp
  · rcases hx with hx | hx
    · have := h.rlt x hx; have := hA.size; omega
    · omega
  · rcases mem_mput hp with rfl | hp
    · simp [zVis]
    · exact h.cls p hp
end

/-- the job, without its inner blocks' names -/
def JbR (w : World) (R : Nat → Prop) (jb : Nat) (J : Jb) : Prop := ∃ D mb rows, Jrep w R D jb mb J rows
def JOut (w : World) (R : Nat → Prop) (jb : Nat) (J : Jb) (w' : World) : Prop := ∃ R', JbR w' R' jb J ∧ (∀ b, R' b → R b ∨ w.heap.size ≤ b) ∧ Only R w w'
section
variable {w w1 : World} {R : Nat → Prop} {jb : Nat} {J : Jb}
theorem JbR.below (h : JbR w R jb J) (o : Below w.heap.size w w1) : JbR w1 R jb J := by
  obtain ⟨D, mb, rows, h⟩ := h
  exact ⟨D, mb, rows, h.below o⟩
theorem JbR.only {F : Nat → Prop} (h : JbR w R jb J) (o : Only F w w1) (hF : ∀ b, R b → ¬ F b) : JbR w1 R jb J := by
  obtain ⟨D, mb, rows, h⟩ := h
  exact ⟨D, mb, rows, h.only o hF⟩
theorem JbR.lt (h : JbR w R jb J) : ∀ b, R b → b < w.heap.size := by
  obtain ⟨D, mb, rows, h⟩ := h
  exact h.rlt
theorem JOut.same (h : JbR w R jb J) (o : Below w.heap.size w w1) : JOut w R jb J w1 := ⟨R, h.below o, fun b hb => .inl hb, only_of_below o R⟩
end

theorem phase_any {w : World} {R : Nat → Prop} {jb : Nat} {J : Jb} (h : JbR w R jb J) : Calls Try.prog 25 #[.pointer (some ⟨jb, 0, none⟩)] w fun e w' => e = .returned (.int .i64 J.ph) ∧ w = w' := by
  obtain ⟨D, mb, rows, h⟩ := h
  have c := h.cell (j := 4) rfl
  go_enter Try.func25, Try.ntmps25
  go_wp2
  go_ret
  exact ⟨rfl, by first | rfl | trivial⟩
theorem trace_any {w : World} {R : Nat → Prop} {jb : Nat} {J : Jb} (h : JbR w R jb J) : Calls Try.prog 26 #[.pointer (some ⟨jb, 0, none⟩)] w fun e w' => e = .returned (.int .i64 J.tr) ∧ w = w' := by
  obtain ⟨D, mb, rows, h⟩ := h
  have c := h.cell (j := 2) rfl
  go_enter Try.func26, Try.ntmps26
  go_wp2
  go_ret
  exact ⟨rfl, by first | rfl | trivial⟩
theorem stored_any {w : World} {R : Nat → Prop} {jb : Nat} {J : Jb} (h : JbR w R jb J) : Calls Try.prog 30 #[.pointer (some ⟨jb, 0, none⟩)] w fun e w' => e = .returned (.bool J.kept) ∧ w = w' := by
  obtain ⟨D, mb, rows, h⟩ := h
  have c := h.cell (j := 7) rfl
  go_enter Try.func30, Try.ntmps30
  go_wp2
  go_ret
  exact ⟨rfl, by first | rfl | trivial⟩
theorem visited_any {w : World} {R : Nat → Prop} {jb : Nat} {J : Jb} (h : JbR w R jb J) : Calls Try.prog 28 #[.pointer (some ⟨jb, 0, none⟩)] w fun e w' => ∃ v, e = .returned v ∧ RS w' 1 eInt v (J.vs.map Prod.fst) ∧ (∀ g, v.ownBlock = some g → w.heap.size ≤ g) ∧ Below w.heap.size w w' := by
  obtain ⟨D, mb, rows, h⟩ := h
  have c := h.cell (j := 5) rfl
  have hm := h.mp
  have hf := h.fsts
  have hl := h.len
  clear h
  go_enter Try.func28, Try.ntmps28
  go_wp2_with fail
  refine (keys_80 _ _).mono ?_
  rintro e w1 ⟨rfl, rfl⟩
  go_wp2_with fail
  refine (sorted_80 hm (by omega)).mono ?_
  rintro e w1 ⟨v, rfl, hs, hn, hb⟩
  have hrs : RS w1 1 eInt v (J.vs.map Prod.fst) := by
    rw [← hf]
    refine SL.ints (e := 3) ?_
    rw [List.length_map, List.map_map]
    exact hs
  go_wp2
  go_ret
  exact ⟨v, rfl, hrs, hn, hb⟩
end Go.Proofs.Ytniggacgkhkgiaa.Job
/- What job.New, all, pinned and unpinned do. Conditions: the job lies in memory as Jrep says. -/
namespace Go.Sp
open Go.RowKit
def allV (P : Vis → Bool) (vs : List (Int × Vis)) : Bool := vs.all fun p => P p.2
/-- whom a Pinned names is asked, too -/
def addC (ag : Int) (vs : List (Int × Vis)) (c : Int) : List (Int × Vis) := bif decide (c < ag) && (mget c vs).isNone then mput c zVis vs else vs
def addCs (ag : Int) (vs : List (Int × Vis)) (cs : List Int) : List (Int × Vis) := cs.foldl (addC ag) vs
def toldV (v : Vis) (p : Pt) : Vis := ⟨true, v.free, p.a, p.t, p.j, p.n, p.cl, p.l⟩
def pinVs (J : Jb) (k : Int) (v : Vis) (p : Pt) : List (Int × Vis) := addCs J.ag (mput k (toldV v p) J.vs) p.cl
def pinJ (J : Jb) (k : Int) (v : Vis) (p : Pt) : Jb :=
  bif decide (J.ph ≠ 1) || v.pin then J else bif allV (fun v => v.pin) (pinVs J k v p) then { J with vs := pinVs J k v p, ph := 2, full := true } else { J with vs := pinVs J k v p }
def freeVs (J : Jb) (k : Int) (v : Vis) : List (Int × Vis) := mput k { v with free := true } J.vs
def freeJ (J : Jb) (k : Int) (v : Vis) : Jb :=
  bif decide (J.ph ≠ 3) then J else bif allV (fun v => v.free) (freeVs J k v) then { J with vs := freeVs J k v, ph := 4 } else { J with vs := freeVs J k v }
end Go.Sp
namespace Go.Proofs.Ytniggacgkhkgiaa.Job
open Go.RowKit Go.Sp Msg

theorem is_pin (w : World) {b : Nat} {v : Vis} {cv : Value} (h : w.heap[b]? = some (.cells (eVis v cv) 138 (0, 0))) : Calls Try.prog 113 #[.pointer (some ⟨b, 0, none⟩)] w fun e w' => e = .returned (.bool v.pin) ∧ w = w' := by
  have c := cell_blk h (j := 0) (u := .bool v.pin) rfl
  clear h
  go_enter Try.func113, Try.ntmps113
  go_wp2
  go_ret
  exact ⟨rfl, by first | rfl | trivial⟩

set_option maxHeartbeats 1000000 in
theorem all_pin {w : World} {R D : Nat → Prop} {jb mb : Nat} {J : Jb} {rows : List (Int × Nat)} (h : Jrep w R D jb mb J rows) :
    Calls Try.prog 112 #[.pointer (some ⟨jb, 0, none⟩), .func (.func 113) #[] #[]] w fun e w' => e = .returned (.bool (allV (fun v => v.pin) J.vs)) ∧ Below w.heap.size w w' := by
  have c := h.cell (j := 5) rfl
  have hm := h.mp
  go_enter Try.func112, Try.ntmps112
  go_wp2_with (at_range; refine wpList_rangeI rfl _ rfl Try.underlying139 rfl hm ?_; intro w0 hr0 hb0 hs0)
  go_frame
  go_loopw [6] (fun _ wr => ∃ S cnt, IRng wr mb w.heap.size ePtr rows S cnt ∧ (∀ k v, S k → mget k J.vs = some v → v.pin = true) ∧ Below w.heap.size w wr) (fun _ wr => wr.rangeLeft mb w.heap.size)
  case atStart => exact ⟨_, _, hr0, fun k v hk => hk.elim, hb0⟩
  case round =>
    obtain ⟨S, cnt, hrg, hS, hb⟩ := hrel
    clear hr0 hb0 hs0
    have HS := Lib.hid hS
    clear hS
    go_wp2_with (at_next; refine wpList_nextI rfl _ rfl rfl hrg ?_ ?_)
    · intro hc hall
      go_wp2
      go_ret
      refine ⟨ret_bool ?_, hb⟩
      symm
      unfold allV
      rw [List.all_eq_true]
      intro p hp
      have hv := mget_of_mem h.ks hp
      obtain ⟨b, hb⟩ := h.has' hv
      exact HS.out p.1 p.2 (hall _ _ (mget_mem hb)) hv
    · intro k b w1 cnt1 hmem hnS hrg1 hlt hO1 hsz1 hen
      have hkb := mget_of_mem h.rks hmem
      obtain ⟨v, hv⟩ := h.has hkb
      have hbl : Below w.heap.size w w1 := hb.trans (hO1.below hb.size (fun i hi e => by omega))
      obtain ⟨cv, hbv, _⟩ := (h.below hbl).vis k b v hkb hv
      have HI := is_pin w1 hbv
      have hle := hrg1.left
      have hle0 := hrg.left
      have HV := Lib.hid hv
      have HK := Lib.hid hkb
      have HL := Lib.hid hle
      have HL0 := Lib.hid hle0
      clear hmem hnS hv hkb hbv hle hle0
      go_wp2_with fail
      refine HI.mono ?_
      rintro e w2 ⟨rfl, rfl⟩
      cases hp : v.pin with
      | false =>
        go_wp2
        go_ret
        refine ⟨ret_bool ?_, hbl⟩
        symm
        unfold allV
        rw [List.all_eq_false]
        exact ⟨(k, v), mget_mem HV.out, by simp [hp]⟩
      | true =>
        have HP := Lib.hid hp
        clear hp
        go_wp2
        refine ⟨⟨_, cnt1, hrg1, fun k' v' hk' hv' => ?_, hbl⟩, by rw [HL.out, HL0.out]; exact hlt⟩
        rcases hk' with hk' | rfl
        · exact HS.out k' v' hk' hv'
        · rw [HV.out] at hv'; cases hv'; exact HP.out

theorem is_free (w : World) {b : Nat} {v : Vis} {cv : Value} (h : w.heap[b]? = some (.cells (eVis v cv) 138 (0, 0))) : Calls Try.prog 114 #[.pointer (some ⟨b, 0, none⟩)] w fun e w' => e = .returned (.bool v.free) ∧ w = w' := by
  have c := cell_blk h (j := 1) (u := .bool v.free) rfl
  clear h
  go_enter Try.func114, Try.ntmps114
  go_wp2
  go_ret
  exact ⟨rfl, by first | rfl | trivial⟩

set_option maxHeartbeats 1000000 in
theorem all_free {w : World} {R D : Nat → Prop} {jb mb : Nat} {J : Jb} {rows : List (Int × Nat)} (h : Jrep w R D jb mb J rows) :
    Calls Try.prog 112 #[.pointer (some ⟨jb, 0, none⟩), .func (.func 114) #[] #[]] w fun e w' => e = .returned (.bool (allV (fun v => v.free) J.vs)) ∧ Below w.heap.size w w' := by
  have c := h.cell (j := 5) rfl
  have hm := h.mp
  go_enter Try.func112, Try.ntmps112
  go_wp2_with (at_range; refine wpList_rangeI rfl _ rfl Try.underlying139 rfl hm ?_; intro w0 hr0 hb0 hs0)
  go_frame
  go_loopw [6] (fun _ wr => ∃ S cnt, IRng wr mb w.heap.size ePtr rows S cnt ∧ (∀ k v, S k → mget k J.vs = some v → v.free = true) ∧ Below w.heap.size w wr) (fun _ wr => wr.rangeLeft mb w.heap.size)
  case atStart => exact ⟨_, _, hr0, fun k v hk => hk.elim, hb0⟩
  case round =>
    obtain ⟨S, cnt, hrg, hS, hb⟩ := hrel
    clear hr0 hb0 hs0
    have HS := Lib.hid hS
    clear hS
    go_wp2_with (at_next; refine wpList_nextI rfl _ rfl rfl hrg ?_ ?_)
    · intro hc hall
      go_wp2
      go_ret
      refine ⟨ret_bool ?_, hb⟩
      symm
      unfold allV
      rw [List.all_eq_true]
      intro p hp
      have hv := mget_of_mem h.ks hp
      obtain ⟨b, hb⟩ := h.has' hv
      exact HS.out p.1 p.2 (hall _ _ (mget_mem hb)) hv
    · intro k b w1 cnt1 hmem hnS hrg1 hlt hO1 hsz1 hen
      have hkb := mget_of_mem h.rks hmem
      obtain ⟨v, hv⟩ := h.has hkb
      have hbl : Below w.heap.size w w1 := hb.trans (hO1.below hb.size (fun i hi e => by omega))
      obtain ⟨cv, hbv, _⟩ := (h.below hbl).vis k b v hkb hv
      have HI := is_free w1 hbv
      have hle := hrg1.left
      have hle0 := hrg.left
      have HV := Lib.hid hv
      have HK := Lib.hid hkb
      have HL := Lib.hid hle
      have HL0 := Lib.hid hle0
      clear hmem hnS hv hkb hbv hle hle0
      go_wp2_with fail
      refine HI.mono ?_
      rintro e w2 ⟨rfl, rfl⟩
      cases hp : v.free with
      | false =>
        go_wp2
        go_ret
        refine ⟨ret_bool ?_, hbl⟩
        symm
        unfold allV
        rw [List.all_eq_false]
        exact ⟨(k, v), mget_mem HV.out, by simp [hp]⟩
      | true =>
        have HP := Lib.hid hp
        clear hp
        go_wp2
        refine ⟨⟨_, cnt1, hrg1, fun k' v' hk' hv' => ?_, hbl⟩, by rw [HL.out, HL0.out]; exact hlt⟩
        rcases hk' with hk' | rfl
        · exact HS.out k' v' hk' hv'
        · rw [HV.out] at hv'; cases hv'; exact HP.out

/-- may the job be begun? -/
def newOk (id ag a t c : Int) : Bool := rightM (.trig a t c) && (decide (1 ≤ id) && (decide (id ≤ 1073741824) && (decide (1 ≤ ag) && (decide (ag ≤ 4) && decide (a < ag)))))
def newJ (id ag a t c : Int) : Jb := ⟨id, ag, t, c, 1, false, false, [(a, zVis)]⟩

set_option maxRecDepth 100000 in
set_option maxHeartbeats 2000000 in
theorem new_no (w : World) (id ag a t c : Int) (hn : newOk id ag a t c = false) :
    Calls Try.prog 17 #[.int .i64 id, .int .i64 ag, .agg #[.int .i64 a, .int .i64 t, .int .i64 c]] w fun e w' => e = .returned (.pointer none) ∧ Below w.heap.size w w' := by
  have hA := below_alloc (Below.refl w.heap.size w) (.cells #[.int .i64 a, .int .i64 t, .int .i64 c] 23)
  have hbx := heap_new w (.cells #[.int .i64 a, .int .i64 t, .int .i64 c] 23) rfl
  have HR := fun w1 => right_any w1 (.trig a t c) trivial trivial
  simp only [val] at HR
  go_enter Try.func17, Try.ntmps17
  go_wp2_with fail
  generalize (w.alloc (.cells #[.int .i64 a, .int .i64 t, .int .i64 c] 23)) = w1 at hA hbx ⊢
  refine (HR w1).mono ?_
  rintro e w2 ⟨rfl, hb2⟩
  have hb3 := below_trans' hb2 hA
  have hlt : w.heap.size < w1.heap.size := (Array.getElem?_eq_some_iff.1 hbx).1
  have hbx2 := (hb2.block _ hlt).trans hbx
  have c0 : w2.cell? ⟨w.heap.size, 0, none⟩ = some (.int .i64 a) := by simp [World.cell?, hbx2]
  clear hA hbx HR hb2 hlt hbx2
  unfold newOk at hn
  cases hr : rightM (.trig a t c) with
  | false =>
    go_wp2
    go_ret
    exact ⟨rfl, hb3⟩
  | true =>
    rw [hr, Bool.true_and] at hn
    by_cases h1 : 1 ≤ id
    · by_cases h2 : id ≤ 1073741824
      · by_cases h3 : 1 ≤ ag
        · by_cases h4 : ag ≤ 4
          · have h5 : ¬ a < ag := fun h5 => by simp [h1, h2, h3, h4, h5] at hn
            have b1 : decide (id < 1) = false := decide_eq_false (by omega)
            have b2 : decide (1073741824 < id) = false := decide_eq_false (by omega)
            have b3 : decide (ag < 1) = false := decide_eq_false (by omega)
            have b4 : decide (4 < ag) = false := decide_eq_false (by omega)
            have b5 : decide (ag ≤ a) = true := decide_eq_true (by omega)
            clear hn
            go_wp2
            go_ret
            exact ⟨rfl, hb3⟩
          · have b1 : decide (id < 1) = false := decide_eq_false (by omega)
            have b2 : decide (1073741824 < id) = false := decide_eq_false (by omega)
            have b3 : decide (ag < 1) = false := decide_eq_false (by omega)
            have b4 : decide (4 < ag) = true := decide_eq_true (by omega)
            clear hn
            go_wp2
            go_ret
            exact ⟨rfl, hb3⟩
        · have b1 : decide (id < 1) = false := decide_eq_false (by omega)
          have b2 : decide (1073741824 < id) = false := decide_eq_false (by omega)
          have b3 : decide (ag < 1) = true := decide_eq_true (by omega)
          clear hn
          go_wp2
          go_ret
          exact ⟨rfl, hb3⟩
      · have b1 : decide (id < 1) = false := decide_eq_false (by omega)
        have b2 : decide (1073741824 < id) = true := decide_eq_true (by omega)
        clear hn
        go_wp2
        go_ret
        exact ⟨rfl, hb3⟩
    · have b1 : decide (id < 1) = true := decide_eq_true (by omega)
      clear hn
      go_wp2
      go_ret
      exact ⟨rfl, hb3⟩

set_option maxRecDepth 100000 in
set_option maxHeartbeats 2000000 in
theorem new_yes (w : World) (id ag a t c : Int) (hn : newOk id ag a t c = true) :
    Calls Try.prog 17 #[.int .i64 id, .int .i64 ag, .agg #[.int .i64 a, .int .i64 t, .int .i64 c]] w fun e w' => ∃ jb R, e = .returned (.pointer (some ⟨jb, 0, none⟩)) ∧ JbR w' R jb (newJ id ag a t c) ∧ (∀ b, R b → w.heap.size ≤ b) ∧ Below w.heap.size w w' := by
  have hA := below_alloc (Below.refl w.heap.size w) (.cells #[.int .i64 a, .int .i64 t, .int .i64 c] 23)
  have hbx := heap_new w (.cells #[.int .i64 a, .int .i64 t, .int .i64 c] 23) rfl
  have HR := fun w1 => right_any w1 (.trig a t c) trivial trivial
  have hmm := @run_makeMap Try.prog
  simp only [val] at HR
  simp only [newOk, Bool.and_eq_true, decide_eq_true_eq] at hn
  obtain ⟨hr, h1, h2, h3, h4, h5⟩ := hn
  have hr' := hr
  simp only [rightM, Bool.and_eq_true, wi_true] at hr'
  obtain ⟨_, ⟨ha0, ha3⟩, _⟩ := hr'
  have b1 : decide (id < 1) = false := decide_eq_false (by omega)
  have b2 : decide (1073741824 < id) = false := decide_eq_false (by omega)
  have b3 : decide (ag < 1) = false := decide_eq_false (by omega)
  have b4 : decide (4 < ag) = false := decide_eq_false (by omega)
  have b5 : decide (ag ≤ a) = false := decide_eq_false (by omega)
  go_enter Try.func17, Try.ntmps17
  go_wp2_with fail
  generalize (w.alloc (.cells #[.int .i64 a, .int .i64 t, .int .i64 c] 23)) = w1 at hA hbx ⊢
  refine (HR w1).mono ?_
  rintro e w2 ⟨rfl, hb2⟩
  have hb3 := below_trans' hb2 hA
  have hlt : w.heap.size < w1.heap.size := (Array.getElem?_eq_some_iff.1 hbx).1
  have hbx2 := (hb2.block _ hlt).trans hbx
  have c0 : w2.cell? ⟨w.heap.size, 0, none⟩ = some (.int .i64 a) := by simp [World.cell?, hbx2]
  have c1 : w2.cell? ⟨w.heap.size, 1, none⟩ = some (.int .i64 t) := by simp [World.cell?, hbx2]
  have c2 : w2.cell? ⟨w.heap.size, 2, none⟩ = some (.int .i64 c) := by simp [World.cell?, hbx2]
  clear hA hbx HR hb2 hlt hbx2
  rw [hr]
  clear hr
  have c0' := cell_alloc c0 (.map #[] 0)
  have c1' := cell_alloc c1 (.map #[] 0)
  have c2' := cell_alloc c2 (.map #[] 0)
  go_wp2_with (with_reducible refine stop_ins _ _ _ _ rfl ?_)
  refine Halt.go ?_
  clear c0 c1 c2 c0' c1' c2'
  have hI0 : IMap ((w2.alloc (.map #[] 0)).alloc (.cells (eVis zVis (.slice none 0 0)) 138)).heap w2.heap.size ePtr [] := (IMap.made' w2 ePtr rfl).alloc _
  have hb4 := below_alloc (below_alloc hb3 (.map #[] 0)) (.cells (eVis zVis (.slice none 0 0)) 138)
  have hbv : ((w2.alloc (.map #[] 0)).alloc (.cells (eVis zVis (.slice none 0 0)) 138)).heap[w2.heap.size + 1]? = some (.cells (eVis zVis (.slice none 0 0)) 138 (0, 0)) := heap_new _ _ (by simp)
  have hs3 := hb3.size
  refine wpList_ins (enc := ePtr) (w2.heap.size + 1) rfl _ _ _ _ rfl Try.underlying139 Try.underlying3 rfl rfl rfl (WalkArith.wf_i64 (by omega)) hI0 ?_
  rintro w5 hI5 hO5
  have hs5 := hO5.size
  simp only [World.alloc, Array.size_push] at hs5
  have hbv5 := hO5.heap hbv (by omega)
  have hb5 : Below w.heap.size w w5 := hb4.trans (hO5.below hb4.size (fun i hi e => by omega))
  clear hI0 hb4 hbv hb3 hO5
  go_wp2
  go_ret
  have hbl := below_alloc hb5 (.cells (eJob (newJ id ag a t c) w2.heap.size) 141)
  have hj : (w5.alloc (.cells (eJob (newJ id ag a t c) w2.heap.size) 141)).heap[w5.heap.size]? = _ := heap_new _ _ rfl
  refine ⟨w5.heap.size, fun b => b = w5.heap.size ∨ b = w2.heap.size ∨ b = w2.heap.size + 1, rfl, ⟨fun _ => False, w2.heap.size, [(a, w2.heap.size + 1)], ⟨hj, hI5.alloc _, fun k => ?_, by simp [newJ, KS], fun k b v hk hv => ?_, fun k b hk => ?_, fun k k' b hk hk' => ?_, fun p hp => ?_, .inl rfl, .inr (.inl rfl), fun b hb => hb.elim, fun h => h, fun h => h, fun b hb => ?_, fun p hp => ?_⟩⟩, fun b hb => by omega, hbl⟩
  · simp only [newJ, mget]
    by_cases e : a = k <;> simp [e]
  · simp only [newJ, mget] at hk hv
    by_cases e : a = k
    · rw [if_pos e] at hk hv
      cases hk; cases hv
      exact ⟨.slice none 0 0, (below_alloc (Below.refl w5.heap.size w5) _).block _ (by omega) |>.trans hbv5, RS.nil _ _ _, fun g hg => by simp [Value.ownBlock] at hg⟩
    · rw [if_neg e] at hk; cases hk
  · simp only [mget] at hk
    by_cases e : a = k
    · rw [if_pos e] at hk
      cases hk
      exact ⟨.inr (.inr rfl), fun h => h⟩
    · rw [if_neg e] at hk; cases hk
  · simp only [mget] at hk hk'
    by_cases e : a = k <;> by_cases e' : a = k'
    · omega
    · rw [if_neg e'] at hk'; cases hk'
    · rw [if_neg e] at hk; cases hk
    · rw [if_neg e] at hk; cases hk
  · simp only [newJ, List.mem_singleton] at hp
    subst hp
    show 0 ≤ a ∧ a < 4
    omega
  · simp only [World.alloc, Array.size_push]; omega
  · simp only [newJ, List.mem_singleton] at hp
    subst hp
    simp [zVis]

end Go.Proofs.Ytniggacgkhkgiaa.Job
