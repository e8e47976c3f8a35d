/- What Of, Last and Tick of the reference's Leases do. Conditions: the object lies in memory as Rrep says; lists of at most a million. -/
import Derived.Test.YtcdjeblcmgghhaaLeaseRef
import Derived.Deep.RegionLaw
import Derived.BigRegion
namespace Go.Proofs.Ytcdjeblcmgghhaa.LeaseRef
open Go.RowKit Go.Sp

section
variable {w w' : World} {R : Nat → Prop} {rb : Nat} {T : Int} {lv ov : Value} {L Ov : List Ls}

/-- a three-cell result, written into its block -/
theorem wr3 {W w : World} {B : Nat} {t : TypeId} {c : Array Value} (hc : c.size = 3) (hb : W.heap[B]? = some (.cells c t (0, 0))) (p q r : Value) (hA : Only (fun _ => False) w W) (hB : w.heap.size ≤ B) {W3 : World}
    (e : W3 = ((W.setCell ⟨B, 0, none⟩ p).setCell ⟨B, 1, none⟩ q).setCell ⟨B, 2, none⟩ r) : W3.heap[B]? = some (.cells #[p, q, r] t (0, 0)) ∧ Only (fun _ => False) w W3 := by
  subst e
  refine ⟨?_, ((hA.setCell (p := ⟨B, 0, none⟩) (fun h => by have : B < w.heap.size := h; omega) p).setCell (p := ⟨B, 1, none⟩) (fun h => by have : B < w.heap.size := h; omega) q).setCell (p := ⟨B, 2, none⟩) (fun h => by have : B < w.heap.size := h; omega) r⟩
  rw [heap_setCell_cells (heap_setCell_cells (heap_setCell_cells hb p) q) r]
  congr 2
  match c, hc with
  | ⟨[x, y, z]⟩, _ => rfl

set_option maxRecDepth 100000 in
set_option maxHeartbeats 1000000 in
theorem of_any {k : Int} (h : Rrep w R rb T lv ov L Ov) (hn : L.length ≤ 1000000) {x : Ls} (hx : (L.find? (fun p => p.1 == k)).getD (0, 0, 0) = x) :
    Calls Try.prog 37 #[.pointer (some ⟨rb, 0, none⟩), .int .i64 k] w fun e w' => e = .returned (.agg #[.int .i64 x.1, .int .i64 x.2.1, .int .i64 x.2.2]) ∧ Only (fun _ => False) w w' := by
  obtain ⟨a, cap, rfl⟩ := h.sl.form
  have hrb := h.lt
  have HX := Lib.hid hx
  clear hx
  go_enter Try.func37, Try.ntmps37
  go_wp2
  have hA : Only (fun _ => False) w (w.alloc (.cells #[.int .i64 0, .int .i64 0, .int .i64 0] 87)) := (Only.refl _ _).alloc _
  have hbx : (w.alloc (.cells #[.int .i64 0, .int .i64 0, .int .i64 0] 87)).heap[w.heap.size]? = some (.cells #[.int .i64 0, .int .i64 0, .int .i64 0] 87 (0, 0)) := heap_new _ _ rfl
  generalize (w.alloc (.cells #[.int .i64 0, .int .i64 0, .int .i64 0] 87)) = W at hA hbx ⊢
  have hr := h.fresh hA (fun _ _ => id)
  have c1 := hr.c1
  have x0 : W.cell? ⟨w.heap.size, 0, none⟩ = some (.int .i64 0) := by simp [World.cell?, hbx]
  have x1 : W.cell? ⟨w.heap.size, 1, none⟩ = some (.int .i64 0) := by simp [World.cell?, hbx]
  have x2 : W.cell? ⟨w.heap.size, 2, none⟩ = some (.int .i64 0) := by simp [World.cell?, hbx]
  have y0 : W.frozen? ⟨w.heap.size, 0, none⟩ = false := by simp [World.frozen?, hbx]
  have y1 : W.frozen? ⟨w.heap.size, 1, none⟩ = false := by simp [World.frozen?, hbx]
  have y2 : W.frozen? ⟨w.heap.size, 2, none⟩ = false := by simp [World.frozen?, hbx]
  go_loop [5] (fun i => ∃ j : Nat, j ≤ L.length ∧ i = .int .i64 j ∧ (L.take j).find? (fun p => p.1 == k) = none) (fun i => L.length - (intOf i).toNat)
  case atStart => exact ⟨0, Nat.zero_le _, rfl, rfl⟩
  case round =>
    obtain ⟨j, hj, rfl, hno⟩ := hrel
    by_cases hlt : j < L.length
    · obtain ⟨b, off, cap', hv, hb1, _, _⟩ := h.sl.form' (by omega)
      simp only [Value.slice.injEq, true_and] at hv
      obtain ⟨rfl, rfl⟩ := hv
      have hy : L[j]? = some L[j] := List.getElem?_eq_getElem hlt
      have hF : (L.take (j + 1)).find? (fun p => p.1 == k) = if L[j].1 == k then some L[j] else none := by
        rw [List.take_add_one, hy, Option.toList_some, List.find?_append, hno]; simp [List.find?_cons]; split <;> simp_all
      have hA2 : L = L.take (j + 1) ++ L.drop (j + 1) := (List.take_append_drop _ _).symm
      generalize L[j] = y at hy hF
      obtain ⟨q1, q2, q3⟩ := y
      have g0 : W.cell? ⟨b, off + j * 3, none⟩ = some (.int .i64 q1) := hr.sl.elem eL_len hy (j := 0) rfl
      have g1 : W.cell? ⟨b, off + j * 3 + 1, none⟩ = some (.int .i64 q2) := hr.sl.elem eL_len hy (j := 1) rfl
      have g2 : W.cell? ⟨b, off + j * 3 + 2, none⟩ = some (.int .i64 q3) := hr.sl.elem eL_len hy (j := 2) rfl
      have HF := Lib.hid hF
      have HA := Lib.hid hA2
      clear hF hy hno hA2
      by_cases hp : q1 = k
      · have hp1 : (q1 == k) = true := by simp [hp]
        go_wp2
        have HW := wr3 rfl hbx (.int .i64 k) (.int .i64 q2) (.int .i64 q3) hA (Nat.le_refl _) rfl
        generalize (((W.setCell ⟨w.heap.size, 0, none⟩ (.int .i64 k)).setCell ⟨w.heap.size, 1, none⟩ (.int .i64 q2)).setCell ⟨w.heap.size, 2, none⟩ (.int .i64 q3)) = W3 at HW ⊢
        have z0 : W3.cell? ⟨w.heap.size, 0, none⟩ = some (.int .i64 k) := by simp [World.cell?, HW.1]
        have z1 : W3.cell? ⟨w.heap.size, 1, none⟩ = some (.int .i64 q2) := by simp [World.cell?, HW.1]
        have z2 : W3.cell? ⟨w.heap.size, 2, none⟩ = some (.int .i64 q3) := by simp [World.cell?, HW.1]
        have hxe : x = (k, q2, q3) := by
          rw [← HX.out]
          rw [HA.out, List.find?_append, HF.out, hp1]; simp [hp]
        subst hxe
        exact bodyPost_ret (v := .agg #[.int .i64 k, .int .i64 q2, .int .i64 q3]) (by simp [results, Try.results37, go_sem, z0, z1, z2]) rfl ⟨rfl, HW.2⟩
      · have hp1 : (q1 == k) = false := by simp [hp]
        go_wp2
        refine ⟨⟨j + 1, by omega, by go_num, ?_⟩, by simp [intOf]; omega⟩
        rw [HF.out, hp1]; rfl
    · have hje : j = L.length := by omega
      subst hje
      rw [List.take_length] at hno
      have HN := Lib.hid hno
      clear hno
      go_wp2
      have HW := wr3 rfl hbx (.int .i64 0) (.int .i64 0) (.int .i64 0) hA (Nat.le_refl _) rfl
      generalize (((W.setCell ⟨w.heap.size, 0, none⟩ (.int .i64 0)).setCell ⟨w.heap.size, 1, none⟩ (.int .i64 0)).setCell ⟨w.heap.size, 2, none⟩ (.int .i64 0)) = W3 at HW ⊢
      have z0 : W3.cell? ⟨w.heap.size, 0, none⟩ = some (.int .i64 0) := by simp [World.cell?, HW.1]
      have z1 : W3.cell? ⟨w.heap.size, 1, none⟩ = some (.int .i64 0) := by simp [World.cell?, HW.1]
      have z2 : W3.cell? ⟨w.heap.size, 2, none⟩ = some (.int .i64 0) := by simp [World.cell?, HW.1]
      have hxe : x = (0, 0, 0) := by
        rw [← HX.out] ; rw [HN.out]; rfl
      subst hxe
      exact bodyPost_ret (v := .agg #[.int .i64 0, .int .i64 0, .int .i64 0]) (by simp [results, Try.results37, go_sem, z0, z1, z2]) rfl ⟨rfl, HW.2⟩

def last1 (k n : Int) (p : Ls) : Int := if p.1 = k ∧ n < p.2.1 then p.2.1 else n
def lastOf (k : Int) (l : List Ls) : Int := l.foldl (last1 k) 0

set_option maxRecDepth 100000 in
set_option maxHeartbeats 1000000 in
theorem last_any {k : Int} (h : Rrep w R rb T lv ov L Ov) (hn : Ov.length ≤ 1000000) :
    Calls Try.prog 41 #[.pointer (some ⟨rb, 0, none⟩), .int .i64 k] w fun e w' => e = .returned (.int .i64 (lastOf k Ov)) ∧ w = w' := by
  obtain ⟨a, cap, rfl⟩ := h.so.form
  have c1 := h.c2
  go_enter Try.func41, Try.ntmps41
  go_wp2
  go_loop [5, 6] (fun n i => ∃ j : Nat, j ≤ Ov.length ∧ i = .int .i64 j ∧ n = .int .i64 (lastOf k (Ov.take j))) (fun _ i => Ov.length - (intOf i).toNat)
  case atStart => exact ⟨0, Nat.zero_le _, rfl, rfl⟩
  case round =>
    obtain ⟨j, hj, rfl, rfl⟩ := hrel
    by_cases hlt : j < Ov.length
    · obtain ⟨b, off, cap', hv, hb1, _, _⟩ := h.so.form' (by omega)
      simp only [Value.slice.injEq, true_and] at hv
      obtain ⟨rfl, rfl⟩ := hv
      have hy : Ov[j]? = some Ov[j] := List.getElem?_eq_getElem hlt
      have hF : lastOf k (Ov.take (j + 1)) = last1 k (lastOf k (Ov.take j)) Ov[j] := by
        rw [List.take_add_one, hy, Option.toList_some]; simp only [lastOf, List.foldl_append, List.foldl_cons, List.foldl_nil]
      generalize Ov[j] = y at hy hF
      obtain ⟨q1, q2, q3⟩ := y
      have g0 : w.cell? ⟨b, off + j * 3, none⟩ = some (.int .i64 q1) := h.so.elem eL_len hy (j := 0) rfl
      have g1 : w.cell? ⟨b, off + j * 3 + 1, none⟩ = some (.int .i64 q2) := h.so.elem eL_len hy (j := 1) rfl
      generalize lastOf k (Ov.take j) = m at *
      have HF := Lib.hid hF
      clear hF hy
      by_cases hp : q1 = k
      · have hp1 : (q1 == k) = true := by simp [hp]
        by_cases hq : m < q2
        · go_wp2
          refine ⟨⟨j + 1, by omega, by go_num, ?_⟩, by simp [intOf]; omega⟩
          rw [HF.out, last1, if_pos ⟨hp, hq⟩]
        · go_wp2
          refine ⟨⟨j + 1, by omega, by go_num, ?_⟩, by simp [intOf]; omega⟩
          rw [HF.out, last1, if_neg (fun hh => by have : m < q2 := hh.2; omega)]
      · have hp1 : (q1 == k) = false := by simp [hp]
        go_wp2
        refine ⟨⟨j + 1, by omega, by go_num, ?_⟩, by simp [intOf]; omega⟩
        rw [HF.out, last1, if_neg (fun hh => hp hh.1)]
    · have hje : j = Ov.length := by omega
      subst hje
      rw [List.take_length]
      go_wp2
      go_ret
      exact ⟨rfl, rfl⟩

/-- the first loop of Tick: the lists so far -/
def tk1 (s : List Ls × List Int × List Ls) (p : Ls) : List Ls × List Int × List Ls :=
  if p.2.2 - 1 = 0 then (s.1 ++ [(p.1, p.2.1, p.2.2 - 1)], s.2.1 ++ [p.1], s.2.2 ++ [(p.1, p.2.1, p.2.2 - 1)]) else (s.1 ++ [(p.1, p.2.1, p.2.2 - 1)], s.2.1, s.2.2)

def tkTo (Ov : List Ls) (l : List Ls) : List Ls × List Int × List Ls := l.foldl tk1 ([], [], Ov)

theorem tkTo_len (Ov l : List Ls) : (tkTo Ov l).1.length = l.length ∧ (tkTo Ov l).2.1.length ≤ l.length ∧ (tkTo Ov l).2.2.length ≤ Ov.length + l.length := by
  have h : ∀ (l : List Ls) (s : List Ls × List Int × List Ls), (l.foldl tk1 s).1.length = s.1.length + l.length ∧ (l.foldl tk1 s).2.1.length ≤ s.2.1.length + l.length ∧ (l.foldl tk1 s).2.2.length ≤ s.2.2.length + l.length := by
    intro l
    induction l with
    | nil => intro s; simp
    | cons y r ih =>
      intro s
      rw [List.foldl_cons]
      obtain ⟨a, b, c⟩ := ih (tk1 s y)
      unfold tk1 at a b c ⊢
      by_cases hc : y.2.2 - 1 = 0
      · rw [if_pos hc] at a b c ⊢; simp at a b c ⊢; omega
      · rw [if_neg hc] at a b c ⊢; simp at a b c ⊢; omega
  simpa [tkTo] using h l ([], [], Ov)

/-- what Tick leaves -/
def rtick (L Ov : List Ls) : List Ls × List Int × List Ls :=
  let s := tkTo Ov L
  (s.2.1.foldl (fun l g => l.filter (fun p => p.1 != g)) s.1, s.2.1, s.2.2)

theorem Rrep.len {a : Option Addr} {n cap : Nat} (h : Rrep w R rb T (.slice a n cap) ov L Ov) : L.length = n := by
  obtain ⟨a', cap', e⟩ := h.sl.form
  simp only [Value.slice.injEq] at e
  exact e.2.1.symm

theorem rrep_dec {A D : List Ls} {y1 y2 y3 z : Int} {b off n cap j : Nat} (h : Rrep w R rb T (.slice (some ⟨b, off, none⟩) n cap) ov (A ++ (y1, y2, y3) :: D) Ov) (hj : A.length = j) :
    Rrep (w.setCell ⟨b, off + j * 3 + 2, none⟩ (.int .i64 z)) R rb T (.slice (some ⟨b, off, none⟩) n cap) ov (A ++ (y1, y2, z) :: D) Ov ∧ Only (· = b) w (w.setCell ⟨b, off + j * 3 + 2, none⟩ (.int .i64 z)) := by
  have hset : Only (· = b) w (w.setCell ⟨b, off + j * 3 + 2, none⟩ (.int .i64 z)) := (Only.refl (· = b) _).setCell (p := ⟨b, off + j * 3 + 2, none⟩) (fun _ => rfl) _
  have hln := h.len
  have hsl := h.sl
  rw [hln] at hsl
  have hs := hsl.setElem eL_len (y1, y2, z) (j := 2) (by omega) (u := .int .i64 z) rfl
  rw [hj, ← Nat.add_assoc] at hs
  refine ⟨⟨hset.heap h.blk (fun e => h.nl (by rw [e]; rfl)), ?_, h.so.only hset (fun g hg e => h.ne b rfl (by rw [← e]; exact hg)), h.rr, h.rl, h.ro, h.ne⟩, hset⟩
  have e1 : (A ++ (y1, y2, z) :: D).length = n := by rw [← hln]; simp
  rw [e1]; exact hs

/-- what is as it was behind an append to the object's second list -/
theorem after_app {A D : List Ls} {y1 y2 y3 : Int} {b off n cap j : Nat} {av : Option Addr} {cv m : Nat} (h : Rrep w R rb T (.slice (some ⟨b, off, none⟩) n cap) (.slice av m cv) (A ++ (y1, y2, y3) :: D) Ov) (hj : A.length = j) (o : Obj) {w5 : World}
    (ho : Only (fun k => (Value.slice av m cv).ownBlock = some k) (w.alloc o).drew w5) :
    w5.cell? ⟨rb, 1, none⟩ = some (.slice (some ⟨b, off, none⟩) n cap) ∧ w5.cell? ⟨rb, 2, none⟩ = some (.slice av m cv) ∧ w5.cell? ⟨b, off + j * 3, none⟩ = some (.int .i64 y1) ∧ w5.cell? ⟨b, off + j * 3 + 1, none⟩ = some (.int .i64 y2) ∧
      w5.cell? ⟨b, off + j * 3 + 2, none⟩ = some (.int .i64 y3) ∧ w5.frozen? ⟨rb, 2, none⟩ = false ∧ (w5.heap[rb]? = some (.cells #[.int .i64 T, .slice (some ⟨b, off, none⟩) n cap, .slice av m cv] 81 (0, 0)) ∧ SL w5.heap 87 3 (.slice (some ⟨b, off, none⟩) n cap) n ((A ++ (y1, y2, y3) :: D).flatMap eL)) ∧
      Only (fun k => (Value.slice av m cv).ownBlock = some k) w w5 := by
  have ha : Only (fun k => (Value.slice av m cv).ownBlock = some k) w w5 := (((Only.refl _ w).alloc o).drew).trans ho
  have hb := ha.heap h.blk h.no
  have hsl := h.sl
  rw [h.len] at hsl
  have hs := hsl.only ha (fun g hg e => h.ne g hg e)
  have hAy : (A ++ (y1, y2, y3) :: D)[j]? = some (y1, y2, y3) := by rw [← hj]; simp
  exact ⟨by simp [World.cell?, hb], by simp [World.cell?, hb], hs.elem eL_len hAy (j := 0) rfl, hs.elem eL_len hAy (j := 1) rfl, hs.elem eL_len hAy (j := 2) rfl, by simp [World.frozen?, hb], ⟨hb, hs⟩, ha⟩

theorem tick_put {A D : List Ls} {y1 y2 y3 : Int} {b off n cap : Nat} {av : Option Addr} {cv m : Nat} {w2 w5 : World} {V : List Ls} {b5 off5 cap5 : Nat} {v2 : Value} (h : Rrep w2 R rb T (.slice (some ⟨b, off, none⟩) n cap) (.slice av m cv) (A ++ (y1, y2, y3) :: D) V)
    (k7 : w5.heap[rb]? = some (.cells #[.int .i64 T, .slice (some ⟨b, off, none⟩) n cap, .slice av m cv] 81 (0, 0)) ∧ SL w5.heap 87 3 (.slice (some ⟨b, off, none⟩) n cap) n ((A ++ (y1, y2, y3) :: D).flatMap eL))
    (k8 : Only (fun k => (Value.slice av m cv).ownBlock = some k) w2 w5)
    (hs : SL w5.heap 87 3 (.slice (some ⟨b5, off5, none⟩) (V.length + 1) cap5) (V.length + 1) (V.flatMap eL ++ eL (y1, y2, y3)))
    (hv : (Value.slice av m cv).ownBlock = some b5 ∨ b5 = w2.heap.size + 1) (hR : ∀ b, w2.heap.size ≤ b → R b)
    (hn : ∀ g, v2.ownBlock = some g → (Value.slice av m cv).ownBlock ≠ some g) (hlt : ∀ g, v2.ownBlock = some g → g < w2.heap.size) {n2 : Nat} (e2 : n2 = V.length + 1) :
    Rrep (w5.setCell ⟨rb, 2, none⟩ (.slice (some ⟨b5, off5, none⟩) n2 cap5)) R rb T (.slice (some ⟨b, off, none⟩) n cap) (.slice (some ⟨b5, off5, none⟩) n2 cap5) (A ++ (y1, y2, y3) :: D) (V ++ [(y1, y2, y3)]) ∧
      Only (fun k => k = rb ∨ (Value.slice av m cv).ownBlock = some k) w2 (w5.setCell ⟨rb, 2, none⟩ (.slice (some ⟨b5, off5, none⟩) n2 cap5)) ∧
      (∀ g, v2.ownBlock = some g → (Value.slice (some ⟨b5, off5, none⟩) n2 cap5).ownBlock ≠ some g) := by
  subst e2
  have hset : Only (· = rb) w5 (w5.setCell ⟨rb, 2, none⟩ (.slice (some ⟨b5, off5, none⟩) (V.length + 1) cap5)) := (Only.refl (· = rb) _).setCell (p := ⟨rb, 2, none⟩) (fun _ => rfl) _
  have hrb := h.lt
  have hb5 : b5 ≠ rb := fun e => by
    rcases hv with e1 | e1
    · exact h.no (by rw [e1, e])
    · omega
  have hbb : b5 ≠ b := fun e => by
    rcases hv with e1 | e1
    · exact h.ne b rfl (by rw [e1, e])
    · have := h.sl.lt b rfl; omega
  refine ⟨⟨?_, ?_, ?_, h.rr, h.rl, fun g hg => ?_, fun g hg e => ?_⟩, (k8.mono fun _ _ h => .inr h).trans (hset.mono fun _ _ h => .inl h), fun g hg e => ?_⟩
  · rw [heap_setCell_cells k7.1]; rfl
  · have := k7.2.only hset (fun g hg e => h.nl (by rw [← e]; exact hg))
    rw [h.len]; exact this
  · have := hs.only hset (fun g hg e => by simp [Value.ownBlock] at hg; omega)
    simpa using this
  · simp [Value.ownBlock] at hg; subst hg
    rcases hv with e1 | e1
    · exact h.ro _ e1
    · exact hR _ (by omega)
  · simp [Value.ownBlock] at hg e; omega
  · simp [Value.ownBlock] at e; subst e
    rcases hv with e1 | e1
    · exact hn _ hg e1
    · have := hlt _ hg; omega

theorem tkTo_snoc {j : Nat} {y : Ls} (h : L[j]? = some y) : tkTo Ov (L.take (j + 1)) = tk1 (tkTo Ov (L.take j)) y := by
  rw [List.take_add_one, h, Option.toList_some]; simp [tkTo, List.foldl_append]

set_option maxRecDepth 100000 in
set_option maxHeartbeats 4000000 in
theorem tick_any (h : Rrep w R rb T lv ov L Ov) (hR : ∀ b, w.heap.size ≤ b → R b) (hn : L.length ≤ 100000) (hn2 : Ov.length ≤ 100000) (hl : ∀ p ∈ L, 1 ≤ p.2.2 ∧ p.2.2 ≤ 1000) :
    Calls Try.prog 36 #[.pointer (some ⟨rb, 0, none⟩)] w fun e w' => ∃ v lv' ov', e = .returned v ∧ Rrep w' R rb T lv' ov' (rtick L Ov).1 (rtick L Ov).2.2 ∧
      SL w'.heap 3 1 v (rtick L Ov).2.1.length ((rtick L Ov).2.1.map fun x => .int .i64 x) ∧ (∀ g, v.ownBlock = some g → w.heap.size ≤ g) ∧ Only R w w' := by
  obtain ⟨i0, z0, hi, hz, hz1, hz2, hz3⟩ := info87
  obtain ⟨i1, zz, gi, gz, gz1, gz2, gz3⟩ := info_at (P := Try.prog) (e := 3) (f := (1, 8, 1)) (by kernel_rfl)
  obtain ⟨a, cap, rfl⟩ := h.sl.form
  have hrb := h.lt
  go_enter Try.func36, Try.ntmps36
  go_wp2
  go_loopw [3, 4] (fun gone i wr => ∃ j : Nat, j ≤ L.length ∧ i = .int .i64 j ∧ ∃ ov', Rrep wr R rb T (.slice a L.length cap) ov' ((tkTo Ov (L.take j)).1 ++ L.drop j) (tkTo Ov (L.take j)).2.2 ∧
    SL wr.heap 3 1 gone (tkTo Ov (L.take j)).2.1.length ((tkTo Ov (L.take j)).2.1.map fun x => .int .i64 x) ∧ (∀ g, gone.ownBlock = some g → w.heap.size ≤ g ∧ ov'.ownBlock ≠ some g) ∧ Only R w wr) (fun _ i _ => L.length - (intOf i).toNat)
  case atStart => exact ⟨0, Nat.zero_le _, rfl, ov, h, SL.nil _ _ _, fun g hg => by simp [Value.ownBlock] at hg, Only.refl _ _⟩
  case round =>
    obtain ⟨j, hj, rfl, ov', hr, hs, hnew, ho⟩ := hrel
    have c1 := hr.c1
    by_cases hlt : j < L.length
    · obtain ⟨b, off, cap', hv, hb1, _, _⟩ := h.sl.form' (by omega)
      simp only [Value.slice.injEq, true_and] at hv
      obtain ⟨rfl, rfl⟩ := hv
      have hy : L[j]? = some L[j] := List.getElem?_eq_getElem hlt
      have hd : L.drop j = L[j] :: L.drop (j + 1) := List.drop_eq_getElem_cons hlt
      have hly := hl L[j] (List.getElem_mem hlt)
      obtain ⟨e1, e2, e3⟩ := tkTo_len Ov (L.take j)
      have hF := tkTo_snoc (Ov := Ov) hy
      rw [hd] at hr
      generalize L[j] = y at hr hy hF hly
      generalize hDe : L.drop (j + 1) = D at hr
      have HDE := Lib.hid hDe
      clear hDe
      generalize tkTo Ov (L.take j) = s at *
      obtain ⟨A, G, V⟩ := s
      have htl : (L.take j).length = j := by simp; omega
      rw [htl] at e1 e2 e3
      simp only at e1 e2 e3 hr hs
      obtain ⟨y1, y2, y3⟩ := y
      simp only at hly
      have hAy : (A ++ (y1, y2, y3) :: D)[j]? = some (y1, y2, y3) := by rw [← e1]; simp
      have hln : (A ++ (y1, y2, y3) :: D).length = L.length := hr.len
      have hsl := hr.sl
      rw [hln] at hsl
      have g0 : wr.cell? ⟨b, off + j * 3, none⟩ = some (.int .i64 y1) := hsl.elem eL_len hAy (j := 0) rfl
      have g1 : wr.cell? ⟨b, off + j * 3 + 1, none⟩ = some (.int .i64 y2) := hsl.elem eL_len hAy (j := 1) rfl
      have g2 : wr.cell? ⟨b, off + j * 3 + 2, none⟩ = some (.int .i64 y3) := hsl.elem eL_len hAy (j := 2) rfl
      have gf : wr.frozen? ⟨b, off + j * 3 + 2, none⟩ = false := hsl.free _
      have HF := Lib.hid hF
      have HD := Lib.hid hd
      clear hF hd hy htl hln
      obtain ⟨hr1, o1⟩ := rrep_dec (z := y3 - 1) hr e1
      have hRb : R b := h.rl b rfl
      have ho1 : Only R w (wr.setCell ⟨b, off + j * 3 + 2, none⟩ (.int .i64 (y3 - 1))) := ho.trans (o1.mono fun i _ e => by subst e; exact hRb)
      have hs1 : SL (wr.setCell ⟨b, off + j * 3 + 2, none⟩ (.int .i64 (y3 - 1))).heap 3 1 u3 G.length (G.map fun x => .int .i64 x) := hs.only o1 (fun g hg e => by have := (hnew g hg).1; have := h.sl.lt b rfl; omega)
      by_cases hz0 : y3 = 1
      · subst hz0
        have hb0 : ((1 : Int) - 1 == 0) = true := rfl
        rw [show (1 : Int) - 1 = 0 from rfl] at hr1 ho1 hs1 o1
        go_wp2_with (at_builtin; refine halt ?_)
        refine Halt.go ?_
        have hsz : (wr.setCell ⟨b, off + j * 3 + 2, none⟩ (.int .i64 0)).heap.size = wr.heap.size := by simp [World.setCell]
        generalize wr.setCell ⟨b, off + j * 3 + 2, none⟩ (.int .i64 0) = W1 at hsz hr1 ho1 hs1 o1 ⊢
        refine (wpList_appd (v := u3) rfl _ _ _ rfl Try.underlying28 gi gz gz1 gz2 gz3 rfl (hs1.alloc _) (m := 1) (news := [.int .i64 y1]) rfl rfl (cells_new _ _ _ hsz.symm) (by simp [Value.oneCell']) (by unfold maxLen; omega) (by omega) ?_)
        rintro v2 w2 hs2 ho2 hv2
        have on2 : Only (fun k => u3.ownBlock = some k) W1 w2 := ((Only.refl _ _).alloc _).trans' ho2 (fun i hi e => e)
        have hn2' : ∀ g, v2.ownBlock = some g → w.heap.size ≤ g ∧ ov'.ownBlock ≠ some g := fun g hg => by
          rcases hv2 with e | e
          · exact hnew g (by rw [← e]; exact hg)
          · rw [e] at hg; cases hg
            refine ⟨by have := ho1.size; simp; omega, fun e2 => ?_⟩
            have h3 := hr1.so.lt _ e2
            have h4 : (W1.alloc (.cells #[Value.int .i64 y1] 3)).heap.size = W1.heap.size + 1 := by simp
            omega
        have hr2 : Rrep w2 R rb T (.slice (some ⟨b, off, none⟩) L.length cap) ov' (A ++ (y1, y2, 0) :: D) V :=
          ⟨on2.heap hr1.blk (fun e => by have := (hnew rb e).1; omega), hr1.sl.only on2 (fun g hg e => by have := (hnew g e).1; have := h.sl.lt g hg; omega), hr1.so.only on2 (fun g hg e => (hnew g e).2 hg), hr1.rr, hr1.rl, hr1.ro, hr1.ne⟩
        have hw2 : Only R w w2 := ho1.trans' on2 (fun i hi e => hR i (hnew i e).1)
        clear hr hs g0 g1 g2 gf c1 o1 hs1 ho2 hv2 on2 ho1 hr1 hsz
        have hAz : (A ++ (y1, y2, (0 : Int)) :: D)[j]? = some (y1, y2, 0) := by rw [← e1]; simp
        have hsl2 := hr2.sl
        rw [hr2.len] at hsl2
        have p0 : w2.cell? ⟨b, off + j * 3, none⟩ = some (.int .i64 y1) := hsl2.elem eL_len hAz (j := 0) rfl
        have p1 : w2.cell? ⟨b, off + j * 3 + 1, none⟩ = some (.int .i64 y2) := hsl2.elem eL_len hAz (j := 1) rfl
        have p2 : w2.cell? ⟨b, off + j * 3 + 2, none⟩ = some (.int .i64 0) := hsl2.elem eL_len hAz (j := 2) rfl
        have q1 := hr2.c1
        have q2 := hr2.c2
        have qf : w2.frozen? ⟨rb, 2, none⟩ = false := by simp [World.frozen?, hr2.blk]
        obtain ⟨av, cv, rfl⟩ := hr2.so.form
        have hrb2 := hr2.lt
        clear hsl hsl2 hAz
        go_wp2
        go_region_law
          ((refine step_appd (v := .slice av V.length cv) rfl _ _ _ rfl Try.underlying79 hi hz hz1 hz2 hz3 rfl ((hr2.so.alloc _).drew) (by omega) (m := 1) (news := eL (y1, y2, 0)) rfl rfl (cells_new _ _ _ (by simp)) (by simp [Value.oneCell', eL]) (by unfold maxLen; omega) (by omega) (by simp; rfl) ?_; intro b5 off5 cap5 w5 hs5 ho5 hv5; obtain ⟨k1, k2, k3, k4, k5, k6, k7, k8⟩ := after_app hr2 e1 _ ho5; clear ho5))
        all_goals
          have hfin := tick_put (v2 := v2) hr2 k7 k8 hs5 hv5 (fun b hb => hR b (Nat.le_trans hw2.size hb)) (fun g hg => (hn2' g hg).2) hs2.lt rfl
          generalize w5.setCell ⟨rb, 2, none⟩ (.slice (some ⟨b5, off5, none⟩) (V.length + 1) cap5) = W5 at hfin ⊢
          obtain ⟨f1, f2, f3⟩ := hfin
          clear k1 k2 k3 k4 k5 k6 k7 k8 hs5 hv5
          go_wp2
          refine ⟨⟨j + 1, by omega, by go_num, _, ?_, ?_, fun g hg => ⟨(hn2' g hg).1, f3 g hg⟩, hw2.trans (f2.mono fun i hi e => e.elim (fun e => by subst e; exact h.rr) (hr2.ro i))⟩, by simp [intOf]; omega⟩
          · rw [HF.out, tk1, if_pos (by simp), HDE.out]; simpa using f1
          · rw [HF.out, tk1, if_pos (by simp)]
            have hs3 := hs2.only f2 (fun g hg e => e.elim (fun e => by have := (hn2' g hg).1; omega) ((hn2' g hg).2))
            simpa using hs3
      · have hb0 : (y3 - 1 == 0) = false := by rw [beq_eq_false_iff_ne]; omega
        go_wp2
        refine ⟨⟨j + 1, by omega, by go_num, ov', ?_, ?_, ?_, ho1⟩, by simp [intOf]; omega⟩
        · rw [HF.out, tk1, if_neg (by simp; omega), HDE.out]; simpa using hr1
        · rw [HF.out, tk1, if_neg (by simp; omega)]; exact hs1
        · exact hnew
    · obtain ⟨wo, rfl⟩ : ∃ wo : World, wo = wr := ⟨_, rfl⟩
      have hje : j = L.length := by omega
      subst hje
      rw [List.take_length, List.drop_length, List.append_nil] at hr
      rw [List.take_length] at hs
      have ht : rtick L Ov = ((tkTo Ov L).2.1.foldl (fun l g => l.filter (fun p => p.1 != g)) (tkTo Ov L).1, (tkTo Ov L).2.1, (tkTo Ov L).2.2) := rfl
      obtain ⟨e1, e2, e3⟩ := tkTo_len Ov L
      generalize hse : tkTo Ov L = s at *
      obtain ⟨A, G, V⟩ := s
      simp only at e1 e2 e3 hr hs ht
      have HT := Lib.hid ht
      clear ht hse
      obtain ⟨ag, cg, rfl⟩ := hs.form
      have hW : ∀ g, (Value.slice ag G.length cg).ownBlock = some g → w.heap.size ≤ g := fun g hg => (hnew g hg).1
      have hr' : Rrep wo (fun k => R k ∧ (Value.slice ag G.length cg).ownBlock ≠ some k) rb T (.slice a L.length cap) ov' A V :=
        ⟨hr.blk, hr.sl, hr.so, ⟨hr.rr, fun e => by have := hW rb e; omega⟩, fun g hg => ⟨hr.rl g hg, fun e => by have := hW g e; have := h.sl.lt g hg; omega⟩, fun g hg => ⟨hr.ro g hg, fun e => (hnew g e).2 hg⟩, hr.ne⟩
      have hR' : ∀ b, wo.heap.size ≤ b → R b ∧ (Value.slice ag G.length cg).ownBlock ≠ some b := fun b hb => ⟨hR b (Nat.le_trans ho.size hb), fun e => by have := hs.lt b e; omega⟩
      generalize hRe : (fun k => R k ∧ (Value.slice ag G.length cg).ownBlock ≠ some k) = R' at hr'
      have hR2 : ∀ b, wo.heap.size ≤ b → R' b := fun b hb => by rw [← hRe]; exact hR' b hb
      have hR3 : ∀ b, R' b → R b ∧ (Value.slice ag G.length cg).ownBlock ≠ some b := fun b hb => by rw [← hRe] at hb; exact hb
      clear hR' hRe hr hnew
      go_wp2
      go_loopw [5] (fun i ws => ∃ q : Nat, q ≤ G.length ∧ i = .int .i64 q ∧ ∃ lv', Rrep ws R' rb T lv' ov' ((G.take q).foldl (fun l g => l.filter (fun p => p.1 != g)) A) V ∧ Only R' wo ws ∧ ((G.take q).foldl (fun l g => l.filter (fun p => p.1 != g)) A).length ≤ L.length) (fun i _ => G.length - (intOf i).toNat)
      case atStart => exact ⟨0, Nat.zero_le _, rfl, _, hr', Only.refl _ _, by simp; omega⟩
      case round =>
        obtain ⟨q, hq, rfl, lv', hq1, hq2, hq3⟩ := hrel
        have hs2 := hs.only hq2 (fun g hg e => (hR3 g e).2 hg)
        by_cases hlt2 : q < G.length
        · obtain ⟨b, off, cap', hv, hb1, _, _⟩ := hs.form' (by omega)
          simp only [Value.slice.injEq, true_and] at hv
          obtain ⟨rfl, rfl⟩ := hv
          have hy : (G.map fun x => Value.int .i64 x)[q]? = some (.int .i64 G[q]) := by simp [hlt2]
          have g0 : wr.cell? ⟨b, off + q, none⟩ = some (.int .i64 G[q]) := hs2.cell hy
          have hF : (G.take (q + 1)).foldl (fun l g => l.filter (fun p => p.1 != g)) A = ((G.take q).foldl (fun l g => l.filter (fun p => p.1 != g)) A).filter (fun p => p.1 != G[q]) := by
            rw [List.take_add_one, List.getElem?_eq_getElem hlt2, Option.toList_some, List.foldl_append]; rfl
          generalize G[q] = y at g0 hF
          generalize (G.take q).foldl (fun l g => l.filter (fun p => p.1 != g)) A = M at *
          have HF := Lib.hid hF
          clear hF hy
          go_wp2_with fail
          refine (end_any hq1 (fun b hb => hR2 b (Nat.le_trans hq2.size hb)) (by omega)).mono ?_
          rintro e w7 ⟨rfl, lv7, h7, o7⟩
          go_wp2
          refine ⟨⟨q + 1, by omega, by go_num, lv7, by rw [HF.out]; exact h7, hq2.trans o7, by rw [HF.out]; exact Nat.le_trans (List.length_filter_le _ _) hq3⟩, by simp [intOf]; omega⟩
        · have hqe : q = G.length := by omega
          subst hqe
          rw [List.take_length] at hq1
          go_wp2
          go_ret
          rw [HT.out]
          exact ⟨_, lv', ov', rfl, ⟨hq1.blk, hq1.sl, hq1.so, (hR3 _ hq1.rr).1, fun g hg => (hR3 _ (hq1.rl g hg)).1, fun g hg => (hR3 _ (hq1.ro g hg)).1, hq1.ne⟩, hs2, hW, ho.trans (hq2.mono fun i _ e => (hR3 i e).1)⟩

end
end Go.Proofs.Ytcdjeblcmgghhaa.LeaseRef
