/- What job.New, all, pinned and unpinned do. Conditions: the job lies in memory as Jrep says. -/
import Derived.Test.YtniggacgkhkgiaaJob0
namespace Go.Sp
open Go.RowKit
def allV (P : Vis → Bool) (vs : List (Int × Vis)) : Bool := vs.all fun p => P p.2
/-- whom a Pinned names is asked, too -/
def addC (ag : Int) (vs : List (Int × Vis)) (c : Int) : List (Int × Vis) := bif decide (c < ag) && (mget c vs).isNone then mput c zVis vs else vs
def addCs (ag : Int) (vs : List (Int × Vis)) (cs : List Int) : List (Int × Vis) := cs.foldl (addC ag) vs
def toldV (v : Vis) (p : Pt) : Vis := ⟨true, v.free, p.a, p.t, p.j, p.n, p.cl, p.l⟩
def pinVs (J : Jb) (k : Int) (v : Vis) (p : Pt) : List (Int × Vis) := addCs J.ag (mput k (toldV v p) J.vs) p.cl
def pinJ (J : Jb) (k : Int) (v : Vis) (p : Pt) : Jb :=
  bif decide (J.ph ≠ 1) || v.pin then J else bif allV (fun v => v.pin) (pinVs J k v p) then { J with vs := pinVs J k v p, ph := 2, full := true } else { J with vs := pinVs J k v p }
def freeVs (J : Jb) (k : Int) (v : Vis) : List (Int × Vis) := mput k { v with free := true } J.vs
def freeJ (J : Jb) (k : Int) (v : Vis) : Jb :=
  bif decide (J.ph ≠ 3) then J else bif allV (fun v => v.free) (freeVs J k v) then { J with vs := freeVs J k v, ph := 4 } else { J with vs := freeVs J k v }
end Go.Sp
namespace Go.Proofs.Ytniggacgkhkgiaa.Job
open Go.RowKit Go.Sp Msg

theorem is_pin (w : World) {b : Nat} {v : Vis} {cv : Value} (h : w.heap[b]? = some (.cells (eVis v cv) 138 (0, 0))) : Calls Try.prog 113 #[.pointer (some ⟨b, 0, none⟩)] w fun e w' => e = .returned (.bool v.pin) ∧ w = w' := by
  have c := cell_blk h (j := 0) (u := .bool v.pin) rfl
  clear h
  go_enter Try.func113, Try.ntmps113
  go_wp2
  go_ret
  exact ⟨rfl, by first | rfl | trivial⟩

set_option maxHeartbeats 1000000 in
theorem all_pin {w : World} {R D : Nat → Prop} {jb mb : Nat} {J : Jb} {rows : List (Int × Nat)} (h : Jrep w R D jb mb J rows) :
    Calls Try.prog 112 #[.pointer (some ⟨jb, 0, none⟩), .func (.func 113) #[] #[]] w fun e w' => e = .returned (.bool (allV (fun v => v.pin) J.vs)) ∧ Below w.heap.size w w' := by
  have c := h.cell (j := 5) rfl
  have hm := h.mp
  go_enter Try.func112, Try.ntmps112
  go_wp2_with (at_range; refine wpList_rangeI rfl _ rfl Try.underlying139 rfl hm ?_; intro w0 hr0 hb0 hs0)
  go_frame
  go_loopw [6] (fun _ wr => ∃ S cnt, IRng wr mb w.heap.size ePtr rows S cnt ∧ (∀ k v, S k → mget k J.vs = some v → v.pin = true) ∧ Below w.heap.size w wr) (fun _ wr => wr.rangeLeft mb w.heap.size)
  case atStart => exact ⟨_, _, hr0, fun k v hk => hk.elim, hb0⟩
  case round =>
    obtain ⟨S, cnt, hrg, hS, hb⟩ := hrel
    clear hr0 hb0 hs0
    have HS := Lib.hid hS
    clear hS
    go_wp2_with (at_next; refine wpList_nextI rfl _ rfl rfl hrg ?_ ?_)
    · intro hc hall
      go_wp2
      go_ret
      refine ⟨ret_bool ?_, hb⟩
      symm
      unfold allV
      rw [List.all_eq_true]
      intro p hp
      have hv := mget_of_mem h.ks hp
      obtain ⟨b, hb⟩ := h.has' hv
      exact HS.out p.1 p.2 (hall _ _ (mget_mem hb)) hv
    · intro k b w1 cnt1 hmem hnS hrg1 hlt hO1 hsz1 hen
      have hkb := mget_of_mem h.rks hmem
      obtain ⟨v, hv⟩ := h.has hkb
      have hbl : Below w.heap.size w w1 := hb.trans (hO1.below hb.size (fun i hi e => by omega))
      obtain ⟨cv, hbv, _⟩ := (h.below hbl).vis k b v hkb hv
      have HI := is_pin w1 hbv
      have hle := hrg1.left
      have hle0 := hrg.left
      have HV := Lib.hid hv
      have HK := Lib.hid hkb
      have HL := Lib.hid hle
      have HL0 := Lib.hid hle0
      clear hmem hnS hv hkb hbv hle hle0
      go_wp2_with fail
      refine HI.mono ?_
      rintro e w2 ⟨rfl, rfl⟩
      cases hp : v.pin with
      | false =>
        go_wp2
        go_ret
        refine ⟨ret_bool ?_, hbl⟩
        symm
        unfold allV
        rw [List.all_eq_false]
        exact ⟨(k, v), mget_mem HV.out, by simp [hp]⟩
      | true =>
        have HP := Lib.hid hp
        clear hp
        go_wp2
        refine ⟨⟨_, cnt1, hrg1, fun k' v' hk' hv' => ?_, hbl⟩, by rw [HL.out, HL0.out]; exact hlt⟩
        rcases hk' with hk' | rfl
        · exact HS.out k' v' hk' hv'
        · rw [HV.out] at hv'; cases hv'; exact HP.out

theorem is_free (w : World) {b : Nat} {v : Vis} {cv : Value} (h : w.heap[b]? = some (.cells (eVis v cv) 138 (0, 0))) : Calls Try.prog 114 #[.pointer (some ⟨b, 0, none⟩)] w fun e w' => e = .returned (.bool v.free) ∧ w = w' := by
  have c := cell_blk h (j := 1) (u := .bool v.free) rfl
  clear h
  go_enter Try.func114, Try.ntmps114
  go_wp2
  go_ret
  exact ⟨rfl, by first | rfl | trivial⟩

set_option maxHeartbeats 1000000 in
theorem all_free {w : World} {R D : Nat → Prop} {jb mb : Nat} {J : Jb} {rows : List (Int × Nat)} (h : Jrep w R D jb mb J rows) :
    Calls Try.prog 112 #[.pointer (some ⟨jb, 0, none⟩), .func (.func 114) #[] #[]] w fun e w' => e = .returned (.bool (allV (fun v => v.free) J.vs)) ∧ Below w.heap.size w w' := by
  have c := h.cell (j := 5) rfl
  have hm := h.mp
  go_enter Try.func112, Try.ntmps112
  go_wp2_with (at_range; refine wpList_rangeI rfl _ rfl Try.underlying139 rfl hm ?_; intro w0 hr0 hb0 hs0)
  go_frame
  go_loopw [6] (fun _ wr => ∃ S cnt, IRng wr mb w.heap.size ePtr rows S cnt ∧ (∀ k v, S k → mget k J.vs = some v → v.free = true) ∧ Below w.heap.size w wr) (fun _ wr => wr.rangeLeft mb w.heap.size)
  case atStart => exact ⟨_, _, hr0, fun k v hk => hk.elim, hb0⟩
  case round =>
    obtain ⟨S, cnt, hrg, hS, hb⟩ := hrel
    clear hr0 hb0 hs0
    have HS := Lib.hid hS
    clear hS
    go_wp2_with (at_next; refine wpList_nextI rfl _ rfl rfl hrg ?_ ?_)
    · intro hc hall
      go_wp2
      go_ret
      refine ⟨ret_bool ?_, hb⟩
      symm
      unfold allV
      rw [List.all_eq_true]
      intro p hp
      have hv := mget_of_mem h.ks hp
      obtain ⟨b, hb⟩ := h.has' hv
      exact HS.out p.1 p.2 (hall _ _ (mget_mem hb)) hv
    · intro k b w1 cnt1 hmem hnS hrg1 hlt hO1 hsz1 hen
      have hkb := mget_of_mem h.rks hmem
      obtain ⟨v, hv⟩ := h.has hkb
      have hbl : Below w.heap.size w w1 := hb.trans (hO1.below hb.size (fun i hi e => by omega))
      obtain ⟨cv, hbv, _⟩ := (h.below hbl).vis k b v hkb hv
      have HI := is_free w1 hbv
      have hle := hrg1.left
      have hle0 := hrg.left
      have HV := Lib.hid hv
      have HK := Lib.hid hkb
      have HL := Lib.hid hle
      have HL0 := Lib.hid hle0
      clear hmem hnS hv hkb hbv hle hle0
      go_wp2_with fail
      refine HI.mono ?_
      rintro e w2 ⟨rfl, rfl⟩
      cases hp : v.free with
      | false =>
        go_wp2
        go_ret
        refine ⟨ret_bool ?_, hbl⟩
        symm
        unfold allV
        rw [List.all_eq_false]
        exact ⟨(k, v), mget_mem HV.out, by simp [hp]⟩
      | true =>
        have HP := Lib.hid hp
        clear hp
        go_wp2
        refine ⟨⟨_, cnt1, hrg1, fun k' v' hk' hv' => ?_, hbl⟩, by rw [HL.out, HL0.out]; exact hlt⟩
        rcases hk' with hk' | rfl
        · exact HS.out k' v' hk' hv'
        · rw [HV.out] at hv'; cases hv'; exact HP.out

/-- may the job be begun? -/
def newOk (id ag a t c : Int) : Bool := rightM (.trig a t c) && (decide (1 ≤ id) && (decide (id ≤ 1073741824) && (decide (1 ≤ ag) && (decide (ag ≤ 4) && decide (a < ag)))))
def newJ (id ag a t c : Int) : Jb := ⟨id, ag, t, c, 1, false, false, [(a, zVis)]⟩

set_option maxRecDepth 100000 in
set_option maxHeartbeats 2000000 in
theorem new_no (w : World) (id ag a t c : Int) (hn : newOk id ag a t c = false) :
    Calls Try.prog 17 #[.int .i64 id, .int .i64 ag, .agg #[.int .i64 a, .int .i64 t, .int .i64 c]] w fun e w' => e = .returned (.pointer none) ∧ Below w.heap.size w w' := by
  have hA := below_alloc (Below.refl w.heap.size w) (.cells #[.int .i64 a, .int .i64 t, .int .i64 c] 23)
  have hbx := heap_new w (.cells #[.int .i64 a, .int .i64 t, .int .i64 c] 23) rfl
  have HR := fun w1 => right_any w1 (.trig a t c) trivial trivial
  simp only [val] at HR
  go_enter Try.func17, Try.ntmps17
  go_wp2_with fail
  generalize (w.alloc (.cells #[.int .i64 a, .int .i64 t, .int .i64 c] 23)) = w1 at hA hbx ⊢
  refine (HR w1).mono ?_
  rintro e w2 ⟨rfl, hb2⟩
  have hb3 := below_trans' hb2 hA
  have hlt : w.heap.size < w1.heap.size := (Array.getElem?_eq_some_iff.1 hbx).1
  have hbx2 := (hb2.block _ hlt).trans hbx
  have c0 : w2.cell? ⟨w.heap.size, 0, none⟩ = some (.int .i64 a) := by simp [World.cell?, hbx2]
  clear hA hbx HR hb2 hlt hbx2
  unfold newOk at hn
  cases hr : rightM (.trig a t c) with
  | false =>
    go_wp2
    go_ret
    exact ⟨rfl, hb3⟩
  | true =>
    rw [hr, Bool.true_and] at hn
    by_cases h1 : 1 ≤ id
    · by_cases h2 : id ≤ 1073741824
      · by_cases h3 : 1 ≤ ag
        · by_cases h4 : ag ≤ 4
          · have h5 : ¬ a < ag := fun h5 => by simp [h1, h2, h3, h4, h5] at hn
            have b1 : decide (id < 1) = false := decide_eq_false (by omega)
            have b2 : decide (1073741824 < id) = false := decide_eq_false (by omega)
            have b3 : decide (ag < 1) = false := decide_eq_false (by omega)
            have b4 : decide (4 < ag) = false := decide_eq_false (by omega)
            have b5 : decide (ag ≤ a) = true := decide_eq_true (by omega)
            clear hn
            go_wp2
            go_ret
            exact ⟨rfl, hb3⟩
          · have b1 : decide (id < 1) = false := decide_eq_false (by omega)
            have b2 : decide (1073741824 < id) = false := decide_eq_false (by omega)
            have b3 : decide (ag < 1) = false := decide_eq_false (by omega)
            have b4 : decide (4 < ag) = true := decide_eq_true (by omega)
            clear hn
            go_wp2
            go_ret
            exact ⟨rfl, hb3⟩
        · have b1 : decide (id < 1) = false := decide_eq_false (by omega)
          have b2 : decide (1073741824 < id) = false := decide_eq_false (by omega)
          have b3 : decide (ag < 1) = true := decide_eq_true (by omega)
          clear hn
          go_wp2
          go_ret
          exact ⟨rfl, hb3⟩
      · have b1 : decide (id < 1) = false := decide_eq_false (by omega)
        have b2 : decide (1073741824 < id) = true := decide_eq_true (by omega)
        clear hn
        go_wp2
        go_ret
        exact ⟨rfl, hb3⟩
    · have b1 : decide (id < 1) = true := decide_eq_true (by omega)
      clear hn
      go_wp2
      go_ret
      exact ⟨rfl, hb3⟩

set_option maxRecDepth 100000 in
set_option maxHeartbeats 2000000 in
theorem new_yes (w : World) (id ag a t c : Int) (hn : newOk id ag a t c = true) :
    Calls Try.prog 17 #[.int .i64 id, .int .i64 ag, .agg #[.int .i64 a, .int .i64 t, .int .i64 c]] w fun e w' => ∃ jb R, e = .returned (.pointer (some ⟨jb, 0, none⟩)) ∧ JbR w' R jb (newJ id ag a t c) ∧ (∀ b, R b → w.heap.size ≤ b) ∧ Below w.heap.size w w' := by
  have hA := below_alloc (Below.refl w.heap.size w) (.cells #[.int .i64 a, .int .i64 t, .int .i64 c] 23)
  have hbx := heap_new w (.cells #[.int .i64 a, .int .i64 t, .int .i64 c] 23) rfl
  have HR := fun w1 => right_any w1 (.trig a t c) trivial trivial
  have hmm := @run_makeMap Try.prog
  simp only [val] at HR
  simp only [newOk, Bool.and_eq_true, decide_eq_true_eq] at hn
  obtain ⟨hr, h1, h2, h3, h4, h5⟩ := hn
  have hr' := hr
  simp only [rightM, Bool.and_eq_true, wi_true] at hr'
  obtain ⟨_, ⟨ha0, ha3⟩, _⟩ := hr'
  have b1 : decide (id < 1) = false := decide_eq_false (by omega)
  have b2 : decide (1073741824 < id) = false := decide_eq_false (by omega)
  have b3 : decide (ag < 1) = false := decide_eq_false (by omega)
  have b4 : decide (4 < ag) = false := decide_eq_false (by omega)
  have b5 : decide (ag ≤ a) = false := decide_eq_false (by omega)
  go_enter Try.func17, Try.ntmps17
  go_wp2_with fail
  generalize (w.alloc (.cells #[.int .i64 a, .int .i64 t, .int .i64 c] 23)) = w1 at hA hbx ⊢
  refine (HR w1).mono ?_
  rintro e w2 ⟨rfl, hb2⟩
  have hb3 := below_trans' hb2 hA
  have hlt : w.heap.size < w1.heap.size := (Array.getElem?_eq_some_iff.1 hbx).1
  have hbx2 := (hb2.block _ hlt).trans hbx
  have c0 : w2.cell? ⟨w.heap.size, 0, none⟩ = some (.int .i64 a) := by simp [World.cell?, hbx2]
  have c1 : w2.cell? ⟨w.heap.size, 1, none⟩ = some (.int .i64 t) := by simp [World.cell?, hbx2]
  have c2 : w2.cell? ⟨w.heap.size, 2, none⟩ = some (.int .i64 c) := by simp [World.cell?, hbx2]
  clear hA hbx HR hb2 hlt hbx2
  rw [hr]
  clear hr
  have c0' := cell_alloc c0 (.map #[] 0)
  have c1' := cell_alloc c1 (.map #[] 0)
  have c2' := cell_alloc c2 (.map #[] 0)
  go_wp2_with (with_reducible refine stop_ins _ _ _ _ rfl ?_)
  refine Halt.go ?_
  clear c0 c1 c2 c0' c1' c2'
  have hI0 : IMap ((w2.alloc (.map #[] 0)).alloc (.cells (eVis zVis (.slice none 0 0)) 138)).heap w2.heap.size ePtr [] := (IMap.made' w2 ePtr rfl).alloc _
  have hb4 := below_alloc (below_alloc hb3 (.map #[] 0)) (.cells (eVis zVis (.slice none 0 0)) 138)
  have hbv : ((w2.alloc (.map #[] 0)).alloc (.cells (eVis zVis (.slice none 0 0)) 138)).heap[w2.heap.size + 1]? = some (.cells (eVis zVis (.slice none 0 0)) 138 (0, 0)) := heap_new _ _ (by simp)
  have hs3 := hb3.size
  refine wpList_ins (enc := ePtr) (w2.heap.size + 1) rfl _ _ _ _ rfl Try.underlying139 Try.underlying3 rfl rfl rfl (WalkArith.wf_i64 (by omega)) hI0 ?_
  rintro w5 hI5 hO5
  have hs5 := hO5.size
  simp only [World.alloc, Array.size_push] at hs5
  have hbv5 := hO5.heap hbv (by omega)
  have hb5 : Below w.heap.size w w5 := hb4.trans (hO5.below hb4.size (fun i hi e => by omega))
  clear hI0 hb4 hbv hb3 hO5
  go_wp2
  go_ret
  have hbl := below_alloc hb5 (.cells (eJob (newJ id ag a t c) w2.heap.size) 141)
  have hj : (w5.alloc (.cells (eJob (newJ id ag a t c) w2.heap.size) 141)).heap[w5.heap.size]? = _ := heap_new _ _ rfl
  refine ⟨w5.heap.size, fun b => b = w5.heap.size ∨ b = w2.heap.size ∨ b = w2.heap.size + 1, rfl, ⟨fun _ => False, w2.heap.size, [(a, w2.heap.size + 1)], ⟨hj, hI5.alloc _, fun k => ?_, by simp [newJ, KS], fun k b v hk hv => ?_, fun k b hk => ?_, fun k k' b hk hk' => ?_, fun p hp => ?_, .inl rfl, .inr (.inl rfl), fun b hb => hb.elim, fun h => h, fun h => h, fun b hb => ?_, fun p hp => ?_⟩⟩, fun b hb => by omega, hbl⟩
  · simp only [newJ, mget]
    by_cases e : a = k <;> simp [e]
  · simp only [newJ, mget] at hk hv
    by_cases e : a = k
    · rw [if_pos e] at hk hv
      cases hk; cases hv
      exact ⟨.slice none 0 0, (below_alloc (Below.refl w5.heap.size w5) _).block _ (by omega) |>.trans hbv5, RS.nil _ _ _, fun g hg => by simp [Value.ownBlock] at hg⟩
    · rw [if_neg e] at hk; cases hk
  · simp only [mget] at hk
    by_cases e : a = k
    · rw [if_pos e] at hk
      cases hk
      exact ⟨.inr (.inr rfl), fun h => h⟩
    · rw [if_neg e] at hk; cases hk
  · simp only [mget] at hk hk'
    by_cases e : a = k <;> by_cases e' : a = k'
    · omega
    · rw [if_neg e'] at hk'; cases hk'
    · rw [if_neg e] at hk; cases hk
    · rw [if_neg e] at hk; cases hk
  · simp only [newJ, List.mem_singleton] at hp
    subst hp
    show 0 ≤ a ∧ a < 4
    omega
  · simp only [World.alloc, Array.size_push]; omega
  · simp only [newJ, List.mem_singleton] at hp
    subst hp
    simp [zVis]

end Go.Proofs.Ytniggacgkhkgiaa.Job
