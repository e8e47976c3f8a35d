/- LeaseHeld: a trace that is held has a job and ticks left till it is ended or has none left; the law answers true for every input. Conditions: the argument can be read. -/
import Derived.Test.YtcdjeblcmgghhaaLeasePlays
import Derived.Test.YtcdjeblcmgghhaaLeaseTime
namespace Go.Proofs.Ytcdjeblcmgghhaa.LeaseHeld
open Go.RowKit Go.Sp Lease LeaseLaw

def eW (x : Int × Int) : Value := .agg #[.int .i64 x.1, .int .i64 x.2]
theorem zW (w : World) : (zeroValue 96).run Try.prog w = .ok (eW (0, 0)) w := by kernel_rfl
@[go_sem] theorem ix0 (a b : Value) (w : World) : (Instr.index 96 (.agg #[a, b]) (.int .i64 0)).run Try.prog w = .ok a w := by kernel_rfl
@[go_sem] theorem ix1 (a b : Value) (w : World) : (Instr.index 96 (.agg #[a, b]) (.int .i64 1)).run Try.prog w = .ok b w := by kernel_rfl

/-- how many of 1 .. k are held -/
def cnt (H : Hs) (k : Nat) : Nat := ((List.range k).filter (fun i : Nat => (mget ((i : Int) + 1) H).isSome)).length

theorem cnt_succ (H : Hs) (k : Nat) : cnt H (k + 1) = cnt H k + if (mget ((k : Int) + 1) H).isSome then 1 else 0 := by
  unfold cnt
  rw [List.range_succ, List.filter_append, List.length_append]
  congr 1
  by_cases h : (mget ((k : Int) + 1) H).isSome <;> simp [h]

theorem cnt_all {H : Hs} (hs : KS H) (hk : ∀ p ∈ H, 1 ≤ p.1 ∧ p.1 ≤ 6) : cnt H 6 = H.length := by
  have hp : (((List.range 6).filter (fun i : Nat => (mget ((i : Int) + 1) H).isSome)).map fun i : Nat => (i : Int) + 1).Perm (H.map Prod.fst) := by
    refine (List.perm_ext_iff_of_nodup ?_ ?_).2 fun x => ?_
    · refine List.Pairwise.map _ (fun (a b : Nat) (hab : a ≠ b) (e : (a : Int) + 1 = (b : Int) + 1) => hab (by omega)) (List.Pairwise.filter _ List.nodup_range)
    · exact List.pairwise_map.2 (hs.imp fun h => by omega)
    · rw [List.mem_map, List.mem_map]
      constructor
      · rintro ⟨i, hi, rfl⟩
        have := (List.mem_filter.1 hi).2
        obtain ⟨v, hv⟩ := Option.isSome_iff_exists.1 this
        exact ⟨_, mget_mem hv, rfl⟩
      · rintro ⟨p, hp, rfl⟩
        have h1 := hk p hp
        refine ⟨(p.1 - 1).toNat, List.mem_filter.2 ⟨by simp; omega, ?_⟩, by omega⟩
        have e : (((p.1 - 1).toNat : Nat) : Int) + 1 = p.1 := by omega
        rw [e, mget_of_mem hs (k := p.1) (v := p.2) hp]; rfl
  have := hp.length_eq
  simpa [cnt] using this

/-- what holds of the leases -/
structure Ok (H : Hs) (T : Int) (n : Nat) : Prop where
  ks : KS H
  all : ∀ p ∈ H, (1 ≤ p.1 ∧ p.1 ≤ 6) ∧ 1 ≤ p.2.1 ∧ (1 ≤ p.2.2 ∧ p.2.2 ≤ T)
  len : H.length ≤ n

theorem Ok.get {H : Hs} {T : Int} {n : Nat} (h : Ok H T n) {k : Int} {v : Int × Int} (hv : mget k H = some v) : (1 ≤ k ∧ k ≤ 6) ∧ 1 ≤ v.1 ∧ (1 ≤ v.2 ∧ v.2 ≤ T) := h.all _ (mget_mem hv)

theorem Ok.grant {H : Hs} {T : Int} {n : Nat} (h : Ok H T n) {k j : Int} (h1 : 1 ≤ k ∧ k ≤ 6) (h2 : 1 ≤ j) (h3 : 1 ≤ T) : Ok (mput k (j, T) H) T (n + 1) :=
  ⟨h.ks.mput, fun p hp => (mem_mput hp).elim (fun e => by rw [e]; exact ⟨h1, h2, h3, Int.le_refl _⟩) (h.all p), Nat.le_trans mput_length_le (by have := h.len; omega)⟩
theorem Ok.del {H : Hs} {T : Int} {n : Nat} (h : Ok H T n) (k : Int) : Ok (mdel k H) T (n + 1) :=
  ⟨h.ks.mdel, fun p hp => h.all p (mem_mdel.1 hp).1, Nat.le_trans mdel_length_le (by have := h.len; omega)⟩
theorem Ok.dec {H : Hs} {T : Int} {n : Nat} (h : Ok H T n) : Ok (dec H) T (n + 1) := by
  refine ⟨List.pairwise_map.2 ((List.Pairwise.filter _ h.ks).imp fun hh => hh), ?_, Nat.le_trans (dec_len _) (by have := h.len; omega)⟩
  intro p hp
  obtain ⟨q, hq, rfl⟩ := List.mem_map.1 hp
  have hq' := List.mem_filter.1 hq
  obtain ⟨a, b, c, d⟩ := h.all q hq'.1
  have h1 : q.2.2 ≠ 1 := by simpa using hq'.2
  exact ⟨a, b, by show 1 ≤ q.2.2 - 1; omega, by show q.2.2 - 1 ≤ T; omega⟩

/-- what was told of the six traces -/
def wasTo (H : Hs) (k : Nat) : List (Int × (Int × Int)) := (List.range k).map fun i : Nat => ((i : Int) + 1, (mget ((i : Int) + 1) H).getD (0, 0))
theorem wasTo_get (H : Hs) (k : Nat) (t : Nat) (ht : t < k) : mget ((t : Int) + 1) (wasTo H k) = some ((mget ((t : Int) + 1) H).getD (0, 0)) := by
  refine mget_of_mem ?_ (List.mem_map.2 ⟨t, by simpa using ht, rfl⟩)
  unfold KS wasTo
  refine List.pairwise_map.2 (List.Pairwise.imp (fun {a b} h => ?_) (List.pairwise_lt_range (n := k)))
  show (a : Int) + 1 < (b : Int) + 1
  omega
theorem wasTo_snoc (H : Hs) (k : Nat) : mput ((k : Int) + 1) ((mget ((k : Int) + 1) H).getD (0, 0)) (wasTo H k) = wasTo H (k + 1) := by
  have h : ∀ (l : List (Int × (Int × Int))) (x : Int) (v : Int × Int), (∀ p ∈ l, p.1 < x) → mput x v l = l ++ [(x, v)] := by
    intro l x v
    induction l with
    | nil => intro _; rfl
    | cons p r ih =>
      intro hp
      have := hp p List.mem_cons_self
      rw [mput, if_neg (by omega), if_neg (by omega), ih fun q hq => hp q (List.mem_cons_of_mem _ hq)]; rfl
  rw [h]
  · simp [wasTo, List.range_succ]
  · intro p hp
    obtain ⟨i, hi, rfl⟩ := List.mem_map.1 hp
    have := List.mem_range.1 hi
    show (i : Int) + 1 < (k : Int) + 1
    omega

/-- each that is gone had one tick left -/
theorem gone_was {H : Hs} (hs : KS H) {q : Nat} {k j : Int} (h : (out1 H)[q]? = some (k, j)) : mget k H = some (j, 1) ∧ mget k (LeaseLaw.dec H) = none := by
  have hm := List.mem_of_getElem? h
  obtain ⟨p, hp, e⟩ := List.mem_map.1 hm
  have hp' := List.mem_filter.1 hp
  have h1 : p.2.2 = 1 := by simpa using hp'.2
  simp only [Prod.mk.injEq] at e
  obtain ⟨rfl, rfl⟩ := e
  have hg : mget p.1 H = some (p.2.1, 1) := mget_of_mem hs (by rw [← h1]; exact hp'.1)
  refine ⟨hg, mget_none.2 fun r hr he => ?_⟩
  obtain ⟨s, hs', rfl⟩ := List.mem_map.1 hr
  have hs2 := List.mem_filter.1 hs'
  have h2 := mget_of_mem hs (k := s.1) (v := s.2) hs2.1
  have he' : s.1 = p.1 := he
  rw [he', hg] at h2
  have h3 : s.2.2 ≠ 1 := by simpa using hs2.2
  exact h3 (by rw [← (Option.some.inj h2)])

theorem mod_in (x m : Int) (hm : 0 < m) (hm2 : m ≤ 1000) : ∃ A : Nat, wrap64 (1 + wrap64 ((IntKind.u64.wrap x).tmod m)) = A ∧ 1 ≤ A ∧ (A : Int) ≤ m := by
  obtain ⟨A, e, hA⟩ := tmod_small x m hm (by omega)
  exact ⟨1 + A, by rw [e, Lease.wrap_small (by omega) (by omega)]; omega, by omega, by omega⟩

theorem six {H : Hs} {T : Int} {n : Nat} (h : Ok H T n) (t : Nat) : ∃ xj xl : Int, ((mget ((t : Int) + 1) H).getD (0, 0)).1 = xj ∧ ((mget ((t : Int) + 1) H).getD (0, 0)).2 = xl ∧
    ((xj = 0 ∧ xl = 0 ∧ cnt H (t + 1) = cnt H t) ∨ (1 ≤ xj ∧ 1 ≤ xl ∧ cnt H (t + 1) = cnt H t + 1)) := by
  refine ⟨_, _, rfl, rfl, ?_⟩
  rw [cnt_succ]
  cases hm : mget ((t : Int) + 1) H with
  | none => exact .inl ⟨rfl, rfl, rfl⟩
  | some v => have := h.get hm; exact .inr ⟨this.2.1, this.2.2.1, rfl⟩

theorem cnt_le (H : Hs) (k : Nat) : cnt H k ≤ k := by
  unfold cnt
  exact Nat.le_trans (List.length_filter_le _ _) (by simp)

set_option maxRecDepth 100000 in
set_option maxHeartbeats 4000000 in
theorem held_any {H : Type} {enc : TypeId × Value → H} {base : Nat} {d : DataW H} {ps : List MemPlace} (ticks : Int) (v : Value) (w : World) (_ : (Lit.int .i64 ticks).wf = true)
    (u : Value.okWide Try.prog w .any base 73 v) (k : DataW.Trod enc Try.prog w 0 (fun _ => true) true 73 v d ps) (z : (d.weights Try.prog 73).all (· ≤ reachBytes) = true) :
    Calls Try.prog 8 #[.int .i64 ticks, v] w fun e w' => e = .returned (.bool true) ∧ Below w.heap.size w w' := by
  obtain ⟨xs, hrs, _, _⟩ := arg_slice (size := 3) (elt := eOp) Try.underlying73 (by kernel_rfl) (by omega) (fun m ds h => rd_op h) u k z
  clear u k z
  obtain ⟨hxl, a, cap, rfl, hcells⟩ := hrs
  unfold maxLen at hxl
  obtain ⟨T, eT, hT1, hT2⟩ := mod_in ticks 20 (by omega) (by omega)
  have hmm := @run_makeMap Try.prog
  go_enter Try.func8, Try.ntmps8
  go_wp2_with fail
  rw [eT]
  clear eT
  refine awake_true.mono ?_
  rintro e w1 ⟨rfl, hb1⟩
  by_cases hlen : xs.length ≤ 200
  · go_wp2_with fail
    refine (new_yes (by omega) (by omega)).mono ?_
    rintro e w2 ⟨lb, hb, ob, rfl, h2, hlb, hhb, hob, hb2⟩
    go_wp2
    have hlb' := (Array.getElem?_eq_some_iff.1 h2.blk).1
    have hhb' := h2.mh.lt
    have hob' := h2.mo.lt
    have hA : Only (fun _ => False) w2 (w2.alloc (.map #[] 0)) := (Only.refl _ _).alloc _
    have hv : IMap (w2.alloc (.map #[] 0)).heap w2.heap.size eI [] := IMap.made _ _
    have h3 := h2.only hA id id id
    have hB3 : Below w.heap.size w (w2.alloc (.map #[] 0)) := (hb1.trans (hb2.mono hb1.size)).trans (hA.below (Nat.le_trans hb1.size hb2.size) (fun _ _ h => h))
    have hlb0 : w.heap.size ≤ lb := Nat.le_trans hb1.size hlb
    have hhb0 : w.heap.size ≤ hb := Nat.le_trans hb1.size hhb
    have hob0 : w.heap.size ≤ ob := Nat.le_trans hb1.size hob
    have hvb0 : w.heap.size ≤ w2.heap.size := Nat.le_trans hb1.size hb2.size
    generalize w2.alloc (.map #[] 0) = W3 at hA hv h3 hB3 ⊢
    have hn1 : w2.heap.size ≠ lb := by omega
    have hn2 : w2.heap.size ≠ hb := by omega
    have hn3 : w2.heap.size ≠ ob := by omega
    generalize w2.heap.size = vb at hv hvb0 hn1 hn2 hn3 ⊢
    clear h2 hb1 hb2 hlb hhb hob hlb' hhb' hob' hA
    go_loopw [41] (fun i wr => ∃ j : Nat, j ≤ xs.length ∧ i = .int .i64 j ∧ ∃ H O, Lrep wr lb hb ob T H O ∧ IMap wr.heap vb eI O ∧ Ok H T j ∧ Below w.heap.size w wr) (fun i _ => xs.length - (intOf i).toNat)
    case atStart => exact ⟨0, Nat.zero_le _, rfl, [], [], h3, hv, ⟨KS.nil, by simp, by simp⟩, hB3⟩
    case round =>
      obtain ⟨j, hj, rfl, H, O, hl, hv2, hok, hbl⟩ := hrel
      by_cases hlt : j < xs.length
      · obtain ⟨b, off, rfl, hbw, hc⟩ := hcells (by omega)
        have hy : xs[j]? = some xs[j] := List.getElem?_eq_getElem hlt
        generalize xs[j] = x at hy
        obtain ⟨kd, tr, jb⟩ := x
        have hcw : ∀ o, wr.cell? ⟨b, o, none⟩ = w.cell? ⟨b, o, none⟩ := fun o => hbl.cell (p := ⟨b, o, none⟩) hbw
        have g0 : wr.cell? ⟨b, off + j * 3, none⟩ = some (.int .i64 kd) := by rw [hcw]; exact hc j _ 0 _ hy rfl
        have g1 : wr.cell? ⟨b, off + j * 3 + 1, none⟩ = some (.int .i64 tr) := by rw [hcw]; exact hc j _ 1 _ hy rfl
        have g2 : wr.cell? ⟨b, off + j * 3 + 2, none⟩ = some (.int .i64 jb) := by rw [hcw]; exact hc j _ 2 _ hy rfl
        clear hy hc hcw hcells h3 hv hB3
        have hA4 : Only (fun _ => False) wr (wr.alloc (.cells #[.int .i64 kd, .int .i64 tr, .int .i64 jb] 83)) := (Only.refl _ _).alloc _
        have hbx4 : (wr.alloc (.cells #[.int .i64 kd, .int .i64 tr, .int .i64 jb] 83)).heap[wr.heap.size]? = some (.cells #[.int .i64 kd, .int .i64 tr, .int .i64 jb] 83 (0, 0)) := heap_new _ _ rfl
        have hl4 := hl.only hA4 id id id
        have hv4 := hv2.only hA4 id
        have hbl4 := hbl.trans (hA4.below hbl.size (fun _ _ h => h))
        obtain ⟨t1, e1, ht1, ht2⟩ := mod_in tr 6 (by omega) (by omega)
        obtain ⟨j1, e2, hj1, hj2⟩ := mod_in jb 9 (by omega) (by omega)
        go_wp2
        generalize (wr.alloc (.cells #[.int .i64 kd, .int .i64 tr, .int .i64 jb] 83)) = W4 at hA4 hbx4 hl4 hv4 hbl4 ⊢
        have p0 : W4.cell? ⟨wr.heap.size, 0, none⟩ = some (.int .i64 kd) := by simp [World.cell?, hbx4]
        have p1 : W4.cell? ⟨wr.heap.size, 1, none⟩ = some (.int .i64 tr) := by simp [World.cell?, hbx4]
        have p2 : W4.cell? ⟨wr.heap.size, 2, none⟩ = some (.int .i64 jb) := by simp [World.cell?, hbx4]
        go_quiet (fail)
        rw [e1, e2]
        clear e1 e2 p1 p2 hA4 hl hv2 hbl g0 g1 g2
        have hl5 := hl4.heap (w' := W4.drewN nq) rfl
        have hv5 : IMap (W4.drewN nq).heap vb eI O := hv4
        have hbl5 := below_heap hbl4 nq rfl
        have p5 : (W4.drewN nq).cell? ⟨wr.heap.size, 0, none⟩ = some (.int .i64 kd) := p0
        generalize W4.drewN nq = w5 at hl5 hv5 hbl5 p5 ⊢
        clear hl4 hv4 hbl4 p0 hbx4
        have hvl := hv5.lt
        generalize wr.heap.size = B4 at p5 ⊢
        have hcase : (kd = 1 ∨ kd = 2) ∨ kd = 3 ∨ (kd ≠ 1 ∧ kd ≠ 2 ∧ kd ≠ 3) := by omega
        rcases hcase with h1 | h1 | h1
        case' inl =>
          rcases h1 with rfl | rfl
          all_goals
            have hb1 : ((1 : Int) == 1) = true := rfl
            have hb2 : ((2 : Int) == 1) = false := rfl
            have hb3 : ((2 : Int) == 2) = true := rfl
            go_wp2_with fail
            refine (Lease.grant_any (k := t1) (j := j1) (WalkArith.wf_i64 (by omega)) hl5).mono ?_
            rintro e w6 ⟨rfl, hl6, o6⟩
            have hv6 := hv5.only o6 hn2
            have hok6 := hok.grant (k := t1) (j := j1) ⟨by omega, by omega⟩ (by omega) (by omega)
            have hbl6 : Below w.heap.size w w6 := hbl5.trans (o6.below hbl5.size (fun i hi e => by omega))
            clear hl5 hv5 hbl5 p5 o6
            go_wp2_with fail
            refine (job_is t1 hl6 (x := j1) (by rw [mget_mput_same]; rfl)).mono ?_
            rintro e w' ⟨rfl, rfl⟩
            go_wp2_with fail
            refine (left_is t1 hl6 (x := T) (by rw [mget_mput_same]; rfl)).mono ?_
            rintro e w' ⟨rfl, rfl⟩
        case' inr.inl =>
          subst h1
          have hb1 : ((3 : Int) == 1) = false := rfl
          have hb2 : ((3 : Int) == 2) = false := rfl
          have hb3 : ((3 : Int) == 3) = true := rfl
          go_wp2_with fail
          refine (Lease.end_any (k := t1) hl5).mono ?_
          rintro e w6 ⟨rfl, hl6, o6⟩
          have hv6 := hv5.only o6 hn2
          have hok6 := hok.del (k := t1)
          have hbl6 : Below w.heap.size w w6 := hbl5.trans (o6.below hbl5.size (fun i hi e => by omega))
          clear hl5 hv5 hbl5 p5 o6
          go_wp2_with fail
          refine (job_is t1 hl6 (x := 0) (by rw [mget_mdel, if_pos rfl]; rfl)).mono ?_
          rintro e w' ⟨rfl, rfl⟩
          go_wp2_with fail
          refine (left_is t1 hl6 (x := 0) (by rw [mget_mdel, if_pos rfl]; rfl)).mono ?_
          rintro e w' ⟨rfl, rfl⟩
        case' inr.inr =>
          have hb1 : (kd == 1) = false := by simp [h1.1]
          have hb2 : (kd == 2) = false := by simp [h1.2.1]
          have hb3 : (kd == 3) = false := by simp [h1.2.2]
          go_wp2
          have hA6 : Only (fun _ => False) w5 (w5.alloc (.map #[] 0)) := (Only.refl _ _).alloc _
          have hu6 : IMap (w5.alloc (.map #[] 0)).heap w5.heap.size eW (wasTo H 0) := IMap.made _ _
          have hl6' := hl5.only hA6 id id id
          have hv6' := hv5.only hA6 id
          have hbl6' := hbl5.trans (hA6.below hbl5.size (fun _ _ h => h))
          have hlbx := (Array.getElem?_eq_some_iff.1 hl5.blk).1
          have hhbx := hl5.mh.lt
          have hobx := hl5.mo.lt
          generalize w5.alloc (.map #[] 0) = W6 at hA6 hu6 hl6' hv6' hbl6' ⊢
          have hub : w.heap.size ≤ w5.heap.size := hbl5.size
          generalize w5.heap.size = ub at hu6 hlbx hhbx hobx hvl hub ⊢
          clear hA6 hl5 hv5 hbl5 p5
          go_loopw [13] (fun i wr => ∃ t : Nat, t ≤ 6 ∧ i = .int .i64 ((t : Int) + 1) ∧ IMap wr.heap ub eW (wasTo H t) ∧ Only (· = ub) W6 wr) (fun i _ => 8 - (intOf i).toNat)
          case atStart => exact ⟨0, by omega, rfl, hu6, Only.refl _ _⟩
          case round =>
            obtain ⟨t, ht, rfl, hu, hO⟩ := hrel
            have hl7 := hl6'.only hO (by omega) (by omega) (by omega)
            by_cases ht6 : t < 6
            · have hw0 := wasTo_snoc H t
              generalize hxe : (mget ((t : Int) + 1) H).getD (0, 0) = x at hw0
              obtain ⟨x1, x2⟩ := x
              have HW := Lib.hid hw0
              clear hw0
              go_wp2_with fail
              refine (job_is ((t : Int) + 1) hl7 (x := x1) (by rw [hxe])).mono ?_
              rintro e w' ⟨rfl, rfl⟩
              go_wp2_with fail
              refine (left_is ((t : Int) + 1) hl7 (x := x2) (by rw [hxe])).mono ?_
              rintro e w' ⟨rfl, rfl⟩
              clear hxe
              go_wp2_with (at_mapUpdate; refine halt ?_)
              refine Halt.go ?_
              refine wpList_upd (enc := eW) (x1, x2) rfl _ _ _ _ rfl Try.underlying95 Try.underlying3 rfl rfl rfl (WalkArith.wf_i64 (by omega)) (by exact hu) ?_
              rintro w8 hu8 o8
              go_wp2
              rw [HW.out] at hu8
              exact ⟨⟨t + 1, by omega, by go_num, hu8, hO.trans o8⟩, by simp [intOf]; omega⟩
            · have hte : t = 6 := by omega
              subst hte
              have hv7 := hv6'.only hO (by omega)
              have hbl7 : Below w.heap.size w wr := hbl6'.trans (hO.below hbl6'.size (fun i hi e => by omega))
              clear hl6' hv6' hbl6' hu6 hO
              go_wp2_with fail
              refine (tick_is2 hl7 (by have := hok.len; omega) (tickAll_eq O hok.ks (fun p hp => by have := hok.all p hp; omega))).mono ?_
              rintro e w8 ⟨a8, c8, rfl, hl8, hs8, hn8, o8⟩
              have hu8 := hu.only o8 (by omega)
              have hv8 := hv7.only o8 (by omega)
              have hbl8 : Below w.heap.size w w8 := hbl7.trans (o8.below hbl7.size (fun i hi e => by omega))
              have hlg : ((out1 H).map Prod.fst).length = (out1 H).length := by simp
              have hlg2 : (out1 H).length ≤ 200 := Nat.le_trans (out1_len H) (by have := hok.len; omega)
              have hvb8 : ∀ k, (Value.slice a8 ((out1 H).map Prod.fst).length c8).ownBlock = some k → k ≠ vb := fun k hk e => by have := (hn8 k hk).1; have := hv7.lt; omega
              rw [hlg] at hvb8 hs8
              rw [hlg]
              have hgw : ∀ (q : Nat) (k j : Int), (out1 H)[q]? = some (k, j) → mget k H = some (j, 1) ∧ mget k (LeaseLaw.dec H) = none := fun q k j h => gone_was hok.ks h
              have HGW := Lib.hid hgw
              have hdl : Ok (LeaseLaw.dec H) T (j + 1) := hok.dec
              clear hl7 hv7 hbl7 hn8 o8 hu hlg hgw
              generalize out1 H = G at *
              generalize LeaseLaw.dec H = D at *
              go_wp2
              go_loopw [76] (fun i wr => ∃ q : Nat, q ≤ G.length ∧ i = .int .i64 q ∧ IMap wr.heap vb eI (putAll O (G.take q)) ∧ Only (· = vb) w8 wr) (fun i _ => G.length - (intOf i).toNat)
              case atStart => exact ⟨0, by omega, rfl, hv8, Only.refl _ _⟩
              case round =>
                obtain ⟨q, hq, rfl, hv9, hO9⟩ := hrel
                have hl9 := hl8.only hO9 (by omega) (by omega) (by omega)
                have hu9 := hu8.only hO9 (by omega)
                by_cases hlq : q < G.length
                · have hy : G[q]? = some G[q] := List.getElem?_eq_getElem hlq
                  have hstep : putAll O (G.take (q + 1)) = mput G[q].1 (max ((mget G[q].1 (putAll O (G.take q))).getD 0) G[q].2) (putAll O (G.take q)) := by
                    rw [List.take_add_one, hy, Option.toList_some]; simp only [putAll, List.foldl_append, List.foldl_cons, List.foldl_nil]
                  generalize G[q] = y at hy hstep
                  obtain ⟨k1, jj⟩ := y
                  obtain ⟨hg1, hg2⟩ := HGW.out _ _ _ hy
                  have hk1 := (hok.get hg1).1
                  obtain ⟨b9, o9, c9, hv0, hb9, hc9⟩ := RS.int (xs := G.map Prod.fst) hs8 (by simp; omega)
                  simp only [Value.slice.injEq] at hv0
                  obtain ⟨rfl, hzz, rfl⟩ := hv0
                  clear hzz
                  have hb9v := hvb8 b9 rfl
                  have g9 : wr.cell? ⟨b9, o9 + q, none⟩ = some (.int .i64 k1) := by
                    rw [World.cell?_of_block (w := w8) (hO9.block b9 hb9 hb9v)]
                    exact hc9 q k1 (by simp [hy])
                  have hw9 := wasTo_get H 6 (k1 - 1).toNat (by omega)
                  have ek : (((k1 - 1).toNat : Nat) : Int) + 1 = k1 := by omega
                  rw [ek, hg1] at hw9
                  have hlk := hu9.lookup (P := Try.prog) false Try.underlying95 Try.underlying3 (zW _) k1
                  rw [hw9] at hlk
                  generalize hme : putAll O (G.take q) = M at hv9 hstep
                  generalize hye : (mget k1 M).getD 0 = yy at hstep
                  have hlo := hv9.lookup (P := Try.prog) false Try.underlying94 Try.underlying3 (zI _) k1
                  rw [int_form, hye] at hlo
                  have hlk2 : (Instr.lookup 95 (.map (some ub)) (.int .i64 k1) false).run Try.prog wr = .ok (.agg #[.int .i64 jj, .int .i64 1]) wr := hlk
                  have hlo2 : (Instr.lookup 94 (.map (some vb)) (.int .i64 k1) false).run Try.prog wr = .ok (.int .i64 yy) wr := hlo
                  clear hlk hlo hvb8 hb9v hb9 hu9 hu8 hv8 hl8 hmm
                  have HS := Lib.hid hstep
                  have HG := Lib.hid hg2
                  clear hstep hg1 hg2 hw9 ek hye hme hy hs8 hc9
                  go_wp2_with fail
                  refine (job_is k1 hl9 (x := 0) (by rw [HG.out]; rfl)).mono ?_
                  rintro e w' ⟨rfl, rfl⟩
                  go_wp2_with (at_mapUpdate; refine halt ?_)
                  refine Halt.go ?_
                  refine wpList_upd (enc := eI) (max yy jj) rfl _ _ _ _ rfl Try.underlying94 Try.underlying3 rfl rfl rfl (WalkArith.wf_i64 (by omega)) (by exact hv9) ?_
                  rintro w10 hv10 o10
                  go_wp2
                  exact ⟨⟨q + 1, by omega, by go_num, by rw [HS.out]; exact hv10, hO9.trans o10⟩, by simp [intOf]; omega⟩
                · have hqe : q = G.length := by omega
                  subst hqe
                  rw [List.take_length] at hv9
                  have hl6 := hl9
                  have hv6 := hv9
                  have hok6 := hdl
                  have hbl6 : Below w.heap.size w wr := hbl8.trans (hO9.below hbl8.size (fun i hi e => by omega))
                  obtain ⟨w6, rfl⟩ : ∃ w6 : World, w6 = wr := ⟨_, rfl⟩
                  clear hl9 hv9 hbl8 hO9 hu9 hu8 hv8 hl8 hs8
                  obtain ⟨H6, O6, hl6, hv6, hok6⟩ : ∃ H6 O6, Lrep w6 lb hb ob T H6 O6 ∧ IMap w6.heap vb eI O6 ∧ Ok H6 T (j + 1) := ⟨_, _, hl6, hv6, hok6⟩
                  go_wp2
                  go_loopw [16, 17] (fun held i wr => ∃ t : Nat, t ≤ 6 ∧ i = .int .i64 ((t : Int) + 1) ∧ held = .int .i64 (cnt H6 t) ∧ Lrep wr lb hb ob T H6 O6 ∧ IMap wr.heap vb eI O6 ∧ Below w.heap.size w wr) (fun _ i _ => 8 - (intOf i).toNat)
                  case atStart => exact ⟨0, by omega, rfl, rfl, hl6, hv6, hbl6⟩
                  case round =>
                    obtain ⟨t, ht, rfl, rfl, hl, hv, hbl⟩ := hrel
                    clear hl6 hv6 hbl6
                    have hcl := cnt_le H6 t
                    by_cases ht6 : t < 6
                    · obtain ⟨xj, xl, hxj, hxl, hc⟩ := six hok6 t
                      have qj := fun n => (job_is ((t : Int) + 1) (hl.heap (w' := wr.drewN n) rfl) hxj).mono (R' := fun e w' => e = .returned (.int .i64 xj) ∧ w' = wr.drewN n) fun _ _ h => ⟨h.1, h.2.symm⟩
                      have ql := fun n => (left_is ((t : Int) + 1) (hl.heap (w' := wr.drewN n) rfl) hxl).mono (R' := fun e w' => e = .returned (.int .i64 xl) ∧ w' = wr.drewN n) fun _ _ h => ⟨h.1, h.2.symm⟩
                      obtain ⟨y, hy⟩ : ∃ y, (mget ((t : Int) + 1) O6).getD 0 = y := ⟨_, rfl⟩
                      have qo := fun n => (over_is ((t : Int) + 1) (hl.heap (w' := wr.drewN n) rfl) hy).mono (R' := fun e w' => e = .returned (.int .i64 y) ∧ w' = wr.drewN n) fun _ _ h => ⟨h.1, h.2.symm⟩
                      have hlo : ∀ n, (Instr.lookup 94 (.map (some vb)) (.int .i64 ((t : Int) + 1)) false).run Try.prog (wr.drewN n) = .ok (.int .i64 y) (wr.drewN n) := fun n => by
                        have hlk := IMap.lookup (P := Try.prog) (w := wr.drewN n) (m := O6) false hv Try.underlying94 Try.underlying3 (zI _) ((t : Int) + 1)
                        rw [int_form, hy] at hlk
                        exact hlk
                      have hyy : (y != y) = false := by simp
                      have HJ := Lib.hid hxj
                      have HY := Lib.hid hy
                      clear hxj hxl hy
                      rcases hc with ⟨h1, h2, h3⟩ | ⟨h1, h2, h3⟩
                      · subst h1 h2
                        have HC := Lib.hid h3
                        clear h3
                        go_wp2
                        go_quiet (first
                          | (go_at_call 38; exact Calls.quiet_of_same (qj _))
                          | (go_at_call 39; exact Calls.quiet_of_same (ql _))
                          | (go_at_call 40; exact Calls.quiet_of_same (qo _)))
                        clear qj ql qo hlo
                        go_wp2_with fail
                        refine (job_is ((t : Int) + 1) (hl.heap (w' := wr.drewN nq) rfl) HJ.out).mono ?_
                        rintro e w' ⟨rfl, rfl⟩
                        go_wp2
                        refine ⟨⟨t + 1, by omega, by go_num, ?_, hl.heap rfl, hv, below_heap hbl nq rfl⟩, by simp [intOf]; omega⟩
                        rw [HC.out]
                      · have HC := Lib.hid h3
                        clear h3
                        have d1 : decide (0 < xj) = true := by simp; omega
                        have d2 : decide (0 < xl) = true := by simp; omega
                        have b1 : (true != true) = false := rfl
                        go_wp2
                        go_quiet (first
                          | (go_at_call 38; exact Calls.quiet_of_same (qj _))
                          | (go_at_call 39; exact Calls.quiet_of_same (ql _))
                          | (go_at_call 40; exact Calls.quiet_of_same (qo _)))
                        clear qj ql qo hlo
                        go_wp2_with fail
                        refine (job_is ((t : Int) + 1) (hl.heap (w' := wr.drewN nq) rfl) HJ.out).mono ?_
                        rintro e w' ⟨rfl, rfl⟩
                        go_wp2
                        refine ⟨⟨t + 1, by omega, by go_num, ?_, hl.heap rfl, hv, below_heap hbl nq rfl⟩, by simp [intOf]; omega⟩
                        rw [HC.out]; go_num
                    · have hte : t = 6 := by omega
                      subst hte
                      have hce := cnt_all hok6.ks (fun p hp => (hok6.all p hp).1)
                      rw [hce]
                      clear hce
                      go_wp2_with fail
                      refine (len_any hl).mono ?_
                      rintro e w' ⟨rfl, rfl⟩
                      go_wp2
                      exact ⟨⟨j + 1, by omega, by go_num, _, _, hl, hv, hok6, hbl⟩, by simp [intOf]; omega⟩
        all_goals
          obtain ⟨H6, O6, hl6, hv6, hok6⟩ : ∃ H6 O6, Lrep w6 lb hb ob T H6 O6 ∧ IMap w6.heap vb eI O6 ∧ Ok H6 T (j + 1) := ⟨_, _, hl6, hv6, hok6⟩
          go_wp2
          go_loopw [16, 17] (fun held i wr => ∃ t : Nat, t ≤ 6 ∧ i = .int .i64 ((t : Int) + 1) ∧ held = .int .i64 (cnt H6 t) ∧ Lrep wr lb hb ob T H6 O6 ∧ IMap wr.heap vb eI O6 ∧ Below w.heap.size w wr) (fun _ i _ => 8 - (intOf i).toNat)
          case atStart => exact ⟨0, by omega, rfl, rfl, hl6, hv6, hbl6⟩
          case round =>
            obtain ⟨t, ht, rfl, rfl, hl, hv, hbl⟩ := hrel
            clear hl6 hv6 hbl6
            have hcl := cnt_le H6 t
            by_cases ht6 : t < 6
            · obtain ⟨xj, xl, hxj, hxl, hc⟩ := six hok6 t
              have qj := fun n => (job_is ((t : Int) + 1) (hl.heap (w' := wr.drewN n) rfl) hxj).mono (R' := fun e w' => e = .returned (.int .i64 xj) ∧ w' = wr.drewN n) fun _ _ h => ⟨h.1, h.2.symm⟩
              have ql := fun n => (left_is ((t : Int) + 1) (hl.heap (w' := wr.drewN n) rfl) hxl).mono (R' := fun e w' => e = .returned (.int .i64 xl) ∧ w' = wr.drewN n) fun _ _ h => ⟨h.1, h.2.symm⟩
              obtain ⟨y, hy⟩ : ∃ y, (mget ((t : Int) + 1) O6).getD 0 = y := ⟨_, rfl⟩
              have qo := fun n => (over_is ((t : Int) + 1) (hl.heap (w' := wr.drewN n) rfl) hy).mono (R' := fun e w' => e = .returned (.int .i64 y) ∧ w' = wr.drewN n) fun _ _ h => ⟨h.1, h.2.symm⟩
              have hlo : ∀ n, (Instr.lookup 94 (.map (some vb)) (.int .i64 ((t : Int) + 1)) false).run Try.prog (wr.drewN n) = .ok (.int .i64 y) (wr.drewN n) := fun n => by
                have hlk := IMap.lookup (P := Try.prog) (w := wr.drewN n) (m := O6) false hv Try.underlying94 Try.underlying3 (zI _) ((t : Int) + 1)
                rw [int_form, hy] at hlk
                exact hlk
              have hyy : (y != y) = false := by simp
              have HJ := Lib.hid hxj
              have HY := Lib.hid hy
              clear hxj hxl hy
              rcases hc with ⟨h1, h2, h3⟩ | ⟨h1, h2, h3⟩
              · subst h1 h2
                have HC := Lib.hid h3
                clear h3
                go_wp2
                go_quiet (first
                  | (go_at_call 38; exact Calls.quiet_of_same (qj _))
                  | (go_at_call 39; exact Calls.quiet_of_same (ql _))
                  | (go_at_call 40; exact Calls.quiet_of_same (qo _)))
                clear qj ql qo hlo
                go_wp2_with fail
                refine (job_is ((t : Int) + 1) (hl.heap (w' := wr.drewN nq) rfl) HJ.out).mono ?_
                rintro e w' ⟨rfl, rfl⟩
                go_wp2
                refine ⟨⟨t + 1, by omega, by go_num, ?_, hl.heap rfl, hv, below_heap hbl nq rfl⟩, by simp [intOf]; omega⟩
                rw [HC.out]
              · have HC := Lib.hid h3
                clear h3
                have d1 : decide (0 < xj) = true := by simp; omega
                have d2 : decide (0 < xl) = true := by simp; omega
                have b1 : (true != true) = false := rfl
                go_wp2
                go_quiet (first
                  | (go_at_call 38; exact Calls.quiet_of_same (qj _))
                  | (go_at_call 39; exact Calls.quiet_of_same (ql _))
                  | (go_at_call 40; exact Calls.quiet_of_same (qo _)))
                clear qj ql qo hlo
                go_wp2_with fail
                refine (job_is ((t : Int) + 1) (hl.heap (w' := wr.drewN nq) rfl) HJ.out).mono ?_
                rintro e w' ⟨rfl, rfl⟩
                go_wp2
                refine ⟨⟨t + 1, by omega, by go_num, ?_, hl.heap rfl, hv, below_heap hbl nq rfl⟩, by simp [intOf]; omega⟩
                rw [HC.out]; go_num
            · have hte : t = 6 := by omega
              subst hte
              have hce := cnt_all hok6.ks (fun p hp => (hok6.all p hp).1)
              rw [hce]
              clear hce
              go_wp2_with fail
              refine (len_any hl).mono ?_
              rintro e w' ⟨rfl, rfl⟩
              go_wp2
              exact ⟨⟨j + 1, by omega, by go_num, _, _, hl, hv, hok6, hbl⟩, by simp [intOf]; omega⟩
      · have hje : j = xs.length := by omega
        go_wp2
        go_ret
        exact ⟨rfl, hbl⟩
  · go_wp2_with fail
    refine awake_true.mono ?_
    rintro e w2 ⟨rfl, hb2⟩
    go_wp2
    go_ret
    exact ⟨rfl, hb1.trans (hb2.mono hb1.size)⟩

end Go.Proofs.Ytcdjeblcmgghhaa.LeaseHeld
