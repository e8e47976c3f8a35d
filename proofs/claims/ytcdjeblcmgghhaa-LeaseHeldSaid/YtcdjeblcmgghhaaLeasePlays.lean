/- LeasePlays: in every order of calls the leases are the reference's; the law answers true for every input. Conditions: the argument can be read. -/
import Derived.Test.YtcdjeblcmgghhaaLease2
import Derived.Test.YtcdjeblcmgghhaaLeaseLaw
import Derived.Test.YtcdjeblcmgghhaaArgs
namespace Go.Proofs.Ytcdjeblcmgghhaa.LeaseLaw
open Go.RowKit Go.Sp Lease LeaseRef

/-- (kind, trace, job) -/
def eOp (x : Int × Int × Int) : List Value := [.int .i64 x.1, .int .i64 x.2.1, .int .i64 x.2.2]
theorem eOp_len (x : Int × Int × Int) : (eOp x).length = 3 := rfl

set_option maxRecDepth 100000 in
theorem rd_op {w : World} {m : Nat} {ds : List Value} (h : Rd Try.prog w m 83 ds) : ∃ x : Int × Int × Int, eOp x = ds ∧ (Lit.int .i64 x.2.1).wf = true := by
  obtain ⟨hl, hf⟩ := rd_struct h Try.underlying83
  have hc : Try.prog.cellsOf 83 = 3 := by kernel_rfl
  have hi : Try.prog.cellsOf 3 = 1 := by kernel_rfl
  rw [hc] at hl
  match ds, hl with
  | [a, b, c], _ =>
    simp [hi] at hf
    obtain ⟨⟨m1, f1⟩, ⟨m2, f2⟩, ⟨m3, f3⟩⟩ := hf
    obtain ⟨x1, e1, _⟩ := rd_int f1 Try.underlying3
    obtain ⟨x2, e2, w2⟩ := rd_int f2 Try.underlying3
    obtain ⟨x3, e3, _⟩ := rd_int f3 Try.underlying3
    simp at e1 e2 e3
    subst e1 e2 e3
    exact ⟨(x1, x2, x3), rfl, w2⟩

theorem Both.len300 {H : Hs} {O : Os'} {L Ov : List Ls} {k : Nat} (h : Both H O L Ov k) (hk : k ≤ 300) : H.length ≤ 300 ∧ L.length ≤ 300 ∧ Ov.length ≤ 90000 :=
  ⟨Nat.le_trans h.len hk, by rw [h.eq, toL, List.length_map]; exact Nat.le_trans h.len hk, Nat.le_trans h.olen (Nat.mul_le_mul hk hk)⟩

/-- the state of both sides in memory -/
structure St (B : Nat) (R : Nat → Prop) (lb hb ob rb : Nat) (T : Int) (wr : World) (j : Nat) (H : Hs) (O : Os') (L Ov : List Ls) (lv ov : Value) : Prop where
  l : Lrep wr lb hb ob T H O
  r : Rrep wr R rb T lv ov L Ov
  b : Both H O L Ov j
  sz : B ≤ wr.heap.size

theorem St.heap {B : Nat} {R : Nat → Prop} {lb hb ob rb : Nat} {T : Int} {w w' : World} {j : Nat} {H : Hs} {O : Os'} {L Ov : List Ls} {lv ov : Value} (h : St B R lb hb ob rb T w j H O L Ov lv ov) (e : w'.heap = w.heap) : St B R lb hb ob rb T w' j H O L Ov lv ov :=
  ⟨h.l.heap e, ⟨by rw [e]; exact h.r.blk, by rw [e]; exact h.r.sl, by rw [e]; exact h.r.so, h.r.rr, h.r.rl, h.r.ro, h.r.ne⟩, h.b, by rw [e]; exact h.sz⟩

theorem Rrep.turn {w : World} {R R' : Nat → Prop} {rb : Nat} {T : Int} {lv ov : Value} {L Ov : List Ls} (h : Rrep w R rb T lv ov L Ov) (hR : ∀ b, b < w.heap.size → R b → R' b) : Rrep w R' rb T lv ov L Ov :=
  ⟨h.blk, h.sl, h.so, hR _ h.lt h.rr, fun g hg => hR g (h.sl.lt g hg) (h.rl g hg), fun g hg => hR g (h.so.lt g hg) (h.ro g hg), h.ne⟩

theorem both_find {H : Hs} {O : Os'} {L Ov : List Ls} {n : Nat} (h : Both H O L Ov n) (k : Int) : ∃ x1 xj xl, (L.find? (fun p => p.1 == k)).getD (0, 0, 0) = (x1, xj, xl) ∧ ((mget k H).getD (0, 0)).1 = xj ∧ ((mget k H).getD (0, 0)).2 = xl := by
  rw [h.eq, find_toL]
  cases mget k H with
  | none => exact ⟨0, 0, 0, rfl, rfl, rfl⟩
  | some v => exact ⟨k, v.1, v.2, rfl, rfl, rfl⟩

theorem both_len {H : Hs} {O : Os'} {L Ov : List Ls} {n : Nat} (h : Both H O L Ov n) : (H.length : Int) = (L.length : Int) := by rw [h.eq, toL, List.length_map]

theorem both_left {H : Hs} {O : Os'} {L Ov : List Ls} {n : Nat} (h : Both H O L Ov n) : ∀ p ∈ L, 1 ≤ p.2.2 ∧ p.2.2 ≤ 1000 := by
  rw [h.eq]
  intro p hp
  obtain ⟨q, hq, rfl⟩ := List.mem_map.1 hp
  exact h.left q hq

theorem Rrep.heap {w w' : World} {R : Nat → Prop} {rb : Nat} {T : Int} {lv ov : Value} {L Ov : List Ls} (h : Rrep w R rb T lv ov L Ov) (e : w'.heap = w.heap) : Rrep w' R rb T lv ov L Ov :=
  ⟨by rw [e]; exact h.blk, by rw [e]; exact h.sl, by rw [e]; exact h.so, h.rr, h.rl, h.ro, h.ne⟩

theorem below_heap {B : Nat} {a b c : World} (h : Below B a b) (n : Nat) (e : c = b.drewN n) : Below B a c := by subst e; exact ⟨h.os, h.tape, h.output, h.size, h.block⟩

set_option maxRecDepth 100000 in
set_option maxHeartbeats 1000000 in
theorem plays_any {H : Type} {enc : TypeId × Value → H} {base : Nat} {d : DataW H} {ps : List MemPlace} (ticks : Int) (v : Value) (w : World) (hwt : (Lit.int .i64 ticks).wf = true)
    (u : Value.okWide Try.prog w .any base 73 v) (k : DataW.Trod enc Try.prog w 0 (fun _ => true) true 73 v d ps) (z : (d.weights Try.prog 73).all (· ≤ reachBytes) = true) :
    Calls Try.prog 6 #[.int .i64 ticks, v] w fun e w' => e = .returned (.bool true) ∧ Below w.heap.size w w' := by
  obtain ⟨xs, hrs, hQ, _⟩ := arg_slice (size := 3) (elt := eOp) Try.underlying73 (by kernel_rfl) (by omega) (fun m ds h => rd_op h) u k z
  clear u k z
  obtain ⟨hxl, a, cap, rfl, hcells⟩ := hrs
  unfold maxLen at hxl
  go_enter Try.func6, Try.ntmps6
  go_wp2_with fail
  refine awake_true.mono ?_
  rintro e w1 ⟨rfl, hb1⟩
  by_cases hlen : xs.length ≤ 300
  · by_cases hT : 1 ≤ ticks ∧ ticks ≤ 1000
    · obtain ⟨hT1, hT2⟩ := hT
      go_wp2_with fail
      refine (new_yes hT1 hT2).mono ?_
      rintro e w2 ⟨lb, hb, ob, rfl, h2, hlb, hhb, hob, hb2⟩
      go_wp2
      have hA : Only (fun _ => False) w2 (w2.alloc (.cells #[.int .i64 ticks, .slice none 0 0, .slice none 0 0] 81)) := (Only.refl _ _).alloc _
      have hbx : (w2.alloc (.cells #[.int .i64 ticks, .slice none 0 0, .slice none 0 0] 81)).heap[w2.heap.size]? = some (.cells #[.int .i64 ticks, .slice none 0 0, .slice none 0 0] 81 (0, 0)) := heap_new _ _ rfl
      generalize (w2.alloc (.cells #[.int .i64 ticks, .slice none 0 0, .slice none 0 0] 81)) = W3 at hA hbx ⊢
      have hlb' := (Array.getElem?_eq_some_iff.1 h2.blk).1
      have hhb' := h2.mh.lt
      have hob' := h2.mo.lt
      have hB3 : Below w.heap.size w W3 := (hb1.trans (hb2.mono hb1.size)).trans (hA.below (Nat.le_trans hb1.size hb2.size) (fun _ _ h => h))
      have hlb0 : w.heap.size ≤ lb := Nat.le_trans hb1.size hlb
      have hhb0 : w.heap.size ≤ hb := Nat.le_trans hb1.size hhb
      have hob0 : w.heap.size ≤ ob := Nat.le_trans hb1.size hob
      have hrb0 : w.heap.size ≤ w2.heap.size := Nat.le_trans hb1.size hb2.size
      obtain ⟨R, hRi⟩ : ∃ R : Nat → Prop, ∀ b, R b ↔ (w.heap.size ≤ b ∧ b ≠ lb ∧ b ≠ hb ∧ b ≠ ob) := ⟨_, fun _ => Iff.rfl⟩
      have hS : St w.heap.size R lb hb ob w2.heap.size ticks W3 0 [] [] [] [] (.slice none 0 0) (.slice none 0 0) :=
        ⟨h2.only hA id id id, ⟨hbx, SL.nil _ _ _, SL.nil _ _ _, (hRi _).2 ⟨by omega, by omega, by omega, by omega⟩, fun g hg => by simp [Value.ownBlock] at hg, fun g hg => by simp [Value.ownBlock] at hg, fun g hg => by simp [Value.ownBlock] at hg⟩, Both.start, hB3.size⟩
      have hRn : ∀ b, W3.heap.size ≤ b → R b := fun b hb => (hRi b).2 (by have := hA.size; exact ⟨by omega, by omega, by omega, by omega⟩)
      have hRd : ∀ b, R b → w.heap.size ≤ b ∧ ¬ (b = lb ∨ b = hb ∨ b = ob) := fun b h => ⟨((hRi b).1 h).1, fun e => by have := (hRi b).1 h; omega⟩
      clear hRi
      generalize w2.heap.size = rb at hS ⊢
      clear h2 hA hbx hb1 hb2 hlb hhb hob hlb' hhb' hob' hrb0
      go_loopw [41] (fun i wr => ∃ j : Nat, j ≤ xs.length ∧ i = .int .i64 j ∧ ∃ H O L Ov lv ov, St w.heap.size R lb hb ob rb ticks wr j H O L Ov lv ov ∧ Below w.heap.size w wr ∧ W3.heap.size ≤ wr.heap.size) (fun i _ => xs.length - (intOf i).toNat)
      case atStart => exact ⟨0, Nat.zero_le _, rfl, _, _, _, _, _, _, hS, hB3, Nat.le_refl _⟩
      case round =>
        obtain ⟨j, hj, rfl, H, O, L, Ov, lv, ov, hs, hbl, hsz⟩ := hrel
        by_cases hlt : j < xs.length
        · obtain ⟨b, off, rfl, hbw, hc⟩ := hcells (by omega)
          have hy : xs[j]? = some xs[j] := List.getElem?_eq_getElem hlt
          have hq := hQ _ (List.getElem_mem hlt)
          generalize xs[j] = x at hy hq
          obtain ⟨kd, tr, jb⟩ := x
          have hcw : ∀ o, wr.cell? ⟨b, o, none⟩ = w.cell? ⟨b, o, none⟩ := fun o => hbl.cell (p := ⟨b, o, none⟩) hbw
          have g0 : wr.cell? ⟨b, off + j * 3, none⟩ = some (.int .i64 kd) := by rw [hcw]; exact hc j _ 0 _ hy rfl
          have g1 : wr.cell? ⟨b, off + j * 3 + 1, none⟩ = some (.int .i64 tr) := by rw [hcw]; exact hc j _ 1 _ hy rfl
          have g2 : wr.cell? ⟨b, off + j * 3 + 2, none⟩ = some (.int .i64 jb) := by rw [hcw]; exact hc j _ 2 _ hy rfl
          clear hy hc hcw hcells
          obtain ⟨hl1, hl2, hl3⟩ := hs.b.len300 (by omega)
          have hcase : kd = 1 ∨ kd = 2 ∨ (kd ≠ 1 ∧ kd ≠ 2) := by omega
          have hA4 : Only (fun _ => False) wr (wr.alloc (.cells #[.int .i64 kd, .int .i64 tr, .int .i64 jb] 83)) := (Only.refl _ _).alloc _
          have hbx4 : (wr.alloc (.cells #[.int .i64 kd, .int .i64 tr, .int .i64 jb] 83)).heap[wr.heap.size]? = some (.cells #[.int .i64 kd, .int .i64 tr, .int .i64 jb] 83 (0, 0)) := heap_new _ _ rfl
          have hlbx := (Array.getElem?_eq_some_iff.1 hs.l.blk).1
          have hhbx := hs.l.mh.lt
          have hobx := hs.l.mo.lt
          have hl4 := hs.l.only hA4 id id id
          obtain ⟨R4, hRi4⟩ : ∃ R4 : Nat → Prop, ∀ b, R4 b ↔ (R b ∧ b ≠ wr.heap.size) := ⟨_, fun _ => Iff.rfl⟩
          have hr4 := (Rrep.turn (R' := R4) hs.r (fun b hb h => (hRi4 b).2 ⟨h, by omega⟩)).fresh hA4 (fun _ _ => id)
          have hRn4 : ∀ b, (wr.alloc (.cells #[.int .i64 kd, .int .i64 tr, .int .i64 jb] 83)).heap.size ≤ b → R4 b := fun b hb => by simp at hb; exact (hRi4 b).2 ⟨hRn b (by omega), by omega⟩
          have hRd4 : ∀ b, R4 b → R b ∧ b ≠ wr.heap.size := fun b h => (hRi4 b).1 h
          clear hRi4
          have hb4 := hs.b
          have hbl4 := hbl.trans (hA4.below hbl.size (fun _ _ h => h))
          clear hs hbl
          have hlhb : hb ≠ wr.heap.size := by omega
          have hlob : ob ≠ wr.heap.size := by omega
          have hlen4 : hb4 = hb4 := rfl
          rcases hcase with h1 | h1 | h1
          case' inl =>
            subst h1
            have hk1 : ((1 : Int) == 1) = true := rfl
            go_wp2_with fail
            generalize (wr.alloc (.cells #[.int .i64 1, .int .i64 tr, .int .i64 jb] 83)) = W4 at hA4 hbx4 hl4 hr4 hRn4 hbl4 ⊢
            generalize wr.heap.size = B4 at hbx4 hRd4 hlhb hlob ⊢
            refine (Lease.grant_any hq hl4).mono ?_
            rintro e w5 ⟨rfl, hl5, o5⟩
            have hr5 := hr4.only o5 (fun b hb e => (hRd b (hRd4 b hb).1).2 (.inr (.inl e)))
            have hbx5 := o5.heap hbx4 (fun e => hlhb e.symm)
            have p0 : w5.cell? ⟨B4, 0, none⟩ = some (.int .i64 1) := by simp [World.cell?, hbx5]
            have p1 : w5.cell? ⟨B4, 1, none⟩ = some (.int .i64 tr) := by simp [World.cell?, hbx5]
            have p2 : w5.cell? ⟨B4, 2, none⟩ = some (.int .i64 jb) := by simp [World.cell?, hbx5]
            go_wp2_with fail
            refine (LeaseRef.grant_any hr5 (fun b hb => hRn4 b (Nat.le_trans o5.size hb)) (by omega)).mono ?_
            rintro e w6 ⟨rfl, lv6, hr6, o6⟩
            have hb6 := hb4.grant tr jb hT1 hT2
            have hl6 := hl5.only o6 (fun e => (hRd _ (hRd4 _ e).1).2 (.inl rfl)) (fun e => (hRd _ (hRd4 _ e).1).2 (.inr (.inl rfl))) (fun e => (hRd _ (hRd4 _ e).1).2 (.inr (.inr rfl)))
            have hbx6 := o6.heap hbx5 (fun e => (hRd4 _ e).2 rfl)
            have hbl6 : Below w.heap.size w w6 := (hbl4.trans (o5.below (B := w.heap.size) hbl4.size (fun i hi e => by subst e; omega))).trans (o6.below (Nat.le_trans hbl4.size o5.size) (fun i hi e => by have := (hRd _ (hRd4 _ e).1).1; omega))
            have hsz6 : W3.heap.size ≤ w6.heap.size := Nat.le_trans (Nat.le_trans hsz hA4.size) (Nat.le_trans o5.size o6.size)
            clear hr5 hl5 hbx5 o5 o6 hl4 hr4 hbx4 hA4 p0 p1 p2
          case' inr.inl =>
            subst h1
            have hk1 : ((2 : Int) == 1) = false := rfl
            have hk2 : ((2 : Int) == 2) = true := rfl
            go_wp2_with fail
            generalize (wr.alloc (.cells #[.int .i64 2, .int .i64 tr, .int .i64 jb] 83)) = W4 at hA4 hbx4 hl4 hr4 hRn4 hbl4 ⊢
            generalize wr.heap.size = B4 at hbx4 hRd4 hlhb hlob ⊢
            refine (Lease.end_any hl4).mono ?_
            rintro e w5 ⟨rfl, hl5, o5⟩
            have hr5 := hr4.only o5 (fun b hb e => (hRd b (hRd4 b hb).1).2 (.inr (.inl e)))
            have hbx5 := o5.heap hbx4 (fun e => hlhb e.symm)
            have p0 : w5.cell? ⟨B4, 0, none⟩ = some (.int .i64 2) := by simp [World.cell?, hbx5]
            have p1 : w5.cell? ⟨B4, 1, none⟩ = some (.int .i64 tr) := by simp [World.cell?, hbx5]
            have p2 : w5.cell? ⟨B4, 2, none⟩ = some (.int .i64 jb) := by simp [World.cell?, hbx5]
            go_wp2_with fail
            refine (LeaseRef.end_any hr5 (fun b hb => hRn4 b (Nat.le_trans o5.size hb)) (by omega)).mono ?_
            rintro e w6 ⟨rfl, lv6, hr6, o6⟩
            have hb6 := hb4.del tr
            have hl6 := hl5.only o6 (fun e => (hRd _ (hRd4 _ e).1).2 (.inl rfl)) (fun e => (hRd _ (hRd4 _ e).1).2 (.inr (.inl rfl))) (fun e => (hRd _ (hRd4 _ e).1).2 (.inr (.inr rfl)))
            have hbx6 := o6.heap hbx5 (fun e => (hRd4 _ e).2 rfl)
            have hbl6 : Below w.heap.size w w6 := (hbl4.trans (o5.below (B := w.heap.size) hbl4.size (fun i hi e => by subst e; omega))).trans (o6.below (Nat.le_trans hbl4.size o5.size) (fun i hi e => by have := (hRd _ (hRd4 _ e).1).1; omega))
            have hsz6 : W3.heap.size ≤ w6.heap.size := Nat.le_trans (Nat.le_trans hsz hA4.size) (Nat.le_trans o5.size o6.size)
            clear hr5 hl5 hbx5 o5 o6 hl4 hr4 hbx4 hA4 p0 p1 p2
          case' inr.inr =>
            have hk1 : (kd == 1) = false := by simp [h1.1]
            have hk2 : (kd == 2) = false := by simp [h1.2]
            go_wp2_with fail
            generalize (wr.alloc (.cells #[.int .i64 kd, .int .i64 tr, .int .i64 jb] 83)) = W4 at hA4 hbx4 hl4 hr4 hRn4 hbl4 ⊢
            generalize wr.heap.size = B4 at hbx4 hRd4 hlhb hlob ⊢
            obtain ⟨H5, O5, g5, ht⟩ : ∃ H5 O5 g5, tickAll H O = (H5, O5, g5) := ⟨_, _, _, rfl⟩
            obtain ⟨L6, g6, Ov6, hr⟩ : ∃ L6 g6 Ov6, rtick L Ov = (L6, g6, Ov6) := ⟨_, _, _, rfl⟩
            have hBT := hb4.tick
            rw [ht, hr] at hBT
            obtain ⟨hb6, hg6⟩ := hBT
            simp only at hb6 hg6
            subst hg6
            refine (tick_is2 hl4 (by omega) ht).mono ?_
            rintro e w5 ⟨a5, c5, rfl, hl5, hs5, hn5, o5⟩
            have hlt5 : ∀ b, (Value.slice a5 g5.length c5).ownBlock = some b → b < w5.heap.size := fun b hb => (hn5 b hb).2
            have hr5 := hr4.only o5 (fun b hb e => (hRd b (hRd4 b hb).1).2 (.inr e))
            have hbx5 := o5.heap hbx4 (fun e => e.elim (fun e => hlhb e.symm) (fun e => hlob e.symm))
            obtain ⟨R5, hRi5⟩ : ∃ R5 : Nat → Prop, ∀ b, R5 b ↔ (R4 b ∧ (Value.slice a5 g5.length c5).ownBlock ≠ some b) := ⟨_, fun _ => Iff.rfl⟩
            have hr5' := (Rrep.turn (R' := R5) hr4 (fun b hb h => (hRi5 b).2 ⟨h, fun e => by have := (hn5 b e).1; omega⟩)).only o5 (fun b hb e => (hRd b (hRd4 b ((hRi5 b).1 hb).1).1).2 (.inr e))
            go_wp2_with fail
            refine (LeaseRef.tick_any hr5' (fun b hb => (hRi5 b).2 ⟨hRn4 b (Nat.le_trans o5.size hb), fun e => by have := hlt5 b e; omega⟩) (by omega) (by omega) (both_left hb4)).mono ?_
            rintro e w6' ⟨v6, lv6, ov6, rfl, hr6', hs6, hn6, o6⟩
            rw [hr] at hr6' hs6
            simp only at hr6' hs6
            have hl6' := hl5.only o6 (fun e => (hRd _ (hRd4 _ ((hRi5 _).1 e).1).1).2 (.inl rfl)) (fun e => (hRd _ (hRd4 _ ((hRi5 _).1 e).1).1).2 (.inr (.inl rfl))) (fun e => (hRd _ (hRd4 _ ((hRi5 _).1 e).1).1).2 (.inr (.inr rfl)))
            have hs5' := hs5.only o6 (fun g hg e => ((hRi5 g).1 e).2 hg)
            have hbx6' := o6.heap hbx5 (fun e => (hRd4 _ ((hRi5 _).1 e).1).2 rfl)
            have hbl6' : Below w.heap.size w w6' := (hbl4.trans (o5.below (B := w.heap.size) hbl4.size (fun i hi e => by omega))).trans (o6.below (Nat.le_trans hbl4.size o5.size) (fun i hi e => by have := (hRd _ (hRd4 _ ((hRi5 _).1 e).1).1).1; omega))
            have hsz6' : W3.heap.size ≤ w6'.heap.size := Nat.le_trans (Nat.le_trans hsz hA4.size) (Nat.le_trans o5.size o6.size)
            have hr6'' := Rrep.turn (R' := R4) hr6' (fun b _ h => ((hRi5 b).1 h).1)
            go_wp2_with fail
            have rs6 := SL.ints hs6
            clear ht hr
            refine (sameInts_any hs5' rs6).mono ?_
            rintro e w6 ⟨rfl, n6, hw6⟩
            have hl6 := hl6'.heap (w' := w6) (by rw [hw6]; rfl)
            have hr6 := Rrep.heap hr6'' (w' := w6) (by rw [hw6]; rfl)
            have hbx6 : w6.heap[B4]? = _ := (by rw [hw6]; exact hbx6' : w6.heap[B4]? = some (.cells #[.int .i64 kd, .int .i64 tr, .int .i64 jb] 83 (0, 0)))
            have hbl6 := below_heap hbl6' n6 hw6
            have hsz6 : W3.heap.size ≤ w6.heap.size := by rw [hw6]; exact hsz6'
            rw [decide_eq_true rfl]
            clear hw6 hr6'' hr6' hl6' hs5' hbx6' hbl6' hsz6' hs6 rs6 hn6 o6 hr5' hr5 hl5 hs5 hbx5 o5 hl4 hr4 hbx4 hA4 hRi5 hn5
          all_goals
            obtain ⟨x1, xj, xl, hx, hxj, hxl⟩ := both_find hb6 tr
            obtain ⟨m1, m2, m3⟩ := hb6.len300 (by omega)
            have hlen6 : L.length = L.length := rfl
            have p1 : w6.cell? ⟨B4, 1, none⟩ = some (.int .i64 tr) := by simp [World.cell?, hbx6]
            go_wp2_with fail
            refine (LeaseRef.of_any hr6 (by omega) hx).mono ?_
            rintro e w7 ⟨rfl, o7⟩
            have q1 := (o7.heap hbx6 id)
            have hl7 := hl6.only o7 id id id
            have hr7 := hr6.only o7 (fun _ _ => id)
            obtain ⟨al, cl, rfl⟩ := hr7.sl.form
            go_wp2
            have o8 : Only (fun _ => False) w7 (w7.alloc (.cells #[.int .i64 x1, .int .i64 xj, .int .i64 xl] 87)) := (Only.refl _ _).alloc _
            have hb8 : (w7.alloc (.cells #[.int .i64 x1, .int .i64 xj, .int .i64 xl] 87)).heap[w7.heap.size]? = some (.cells #[.int .i64 x1, .int .i64 xj, .int .i64 xl] 87 (0, 0)) := heap_new _ _ rfl
            generalize (w7.alloc (.cells #[.int .i64 x1, .int .i64 xj, .int .i64 xl] 87)) = w8 at o8 hb8 ⊢
            have hl8 := hl7.only o8 id id id
            have hr8 := hr7.only o8 (fun _ _ => id)
            have hbx8 := o8.heap q1 id
            have y1 : w8.cell? ⟨w7.heap.size, 1, none⟩ = some (.int .i64 xj) := by simp [World.cell?, hb8]
            have y2 : w8.cell? ⟨w7.heap.size, 2, none⟩ = some (.int .i64 xl) := by simp [World.cell?, hb8]
            have y3 : w8.cell? ⟨B4, 1, none⟩ = some (.int .i64 tr) := by simp [World.cell?, hbx8]
            have y4 := hr8.c1
            have qj := fun n => (job_is tr (hl8.heap (w' := w8.drewN n) rfl) hxj).mono (R' := fun e w' => e = .returned (.int .i64 xj) ∧ w' = w8.drewN n) fun _ _ h => ⟨h.1, h.2.symm⟩
            have ql := fun n => (left_is tr (hl8.heap (w' := w8.drewN n) rfl) hxl).mono (R' := fun e w' => e = .returned (.int .i64 xl) ∧ w' = w8.drewN n) fun _ _ h => ⟨h.1, h.2.symm⟩
            have qo := fun n => (over_is tr (hl8.heap (w' := w8.drewN n) rfl) (hb6.ov tr)).mono (R' := fun e w' => e = .returned (.int .i64 _) ∧ w' = w8.drewN n) fun _ _ h => ⟨h.1, h.2.symm⟩
            have qn := fun n => (len_is (hl8.heap (w' := w8.drewN n) rfl) (both_len hb6)).mono (R' := fun e w' => e = .returned (.int .i64 _) ∧ w' = w8.drewN n) fun _ _ h => ⟨h.1, h.2.symm⟩
            have qr := fun n => (last_any (k := tr) (Rrep.heap hr8 (w' := w8.drewN n) rfl) (by omega)).mono (R' := fun e w' => e = .returned (.int .i64 _) ∧ w' = w8.drewN n) fun _ _ h => ⟨h.1, h.2.symm⟩
            have b1 : (xj != xj) = false := by simp
            have b2 : (xl != xl) = false := by simp
            have hbl8 : Below w.heap.size w w8 := (hbl6.trans (o7.below hbl6.size (fun _ _ h => h))).trans (o8.below (Nat.le_trans hbl6.size o7.size) (fun _ _ h => h))
            have hsz8 : W3.heap.size ≤ w8.heap.size := Nat.le_trans hsz6 (Nat.le_trans o7.size o8.size)
            have hr9 := Rrep.turn (R' := R) hr8 (fun b _ h => (hRd4 b h).1)
            clear hl7 hr7 o7 hl6 hr6 hbx6 hbl6 p1 q1 o8 hb8 hbx8 hr8 hsz6 hsz
            go_quiet (first
              | (go_at_call 38; exact Calls.quiet_of_same (qj _))
              | (go_at_call 39; exact Calls.quiet_of_same (ql _))
              | (go_at_call 40; exact Calls.quiet_of_same (qo _))
              | (go_at_call 41; exact Calls.quiet_of_same (qr _))
              | (go_at_call 42; exact Calls.quiet_of_same (qn _)))
            clear qj ql qo qn qr
            go_wp2
            exact ⟨⟨j + 1, by omega, by go_num, _, _, _, _, _, _, ⟨hl8.heap rfl, Rrep.heap hr9 rfl, hb6, hbl8.size⟩, below_heap hbl8 nq rfl, hsz8⟩, by simp [intOf]; omega⟩
        · have hje : j = xs.length := by omega
          go_wp2
          go_ret
          exact ⟨rfl, hbl⟩
    · go_wp2_with fail
      refine (new_no hT).mono ?_
      rintro e w' ⟨rfl, rfl⟩
      by_cases hlt : ticks < 1
      · go_wp2
        go_ret
        exact ⟨rfl, hb1⟩
      · have hgt : 1000 < ticks := by omega
        go_wp2
        go_ret
        exact ⟨rfl, hb1⟩
  · go_wp2_with fail
    refine awake_true.mono ?_
    rintro e w2 ⟨rfl, hb2⟩
    go_wp2
    go_ret
    exact ⟨rfl, hb1.trans (hb2.mono hb1.size)⟩

end Go.Proofs.Ytcdjeblcmgghhaa.LeaseLaw
