/- What the reference's Reach answers: the rising list of whom one comes to. Conditions: the names lie in memory as NM says; at most a thousand rows. -/
import Derived.Test.YtniggacgkhkgiaaRch
import Derived.Laws.OwnMore
namespace Go.Sp
open Go.RowKit

def tr (bs : List Bool) (i : Nat) : Prop := bs[i]? = some true
theorem tr_lt {bs : List Bool} {i : Nat} (h : tr bs i) : i < bs.length := (List.getElem?_eq_some_iff.1 h).1
theorem tr_set {bs : List Bool} {i y : Nat} (hy : y < bs.length) : tr (bs.set y true) i ↔ i = y ∨ tr bs i := by
  unfold tr
  by_cases e : i = y
  · subst e; simp [hy]
  · rw [List.getElem?_set_ne (Ne.symm e)]; simp [e]

theorem cnt_mon : ∀ {a b : List Bool}, a.length = b.length → (∀ i, tr a i → tr b i) → a.countP id ≤ b.countP id ∧ (a.countP id = b.countP id → a = b)
  | [], [], _, _ => by simp
  | x :: a, y :: b, hl, h => by
    have ih := cnt_mon (a := a) (b := b) (by simpa using hl) (fun i hi => by have := h (i + 1) (by simpa [tr] using hi); simpa [tr] using this)
    have h0 : x = true → y = true := fun hx => by have := h 0 (by simp [tr, hx]); simpa [tr] using this
    rw [List.countP_cons, List.countP_cons]
    cases x <;> cases y
    · simp; exact ih
    · simp; omega
    · simp at h0
    · simp; exact ih
  | [], _ :: _, hl, _ => by simp at hl
  | _ :: _, [], hl, _ => by simp at hl

/-- each name of i's lies in bs -/
def Row (N : List (List Int)) (bs : List Bool) (i : Nat) : Prop := ∀ l, N[i]? = some l → ∀ y ∈ l, 0 ≤ y → y < N.length → tr bs y.toNat
def Closed (N : List (List Int)) (bs : List Bool) : Prop := ∀ i, tr bs i → Row N bs i

structure Base (N : List (List Int)) (a : Int) (bs : List Bool) : Prop where
  len : bs.length = N.length
  snd : ∀ i, tr bs i → Rch N a i
  hd : tr bs a.toNat
  a0 : 0 ≤ a

theorem Base.full {N : List (List Int)} {a : Int} {bs : List Bool} (h : Base N a bs) (hc : Closed N bs) : ∀ x, Rch N a x → tr bs x.toNat := by
  intro x hx
  induction hx with
  | base _ _ => exact h.hd
  | step hr h1 h2 h3 h4 ih => exact hc _ ih _ h1 _ h2 h3 h4

theorem Base.set {N : List (List Int)} {a : Int} {bs : List Bool} (h : Base N a bs) {y : Nat} (hy : Rch N a y) : Base N a (bs.set y true) := by
  have hlt : y < bs.length := by have := hy.rng; have := h.len; omega
  exact ⟨by simpa using h.len, fun i hi => by rcases (tr_set hlt).1 hi with rfl | hi; exact hy; exact h.snd i hi, (tr_set hlt).2 (.inr h.hd), h.a0⟩

structure Mid (N : List (List Int)) (a : Int) (b0 bs : List Bool) (i : Nat) : Prop where
  base : Base N a bs
  le : ∀ j, tr b0 j → tr bs j
  row : ∀ j, j < i → tr b0 j → Row N bs j

theorem Mid.set {N : List (List Int)} {a : Int} {b0 bs : List Bool} {i : Nat} (h : Mid N a b0 bs i) {y : Nat} (hy : Rch N a y) : Mid N a b0 (bs.set y true) i := by
  have hlt : y < bs.length := by have := hy.rng; have := h.base.len; omega
  exact ⟨h.base.set hy, fun j hj => (tr_set hlt).2 (.inr (h.le j hj)), fun j hj h0 l hl z hz z0 z1 => (tr_set hlt).2 (.inr (h.row j hj h0 l hl z hz z0 z1))⟩

theorem Mid.next {N : List (List Int)} {a : Int} {b0 bs : List Bool} {i : Nat} (h : Mid N a b0 bs i) (hr : tr b0 i → Row N bs i) : Mid N a b0 bs (i + 1) :=
  ⟨h.base, h.le, fun j hj h0 => by
    by_cases e : j = i
    · subst e; exact hr h0
    · exact h.row j (by omega) h0⟩

/-- after a pass -/
theorem Mid.pass {N : List (List Int)} {a : Int} {b0 bs : List Bool} {k : Nat} (h : Mid N a b0 bs N.length) (h0 : Base N a b0) (hk : Closed N b0 ∨ k + 1 ≤ b0.countP id) : Closed N bs ∨ k + 1 + 1 ≤ bs.countP id := by
  have hl : b0.length = bs.length := by rw [h0.len, h.base.len]
  have hm := cnt_mon hl h.le
  have same : b0 = bs → Closed N bs := fun e => by
    intro i hi
    have hlt := tr_lt hi
    rw [h.base.len] at hlt
    exact h.row i hlt (by rw [e]; exact hi)
  rcases hk with hk | hk
  · refine .inl (same ?_)
    have hback : ∀ j, tr bs j → tr b0 j := fun j hj => by
      have := h0.full hk _ (h.base.snd j hj)
      simpa using this
    have hm2 := cnt_mon hl.symm hback
    exact hm.2 (by omega)
  · by_cases e : b0.countP id = bs.countP id
    · exact .inl (same (hm.2 e))
    · right; omega

theorem Base.closed {N : List (List Int)} {a : Int} {bs : List Bool} (h : Base N a bs) (hk : Closed N bs ∨ N.length + 1 ≤ bs.countP id) : Closed N bs := by
  rcases hk with hk | hk
  · exact hk
  · have := List.countP_le_length (p := id) (l := bs)
    have := h.len
    omega

/-- the numbers told -/
def told (bs : List Bool) (k : Nat) : List Int := ((List.range k).filter fun i => decide (bs[i]? = some true)).map fun i : Nat => (i : Int)
theorem told_snoc (bs : List Bool) (k : Nat) : told bs (k + 1) = told bs k ++ if bs[k]? = some true then [(k : Int)] else [] := by
  unfold told
  rw [List.range_succ, List.filter_append, List.map_append]
  by_cases h : bs[k]? = some true <;> simp [h]
theorem told_len (bs : List Bool) (k : Nat) : (told bs k).length ≤ k := by
  unfold told
  rw [List.length_map]
  exact Nat.le_trans (List.length_filter_le _ _) (by simp)
theorem told_is {N : List (List Int)} {a : Int} {bs : List Bool} (h : Base N a bs) (hc : Closed N bs) : IsReach N a (told bs N.length) := by
  refine ⟨?_, fun x => ⟨fun hx => ?_, fun hx => ?_⟩⟩
  · refine List.pairwise_map.2 (List.Pairwise.imp (fun {a b} (h : a < b) => ?_) ((List.pairwise_lt_range (n := N.length)).filter _))
    show (a : Int) < b
    omega
  · obtain ⟨i, hi, rfl⟩ := List.mem_map.1 hx
    exact h.snd i (by simpa [tr] using (List.mem_filter.1 hi).2)
  · have h1 := h.full hc x hx
    obtain ⟨x0, x1⟩ := hx.rng
    refine List.mem_map.2 ⟨x.toNat, List.mem_filter.2 ⟨List.mem_range.2 (by omega), ?_⟩, by omega⟩
    simpa [tr] using h1
end Go.Sp

namespace Go.Proofs.Ytniggacgkhkgiaa.Crumb
open Go.RowKit Go.Sp

theorem refReach_no {w : World} {v : Value} {N : List (List Int)} {a : Int} (hN : NM w v N) (h : ¬ (0 ≤ a ∧ a < N.length)) :
    Calls Try.prog 34 #[.int .i64 a, v] w fun e w' => e = .returned (.slice none 0 0) ∧ w = w' := by
  obtain ⟨vs, hl, hR, _⟩ := hN
  obtain ⟨_, ad, cap, rfl, _⟩ := hR
  rw [hl]
  generalize N.length = n at *
  clear hl
  by_cases h0 : a < 0
  · go_enter Try.func34, Try.ntmps34
    go_wp2
    go_ret
    exact ⟨rfl, rfl⟩
  · have h1 : (n : Int) ≤ a := by omega
    go_enter Try.func34, Try.ntmps34
    go_wp2
    go_ret
    exact ⟨rfl, rfl⟩

structure FRel (w0 wr : World) (mbk : Nat) (bs : List Bool) : Prop where
  sl : SL wr.heap 4 1 (.slice (some ⟨mbk, 0, none⟩) bs.length bs.length) bs.length (bs.map eB)
  below : Below w0.heap.size w0 wr

theorem FRel.cell {w0 wr : World} {mbk : Nat} {bs : List Bool} (h : FRel w0 wr mbk bs) {i : Nat} {b : Bool} (hi : bs[i]? = some b) : wr.cell? ⟨mbk, i, none⟩ = some (.bool b) := by
  have := h.sl.cell (j := i) (u := .bool b) (by rw [List.getElem?_map, hi]; rfl)
  simpa using this

theorem FRel.set {w0 wr : World} {mbk : Nat} {bs : List Bool} (h : FRel w0 wr mbk bs) (hm : w0.heap.size ≤ mbk) {y : Nat} (hy : y < bs.length) : FRel w0 (wr.setCell ⟨mbk, y, none⟩ (.bool true)) mbk (bs.set y true) := by
  have hs := h.sl.set (j := y) (by simpa using hy) (.bool true)
  rw [Nat.zero_add] at hs
  refine ⟨?_, h.below.trans (((Only.refl (fun i => i = mbk) wr).setCell (p := ⟨mbk, y, none⟩) (fun _ => rfl) _).below h.below.size (fun i hi e => by omega))⟩
  rw [List.length_set, List.map_set]
  exact hs

set_option maxRecDepth 100000 in
set_option maxHeartbeats 1000000 in
theorem refReach_yes {w : World} {v : Value} {N : List (List Int)} {a : Int} (hN : NM w v N) (h0 : 0 ≤ a) (h1 : a < N.length) (hn : N.length ≤ 1000) (hN1 : ∀ l ∈ N, l.length ≤ 1000) :
    Calls Try.prog 34 #[.int .i64 a, v] w fun e w' => ∃ u L, e = .returned u ∧ SL w'.heap 3 1 u L.length (L.map Sp.zI) ∧ IsReach N a L ∧ (∀ g, u.ownBlock = some g → w.heap.size ≤ g) ∧ Below w.heap.size w w' := by
  obtain ⟨vs, hl, hR, hN⟩ := hN
  obtain ⟨_, ad, cap, rfl, hR⟩ := hR
  obtain ⟨nb, noff, rfl, hnb, hR⟩ := hR (by omega)
  obtain ⟨n, hnn⟩ : ∃ n, n = N.length := ⟨_, rfl⟩
  obtain ⟨ak, rfl⟩ := Int.eq_ofNat_of_zero_le h0
  have hl' : vs.length = n := by omega
  rw [hl']
  have HL := Lib.hid hl
  have HNN := Lib.hid hnn
  have d0 : decide ((ak : Int) < 0) = false := by simp
  have d1 : decide ((n : Int) ≤ ak) = false := by simp; omega
  have d2 : ak < n := by omega
  have hn' : n ≤ 1000 := by omega
  have hbase : Base N ak ((List.replicate n false).set ak true) := by
    have hlt : ak < (List.replicate n false).length := by simpa using d2
    have ht : ∀ i, tr ((List.replicate n false).set ak true) i ↔ i = ak := fun i => by
      rw [tr_set hlt]
      simp [tr, List.getElem?_replicate]
    exact ⟨by simp [hnn], fun i hi => by rw [(ht i).1 hi]; exact .base h0 h1, (ht _).2 (by simp), h0⟩
  obtain ⟨i0, z0, hi, hz, hz1, hz2, hz3⟩ := info_at (P := Try.prog) (e := 3) (f := (1, 8, 1)) (by kernel_rfl)
  obtain ⟨ib, hib, hzb, hzb1, hzb2⟩ := info_parts (P := Try.prog) (e := 4) (z := .bool false) (size := 1) (bytes := 1) (by kernel_rfl)
  have hmk := run_makeSlice (P := Try.prog) (w := w) 52 4 ib (.bool false) Try.underlying52 hib hzb .i64 .i64 (n : Int) (n : Int) (by omega) (Int.le_refl _) (by rw [hzb1]; omega) (by rw [hzb2]; omega) (by omega)
  simp only [Int.toNat_natCast, hzb1] at hmk
  have hC : (madeCells (Value.bool false).cells (n * 1)).toList = List.replicate n (.bool false) := by
    rw [Nat.mul_one]; exact toList_madeCells_one _ _
  generalize madeCells (Value.bool false).cells (n * 1) = C at hmk hC
  have hF0 : FRel w (w.alloc (.cells C 4)) w.heap.size (List.replicate n false) := by
    have hCs : C.size = n := by rw [← Array.length_toList, hC]; simp
    refine ⟨⟨by simp, .inr ⟨_, 0, _, _, rfl, Nat.le_refl _, by simp [maxLen]; omega, heap_new w _ rfl, by simp [hCs], fun j u hu => ?_⟩⟩, (Below.refl _ w).alloc (Nat.le_refl _) _⟩
    rw [Nat.zero_add, ← Array.getElem?_toList, hC]
    simpa [eB] using hu
  generalize w.alloc (.cells C 4) = W1 at hmk hF0
  have hF := hF0.set (Nat.le_refl _) (y := ak) (by simpa using d2)
  have hc0 := hF0.cell (i := ak) (b := false) (by simp [d2])
  have hf0 := hF0.sl.free ak
  have hlen : ((List.replicate n false).set ak true).length = n := by simp
  generalize (List.replicate n false).set ak true = bs0 at hbase hF hlen
  clear hl hl' hnn h0 h1 hn hC hF0
  go_enter Try.func34, Try.ntmps34
  go_wp2
  clear hmk hc0 hf0
  go_loopw [6] (fun k wr => ∃ (kn : Nat) (bs : List Bool), kn ≤ n ∧ k = .int .i64 kn ∧ FRel w wr w.heap.size bs ∧ Base N ak bs ∧ (Closed N bs ∨ kn + 1 ≤ bs.countP id)) (fun k _ => n - (intOf k).toNat)
  case atStart =>
    refine ⟨0, bs0, Nat.zero_le _, rfl, hF, hbase, .inr ?_⟩
    have := hbase.hd
    exact List.countP_pos_iff.2 ⟨true, List.mem_of_getElem? this, rfl⟩
  case round =>
    obtain ⟨k, bs, hk, rfl, hF1, hB1, hC1⟩ := hrel
    clear hF hbase hlen
    by_cases hkn : k < n
    · go_wp2
      obtain ⟨wo, rfl⟩ : ∃ wo : World, wo = wr := ⟨_, rfl⟩
      go_loopw [7] (fun i wr => ∃ (m : Nat) (b2 : List Bool), m ≤ n ∧ i = .int .i64 m ∧ FRel w wr w.heap.size b2 ∧ Mid N ak bs b2 m) (fun i _ => n - (intOf i).toNat)
      case atStart => exact ⟨0, bs, Nat.zero_le _, rfl, hF1, hB1, fun _ h => h, fun j hj => by omega⟩
      case round =>
        obtain ⟨m, b2, hm, rfl, hF2, hM2⟩ := hrel
        by_cases hmn : m < n
        · have hNN := HNN.out
          obtain ⟨l, hl⟩ : ∃ l, N[m]? = some l := ⟨_, List.getElem?_eq_getElem (by omega)⟩
          obtain ⟨u, hu⟩ : ∃ u, vs[m]? = some u := ⟨_, List.getElem?_eq_getElem (by have := HL.out; omega)⟩
          have hRu := hN m u l hu hl
          have hlm := hN1 l (List.mem_of_getElem? hl)
          have hnu := hR m u 0 u hu rfl
          obtain ⟨_, ua, uc, rfl, hRu⟩ := hRu
          clear hNN
          go_wp2
          obtain ⟨wp, rfl⟩ : ∃ wp : World, wp = wr := ⟨_, rfl⟩
          go_loopw [8] (fun j wr => ∃ (q : Nat) (b3 : List Bool), q ≤ l.length ∧ j = .int .i64 q ∧ FRel w wr w.heap.size b3 ∧ Mid N ak bs b3 m ∧ (∀ y ∈ l.take q, 0 ≤ y → y < N.length → tr b3 y.toNat)) (fun j _ => l.length - (intOf j).toNat)
          case atStart => exact ⟨0, b2, Nat.zero_le _, rfl, hF2, hM2, fun y hy => by simp at hy⟩
          case round =>
            obtain ⟨q, b3, hq, rfl, hF3, hM3, hT3⟩ := hrel
            have hNN := HNN.out
            have hcu : wr.cell? ⟨nb, noff + m, none⟩ = some (.slice ua l.length uc) := by
              have := below_cell hF3.below hnb hnu
              simpa using this
            have hl3 : b3.length = n := by rw [hM3.base.len, hNN]
            obtain ⟨b, hb⟩ : ∃ b, b3[m]? = some b := ⟨_, List.getElem?_eq_getElem (by omega)⟩
            have hcb := hF3.cell hb
            have HB := Lib.hid hb
            have HL3 := Lib.hid hl3
            have HLL := Lib.hid hl
            clear hNN hb hl3 hl hF2 hF1 hM2 hB1 hC1
            cases b with
            | false =>
              go_wp2
              refine ⟨⟨m + 1, b3, by omega, by go_num, hF3, hM3.next fun ht => ?_⟩, by simp [intOf]; omega⟩
              have h1 := hM3.le _ ht
              unfold tr at h1
              rw [HB.out] at h1
              cases h1
            | true =>
              by_cases hql : q < l.length
              · obtain ⟨y, hy⟩ : ∃ y, l[q]? = some y := ⟨_, List.getElem?_eq_getElem hql⟩
                obtain ⟨ub, uoff, rfl, hub, hcl⟩ := hRu (by omega)
                have hcy : wr.cell? ⟨ub, uoff + q, none⟩ = some (.int .i64 y) := by
                  have := below_cell hF3.below hub (hcl q y 0 _ hy rfl)
                  simpa using this
                have hnext : ∀ b4 : List Bool, (∀ z, tr b3 z → tr b4 z) → (0 ≤ y → y < N.length → tr b4 y.toNat) → ∀ z ∈ l.take (q + 1), 0 ≤ z → z < N.length → tr b4 z.toNat := by
                  intro b4 h2 h3 z hz z0 z1
                  rw [List.take_add_one, hy] at hz
                  rcases List.mem_append.1 hz with hz | hz
                  · exact h2 _ (hT3 z hz z0 z1)
                  · simp at hz; subst hz; exact h3 z0 z1
                have hin : 0 ≤ y → y < N.length → Rch N ak y := fun h0 h1 => .step (hM3.base.snd m HB.out) (by simpa using HLL.out) (List.mem_of_getElem? hy) h0 h1
                have HNX := Lib.hid hnext
                have HIN := Lib.hid hin
                clear hnext hin hy hcl hT3
                by_cases y0 : 0 ≤ y
                · have e0 : decide (0 ≤ y) = true := decide_eq_true y0
                  by_cases y1 : y < (n : Int)
                  · have e1 : decide (y < (n : Int)) = true := decide_eq_true y1
                    obtain ⟨yk, rfl⟩ := Int.eq_ofNat_of_zero_le y0
                    have hyn : yk < n := by omega
                    obtain ⟨bb, hbb⟩ : ∃ b, b3[yk]? = some b := ⟨_, List.getElem?_eq_getElem (by have := HL3.out; omega)⟩
                    have hcyb := hF3.cell hbb
                    have hfr := hF3.sl.free yk
                    have HBB := Lib.hid hbb
                    clear hbb
                    go_wp2
                    have hyl : yk < b3.length := by have := HL3.out; omega
                    refine ⟨⟨q + 1, b3.set yk true, by omega, by go_num, hF3.set (Nat.le_refl _) hyl, hM3.set (HIN.out y0 (by have := HNN.out; omega)), HNX.out _ (fun z hz => (tr_set hyl).2 (.inr hz)) (fun _ _ => (tr_set hyl).2 (.inl (by simp)))⟩, by simp [intOf]; omega⟩
                  · have e1 : decide (y < (n : Int)) = false := decide_eq_false y1
                    go_wp2
                    refine ⟨⟨q + 1, b3, by omega, by go_num, hF3, hM3, HNX.out b3 (fun _ h => h) (fun _ h => absurd h (by have := HNN.out; omega))⟩, by simp [intOf]; omega⟩
                · have e0 : decide (0 ≤ y) = false := decide_eq_false y0
                  go_wp2
                  refine ⟨⟨q + 1, b3, by omega, by go_num, hF3, hM3, HNX.out b3 (fun _ h => h) (fun h => absurd h y0)⟩, by simp [intOf]; omega⟩
              · have hqe : q = l.length := by omega
                subst hqe
                rw [List.take_length] at hT3
                have HT3 := Lib.hid hT3
                clear hT3
                go_wp2
                refine ⟨⟨m + 1, b3, by omega, by go_num, hF3, hM3.next fun _ l' hl' y hy y0 y1 => ?_⟩, by simp [intOf]; omega⟩
                have e := HLL.out
                rw [hl'] at e
                cases e
                exact HT3.out y hy y0 y1
        · have hme : m = n := by omega
          subst hme
          have hB := hM2.base
          have hP := (show Mid N ak bs b2 N.length by rw [← HNN.out]; exact hM2).pass hB1 hC1
          have HP := Lib.hid hP
          clear hP hM2 hB1 hC1
          go_wp2
          refine ⟨⟨k + 1, b2, by omega, by go_num, hF2, hB, HP.out⟩, by simp [intOf]; omega⟩
    · have hke : k = n := by omega
      subst hke
      have hcl := hB1.closed (by rw [← HNN.out]; exact hC1)
      have hIs := told_is hB1 hcl
      have hbl : bs.length = k := by rw [hB1.len, ← HNN.out]
      rw [← HNN.out] at hIs
      have HIs := Lib.hid hIs
      have HBL := Lib.hid hbl
      have hF1' : FRel w wr w.heap.size bs := hF1
      clear hC1 hcl hIs hbl hB1 hF1
      go_wp2
      go_loopw [9, 10] (fun out i wr => ∃ q : Nat, q ≤ k ∧ i = .int .i64 q ∧ FRel w wr w.heap.size bs ∧ SL wr.heap 3 1 out (told bs q).length ((told bs q).map Sp.zI) ∧ (∀ g, out.ownBlock = some g → w.heap.size < g)) (fun _ i _ => k - (intOf i).toNat)
      case atStart => exact ⟨0, Nat.zero_le _, rfl, hF1', SL.nil _ _ _, fun g hg => by simp [Value.ownBlock] at hg⟩
      case round =>
        obtain ⟨q, hq, rfl, hF4, hS4, hg4⟩ := hrel
        by_cases hqk : q < k
        · obtain ⟨b, hb⟩ : ∃ b, bs[q]? = some b := ⟨_, List.getElem?_eq_getElem (by have := HBL.out; omega)⟩
          have hcb := hF4.cell hb
          have hts := told_snoc bs q
          rw [hb] at hts
          have htl := told_len bs q
          have hws := hF4.below.size
          have hmw : w.heap.size < wr.heap.size := hF4.sl.lt _ rfl
          cases b with
          | false =>
            rw [if_neg (by simp), List.append_nil] at hts
            have HTS := Lib.hid hts
            clear hts hb
            go_wp2
            refine ⟨⟨q + 1, by omega, by go_num, hF4, ?_, hg4⟩, by simp [intOf]; omega⟩
            rw [HTS.out]; exact hS4
          | true =>
            rw [if_pos rfl] at hts
            have HTS := Lib.hid hts
            clear hts hb
            go_wp2_with (at_builtin; refine wpList_appd (v := u9) rfl _ _ _ rfl Try.underlying31 hi hz hz1 hz2 hz3 rfl (hS4.alloc _) (m := 1) (news := [.int .i64 q]) rfl rfl (cells_new _ _ _ rfl) (by simp [Value.oneCell']) (by unfold maxLen; omega) (by omega) ?_; rintro v6 w6 hs6 ho6 hv6)
            refine ⟨⟨q + 1, by omega, by go_num, ⟨(hF4.sl.alloc _).only ho6 (fun g hg e => ?_), (hF4.below.alloc hws _).trans (ho6.below (by simp; omega) (fun i hi e => ?_))⟩, ?_, fun g hg => ?_⟩, by simp [intOf]; omega⟩
            · have := hg4 _ e; simp [Value.ownBlock] at hg; omega
            · have := hg4 _ e; omega
            · rw [HTS.out, List.map_append, List.length_append]; exact hs6
            · rcases hv6 with e | e
              · exact hg4 g (by rw [← e]; exact hg)
              · rw [e] at hg; cases hg; simp; omega
        · have hqe : q = k := by omega
          subst hqe
          go_wp2
          go_ret
          exact ⟨_, _, rfl, hS4, HIs.out, fun g hg => Nat.le_of_lt (hg4 g hg), hF4.below⟩
theorem refReach_any {w : World} {v : Value} {N : List (List Int)} (hN : NM w v N) (hn : N.length ≤ 1000) (hN1 : ∀ l ∈ N, l.length ≤ 1000) (a : Int) :
    Calls Try.prog 34 #[.int .i64 a, v] w fun e w' => ∃ u L, e = .returned u ∧ SL w'.heap 3 1 u L.length (L.map Sp.zI) ∧ IsReach N a L ∧ (∀ g, u.ownBlock = some g → w.heap.size ≤ g) ∧ Below w.heap.size w w' := by
  by_cases h : 0 ≤ a ∧ a < N.length
  · exact refReach_yes hN h.1 h.2 hn hN1
  · refine (refReach_no hN h).mono ?_
    rintro e w' ⟨rfl, rfl⟩
    exact ⟨_, [], rfl, SL.nil _ _ _, IsReach.nil h, fun g hg => by simp [Value.ownBlock] at hg, Below.refl _ _⟩
end Go.Proofs.Ytniggacgkhkgiaa.Crumb
