/- What crumb.Reach answers: the rising list of whom one comes to. Conditions: the names lie in memory as NM says; at most a thousand rows. -/
import Derived.Test.YtcdjeblcmgghhaaCrumb0
import Derived.Lib.Hide
import Derived.Deep.LoopGhost
namespace Go.Sp
open Go.RowKit

def eV (u : Value) : List Value := [u]
def eB (b : Bool) : Value := .bool b

/-- v is a slice of slices of ints that reads as N -/
def NM (w : World) (v : Value) (N : List (List Int)) : Prop :=
  ∃ vs : List Value, vs.length = N.length ∧ RS w 1 eV v vs ∧ ∀ (i : Nat) (u : Value) (l : List Int), vs[i]? = some u → N[i]? = some l → RS w 1 eInt u l

/-- whom one comes to -/
inductive Rch (N : List (List Int)) (a : Int) : Int → Prop
  | base : 0 ≤ a → a < N.length → Rch N a a
  | step {x y : Int} {l : List Int} : Rch N a x → N[x.toNat]? = some l → y ∈ l → 0 ≤ y → y < N.length → Rch N a y

theorem Rch.rng {N : List (List Int)} {a x : Int} (h : Rch N a x) : 0 ≤ x ∧ x < N.length := by
  cases h with
  | base h1 h2 => exact ⟨h1, h2⟩
  | step _ _ _ h1 h2 => exact ⟨h1, h2⟩

theorem Rch.trans {N : List (List Int)} {a x y : Int} (h : Rch N a x) (k : Rch N x y) : Rch N a y := by
  induction k with
  | base _ _ => exact h
  | step _ h1 h2 h3 h4 ih => exact .step ih h1 h2 h3 h4

/-- two rising lists of the same numbers are one -/
theorem rising_ext : ∀ {l l' : List Int}, l.Pairwise (· < ·) → l'.Pairwise (· < ·) → (∀ x, x ∈ l ↔ x ∈ l') → l = l'
  | [], [], _, _, _ => rfl
  | [], y :: r, _, _, h => by have := (h y).2 List.mem_cons_self; simp at this
  | x :: r, [], _, _, h => by have := (h x).1 List.mem_cons_self; simp at this
  | x :: r, y :: s, h1, h2, h => by
    have a1 := List.pairwise_cons.1 h1
    have a2 := List.pairwise_cons.1 h2
    have e : x = y := by
      have b1 := (h x).1 List.mem_cons_self
      have b2 := (h y).2 List.mem_cons_self
      rcases List.mem_cons.1 b1 with e | b1
      · exact e
      · rcases List.mem_cons.1 b2 with e | b2
        · exact e.symm
        · have := a2.1 x b1; have := a1.1 y b2; omega
    subst e
    rw [rising_ext a1.2 a2.2 fun z => ?_]
    constructor
    · intro hz
      rcases List.mem_cons.1 ((h z).1 (List.mem_cons_of_mem _ hz)) with e | hz'
      · subst e; have := a1.1 z hz; omega
      · exact hz'
    · intro hz
      rcases List.mem_cons.1 ((h z).2 (List.mem_cons_of_mem _ hz)) with e | hz'
      · subst e; have := a2.1 z hz; omega
      · exact hz'

/-- the answer's list -/
def IsReach (N : List (List Int)) (a : Int) (L : List Int) : Prop := L.Pairwise (· < ·) ∧ ∀ x, x ∈ L ↔ Rch N a x

theorem IsReach.ext {N : List (List Int)} {a : Int} {L L' : List Int} (h : IsReach N a L) (h' : IsReach N a L') : L = L' :=
  rising_ext h.1 h'.1 fun x => (h.2 x).trans (h'.2 x).symm

theorem IsReach.nil {N : List (List Int)} {a : Int} (h : ¬ (0 ≤ a ∧ a < N.length)) : IsReach N a [] := by
  refine ⟨List.Pairwise.nil, fun x => ⟨fun e => by simp at e, fun e => ?_⟩⟩
  induction e with
  | base h1 h2 => exact absurd ⟨h1, h2⟩ h
  | step _ _ _ _ _ ih => simp at ih

/-- what has been met: Q in the order met, p of them done -/
structure QI (N : List (List Int)) (a : Int) (Q : List Int) (p : Nat) (M : List (Int × Bool)) : Prop where
  ks : KS M
  mg : ∀ k, mget k M = if k ∈ Q then some true else none
  ml : M.length = Q.length
  snd : ∀ x ∈ Q, Rch N a x
  hd : a ∈ Q
  cl : ∀ i, i < p → ∀ x, Q[i]? = some x → ∀ l, N[x.toNat]? = some l → ∀ y ∈ l, 0 ≤ y → y < N.length → y ∈ Q
  ple : p ≤ Q.length

theorem QI.len {N : List (List Int)} {a : Int} {Q : List Int} {p : Nat} {M : List (Int × Bool)} (h : QI N a Q p M) : Q.length ≤ N.length := by
  have hs : (M.map Prod.fst).Pairwise (· < ·) := List.pairwise_map.2 h.ks
  have := rising_len (lo := 0) (hi := N.length) hs (fun x hx => by
    obtain ⟨q, hq, rfl⟩ := List.mem_map.1 hx
    have hm := mget_of_mem h.ks hq
    rw [h.mg] at hm
    split at hm
    · rename_i hin; exact (h.snd _ hin).rng
    · cases hm) (by omega)
  rw [List.length_map, h.ml] at this
  omega

theorem QI.start {N : List (List Int)} {a : Int} (h0 : 0 ≤ a) (h1 : a < N.length) : QI N a [a] 0 [(a, true)] :=
  ⟨by simp [KS], fun k => by by_cases e : k = a <;> simp [mget, e, Ne.symm], rfl, fun x hx => by simp at hx; subst hx; exact .base h0 h1, by simp, fun i hi => by omega, by simp⟩

/-- one more is met -/
theorem QI.add {N : List (List Int)} {a : Int} {Q : List Int} {p : Nat} {M : List (Int × Bool)} (h : QI N a Q p M) {y : Int} (hy : y ∉ Q) (hr : Rch N a y) : QI N a (Q ++ [y]) p (mput y true M) := by
  refine ⟨h.ks.mput, fun k => ?_, ?_, fun x hx => ?_, by simp [h.hd], fun i hi x hx l hl z hz z0 z1 => ?_, by have := h.ple; simp; omega⟩
  · rw [mget_mput, h.mg]
    by_cases e : k = y <;> simp [e]
  · have hn : mget y M = none := by rw [h.mg, if_neg hy]
    have := (mput_perm (k := y) (v := true) h.ks).length_eq
    rw [mdel_none hn] at this
    simp [this, h.ml]
  · rcases List.mem_append.1 hx with hx | hx
    · exact h.snd x hx
    · simp at hx; subst hx; exact hr
  · have hlt : i < Q.length := by have := h.ple; omega
    rw [List.getElem?_append_left hlt] at hx
    exact List.mem_append_left _ (h.cl i hi x hx l hl z hz z0 z1)

theorem QI.done {N : List (List Int)} {a : Int} {Q : List Int} {M : List (Int × Bool)} (h : QI N a Q Q.length M) : IsReach N a (M.map Prod.fst) := by
  have hm : ∀ x, x ∈ M.map Prod.fst ↔ x ∈ Q := fun x => by
    constructor
    · intro hx
      obtain ⟨q, hq, rfl⟩ := List.mem_map.1 hx
      have hg := mget_of_mem h.ks hq
      rw [h.mg] at hg
      split at hg
      · assumption
      · cases hg
    · intro hx
      have hg := h.mg x
      rw [if_pos hx] at hg
      exact List.mem_map.2 ⟨_, mget_mem hg, rfl⟩
  refine ⟨List.pairwise_map.2 h.ks, fun x => (hm x).trans ⟨h.snd x, fun hr => ?_⟩⟩
  induction hr with
  | base _ _ => exact h.hd
  | step _ h1 h2 h3 h4 ih =>
    obtain ⟨i, hi, hx⟩ := List.mem_iff_getElem.1 ih
    exact h.cl i hi _ (by rw [List.getElem?_eq_getElem hi, hx]) _ h1 _ h2 h3 h4

theorem QI.next {N : List (List Int)} {a : Int} {Q : List Int} {p : Nat} {M : List (Int × Bool)} (h : QI N a Q p M) {x : Int} {l : List Int} (hp : Q[p]? = some x) (hl : N[x.toNat]? = some l) (hc : ∀ y ∈ l, 0 ≤ y → y < N.length → y ∈ Q) : QI N a Q (p + 1) M :=
  ⟨h.ks, h.mg, h.ml, h.snd, h.hd, fun i hi z hz l' hl' => by
    by_cases e : i = p
    · subst e; rw [hp] at hz; cases hz; rw [hl] at hl'; cases hl'; exact hc
    · exact h.cl i (by omega) z hz l' hl', by have := (List.getElem?_eq_some_iff.1 hp).1; omega⟩

/-- a slice without its head: Go keeps the address where the capacity is used up -/
theorem SL.tail {h : Array Obj} {e : TypeId} {b off n cap : Nat} {c : Value} {cs : List Value} (x : SL h e 1 (.slice (some ⟨b, off, none⟩) (n + 1) cap) (n + 1) (c :: cs)) (a : Addr) (ha : a = ⟨b, off + 1, none⟩ ∨ (cap = 1 ∧ a = ⟨b, off, none⟩)) : SL h e 1 (.slice (some a) n (cap - 1)) n cs := by
  rcases x.2 with ⟨hv, _⟩ | ⟨b', off', cap', cur, hv, h1, h2, hb, h3, h4⟩
  · simp at hv
  · simp at hv
    obtain ⟨⟨rfl, rfl⟩, rfl⟩ := hv
    have hl : cs.length = n * 1 := by have := x.1; simp at this; omega
    rcases ha with rfl | ⟨rfl, rfl⟩
    · refine ⟨hl, .inr ⟨b, off + 1, cap - 1, cur, rfl, by omega, by omega, hb, by omega, fun j u hu => ?_⟩⟩
      have := h4 (j + 1) u (by simpa using hu)
      rw [show off + 1 + j = off + (j + 1) from by omega]
      exact this
    · have hn : n = 0 := by omega
      subst hn
      have hc : cs = [] := List.eq_nil_of_length_eq_zero (by omega)
      subst hc
      exact ⟨rfl, .inr ⟨b, off, 0, cur, rfl, by omega, by omega, hb, by omega, fun j u hu => by simp at hu⟩⟩

section
variable {P : Program} {w : World} {ops : Array Oper} {Q : Exit → Act → World → Prop} {a : Act} {rest : List Oper} {o : Oper}
theorem wpList_ins {α : Type} {enc : α → Value} {M : List (Int × α)} {b : Nat} {K E : TypeId} {k0 : Int} (v : α) (hg : o.guard = none) (t : TypeId) (m k x : Operand) (hop : o.op = .insert t m k x)
    (ht : P.underlying t = some (.map K E)) (hK : P.underlying K = some (.int .i64)) (hm : a.eval m = .map (some b)) (hk : a.eval k = .int .i64 k0) (hx : a.eval x = enc v) (hwf : (Lit.int .i64 k0).wf = true)
    (hM : IMap w.heap b enc M) (h : ∀ w', IMap w'.heap b enc (mput k0 v M) → Only (· = b) w w' → wpList P ops Q rest (a.put o.dst undef) w') : wpList P ops Q (o :: rest) a w :=
  wpList_plain hg fun K' hK' => by
    obtain ⟨w', h1, h2, h3⟩ := hM.update ht hK hwf v
    unfold Oper.wp
    have : (execOp a.eval o).run P w = .ok .skip w' := by simp [execOp, hop, hm, hk, hx, h1, Result.andThen]
    rw [this]
    exact hK' _ _ (h w' h2 h3)
end
end Go.Sp

namespace Go.Proofs.Ytcdjeblcmgghhaa.Crumb
open Go.RowKit Go.Sp

theorem zB (w : World) : (zeroValue 4).run Try.prog w = .ok (.bool false) w := by kernel_rfl

theorem reach_no {w : World} {v : Value} {N : List (List Int)} {a : Int} (hN : NM w v N) (h : ¬ (0 ≤ a ∧ a < N.length)) :
    Calls Try.prog 44 #[.int .i64 a, v] w fun e w' => e = .returned (.slice none 0 0) ∧ w = w' := by
  obtain ⟨vs, hl, hR, _⟩ := hN
  obtain ⟨_, ad, cap, rfl, _⟩ := hR
  rw [hl]
  generalize N.length = n at *
  clear hl
  by_cases h0 : a < 0
  · go_enter Try.func44, Try.ntmps44
    go_wp2
    go_ret
    exact ⟨rfl, rfl⟩
  · have h1 : (n : Int) ≤ a := by omega
    go_enter Try.func44, Try.ntmps44
    go_wp2
    go_ret
    exact ⟨rfl, rfl⟩

structure RRel (w0 wr : World) (N : List (List Int)) (a : Int) (todo : Value) (Q : List Int) (p : Nat) (M : List (Int × Bool)) : Prop where
  q : QI N a Q p M
  mp : IMap wr.heap w0.heap.size eB M
  sl : SL wr.heap 3 1 todo (Q.length - p) ((Q.drop p).map Sp.zI)
  new : ∀ g, todo.ownBlock = some g → w0.heap.size ≤ g
  below : Below w0.heap.size w0 wr

theorem below_cell {w wr : World} {b o : Nat} (h : Below w.heap.size w wr) (hb : b < w.heap.size) {u : Value} (e : w.cell? ⟨b, o, none⟩ = some u) : wr.cell? ⟨b, o, none⟩ = some u := by
  rw [World.cell?_of_block (w := w) ((only_of_below h (fun _ => False)).block b hb id)]; exact e

set_option maxRecDepth 100000 in
set_option maxHeartbeats 1000000 in
theorem reach_yes {w : World} {v : Value} {N : List (List Int)} {a : Int} (hN : NM w v N) (h0 : 0 ≤ a) (h1 : a < N.length) (hn : N.length ≤ 1000) (hN1 : ∀ l ∈ N, l.length ≤ 1000) :
    Calls Try.prog 44 #[.int .i64 a, v] w fun e w' => ∃ u L, e = .returned u ∧ SL w'.heap 3 1 u L.length (L.map Sp.zI) ∧ IsReach N a L ∧ (∀ g, u.ownBlock = some g → w.heap.size ≤ g) ∧ Below w.heap.size w w' := by
  obtain ⟨vs, hl, hR, hN⟩ := hN
  obtain ⟨_, ad, cap, rfl, hR⟩ := hR
  obtain ⟨nb, noff, rfl, hnb, hR⟩ := hR (by omega)
  obtain ⟨n, hnn⟩ : ∃ n, n = N.length := ⟨_, rfl⟩
  have hl' : vs.length = n := by omega
  rw [hl']
  have ha : (Lit.int .i64 a).wf = true := WalkArith.wf_i64 (by omega)
  have h1' : a < (n : Int) := by omega
  have hmm := @run_makeMap Try.prog
  have HL := Lib.hid hl
  have HL' := Lib.hid hl'
  have HNN := Lib.hid hnn
  have d0 : decide (a < 0) = false := by simp; omega
  have d1 : decide ((n : Int) ≤ a) = false := by simp; omega
  have hq0 := QI.start (N := N) h0 h1
  have hn' : n ≤ 1000 := by omega
  clear hl hl' hnn h0 h1 hn h1'
  obtain ⟨w3, hr3, hm3, ho3⟩ := (IMap.made w eB).update (P := Try.prog) Try.underlying99 Try.underlying3 ha true
  simp only [eB] at hr3
  simp only [mput] at hm3
  have hs3 := ho3.size
  simp at hs3
  obtain ⟨i0, z0, hi, hz, hz1, hz2, hz3⟩ := info_at (P := Try.prog) (e := 3) (f := (1, 8, 1)) (by kernel_rfl)
  go_enter Try.func44, Try.ntmps44
  go_wp2
  go_loopg [6] n (fun g todo wr => ∃ Q p M, RRel w wr N a todo Q p M ∧ n - p ≤ g)
  case atStart =>
    refine ⟨[a], 0, [(a, true)], ⟨hq0, hm3.alloc _, ?_, fun g hg => ?_, ?_⟩, by omega⟩
    · exact ⟨rfl, .inr ⟨_, 0, 1, _, rfl, by simp, by simp [maxLen], heap_new w3 _ rfl, by simp, fun j u hu => by simpa [Sp.zI] using hu⟩⟩
    · simp [Value.ownBlock] at hg; omega
    · exact ((((Below.refl _ w).alloc (Nat.le_refl _) _).trans (ho3.below (by simp) (fun i hi e => by omega))).alloc (by omega) _)
  case round =>
    obtain ⟨Q, p, M, hT, hg⟩ := hrel
    have hql := hT.q.len
    by_cases hlt : p < Q.length
    · obtain ⟨x, hx⟩ : ∃ x, Q[p]? = some x := ⟨_, List.getElem?_eq_getElem hlt⟩
      have hxr := hT.q.snd x (List.mem_iff_getElem?.2 ⟨p, hx⟩)
      obtain ⟨hx0, hx1⟩ := hxr.rng
      obtain ⟨xk, rfl⟩ := Int.eq_ofNat_of_zero_le hx0
      have hNN := HNN.out
      obtain ⟨l, hl⟩ : ∃ l, N[xk]? = some l := ⟨_, List.getElem?_eq_getElem (by omega)⟩
      obtain ⟨u, hu⟩ : ∃ u, vs[xk]? = some u := ⟨_, List.getElem?_eq_getElem (by have := HL.out; omega)⟩
      have hRu := hN xk u l hu hl
      have hlm := hN1 l (List.mem_of_getElem? hl)
      have hcu : wr.cell? ⟨nb, noff + xk, none⟩ = some u := by
        have := below_cell hT.below hnb (hR xk u 0 u hu rfl)
        simpa using this
      obtain ⟨tb, toff, tcap, htv, htb, htn, _⟩ := hT.sl.form' (by omega)
      subst htv
      have hdrop : (Q.drop p).map Sp.zI = Sp.zI xk :: ((Q.drop (p + 1)).map Sp.zI) := by
        rw [← List.map_cons, ← List.getElem?_eq_some_iff.1 hx |>.2, List.drop_eq_getElem_cons hlt]
      have hct : wr.cell? ⟨tb, toff, none⟩ = some (.int .i64 xk) := by
        have := hT.sl.cell (j := 0) (u := .int .i64 xk) (by rw [hdrop]; rfl)
        simpa using this
      obtain ⟨_, ua, uc, rfl, hRu⟩ := hRu
      obtain ⟨m, hm⟩ : ∃ m, m = Q.length - p := ⟨_, rfl⟩
      have hmp : 0 < m := by omega
      have hxn : xk < n := by omega
      rw [← hm]
      have hT' : RRel w wr N a (.slice (some ⟨tb, toff, none⟩) m tcap) Q p M := by rw [hm]; exact hT
      have HT := Lib.hid hT.q
      have HM := Lib.hid hm
      have d24 : decide (0 < m) = true := decide_eq_true hmp
      clear hT hq0 hr3 hs3 hm3 ho3 hm hNN hlt
      go_wp2
      clear hct hcu
      obtain ⟨wo, rfl⟩ : ∃ wo : World, wo = wr := ⟨_, rfl⟩
      go_loopw [6, 34] (fun todo i wr => ∃ (j : Nat) (Q' : List Int) (M' : List (Int × Bool)), j ≤ l.length ∧ i = .int .i64 j ∧ RRel w wr N a todo Q' p M' ∧ Q'[p]? = some (xk : Int) ∧ (∀ y ∈ l.take j, 0 ≤ y → y < N.length → y ∈ Q')) (fun _ i _ => l.length - (intOf i).toNat)
      case atStart => exact ⟨0, Q, M, Nat.zero_le _, rfl, hT', hx, fun y hy => by simp at hy⟩
      case round =>
        obtain ⟨j, Q', M', hj, rfl, hT2, hp2, hc2⟩ := hrel
        by_cases hjl : j < l.length
        · obtain ⟨y, hy⟩ : ∃ y, l[j]? = some y := ⟨_, List.getElem?_eq_getElem hjl⟩
          obtain ⟨ub, uoff, rfl, hub, hcl⟩ := hRu (by omega)
          have hcy : wr.cell? ⟨ub, uoff + j, none⟩ = some (.int .i64 y) := by
            have := below_cell hT2.below hub (hcl j y 0 _ hy rfl)
            simpa using this
          have hnext : ∀ Q2 : List Int, (∀ z ∈ Q', z ∈ Q2) → (0 ≤ y → y < N.length → y ∈ Q2) → ∀ z ∈ l.take (j + 1), 0 ≤ z → z < N.length → z ∈ Q2 := by
            intro Q2 h2 h3 z hz z0 z1
            rw [List.take_add_one, hy] at hz
            rcases List.mem_append.1 hz with hz | hz
            · exact h2 z (hc2 z hz z0 z1)
            · simp at hz; subst hz; exact h3 z0 z1
          have hin : 0 ≤ y → y < N.length → Rch N a y := fun h0 h1 => .step hxr hl (List.mem_of_getElem? hy) h0 h1
          have hNN := HNN.out
          have hlk : (Instr.lookup 99 (.map (some w.heap.size)) (.int .i64 y) false).run Try.prog wr = .ok (.bool (decide (y ∈ Q'))) wr := by
            have := hT2.mp.lookup (P := Try.prog) false Try.underlying99 Try.underlying3 (zB _) y
            rw [hT2.q.mg] at this
            by_cases e : y ∈ Q'
            · rw [if_pos e] at this; rw [decide_eq_true e]; exact this
            · rw [if_neg e] at this; rw [decide_eq_false e]; exact this
          have HNX := Lib.hid hnext
          have HIN := Lib.hid hin
          have HY := Lib.hid hy
          have HC2 := Lib.hid hc2
          have HP2 := Lib.hid hp2
          have HX := Lib.hid hx
          have HXR := Lib.hid hxr
          have HDR := Lib.hid hdrop
          clear hnext hin hy hc2 hp2 hcl hx hdrop hxr hT' hNN
          by_cases y0 : 0 ≤ y
          · have e0 : decide (0 ≤ y) = true := decide_eq_true y0
            by_cases y1 : y < (n : Int)
            · have e1 : decide (y < (n : Int)) = true := decide_eq_true y1
              by_cases yq : y ∈ Q'
              · rw [decide_eq_true yq] at hlk
                have HYQ := Lib.hid yq
                clear yq
                go_wp2
                refine ⟨⟨j + 1, Q', M', by omega, by go_num, hT2, HP2.out, HNX.out Q' (fun _ h => h) (fun _ _ => HYQ.out)⟩, by simp [intOf]; omega⟩
              · rw [decide_eq_false yq] at hlk
                have hyw : (Lit.int .i64 y).wf = true := WalkArith.wf_i64 (by omega)
                obtain ⟨w5, hr5, hm5, ho5⟩ := hT2.mp.update (P := Try.prog) Try.underlying99 Try.underlying3 hyw true
                simp only [eB] at hr5
                have hown : SL w5.heap 3 1 u6 (Q'.length - p) ((Q'.drop p).map Sp.zI) := hT2.sl.only ho5 (fun g hg e => sl_map hT2.mp hT2.sl (by rw [hg, e]))
                have hbw : Below w.heap.size wr w5 := ho5.below hT2.below.size (fun i hi e => by omega)
                have hs5 := hbw.size
                have hl2 := hT2.q.len
                rw [← HNN.out] at hl2
                have HYQ := Lib.hid yq
                clear yq
                go_wp2_with (at_builtin; refine wpList_appd (v := u6) rfl _ _ _ rfl Try.underlying28 hi hz hz1 hz2 hz3 rfl (hown.alloc _) (m := 1) (news := [.int .i64 y]) rfl rfl (cells_new _ _ _ rfl) (by simp [Value.oneCell']) (by unfold maxLen; omega) (by omega) ?_; rintro v6 w6 hs6 ho6 hv6)
                have hpl := hT2.q.ple
                have hsr := hT2.below.size
                refine ⟨⟨j + 1, Q' ++ [y], mput y true M', by omega, by go_num, ⟨hT2.q.add HYQ.out (HIN.out y0 (by have := HNN.out; omega)), (hm5.alloc _).only ho6 (fun e => sl_map hm5 hown e), ?_, fun g hg => ?_, ?_⟩, ?_, HNX.out _ (fun z hz => List.mem_append_left _ hz) (fun _ _ => by simp)⟩, by simp [intOf]; omega⟩
                · rw [List.drop_append_of_le_length hpl, List.map_append, List.length_append, show Q'.length + [y].length - p = Q'.length - p + 1 from by simp; omega]
                  exact hs6
                · rcases hv6 with e | e
                  · exact hT2.new g (by rw [← e]; exact hg)
                  · rw [e] at hg; cases hg; simp; omega
                · refine ((hT2.below.trans hbw).alloc (by omega) _).trans (ho6.below (by simp; omega) (fun i hi e => ?_))
                  have := hT2.new i e; omega
                · have hp := HP2.out
                  rw [List.getElem?_append_left (List.getElem?_eq_some_iff.1 hp).1]
                  exact hp
            · have e1 : decide (y < (n : Int)) = false := decide_eq_false y1
              clear hlk
              go_wp2
              refine ⟨⟨j + 1, Q', M', by omega, by go_num, hT2, HP2.out, HNX.out Q' (fun _ h => h) (fun _ h => absurd h (by have := HNN.out; omega))⟩, by simp [intOf]; omega⟩
          · have e0 : decide (0 ≤ y) = false := decide_eq_false y0
            clear hlk
            go_wp2
            refine ⟨⟨j + 1, Q', M', by omega, by go_num, hT2, HP2.out, HNX.out Q' (fun _ h => h) (fun h => absurd h y0)⟩, by simp [intOf]; omega⟩
        · have hje : j = l.length := by omega
          subst hje
          obtain ⟨sb, so, scap, hsv, _, hsn, _⟩ := hT2.sl.form' (by have := (List.getElem?_eq_some_iff.1 hp2).1; omega)
          subst hsv
          have hNN := HNN.out
          have hq2 : p < Q'.length := (List.getElem?_eq_some_iff.1 hp2).1
          have hl2 := hT2.q.len
          rw [List.take_length] at hc2
          have HN2 := Lib.hid (hT2.q.next hp2 hl hc2)
          have hsl2 := hT2.sl
          have hdr2 : (Q'.drop p).map Sp.zI = Sp.zI xk :: ((Q'.drop (p + 1)).map Sp.zI) := by
            rw [← List.map_cons, ← List.getElem?_eq_some_iff.1 hp2 |>.2, List.drop_eq_getElem_cons hq2]
          obtain ⟨r, hr⟩ : ∃ r, r + 1 = Q'.length - p := ⟨Q'.length - p - 1, by omega⟩
          rw [hdr2, ← hr] at hsl2
          have HR := Lib.hid hr
          have HT2 := Lib.hid hT2
          rw [← hr] at hsn ⊢
          clear hp2 hc2 hdr2 hT2 hr hT' hdrop hNN
          by_cases hcap : scap = 1
          · subst hcap
            obtain rfl : r = 0 := by omega
            have ht := hsl2.tail ⟨sb, so, none⟩ (.inr ⟨rfl, rfl⟩)
            go_wp2
            go_roundg (n - (p + 1))
            case measure => have := HNN.out; omega
            case rel =>
              refine ⟨Q', p + 1, M', ⟨HN2.out, HT2.out.mp, ?_, HT2.out.new, HT2.out.below⟩, by omega⟩
              rw [show Q'.length - (p + 1) = 0 from by have := HR.out; omega]
              exact ht
          · have ht := hsl2.tail ⟨sb, so + 1, none⟩ (.inl rfl)
            go_wp2
            go_roundg (n - (p + 1))
            case measure => have := HNN.out; omega
            case rel =>
              refine ⟨Q', p + 1, M', ⟨HN2.out, HT2.out.mp, ?_, HT2.out.new, HT2.out.below⟩, by omega⟩
              rw [show Q'.length - (p + 1) = r from by have := HR.out; omega]
              exact ht
    · have hpe : p = Q.length := by have := hT.q.ple; omega
      subst hpe
      have hml : M.length ≤ 1000000 := by have := hT.q.ml; have := HNN.out; omega
      have hsl := hT.sl
      rw [Nat.sub_self] at hsl
      obtain ⟨ta, tc, rfl⟩ := hsl.form
      clear hsl hg hql hlt hq0 hr3 hs3 hm3 ho3
      go_wp2_with (first
        | (go_at_call 67; refine (keys_67 _ _).mono ?_; rintro e w' ⟨rfl, rfl⟩)
        | (go_at_call 65; refine (sorted_67 hT.mp hml).mono ?_; rintro e w4 ⟨v, rfl, hsl, hnew, hbel⟩))
      go_ret
      refine ⟨_, M.map Prod.fst, rfl, ?_, hT.q.done, fun g hg => Nat.le_trans hT.below.size (hnew g hg), hT.below.trans (hbel.mono hT.below.size)⟩
      rw [List.length_map, List.map_map]
      exact hsl
end Go.Proofs.Ytcdjeblcmgghhaa.Crumb
