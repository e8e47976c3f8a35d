/- JobTwice: a message that a job hears twice changes nothing more; the law answers true for every input. Conditions: the arguments can be read. -/
import Derived.Test.YtniggacgkhkgiaaPkJobPlays17
import Derived.Deep.RegionLaw
import Derived.Deep.DeepCutAuto
import Derived.BigRegion
import Derived.Outline
import Derived.Lib.QuietBelow
import Derived.BigQuiet
namespace Go.Sp
open Go.RowKit
theorem wrap_little {x : Int} (h0 : 0 ≤ x) (h1 : x ≤ 1000000000) : wrap64 x = x := by unfold wrap64; omega
theorem u64_little {x : Int} (h0 : 0 ≤ x) (h1 : x ≤ 1000000000) : IntKind.u64.wrap x = x := by
  simp only [IntKind.wrap, IntKind.signed, IntKind.bits]
  simp; omega
theorem u64_in (x : Int) : 0 ≤ IntKind.u64.wrap x ∧ IntKind.u64.wrap x < 18446744073709551616 := by
  simp only [IntKind.wrap, IntKind.signed, IntKind.bits]
  simp; omega
theorem tmod_little (x : Int) (m : Int) (hm : 0 < m) (hm2 : m ≤ 1000000) : ∃ A : Nat, wrap64 ((IntKind.u64.wrap x).tmod m) = A ∧ (A : Int) < m := by
  have h := u64_in x
  have h1 := Int.tmod_nonneg m h.1
  have h2 := Int.tmod_lt_of_pos (IntKind.u64.wrap x) hm
  refine ⟨((IntKind.u64.wrap x).tmod m).toNat, ?_, by omega⟩
  rw [wrap_little h1 (by omega)]; omega
theorem one_mod (x m : Int) (hm : 0 < m) (hm2 : m ≤ 1000) : ∃ A : Nat, wrap64 (1 + wrap64 ((IntKind.u64.wrap x).tmod m)) = A ∧ 1 ≤ A ∧ (A : Int) ≤ m := by
  obtain ⟨A, e, hA⟩ := tmod_little x m hm (by omega)
  exact ⟨1 + A, by rw [e, wrap_little (by omega) (by omega)]; omega, by omega, by omega⟩
end Go.Sp
namespace Go.Proofs.Ytniggacgkhkgiaa.Job
open Go.RowKit Go.Sp Msg Go.Sort

/-- how many outs a job has -/
def lenO (J : Jb) : Nat := (bif manOut J then 1 else 0) + (outsT J).length
theorem outs_len {w : World} {R : Nat → Prop} {jb : Nat} {J : Jb} (h : JbR w R jb J) : Calls Try.prog 24 #[.pointer (some ⟨jb, 0, none⟩)] w fun e w' => ∃ a c, e = .returned (.slice a (lenO J) c) ∧ Below w.heap.size w w' := by
  refine (outs_any h).mono ?_
  rintro e w' ⟨v, outs, rfl, h1, hb⟩
  obtain ⟨hd, rfl, hh⟩ := h1.ex
  obtain ⟨a, c, rfl⟩ := h1.sl.form
  have : (hd ++ outsT J).length = lenO J := by
    rw [List.length_append]
    unfold lenO
    rcases hh with ⟨e, rfl⟩ | ⟨e, _, _, rfl, _⟩ <;> rw [e] <;> rfl
  rw [this]
  exact ⟨a, c, rfl, hb⟩
theorem cells_at {w : World} {b : Nat} {cs : List Value} {t : TypeId} (h : w.heap[b]? = some (.cells cs.toArray t)) : ∀ j u, cs[j]? = some u → w.cell? ((⟨b, 0, none⟩ : Addr).add j) = some u := fun j u hu => by
  simp [World.cell?, Addr.add_lit, h, hu]
theorem cell_below' {w0 w : World} {b j : Nat} {u : Value} (h : Below w0.heap.size w0 w) (hb : b < w0.heap.size) (hc : w0.cell? ⟨b, j, none⟩ = some u) : w.cell? ⟨b, j, none⟩ = some u := by
  rw [h.cell (p := ⟨b, j, none⟩) hb]; exact hc
/-- two jobs side by side, none of their blocks in K -/
def Two (w0 w : World) (K : Nat → Prop) (ja jb : Nat) (Ja Jb' : Jb) : Prop :=
  ∃ Ra Rb, JbR w Ra ja Ja ∧ JbR w Rb jb Jb' ∧ (∀ x, Ra x → ¬ Rb x) ∧ (∀ x, Ra x ∨ Rb x → w0.heap.size ≤ x ∧ ¬ K x) ∧ Below w0.heap.size w0 w
section
variable {w0 w w' : World} {K K' : Nat → Prop} {ja jb : Nat} {Ja Jb' : Jb} {m : Mg}
theorem Two.bel (h : Two w0 w K ja jb Ja Jb') : Below w0.heap.size w0 w := by
  obtain ⟨_, _, _, _, _, _, h⟩ := h
  exact h
theorem Two.step (h : Two w0 w K ja jb Ja Jb') (o : Below w.heap.size w w') : Two w0 w' K ja jb Ja Jb' := by
  obtain ⟨Ra, Rb, h1, h2, h3, h4, h5⟩ := h
  exact ⟨Ra, Rb, h1.below o, h2.below o, h3, h4, h5.trans (o.mono h5.size)⟩
theorem Two.turn (h : Two w0 w K ja jb Ja Jb') (hK : ∀ b, b < w.heap.size → K' b → K b) : Two w0 w K' ja jb Ja Jb' := by
  obtain ⟨Ra, Rb, h1, h2, h3, h4, h5⟩ := h
  exact ⟨Ra, Rb, h1, h2, h3, fun x hx => ⟨(h4 x hx).1, fun e => (h4 x hx).2 (hK x (hx.elim (h1.lt x) (h2.lt x)) e)⟩, h5⟩
theorem Two.a (h : Two w0 w K ja jb Ja Jb') : ∃ R, JbR w R ja Ja := by
  obtain ⟨Ra, _, h1, _⟩ := h
  exact ⟨Ra, h1⟩
theorem Two.b (h : Two w0 w K ja jb Ja Jb') : ∃ R, JbR w R jb Jb' := by
  obtain ⟨_, Rb, _, h1, _⟩ := h
  exact ⟨Rb, h1⟩
theorem Two.ks (h : Two w0 w K ja jb Ja Jb') : KS Ja.vs := by
  obtain ⟨_, _, ⟨_, _, _, h⟩, _⟩ := h
  exact h.ks
theorem Two.hearA (h : Two w0 w K ja jb Ja Jb') (hKl : ∀ b, K b → b < w.heap.size) (hm : InMem w m) (hs : Small m) : Calls Try.prog 21 #[.pointer (some ⟨ja, 0, none⟩), val m] w fun e w' => e = .returned (.tuple #[]) ∧ Two w0 w' K ja jb (hearJ Ja m) Jb' ∧ Only (fun b => w0.heap.size ≤ b ∧ ¬ K b) w w' := by
  obtain ⟨Ra, Rb, h1, h2, h3, h4, h5⟩ := h
  refine (hear_any h1 hm hs).mono ?_
  rintro e w'' ⟨rfl, R', g1, g2, g3⟩
  refine ⟨rfl, ⟨R', Rb, g1, h2.only g3 (fun b hb e => h3 b e hb), fun x hx hb => ?_, fun x hx => ?_, h5.trans (g3.below h5.size fun i hi e => by have := (h4 i (.inl e)).1; omega)⟩, g3.mono fun b _ hb => h4 b (.inl hb)⟩
  · rcases g2 x hx with h | h
    · exact h3 x h hb
    · have := h2.lt x hb; omega
  · rcases hx with hx | hx
    · rcases g2 x hx with h | h
      · exact h4 x (.inl h)
      · exact ⟨Nat.le_trans h5.size h, fun e => by have := hKl x e; omega⟩
    · exact h4 x (.inr hx)
theorem Two.hearB (h : Two w0 w K ja jb Ja Jb') (hKl : ∀ b, K b → b < w.heap.size) (hm : InMem w m) (hs : Small m) : Calls Try.prog 21 #[.pointer (some ⟨jb, 0, none⟩), val m] w fun e w' => e = .returned (.tuple #[]) ∧ Two w0 w' K ja jb Ja (hearJ Jb' m) ∧ Only (fun b => w0.heap.size ≤ b ∧ ¬ K b) w w' := by
  obtain ⟨Ra, Rb, h1, h2, h3, h4, h5⟩ := h
  refine (hear_any h2 hm hs).mono ?_
  rintro e w'' ⟨rfl, R', g1, g2, g3⟩
  refine ⟨rfl, ⟨Ra, R', h1.only g3 (fun b hb e => h3 b hb e), g1, fun x hx hb => ?_, fun x hx => ?_, h5.trans (g3.below h5.size fun i hi e => by have := (h4 i (.inr e)).1; omega)⟩, g3.mono fun b _ hb => h4 b (.inr hb)⟩
  · rcases g2 x hb with h | h
    · exact h3 x hx h
    · have := h1.lt x hx; omega
  · rcases hx with hx | hx
    · exact h4 x (.inl hx)
    · rcases g2 x hx with h | h
      · exact h4 x (.inr h)
      · exact ⟨Nat.le_trans h5.size h, fun e => by have := hKl x e; omega⟩
theorem Two.new {w1 : World} {J : Jb} {Ra Rb : Nat → Prop} (h1 : JbR w Ra ja J) (hRa : ∀ b, Ra b → w0.heap.size ≤ b) (h2 : JbR w1 Rb jb J) (hRb : ∀ b, Rb b → w.heap.size ≤ b) (hb : Below w.heap.size w w1) (hb0 : Below w0.heap.size w0 w) : Two w0 w1 (fun _ => False) ja jb J J ∧ Two w0 w1 (fun _ => False) jb ja J J :=
  ⟨⟨Ra, Rb, h1.below hb, h2, fun x hx hy => by have := h1.lt x hx; have := hRb x hy; omega, fun x hx => ⟨by rcases hx with h | h; exact hRa x h; exact Nat.le_trans hb0.size (hRb x h), fun e => e⟩, hb0.trans (hb.mono hb0.size)⟩,
   ⟨Rb, Ra, h2, h1.below hb, fun x hy hx => by have := h1.lt x hx; have := hRb x hy; omega, fun x hx => ⟨by rcases hx with h | h; exact Nat.le_trans hb0.size (hRb x h); exact hRa x h, fun e => e⟩, hb0.trans (hb.mono hb0.size)⟩⟩
end

/-- one round's own state: the two jobs, the list, the element's block -/
structure Rn (w w1 w' : World) (lb xb ja jb : Nat) (Ja Jb' : Jb) (v : Value) (XS : List OpJ) (xs : Array Value) : Prop where
  two : Two w1 w' (fun b => b = lb ∨ b = xb) ja jb Ja Jb'
  rs : RS w' 6 eOpJ v XS
  own : ∀ k, v.ownBlock = some k → k = lb
  blk : w'.heap[xb]? = some (.cells xs 40 (0, 0))
  bel : Below w.heap.size w w'
  lt : lb < w'.heap.size
  le : w.heap.size ≤ w1.heap.size
section
variable {w w1 w' w'' : World} {lb xb ja jb : Nat} {Ja Jb' : Jb} {v : Value} {XS : List OpJ} {xs : Array Value} {m : Mg}
theorem Rn.step (h : Rn w w1 w' lb xb ja jb Ja Jb' v XS xs) (o : Below w'.heap.size w' w'') : Rn w w1 w'' lb xb ja jb Ja Jb' v XS xs :=
  ⟨h.two.step o, h.rs.only (only_of_below o (fun _ => False)) (fun _ _ => id), h.own, (o.block _ (Array.getElem?_eq_some_iff.1 h.blk).1).trans h.blk, below_trans' o h.bel, Nat.lt_of_lt_of_le h.lt o.size, h.le⟩
theorem Rn.cell (h : Rn w w1 w' lb xb ja jb Ja Jb' v XS xs) {j : Nat} {u : Value} (hu : xs[j]? = some u) : w'.cell? ⟨xb, j, none⟩ = some u := cell_blk h.blk hu
theorem Rn.kl (h : Rn w w1 w' lb xb ja jb Ja Jb' v XS xs) : ∀ b, (b = lb ∨ b = xb) → b < w'.heap.size := fun b e => by
  have h1 := (Array.getElem?_eq_some_iff.1 h.blk).1
  have h2 := h.lt
  rcases e with e | e <;> omega
theorem Rn.hearA (h : Rn w w1 w' lb xb ja jb Ja Jb' v XS xs) (hm : InMem w' m) (hs : Small m) : Calls Try.prog 21 #[.pointer (some ⟨ja, 0, none⟩), val m] w' fun e w'' => e = .returned (.tuple #[]) ∧ Rn w w1 w'' lb xb ja jb (hearJ Ja m) Jb' v XS xs := by
  refine (h.two.hearA h.kl hm hs).mono ?_
  rintro e w3 ⟨rfl, h2, o⟩
  refine ⟨rfl, h2, h.rs.only o (fun k hk e => e.2 (.inl (h.own k hk))), h.own, o.heap h.blk (fun e => e.2 (.inr rfl)), h.bel.trans (o.below h.bel.size fun i hi e => by have := e.1; have := h.le; omega), Nat.lt_of_lt_of_le h.lt o.size, h.le⟩
theorem Rn.hearB (h : Rn w w1 w' lb xb ja jb Ja Jb' v XS xs) (hm : InMem w' m) (hs : Small m) : Calls Try.prog 21 #[.pointer (some ⟨jb, 0, none⟩), val m] w' fun e w'' => e = .returned (.tuple #[]) ∧ Rn w w1 w'' lb xb ja jb Ja (hearJ Jb' m) v XS xs := by
  refine (h.two.hearB h.kl hm hs).mono ?_
  rintro e w3 ⟨rfl, h2, o⟩
  refine ⟨rfl, h2, h.rs.only o (fun k hk e => e.2 (.inl (h.own k hk))), h.own, o.heap h.blk (fun e => e.2 (.inr rfl)), h.bel.trans (o.below h.bel.size fun i hi e => by have := e.1; have := h.le; omega), Nat.lt_of_lt_of_le h.lt o.size, h.le⟩
theorem Rn.twice {o : OpJ} {J : Jb} {m1 m2 m3 : Mg} (hs : KS J.vs) (h1 : MsgJ o m1) (h2 : MsgJ o m2) (h3 : MsgJ o m3) (h : Rn w w1 w' lb xb ja jb (hearJ J m1) (hearJ (hearJ J m2) m3) v XS xs) : Rn w w1 w' lb xb ja jb (hearJ J m1) (hearJ J m1) v XS xs := by
  rw [msgJ_same h2 h1 J, msgJ_same h3 h1, hearJ_twice hs] at h
  exact h
end

set_option maxRecDepth 100000 in
theorem rd_trig {w : World} {m : Nat} {ds : List Value} (h : Rd Try.prog w m 23 ds) : ∃ a t c : Int, ds = [.int .i64 a, .int .i64 t, .int .i64 c] := by
  obtain ⟨hl, hf⟩ := rd_struct h Try.underlying23
  have hc : Try.prog.cellsOf 23 = 3 := by kernel_rfl
  have hi : Try.prog.cellsOf 3 = 1 := by kernel_rfl
  rw [hc] at hl
  match ds, hl with
  | [a, b, c], _ =>
    simp [hi] at hf
    obtain ⟨⟨m1, f1⟩, ⟨m2, f2⟩, ⟨m3, f3⟩⟩ := hf
    obtain ⟨x1, e1, _⟩ := rd_int f1 Try.underlying3
    obtain ⟨x2, e2, _⟩ := rd_int f2 Try.underlying3
    obtain ⟨x3, e3, _⟩ := rd_int f3 Try.underlying3
    simp at e1 e2 e3
    subst e1 e2 e3
    exact ⟨x1, x2, x3, rfl⟩
set_option maxRecDepth 100000 in
theorem arg_trig {H : Type} {enc : TypeId × Value → H} {base : Nat} {d : DataW H} {ps : List MemPlace} {w : World} {v : Value} (u : Value.okWide Try.prog w .any base 23 v)
    (k : DataW.Trod enc Try.prog w 0 (fun _ => true) true 23 v d ps) (z : (d.weights Try.prog 23).all (· ≤ reachBytes) = true) : ∃ a t c : Int, v = .agg #[.int .i64 a, .int .i64 t, .int .i64 c] := by
  simp only [Value.okWide, Try.underlying23] at u
  obtain ⟨cs, rfl, _, _⟩ := u
  obtain ⟨fuel, hf⟩ := k
  obtain ⟨a, t, c, h1⟩ := rd_trig (rd_of_trod fuel _ _ d ps hf z)
  refine ⟨a, t, c, ?_⟩
  have : cs.toList = [.int .i64 a, .int .i64 t, .int .i64 c] := by simpa [Value.cells] using h1
  rw [show cs = cs.toList.toArray by simp, this]

set_option maxRecDepth 100000 in
set_option maxHeartbeats 4000000 in
theorem twice_any {H : Type} {enc : TypeId × Value → H} {base : Nat} {d1 d2 d3 : DataW H} {ps1 ps2 ps3 : List MemPlace} (ag : Int) (v1 v2 v3 : Value) (w : World) (_ : (Lit.int .i64 ag).wf = true)
    (u1 : Value.okWide Try.prog w .any base 23 v1) (k1 : DataW.Trod enc Try.prog w 0 (fun _ => true) true 23 v1 d1 ps1) (z1 : (d1.weights Try.prog 23).all (· ≤ reachBytes) = true)
    (u2 : Value.okWide Try.prog w .any base 24 v2) (k2 : DataW.Trod enc Try.prog w 0 (fun _ => true) true 24 v2 d2 ps2) (z2 : (d2.weights Try.prog 24).all (· ≤ reachBytes) = true)
    (u3 : Value.okWide Try.prog w .any base 40 v3) (k3 : DataW.Trod enc Try.prog w 0 (fun _ => true) true 40 v3 d3 ps3) (z3 : (d3.weights Try.prog 40).all (· ≤ reachBytes) = true) :
    Calls Try.prog 7 #[.int .i64 ag, v1, v2, v3] w fun e w' => e = .returned (.bool true) ∧ Below w.heap.size w w' := by
  obtain ⟨ta, tt, tc, rfl⟩ := arg_trig u1 k1 z1
  obtain ⟨os, hos, hoQ, _⟩ := arg_slice (size := 6) (elt := eOpJ) (Q := fun o => RS w 1 eInt o.cv o.cs) Try.underlying24 (by kernel_rfl) (by omega) (fun m ds h => rd_opJ h) u2 k2 z2
  obtain ⟨o, rfl, hocs⟩ := arg_opJ u3 k3 z3
  clear u1 k1 z1 u2 k2 z2 u3 k3 z3
  obtain ⟨ok, oa, ot, oj, ocv, ocs, ol⟩ := o
  simp only at hocs
  obtain ⟨_, oca, occ, rfl, _⟩ := id hocs
  have hl := hos.1
  unfold maxLen at hl
  obtain ⟨_, la, lc, rfl, _⟩ := id hos
  obtain ⟨A, eA, hA1, hA4⟩ := one_mod ag 4 (by omega) (by omega)
  have eU : IntKind.u64.wrap (A : Int) = A := u64_little (by omega) (by omega)
  obtain ⟨B, eB, hB⟩ := tmod_little ta A (by omega) (by omega)
  obtain ⟨io, zo, hio, hzo, ho1, ho2, ho3⟩ := info_at (P := Try.prog) (e := 40) (f := (6, 64, 6)) (by kernel_rfl)
  show Calls _ _ #[.int .i64 ag, .agg #[.int .i64 ta, .int .i64 tt, .int .i64 tc], .slice la os.length lc, .agg #[.int .i64 ok, .int .i64 oa, .int .i64 ot, .int .i64 oj, .slice oca ocs.length occ, .bool ol]] _ _
  go_enter Try.func7, Try.ntmps7
  go_upto_region 2 with fail
  rw [eA]
  go_wp2_with fail
  have hT := below_alloc (Below.refl w.heap.size w) (.cells #[.int .i64 B, .int .i64 tt, .int .i64 tc] 23)
  have hT2 := below_alloc (Below.refl (w.alloc (.cells #[.int .i64 B, .int .i64 tt, .int .i64 tc] 23)).heap.size (w.alloc (.cells #[.int .i64 B, .int .i64 tt, .int .i64 tc] 23))) (.cells #[.int .i64 ok, .int .i64 oa, .int .i64 ot, .int .i64 oj, .slice oca ocs.length occ, .bool ol] 40)
  have hbt := (hT2.block w.heap.size (by simp)).trans (heap_new w (.cells #[.int .i64 B, .int .i64 tt, .int .i64 tc] 23) rfl)
  have hbo : ((w.alloc (.cells #[.int .i64 B, .int .i64 tt, .int .i64 tc] 23)).alloc (.cells #[.int .i64 ok, .int .i64 oa, .int .i64 ot, .int .i64 oj, .slice oca ocs.length occ, .bool ol] 40)).heap[w.heap.size + 1]? = some (.cells #[.int .i64 ok, .int .i64 oa, .int .i64 ot, .int .i64 oj, .slice oca ocs.length occ, .bool ol] 40 (0, 0)) := heap_new _ _ (by simp)
  have hw0 := below_trans' hT2 hT
  generalize ((w.alloc (.cells #[.int .i64 B, .int .i64 tt, .int .i64 tc] 23)).alloc (.cells #[.int .i64 ok, .int .i64 oa, .int .i64 ot, .int .i64 oj, .slice oca ocs.length occ, .bool ol] 40)) = w0 at hbt hbo hw0 ⊢
  refine (awake_any _).mono ?_
  rintro e w1 ⟨rfl, hb1⟩
  have hbt1 := (hb1.block _ (Array.getElem?_eq_some_iff.1 hbt).1).trans hbt
  have hbo1 := (hb1.block _ (Array.getElem?_eq_some_iff.1 hbo).1).trans hbo
  have hw1 := below_trans' hb1 hw0
  clear hT hT2 hbt hbo hw0 hb1 eA eU eB
  by_cases hlen : os.length ≤ 100
  · have b1 : decide (100 < (os.length : Int)) = false := decide_eq_false (by omega)
    go_upto_region 5 with fail
    have c0 := cell_blk hbt1 (j := 0) (u := .int .i64 B) rfl
    have c1 := cell_blk hbt1 (j := 1) (u := .int .i64 tt) rfl
    have c2 := cell_blk hbt1 (j := 2) (u := .int .i64 tc) rfl
    cases hn : newOk 1 A B tt tc with
    | false =>
      go_cut [9, 10] (fun a b wx => a = .pointer none ∧ b = .pointer none ∧ Below w1.heap.size w1 wx)
      case first =>
        have k0 := fun d os => cell_regrown c0 d os
        have k1 := fun d os => cell_regrown c1 d os
        have k2 := fun d os => cell_regrown c2 d os
        have cQ := fun d os => Calls.regrown_of (new_no (grow (redrawn w1 d) os) 1 A B tt tc hn)
        clear hbt1 hbo1 hw1 c0 c1 c2 hos hoQ hocs hn
        refine wp_region_quiet_below (by kernel_rfl) (by kernel_rfl) ?_
        repeat (first | go_big_quiet_step (exact cQ _ _) | quiet_step (exact cQ _ _))
        refine wpQuiet_nil ?_
        intro w2 hw2
        obtain ⟨p, rfl⟩ := hw2
        have hbr := below_regrown w1 p.d p.os
        generalize grow (redrawn w1 p.d) p.os = w2 at hbr ⊢
        clear k0 k1 k2 cQ
        go_wp2_with fail
        go_meet
        exact ⟨rfl, rfl, hbr⟩
      case rest =>
        obtain ⟨rfl, rfl, hb2⟩ := hcut
        have hbe := below_trans' hb2 hw1
        clear c0 c1 c2 hbt1 hbo1
        go_wp2
        go_ret
        exact ⟨rfl, hbe⟩
    | true =>
      go_cut [9, 10] (fun a b wx => ∃ ja jb, a = .pointer (some ⟨ja, 0, none⟩) ∧ b = .pointer (some ⟨jb, 0, none⟩) ∧ Two w1 wx (fun _ => False) ja jb (newJ 1 A B tt tc) (newJ 1 A B tt tc))
      case first =>
        have q0 : w1.drew.cell? ⟨w.heap.size, 0, none⟩ = some (.int .i64 B) := c0
        have q1 : w1.drew.cell? ⟨w.heap.size, 1, none⟩ = some (.int .i64 tt) := c1
        have q2 : w1.drew.cell? ⟨w.heap.size, 2, none⟩ = some (.int .i64 tc) := c2
        clear hbt1 hbo1 hw1 c0 c1 c2 hos hoQ hocs
        go_region_held3 (fun w' => w'.cell? ⟨w.heap.size, 0, none⟩ = some (.int .i64 B) ∧ w'.cell? ⟨w.heap.size, 1, none⟩ = some (.int .i64 tt) ∧ w'.cell? ⟨w.heap.size, 2, none⟩ = some (.int .i64 tc)) (first | exact ⟨q0, q1, q2⟩ | exact ⟨r0, r1, r2⟩ | exact ⟨y0, y1, y2⟩)
          (first
          | (go_at_call 17
             have tok := r0
             refine (new_yes _ 1 A B tt tc hn).mono ?_
             rintro e w3 ⟨jb3, R3, rfl, h3, hR3, hb3⟩
             have y0 : w3.cell? ⟨w.heap.size, 0, none⟩ = some (.int .i64 B) := by rw [hb3.cell (p := ⟨w.heap.size, 0, none⟩) (World.block_lt_of_cell? _ _ r0)]; exact r0
             have y1 : w3.cell? ⟨w.heap.size, 1, none⟩ = some (.int .i64 tt) := by rw [hb3.cell (p := ⟨w.heap.size, 1, none⟩) (World.block_lt_of_cell? _ _ r1)]; exact r1
             have y2 : w3.cell? ⟨w.heap.size, 2, none⟩ = some (.int .i64 tc) := by rw [hb3.cell (p := ⟨w.heap.size, 2, none⟩) (World.block_lt_of_cell? _ _ r2)]; exact r2)
          | (go_at_call 17
             refine (new_yes _ 1 A B tt tc hn).mono ?_
             rintro e w2 ⟨jb2, R2, rfl, h2, hR2, hb2⟩
             have r0 : w2.cell? ⟨w.heap.size, 0, none⟩ = some (.int .i64 B) := by rw [hb2.cell (p := ⟨w.heap.size, 0, none⟩) (World.block_lt_of_cell? _ _ q0)]; exact q0
             have r1 : w2.cell? ⟨w.heap.size, 1, none⟩ = some (.int .i64 tt) := by rw [hb2.cell (p := ⟨w.heap.size, 1, none⟩) (World.block_lt_of_cell? _ _ q1)]; exact q1
             have r2 : w2.cell? ⟨w.heap.size, 2, none⟩ = some (.int .i64 tc) := by rw [hb2.cell (p := ⟨w.heap.size, 2, none⟩) (World.block_lt_of_cell? _ _ q2)]; exact q2))
        all_goals (
          obtain ⟨t1, t2⟩ := Two.new (w0 := w1) h2 hR2 h3 hR3 hb3 ((Below.refl w1.heap.size w1).drew.trans hb2)
          clear h2 h3
          go_wp2_with fail
          go_meet
          first
          | exact ⟨_, _, rfl, rfl, t1⟩
          | exact ⟨_, _, rfl, rfl, t2⟩)
      case rest =>
        obtain ⟨ja, jb, rfl, rfl, hTw⟩ := hcut
        clear c0 c1 c2 hbt1
        go_upto_region 8 with fail
        have hbc := hTw.bel
        have hwc := below_trans' hbc hw1
        have hbo2 := (hbc.block _ (Array.getElem?_eq_some_iff.1 hbo1).1).trans hbo1
        have hxo := (Array.getElem?_eq_some_iff.1 hbo2).1
        have q0 := cell_blk hbo2 (j := 0) (u := .int .i64 ok) rfl
        have q1 := cell_blk hbo2 (j := 1) (u := .int .i64 oa) rfl
        have q2 := cell_blk hbo2 (j := 2) (u := .int .i64 ot) rfl
        have q3 := cell_blk hbo2 (j := 3) (u := .int .i64 oj) rfl
        have q4 := cell_blk hbo2 (j := 4) (u := .slice oca ocs.length occ) rfl
        have q5 := cell_blk hbo2 (j := 5) (u := .bool ol) rfl
        have hR1 : ∀ o1, RS (wc.alloc o1) 6 eOpJ (.slice la os.length lc) os := fun o1 => hos.only (only_of_below (below_alloc hwc o1) (fun _ => False)) (fun _ _ => id)
        have hR2 : ∀ o1 o2, RS ((wc.alloc o1).alloc o2) 6 eOpJ (.slice la os.length lc) os := fun o1 o2 => hos.only (only_of_below (below_alloc (below_alloc hwc o1) o2) (fun _ => False)) (fun _ _ => id)
        have hone : ∀ x ∈ os, ∀ u ∈ eOpJ x, u.oneCell' = true := fun x hx u hu => by
          obtain ⟨_, a', c', hv, _⟩ := hoQ x hx
          simp only [eOpJ, hv] at hu
          simp at hu
          rcases hu with rfl | rfl | rfl | rfl | rfl | rfl <;> rfl
        obtain ⟨wd, rfl⟩ : ∃ x : World, x = wc := ⟨_, rfl⟩
        go_cut [52, 53, 54] (fun v n i wx => ∃ lb lo lcap XS, XS = os ++ [(⟨ok, oa, ot, oj, .slice oca ocs.length occ, ocs, ol⟩ : OpJ)] ∧ v = .slice (some ⟨lb, lo, none⟩) XS.length lcap ∧ n = .int .i64 (XS.length : Int) ∧ i = .int .i64 ((0 : Nat) : Int) ∧ RS wx 6 eOpJ v XS ∧ wd.heap.size ≤ lb ∧ Below wd.heap.size wd wx)
        case first =>
          clear hTw hos hoQ hocs hbc hwc hbo1 hbo2 hw1
          go_region_held3 (fun w' => w'.cell? ⟨w.heap.size + 1, 0, none⟩ = some (.int .i64 ok) ∧ w'.cell? ⟨w.heap.size + 1, 1, none⟩ = some (.int .i64 oa) ∧ w'.cell? ⟨w.heap.size + 1, 2, none⟩ = some (.int .i64 ot) ∧ w'.cell? ⟨w.heap.size + 1, 3, none⟩ = some (.int .i64 oj) ∧ w'.cell? ⟨w.heap.size + 1, 4, none⟩ = some (.slice oca ocs.length occ) ∧ w'.cell? ⟨w.heap.size + 1, 5, none⟩ = some (.bool ol))
            (first | exact ⟨q0, q1, q2, q3, q4, q5⟩ | exact ⟨cell_alloc q0 _, cell_alloc q1 _, cell_alloc q2 _, cell_alloc q3 _, cell_alloc q4 _, cell_alloc q5 _⟩ | exact ⟨cell_alloc (cell_alloc q0 _) _, cell_alloc (cell_alloc q1 _) _, cell_alloc (cell_alloc q2 _) _, cell_alloc (cell_alloc q3 _) _, cell_alloc (cell_alloc q4 _) _, cell_alloc (cell_alloc q5 _) _⟩ | exact ⟨y0, y1, y2, y3, y4, y5⟩ | exact ⟨r0, r1, r2, r3, r4, r5⟩ | exact ⟨cell_alloc r0 _, cell_alloc r1 _, cell_alloc r2 _, cell_alloc r3 _, cell_alloc r4 _, cell_alloc r5 _⟩)
            (first
            | (refine step_appd (v := v7) (m := 1) (c := 1) (news := eOpJ ⟨ok, oa, ot, oj, .slice oca ocs.length occ, ocs, ol⟩) rfl _ _ _ rfl Try.underlying24 hio hzo ho1 ho2 ho3 rfl (by first | exact hs7 | exact hs7.alloc _) (by omega) rfl rfl (by first | exact cells_new w7 _ _ rfl | exact cells_at h7x) (by simp [eOpJ, Value.oneCell']) (by unfold maxLen; omega) (by omega) rfl ?_
               rintro b9 o9 c9 w9 hs9 ho9 hv9
               have hB9 : Below wd.heap.size wd w9 := by first | exact hB7.trans (ho9.below hB7.size fun i hi e => by have := hn7 i e; omega) | exact (below_alloc hB7 _).trans (ho9.below (below_alloc hB7 _).size fun i hi e => by have := hn7 i e; omega)
               have hn9 : wd.heap.size ≤ b9 := by
                 rcases hv9 with e | e
                 · exact hn7 _ e
                 · have := hB7.size; (try simp at e); omega
               have y0 := cell_below' hB9 hxo q0
               have y1 := cell_below' hB9 hxo q1
               have y2 := cell_below' hB9 hxo q2
               have y3 := cell_below' hB9 hxo q3
               have y4 := cell_below' hB9 hxo q4
               have y5 := cell_below' hB9 hxo q5)
            | (first
               | refine step_appR (v := .slice (some ⟨wd.heap.size, 0, none⟩) 0 0) (n := 0) (cs := []) eOpJ_len rfl _ _ _ rfl Try.underlying24 hio hzo ho1 ho2 ho3 rfl (by first | exact sl_empty' _ _ 6 rfl | exact (sl_empty' _ _ 6 rfl).alloc _ | exact sl_empty' _ _ 6 (by simp) | fail) rfl (by first | exact (hR1 _).heap rfl | exact (hR2 _ _).heap rfl | fail) hone (by unfold maxLen; omega) (by omega) ?_
               | refine step_appR (v := .slice (some ⟨wd.heap.size + 1, 0, none⟩) 0 0) (n := 0) (cs := []) eOpJ_len rfl _ _ _ rfl Try.underlying24 hio hzo ho1 ho2 ho3 rfl (by first | exact sl_empty' _ _ 6 rfl | exact (sl_empty' _ _ 6 rfl).alloc _ | exact sl_empty' _ _ 6 (by simp) | fail) rfl (by first | exact (hR1 _).heap rfl | exact (hR2 _ _).heap rfl | fail) hone (by unfold maxLen; omega) (by omega) ?_
               | fail
               intro v7 w7 hs7 ho7 hv7
               replace hs7 : SL w7.heap 40 6 v7 os.length (os.flatMap eOpJ) := by simpa using hs7
               have hB7 : Below wd.heap.size wd w7 := by
                 first
                 | exact (below_alloc (Below.refl wd.heap.size wd).drew _).trans (ho7.below (below_alloc (Below.refl wd.heap.size wd).drew _).size fun i hi e => by simp [Value.ownBlock] at e; omega)
                 | exact (below_alloc (below_alloc (Below.refl wd.heap.size wd).drew _) _).trans (ho7.below (below_alloc (below_alloc (Below.refl wd.heap.size wd).drew _) _).size fun i hi e => by simp [Value.ownBlock] at e; omega)
               have hn7 : ∀ g, v7.ownBlock = some g → wd.heap.size ≤ g := fun g hg => by
                 rw [hg] at hv7
                 simp [Value.ownBlock] at hv7
                 omega
               have r0 := cell_below' hB7 hxo q0
               have r1 := cell_below' hB7 hxo q1
               have r2 := cell_below' hB7 hxo q2
               have r3 := cell_below' hB7 hxo q3
               have r4 := cell_below' hB7 hxo q4
               have r5 := cell_below' hB7 hxo q5
               first
               | (have h7x : w7.heap[wd.heap.size + 1]? = some (.cells #[.int .i64 ok, .int .i64 oa, .int .i64 ot, .int .i64 oj, .slice oca ocs.length occ, .bool ol] 40) := ho7.heap (heap_new _ _ (by simp)) (by simp [Value.ownBlock]))
               | (have h7x : w7.heap[wd.heap.size]? = some (.cells #[.int .i64 ok, .int .i64 oa, .int .i64 ot, .int .i64 oj, .slice oca ocs.length occ, .bool ol] 40) := ho7.heap ((Below.heap_alloc _ _ _ (by simp)).trans (heap_new _ _ rfl)) (by simp [Value.ownBlock]))
               | skip)
            | fail)
          all_goals (
            clear hxo hR1 hR2 hone q0 q1 q2 q3 q4 q5
            go_wp2_with fail
            go_meet
            exact ⟨b9, o9, c9, _, rfl, by simp, by simp, rfl, SL.rs (xs := os ++ [(⟨ok, oa, ot, oj, .slice oca ocs.length occ, ocs, ol⟩ : OpJ)]) eOpJ_len (by rw [List.length_append, List.flatMap_append]; simpa using hs9), hn9, hB9⟩)
        case rest =>
          obtain ⟨lb, lo, lcap, XS, hXS, rfl, rfl, rfl, hrs, hlb, hb3⟩ := hcut
          have hT3 : Two w1 wc (· = lb) ja jb (newJ 1 A B tt tc) (newJ 1 A B tt tc) := (hTw.turn (fun b hb e => by omega)).step hb3
          have hbw := below_trans' hb3 hwc
          have hQ : ∀ x ∈ XS, RS w 1 eInt x.cv x.cs := fun x hx => by
            rw [hXS] at hx
            rcases List.mem_append.1 hx with h | h
            · exact hoQ x h
            · rw [List.mem_singleton.1 h]; exact hocs
          generalize newJ 1 A B tt tc = J0 at hT3
          clear hTw hwc hb3 hlb hXS hoQ hocs hR1 hR2 hone q0 q1 q2 q3 q4 q5 hbc hbo2 hxo hos hl hlen hn b1 hio hzo ho1 ho2 ho3
          go_wp2
          go_loopw [54] (fun i wr => ∃ (q : Nat) (J : Jb), q ≤ XS.length ∧ i = .int .i64 q ∧ Two w1 wr (· = lb) ja jb J J ∧ RS wr 6 eOpJ (.slice (some ⟨lb, lo, none⟩) XS.length lcap) XS ∧ Below w.heap.size w wr) (fun i _ => XS.length - (intOf i).toNat)
          case atStart => exact ⟨0, _, Nat.zero_le _, rfl, hT3, hrs, hbw⟩
          case round =>
            clear hT3 hrs hbw
            obtain ⟨q, J, hq, rfl, hT, hr, hb⟩ := hrel
            by_cases hqN : q < XS.length
            · obtain ⟨hll, a', c', hv, h2⟩ := id hr
              obtain ⟨b0, o0, ha, hb0, hcl⟩ := h2 (by omega)
              simp only [Value.slice.injEq] at hv
              obtain ⟨hv1, hv2, hv3⟩ := hv
              clear hv2 hv3
              unfold maxLen at hll
              rw [ha] at hv1
              simp only [Option.some.injEq, Addr.mk.injEq] at hv1
              obtain ⟨rfl, rfl, _⟩ := hv1
              clear ha h2
              obtain ⟨x, hx⟩ : ∃ x, XS[q]? = some x := ⟨_, List.getElem?_eq_getElem hqN⟩
              have hcs := hQ x (List.mem_of_getElem? hx)
              have g0 := hcl q x 0 _ hx rfl
              have g1 := hcl q x 1 _ hx rfl
              have g2 := hcl q x 2 _ hx rfl
              have g3 := hcl q x 3 _ hx rfl
              have g4 := hcl q x 4 _ hx rfl
              have g5 := hcl q x 5 _ hx rfl
              rw [← Nat.add_assoc] at g0 g1 g2 g3 g4 g5
              rw [Nat.add_zero] at g0
              obtain ⟨k, a, t, j, cv, cs, l⟩ := x
              simp only at hcs g0 g1 g2 g3 g4 g5
              obtain ⟨_, ca, cc, rfl, _⟩ := id hcs
              have hA := below_alloc (Below.refl wr.heap.size wr) (.cells #[.int .i64 k, .int .i64 a, .int .i64 t, .int .i64 j, .slice ca cs.length cc, .bool l] 40)
              have hbx := heap_new wr (.cells #[.int .i64 k, .int .i64 a, .int .i64 t, .int .i64 j, .slice ca cs.length cc, .bool l] 40) rfl
              clear hcl hx
              go_wp2_with fail
              generalize (wr.alloc (.cells #[.int .i64 k, .int .i64 a, .int .i64 t, .int .i64 j, .slice ca cs.length cc, .bool l] 40)) = w4 at hA hbx ⊢
              have hR4 : Rn w w1 w4 lb wr.heap.size ja jb J J (.slice (some ⟨lb, lo, none⟩) XS.length lcap) XS #[.int .i64 k, .int .i64 a, .int .i64 t, .int .i64 j, .slice ca cs.length cc, .bool l] := ⟨(hT.turn (fun b hb e => by omega)).step hA, hr.only (only_of_below hA (fun _ => False)) (fun _ _ => id), fun k hk => by simpa [Value.ownBlock] using hk.symm, hbx, below_trans' hA hb, by have := hA.size; omega, hw1.size⟩
              have hks := hT.ks
              clear hT hA hr hb hb0 hbx g0 g1 g2 g3 g4 g5
              have y0 := hR4.cell (j := 0) (u := .int .i64 k) rfl
              have y1 := hR4.cell (j := 1) (u := .int .i64 a) rfl
              have y2 := hR4.cell (j := 2) (u := .int .i64 t) rfl
              have y3 := hR4.cell (j := 3) (u := .int .i64 j) rfl
              have y4 := hR4.cell (j := 4) (u := .slice ca cs.length cc) rfl
              have y5 := hR4.cell (j := 5) (u := .bool l) rfl
              refine (messageJ_any w4 (o := ⟨k, a, t, j, .slice ca cs.length cc, cs, l⟩) (hcs.only (only_of_below hR4.bel (fun _ => False)) (fun _ _ => id))).mono ?_
              rintro e w5 ⟨m1, rfl, hm1, hi1, hs1, hb5⟩
              have hR5 := hR4.step hb5
              clear hR4 hb5 y0 y1 y2 y3 y4 y5
              go_wp2_with fail
              refine (hR5.hearA hi1 hs1).mono ?_
              rintro e w6 ⟨rfl, hR6⟩
              clear hR5 hi1 hs1
              have y0 := hR6.cell (j := 0) (u := .int .i64 k) rfl
              have y1 := hR6.cell (j := 1) (u := .int .i64 a) rfl
              have y2 := hR6.cell (j := 2) (u := .int .i64 t) rfl
              have y3 := hR6.cell (j := 3) (u := .int .i64 j) rfl
              have y4 := hR6.cell (j := 4) (u := .slice ca cs.length cc) rfl
              have y5 := hR6.cell (j := 5) (u := .bool l) rfl
              go_wp2_with fail
              refine (messageJ_any w6 (o := ⟨k, a, t, j, .slice ca cs.length cc, cs, l⟩) (hcs.only (only_of_below hR6.bel (fun _ => False)) (fun _ _ => id))).mono ?_
              rintro e w7 ⟨m2, rfl, hm2, hi2, hs2, hb7⟩
              have hR7 := hR6.step hb7
              clear hR6 hb7 y0 y1 y2 y3 y4 y5
              go_wp2_with fail
              refine (hR7.hearB hi2 hs2).mono ?_
              rintro e w8 ⟨rfl, hR8⟩
              clear hR7 hi2 hs2
              have y0 := hR8.cell (j := 0) (u := .int .i64 k) rfl
              have y1 := hR8.cell (j := 1) (u := .int .i64 a) rfl
              have y2 := hR8.cell (j := 2) (u := .int .i64 t) rfl
              have y3 := hR8.cell (j := 3) (u := .int .i64 j) rfl
              have y4 := hR8.cell (j := 4) (u := .slice ca cs.length cc) rfl
              have y5 := hR8.cell (j := 5) (u := .bool l) rfl
              go_wp2_with fail
              refine (messageJ_any w8 (o := ⟨k, a, t, j, .slice ca cs.length cc, cs, l⟩) (hcs.only (only_of_below hR8.bel (fun _ => False)) (fun _ _ => id))).mono ?_
              rintro e w9 ⟨m3, rfl, hm3, hi3, hs3, hb9⟩
              have hR9 := hR8.step hb9
              clear hR8 hb9 y0 y1 y2 y3 y4 y5
              go_wp2_with fail
              refine (hR9.hearB hi3 hs3).mono ?_
              rintro e w10 ⟨rfl, hR10⟩
              clear hR9 hi3 hs3
              have hR := Rn.twice hks hm1 hm2 hm3 hR10
              clear hR10 hks hm1 hm2 hm3
              generalize hearJ J m1 = J2 at hR
              go_wp2_with fail
              obtain ⟨R1, hj⟩ := hR.two.a
              refine (visited_any hj).mono ?_
              rintro e w11 ⟨v1, rfl, hv1, _, hb11⟩
              have hR11 := hR.step hb11
              clear hR hj hb11
              go_wp2_with fail
              obtain ⟨R2, hj⟩ := hR11.two.b
              refine (visited_any hj).mono ?_
              rintro e w12 ⟨v2, rfl, hv2, _, hb12⟩
              have hR12 := hR11.step hb12
              replace hv1 := hv1.only (only_of_below hb12 (fun _ => False)) (fun _ _ => id)
              clear hR11 hj hb12
              generalize J2.vs.map Prod.fst = VS at hv1 hv2
              obtain ⟨_, va1, vc1, rfl, _⟩ := id hv1
              obtain ⟨_, va2, vc2, rfl, _⟩ := id hv2
              go_wp2_with fail
              obtain ⟨R3, hj⟩ := hR12.two.a
              refine (phase_any hj).mono ?_
              rintro e w13 ⟨rfl, rfl⟩
              clear hj
              go_wp2_with fail
              obtain ⟨R4, hj⟩ := hR12.two.b
              refine (phase_any hj).mono ?_
              rintro e w13 ⟨rfl, rfl⟩
              clear hj
              go_wp2_with fail
              obtain ⟨R5, hj⟩ := hR12.two.a
              refine (stored_any hj).mono ?_
              rintro e w13 ⟨rfl, rfl⟩
              clear hj
              go_wp2_with fail
              obtain ⟨R6, hj⟩ := hR12.two.b
              refine (stored_any hj).mono ?_
              rintro e w13 ⟨rfl, rfl⟩
              clear hj
              go_wp2_with fail
              obtain ⟨R7, hj⟩ := hR12.two.a
              refine (outs_len hj).mono ?_
              rintro e w13 ⟨oa1, oc1, rfl, hb13⟩
              have hR13 := hR12.step hb13
              replace hv1 := hv1.only (only_of_below hb13 (fun _ => False)) (fun _ _ => id)
              replace hv2 := hv2.only (only_of_below hb13 (fun _ => False)) (fun _ _ => id)
              clear hR12 hj hb13
              go_wp2_with fail
              obtain ⟨R8, hj⟩ := hR13.two.b
              refine (outs_len hj).mono ?_
              rintro e w14 ⟨oa2, oc2, rfl, hb14⟩
              have hR14 := hR13.step hb14
              replace hv1 := hv1.only (only_of_below hb14 (fun _ => False)) (fun _ _ => id)
              replace hv2 := hv2.only (only_of_below hb14 (fun _ => False)) (fun _ _ => id)
              clear hR13 hj hb14
              generalize lenO J2 = LO
              go_wp2
              have hv1l := hv1.1
              go_loopw [104] (fun i wi => ∃ p : Nat, p ≤ VS.length ∧ i = .int .i64 p ∧ Below w14.heap.size w14 wi) (fun i _ => VS.length - (intOf i).toNat)
              case atStart => exact ⟨0, Nat.zero_le _, rfl, Below.refl _ _⟩
              case round =>
                obtain ⟨p, hp, rfl, hbi⟩ := hrel
                by_cases hpN : p < VS.length
                · obtain ⟨b1', o1', c1', e1', hb1', hc1⟩ := (hv1.only (only_of_below hbi (fun _ => False)) (fun _ _ => id)).int (by omega)
                  obtain ⟨b2', o2', c2', e2', hb2', hc2⟩ := (hv2.only (only_of_below hbi (fun _ => False)) (fun _ _ => id)).int (by omega)
                  simp only [Value.slice.injEq, true_and] at e1' e2'
                  obtain ⟨rfl, rfl⟩ := e1'
                  obtain ⟨rfl, rfl⟩ := e2'
                  obtain ⟨x, hx⟩ : ∃ x, VS[p]? = some x := ⟨_, List.getElem?_eq_getElem hpN⟩
                  have k1 := hc1 p x hx
                  have k2 := hc2 p x hx
                  clear hc1 hc2 hx hv1 hv2 hb1' hb2' hR14
                  have bx : (x != x) = false := by simp
                  unfold maxLen at hv1l
                  go_wp2
                  go_quiet (fail)
                  have hb2 := belowN hbi nq
                  clear k1 k2 hbi
                  go_wp2
                  exact ⟨⟨p + 1, by omega, by go_num, hb2⟩, by simp [intOf]; omega⟩
                · have hpe : p = VS.length := by omega
                  subst hpe
                  have hRe := hR14.step hbi
                  clear hR14 hv1 hv2 hbi
                  go_wp2
                  exact ⟨⟨q + 1, J2, by omega, by go_num, hRe.two.turn (fun b _ e => .inl e), hRe.rs, hRe.bel⟩, by simp [intOf]; omega⟩
            · have hqe : q = XS.length := by omega
              subst hqe
              go_wp2
              go_ret
              exact ⟨rfl, hb⟩
  · have b1 : decide (100 < (os.length : Int)) = true := decide_eq_true (by omega)
    clear hbt1 hbo1
    go_wp2_with fail
    refine (awake_any _).mono ?_
    rintro e w2 ⟨rfl, hb2⟩
    have hbe := below_trans' hb2 hw1
    go_wp2
    go_ret
    exact ⟨rfl, hbe⟩
end Go.Proofs.Ytniggacgkhkgiaa.Job
