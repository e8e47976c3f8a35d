/- AssembleAny: whether two lists of spans are the same (the reference's Same), hearing one of the law's own messages, and the arguments. Conditions: the slices lie in memory. -/
import Derived.Test.YtcdjeblcmgghhaaAny0
import Derived.Test.YtcdjeblcmgghhaaAsmNil
import Derived.Test.YtcdjeblcmgghhaaRef0
import Derived.Laws.StructEq
namespace Go.Sp
open Go.RowKit
/-- a row: its slice, and what it holds -/
abbrev Rw := Value × List Spn
def eRw (x : Rw) : List Value := [x.1]
def eU8 (x : Int) : List Value := [.int .u8 x]
def RwIn (w : World) (x : Rw) : Prop := RS w 3 eSpn x.1 x.2 ∧ ∃ a n c, x.1 = .slice a n c ∧ n ≤ c

theorem RS.sub {α : Type} {w : World} {size : Nat} {enc : α → List Value} {b off n cap : Nat} {xs : List α} (h : RS w size enc (.slice (some ⟨b, off, none⟩) n cap) xs) (lo m : Nat) (hm : lo + m ≤ xs.length) (c' : Nat) :
    RS w size enc (.slice (some ⟨b, off + lo * size, none⟩) m c') ((xs.drop lo).take m) := by
  have hl := h.1
  have hlen : ((xs.drop lo).take m).length = m := by simp; omega
  obtain ⟨_, a, cap', hv, h2⟩ := h
  refine ⟨by omega, some ⟨b, off + lo * size, none⟩, c', by rw [hlen], fun hn => ?_⟩
  simp only [Value.slice.injEq] at hv
  obtain ⟨rfl, rfl, rfl⟩ := hv
  obtain ⟨b', off', e, hb, hc⟩ := h2 (by omega)
  simp only [Option.some.injEq, Addr.mk.injEq] at e
  obtain ⟨rfl, rfl, _⟩ := e
  refine ⟨b, off + lo * size, rfl, hb, fun i x j u hx hu => ?_⟩
  have hi : i < m := by have := (List.getElem?_eq_some_iff.1 hx).1; omega
  rw [List.getElem?_take, if_pos hi, List.getElem?_drop] at hx
  have := hc (lo + i) x j u hx hu
  rw [show off + lo * size + (i * size + j) = off + ((lo + i) * size + j) from by rw [Nat.add_mul]; omega]
  exact this
end Go.Sp
namespace Go.Proofs.Ytcdjeblcmgghhaa.Asm
open Go.RowKit Go.Sp Msg

section
variable {w0 w : World} {ab : Nat} {man : Option (Int × List Pt)} {C : List Chk} {m : Mg}
theorem St.hearG (h : St w0 w (fun _ => False) ab 7 1 man C) (hm : InMem w m) (hs : Small m) (hR : MOwn (fun b => w0.heap.size ≤ b) m) (hnc : NoCr m) (hok : hearOk 7 1 m = true) :
    Calls Try.prog 17 #[.pointer (some ⟨ab, 0, none⟩), val m] w fun e w' => (∃ bv, e = .returned (.bool bv)) ∧ St w0 w' (fun _ => False) ab 7 1 (hearMan man m) (hearC C m) ∧ Below w0.heap.size w0 w' := by
  obtain ⟨R, h1, hR1, hbl⟩ := h
  refine (hear_any h1 hm hs (MOwn.mono hR fun b hb => (hR1 b hb).1) hnc).mono ?_
  rintro e w'' ⟨rfl, R', h3, hR', hO⟩
  rw [hok] at h3
  simp only [cond_true] at h3
  have hbl2 : Below w0.heap.size w0 w'' := hbl.trans (hO.below hbl.size fun i hi e => by have := (hR1 i e).1; omega)
  refine ⟨⟨_, rfl⟩, ⟨R', h3, fun b hb => ?_, hbl2⟩, hbl2⟩
  rcases hR' b hb with h | h
  · exact hR1 b h
  · exact ⟨Nat.le_trans hbl.size h, id⟩
end

theorem guard_spn : Program.eqGuardType Try.prog Try.prog.depth 63 = false := by kernel_rfl
set_option maxRecDepth 100000 in
theorem eq_spn (x y : Spn) (w : World) : (Op.equalIn 10000 63 (.agg #[.int .i64 x.1, .int .i64 x.2.1, .string x.2.2]) (.agg #[.int .i64 y.1, .int .i64 y.2.1, .string y.2.2])).run Try.prog w = .ok (decide (x = y)) w := by
  have u3 := Try.underlying3
  have u5 := Try.underlying9
  have a3 := Try.isAgg3
  have z3 := Try.sizeOf3
  have hS : Try.prog.underlying 63 = some (.struct (Try.prog.fieldsOf 63)) := by kernel_rfl
  have hp : Try.prog.stoodInHeld 63 = false := by kernel_rfl
  rw [show (10000 : Nat) = 9999 + 1 from rfl, run_equalIn_agg w 9999 63 _ _ hS hp]
  simp only [Program.fieldsOf, Try.underlying63]
  obtain ⟨x1, x2, x3⟩ := x
  obtain ⟨y1, y2, y3⟩ := y
  go_simp
  have hs : x3.toList = y3.toList ↔ x3 = y3 := ⟨fun h => by
    rw [ByteArray.toList_eq, ByteArray.toList_eq] at h
    exact ByteArray.ext (Array.toList_inj.1 h), fun h => by rw [h]⟩
  by_cases h1 : x1 = y1 <;> by_cases h2 : x2 = y2 <;> by_cases h3 : x3 = y3 <;> simp [h1, h2, h3, hs]
set_option maxHeartbeats 1000000 in
theorem same28_any {w : World} {u v : Value} {xs ys : List Spn} (hu : RS w 3 eSpn u xs) (hv : RS w 3 eSpn v ys) :
    Calls Try.prog 28 #[u, v] w fun e w' => e = .returned (.bool (decide (xs = ys))) ∧ ∃ n, w' = w.drewN n := by
  have h1 := hu.1
  have h2 := hv.1
  unfold maxLen at h1 h2
  have gs := guard_spn
  by_cases hne : xs.length = ys.length
  · obtain ⟨_, a1, c1, rfl, hc1⟩ := hu
    obtain ⟨_, a2, c2, rfl, hc2⟩ := hv
    generalize hN : xs.length = N at *
    generalize hM : ys.length = M at *
    obtain rfl : N = M := hne
    have hb : ((N : Int) != (N : Int)) = false := by simp
    go_enter Try.func28, Try.ntmps28
    go_wp2
    go_loopw [5] (fun i wr => ∃ k : Nat, k ≤ N ∧ i = .int .i64 k ∧ (∀ j, j < k → xs[j]? = ys[j]?) ∧ ∃ n, wr = w.drewN n) (fun i _ => N - (intOf i).toNat)
    case atStart => exact ⟨0, by omega, rfl, fun j hj => by omega, 0, rfl⟩
    case round =>
      obtain ⟨k, hk, rfl, hj, n, rfl⟩ := hrel
      by_cases hlt : k < N
      · obtain ⟨b1, o1, rfl, _, hc1⟩ := hc1 (by omega)
        obtain ⟨b2, o2, rfl, _, hc2⟩ := hc2 (by omega)
        obtain ⟨x, hx⟩ : ∃ x, xs[k]? = some x := ⟨_, List.getElem?_eq_getElem (by omega)⟩
        obtain ⟨y, hy⟩ : ∃ y, ys[k]? = some y := ⟨_, List.getElem?_eq_getElem (by omega)⟩
        have g0 := hc1 k x 0 _ hx rfl
        have g1 := hc1 k x 1 _ hx rfl
        have g2 := hc1 k x 2 _ hx rfl
        have k0 := hc2 k y 0 _ hy rfl
        have k1 := hc2 k y 1 _ hy rfl
        have k2 := hc2 k y 2 _ hy rfl
        rw [← Nat.add_assoc] at g0 g1 g2 k0 k1 k2
        rw [Nat.add_zero] at g0 k0
        have HX := Lib.hid hx
        have HY := Lib.hid hy
        have HJ := Lib.hid hj
        have HN := Lib.hid hN
        have HE := Lib.hid hM
        clear hx hy hj hc1 hc2 hN hM
        obtain ⟨x1, x2, x3⟩ := x
        obtain ⟨y1, y2, y3⟩ := y
        simp only at g0 g1 g2 k0 k1 k2
        by_cases hxy : (x1, x2, x3) = (y1, y2, y3)
        · have q := fun w' : World => eq_spn (x1, x2, x3) (x1, x2, x3) w'
          rw [decide_eq_true rfl] at q
          simp only at q
          simp only [Prod.mk.injEq] at hxy
          obtain ⟨rfl, rfl, rfl⟩ := hxy
          go_wp2
          go_quiet (fail)
          clear q
          go_wp2
          refine ⟨⟨k + 1, by omega, by go_num, fun j hj => ?_, _, rfl⟩, by simp [intOf]; omega⟩
          rcases Nat.lt_or_ge j k with h | h
          · exact HJ.out j h
          · obtain rfl : j = k := by omega
            rw [HX.out, HY.out]
        · have q := fun w' : World => eq_spn (x1, x2, x3) (y1, y2, y3) w'
          rw [show (decide ((x1, x2, x3) = (y1, y2, y3))) = false by simp [hxy]] at q
          simp only at q
          have HXY := Lib.hid hxy
          clear hxy
          go_wp2
          go_quiet (fail)
          clear q
          go_wp2
          go_ret
          refine ⟨ret_bool ?_, n + nq, by simp⟩
          symm
          rw [decide_eq_false_iff_not]
          intro e
          have := HX.out
          rw [e, HY.out] at this
          exact HXY.out (by simpa using this.symm)
      · have hke : k = N := by omega
        have HN := Lib.hid hN
        have HE := Lib.hid hM
        have HJ := Lib.hid hj
        clear hN hM hj hc1 hc2
        go_wp2
        go_ret
        refine ⟨ret_bool ?_, n, rfl⟩
        symm
        rw [decide_eq_true_iff]
        refine List.ext_getElem? fun j => ?_
        rcases Nat.lt_or_ge j k with h | h
        · exact HJ.out j h
        · have e1 := HN.out
          have e2 := HE.out
          rw [List.getElem?_eq_none (by omega), List.getElem?_eq_none (by omega)]
  · obtain ⟨_, a, c, rfl, q1⟩ := hu
    obtain ⟨_, a', c', rfl, q2⟩ := hv
    clear q1 q2
    have hb : ((xs.length : Int) != (ys.length : Int)) = true := by rw [bne_iff_ne]; omega
    go_enter Try.func28, Try.ntmps28
    go_wp2
    go_ret
    exact ⟨ret_bool (by symm; rw [decide_eq_false_iff_not]; intro e; exact hne (by rw [e])), 0, rfl⟩
end Go.Proofs.Ytcdjeblcmgghhaa.Asm
