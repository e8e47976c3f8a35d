/- CrumbKeeps: who is named for a trace is so till it is dropped; the law answers true for every input. Conditions: the argument can be read. -/
import Derived.Test.YtcdjeblcmgghhaaCrumbKeeps0
import Derived.Test.YtcdjeblcmgghhaaArgs
namespace Go.Proofs.Ytcdjeblcmgghhaa.Crumb
open Go.RowKit Go.Sp

def eTwo (x : Int × Int) : List Value := [.int .i64 x.1, .int .i64 x.2]

set_option maxRecDepth 100000 in
theorem rd_two {w : World} {m : Nat} {ds : List Value} (h : Rd Try.prog w m 96 ds) : ∃ x : Int × Int, eTwo x = ds ∧ (Lit.int .i64 x.2).wf = true := by
  obtain ⟨hl, hf⟩ := rd_array h Try.underlying96
  have hc : Try.prog.cellsOf 96 = 2 := by kernel_rfl
  have hi : Try.prog.cellsOf 3 = 1 := by kernel_rfl
  rw [hc] at hl
  match ds, hl with
  | [a, b], _ =>
    obtain ⟨m1, f1⟩ := hf 0 (by omega)
    obtain ⟨m2, f2⟩ := hf 1 (by omega)
    simp [hi] at f1 f2
    obtain ⟨x1, e1, _⟩ := rd_int f1 Try.underlying3
    obtain ⟨x2, e2, w2⟩ := rd_int f2 Try.underlying3
    simp at e1 e2
    subst e1 e2
    exact ⟨(x1, x2), rfl, w2⟩

theorem mod_in (x m : Int) (hm : 0 < m) (hm2 : m ≤ 1000) : ∃ A : Nat, wrap64 (1 + wrap64 ((IntKind.u64.wrap x).tmod m)) = A ∧ 1 ≤ A ∧ (A : Int) ≤ m := by
  obtain ⟨A, e, hA⟩ := Lease.tmod_small x m hm (by omega)
  exact ⟨1 + A, by rw [e, Lease.wrap_small (by omega) (by omega)]; omega, by omega, by omega⟩

theorem addM_len' {n : Int} {M M' : List (Int × List Int)} {t a c : Int} (h : addM n M t a = (c, M')) : M'.length ≤ M.length + 1 := by
  have : (addM n M t a).2.length ≤ M.length + 1 := by
    unfold addM
    split
    · simp
    · split
      · simp
      · split
        · simp
        · exact mput_length_le
  rw [h] at this; exact this

set_option maxRecDepth 100000 in
set_option maxHeartbeats 4000000 in
theorem keeps_any {H : Type} {enc : TypeId × Value → H} {base : Nat} {d : DataW H} {ps : List MemPlace} (ag : Int) (v : Value) (dr : Int) (w : World) (_ : (Lit.int .i64 ag).wf = true)
    (u : Value.okWide Try.prog w .any base 113 v) (k : DataW.Trod enc Try.prog w 0 (fun _ => true) true 113 v d ps) (z : (d.weights Try.prog 113).all (· ≤ reachBytes) = true) (_ : (Lit.int .i64 dr).wf = true) :
    Calls Try.prog 12 #[.int .i64 ag, v, .int .i64 dr] w fun e w' => e = .returned (.bool true) ∧ Below w.heap.size w w' := by
  obtain ⟨xs, hrs, hQ, _⟩ := arg_slice (size := 2) (elt := eTwo) Try.underlying113 (by kernel_rfl) (by omega) (fun m ds h => rd_two h) u k z
  clear u k z
  obtain ⟨hxl, a, cap, rfl, hcells⟩ := hrs
  unfold maxLen at hxl
  obtain ⟨n, en, hn1, hn2⟩ := mod_in ag 4 (by omega) (by omega)
  have hmm := @run_makeMap Try.prog
  have qs : ∀ (w : World) (b : Nat), (binOp .eql 99 (.map (some b)) (.map none)).run Try.prog w = .ok (.bool false) w := fun w b => run_eql_map_nil w _ _ _ (some b) Try.underlying99
  have qn : ∀ (w : World), (binOp .eql 99 (.map none) (.map none)).run Try.prog w = .ok (.bool true) w := fun w => run_eql_map_nil w _ _ _ none Try.underlying99
  go_enter Try.func12, Try.ntmps12
  go_wp2_with fail
  rw [en]
  clear en
  refine (awake_any _).mono ?_
  rintro e w1 ⟨rfl, hb1⟩
  by_cases hlen : xs.length ≤ 200
  · go_wp2_with fail
    refine (new_cr (n := n) (by omega) (by omega)).mono ?_
    rintro e w2 ⟨R, cb, rfl, h2, hR2, hb2⟩
    go_wp2
    have hK3 : Kd w.heap.size (w2.alloc (.map #[] 0)) cb w2.heap.size n [] [] (fun _ => []) := ⟨R, _, h2.below ((Below.refl _ w2).alloc (Nat.le_refl _) _), Wt.made rfl, fun b hb e => by have := h2.lt b hb; omega, fun b hb => by
      have := hb1.size; have := hb2.size
      rcases hb with h | h
      · have := hR2 b h; omega
      · omega⟩
    have hB3 : Below w.heap.size w (w2.alloc (.map #[] 0)) := (hb1.trans (hb2.mono hb1.size)).alloc (Nat.le_trans hb1.size hb2.size) _
    generalize w2.alloc (.map #[] 0) = W3 at hK3 hB3 ⊢
    generalize w2.heap.size = ob at hK3 ⊢
    clear h2 hR2 hb2 hb1
    go_loopw [37] (fun i wr => ∃ (j : Nat) (M : List (Int × List Int)) (W : List (Int × Nat)) (f : Int → List Int), j ≤ xs.length ∧ i = .int .i64 j ∧ M.length ≤ j ∧ (∀ k, f k = lget k M) ∧ SameK W M ∧ Kd w.heap.size wr cb ob n M W f ∧ Below w.heap.size w wr) (fun i _ => xs.length - (intOf i).toNat)
    case atStart => exact ⟨0, [], [], _, Nat.zero_le _, rfl, Nat.le_refl _, fun k => rfl, fun k => by simp [mget], hK3, hB3⟩
    case round =>
      obtain ⟨j, M, W, f, hj, rfl, hMl, hf, hSK, hK, hbl⟩ := hrel
      by_cases hlt : j < xs.length
      · obtain ⟨b, off, rfl, hbw, hc⟩ := hcells (by omega)
        have hy : xs[j]? = some xs[j] := List.getElem?_eq_getElem hlt
        have hq := hQ _ (List.getElem_mem hlt)
        generalize xs[j] = x at hy hq
        obtain ⟨p0, p1⟩ := x
        have hcw : ∀ o, wr.cell? ⟨b, o, none⟩ = w.cell? ⟨b, o, none⟩ := fun o => hbl.cell (p := ⟨b, o, none⟩) hbw
        have g0 : wr.cell? ⟨b, off + j * 2, none⟩ = some (.int .i64 p0) := by rw [hcw]; exact hc j _ 0 _ hy rfl
        have g1 : wr.cell? ⟨b, off + j * 2 + 1, none⟩ = some (.int .i64 p1) := by rw [hcw]; exact hc j _ 1 _ hy rfl
        replace hq : (Lit.int .i64 p1).wf = true := hq
        clear hy hc hcw hcells
        obtain ⟨t, et, ht1, ht2⟩ := mod_in p0 9 (by omega) (by omega)
        have hs := hbl.size
        go_wp2
        have hbx4 : (wr.alloc (.cells #[.int .i64 p0, .int .i64 p1] 96)).heap[wr.heap.size]? = some (.cells #[.int .i64 p0, .int .i64 p1] 96 (0, 0)) := heap_new _ _ rfl
        have hK4 := hK.below ((Below.refl _ wr).alloc (Nat.le_refl _) (.cells #[.int .i64 p0, .int .i64 p1] 96))
        have hbl4 : Below w.heap.size w (wr.alloc (.cells #[.int .i64 p0, .int .i64 p1] 96)) := hbl.alloc hs _
        generalize (wr.alloc (.cells #[.int .i64 p0, .int .i64 p1] 96)) = W4 at hbx4 hK4 hbl4 ⊢
        have q0 : W4.cell? ⟨wr.heap.size, 0, none⟩ = some (.int .i64 p0) := by simp [World.cell?, hbx4]
        have q1 : W4.cell? ⟨wr.heap.size, 1, none⟩ = some (.int .i64 p1) := by simp [World.cell?, hbx4]
        go_quiet (fail)
        rw [et]
        have hK5 := hK4.drewN nq
        have hbl5 := below_drewN hbl4 nq
        generalize W4.drewN nq = w5 at hK5 hbl5 ⊢
        clear et q0 q1 hK4 hbl4 hbx4 hK hbl g0 g1 hbw hs hK3 hB3
        have htw : (Lit.int .i64 (t : Int)).wf = true := WalkArith.wf_i64 (by omega)
        have hin : ¬ ((t : Int) < 1 ∨ 65535 < (t : Int)) := by omega
        by_cases hr : p1 < 0 ∨ (n : Int) ≤ p1
        · go_wp2_with fail
          refine (hK5.add hbl5.size htw (addM_range hin hr)).mono ?_
          rintro e w6 ⟨rfl, hK6, hbl6⟩
          have hbl7 := hbl5.trans hbl6
          clear hK5 hbl5 hbl6
          by_cases h0 : p1 < 0
          · have b1 : decide (0 ≤ p1) = false := by simp; omega
            go_wp2
            exact ⟨⟨j + 1, M, W, f, by omega, by go_num, by omega, hf, hSK, hK6, hbl7⟩, by simp [intOf]; omega⟩
          · have b1 : decide (0 ≤ p1) = true := by simp; omega
            have b2 : decide (p1 < (n : Int)) = false := by simp; omega
            go_wp2
            exact ⟨⟨j + 1, M, W, f, by omega, by go_num, by omega, hf, hSK, hK6, hbl7⟩, by simp [intOf]; omega⟩
        cases hcn : (lget t M).contains p1 with
        | true =>
          go_wp2_with fail
          refine (hK5.add hbl5.size htw (addM_once hin hr hcn)).mono ?_
          rintro e w6 ⟨rfl, hK6, hbl6⟩
          have hbl7 := hbl5.trans hbl6
          clear hK5 hbl5 hbl6
          have b1 : decide (0 ≤ p1) = true := by simp; omega
          have b2 : decide (p1 < (n : Int)) = true := by simp; omega
          obtain ⟨ib, hib⟩ : ∃ ib, mget (t : Int) W = some ib := by
            cases e : mget (t : Int) W with
            | some ib => exact ⟨ib, rfl⟩
            | none =>
              have := (hSK t).1 e
              rw [lget, this] at hcn
              simp at hcn
          have l1 := hK6.look_some hib
          have l2 := hK6.inn_look hib p1
          rw [hf, hcn] at l2
          have HF := Lib.hid hf
          have HS := Lib.hid hSK
          clear hf hSK hib hcn hr
          go_wp2
          exact ⟨⟨j + 1, M, W, f, by omega, by go_num, by omega, HF.out, HS.out, hK6, hbl7⟩, by simp [intOf]; omega⟩
        | false => 
          go_wp2_with fail
          refine (hK5.add hbl5.size htw (addM_ok hin hr hcn)).mono ?_
          rintro e w6 ⟨rfl, hK6, hbl6⟩
          have hbl7 := hbl5.trans hbl6
          clear hK5 hbl5 hbl6
          have b1 : decide (0 ≤ p1) = true := by simp; omega
          have b2 : decide (p1 < (n : Int)) = true := by simp; omega
          have hpa : p1 ∉ f t := fun e => by rw [hf] at e; rw [List.contains_iff_mem.2 e] at hcn; cases hcn
          have hML : (mput (t : Int) (insI p1 (lget t M)) M).length ≤ j + 1 := Nat.le_trans mput_length_le (by omega)
          have hf1 : (fun k => if k = (t : Int) then insI p1 (f t) else f k) t = insI p1 (f t) := by simp
          have hf2 : ∀ k, k ≠ (t : Int) → (fun k => if k = (t : Int) then insI p1 (f t) else f k) k = f k := fun k e => by simp [e]
          have hf3 : ∀ k, (fun k => if k = (t : Int) then insI p1 (f t) else f k) k = lget k (mput (t : Int) (insI p1 (lget t M)) M) := fun k => by
            simp only [lget, mget_mput]
            by_cases e : k = t
            · simp [e, hf, lget]
            · simp [e, hf, lget]
          generalize (fun k => if k = (t : Int) then insI p1 (f t) else f k) = f' at hf1 hf2 hf3
          cases hib : mget (t : Int) W with
          | some ib =>
            have l1 := hK6.look_some hib
            have l2 := hK6.inn_look hib p1
            rw [hf, hcn] at l2
            obtain ⟨w7, hr7, hK7, hbl8⟩ := hK6.put hbl7.size hib hpa hq hf1 hf2
            have HF := Lib.hid hf3
            have HS := Lib.hid (hSK.put2 hib (insI p1 (lget t M)))
            have hbl9 := hbl7.trans hbl8
            clear hf hSK hib hcn hr hK6 hbl7 hbl8 hf1 hf2 hf3 hpa
            go_wp2
            exact ⟨⟨j + 1, _, W, f', by omega, by go_num, hML, HF.out, HS.out, hK7, hbl9⟩, by simp [intOf]; omega⟩
          | none =>
            have l1 := hK6.look_none hib
            have l2 := nil_look w6 p1
            have hft : f t = [] := by rw [hf, lget, (hSK t).1 hib]; rfl
            obtain ⟨w7, hr7, hK7, hbl8⟩ := hK6.new hbl7.size hft htw
            have l3 := hK7.look_some (b := w6.heap.size) (k := t) mget_mput_same
            obtain ⟨w8, hr8, hK8, hbl9⟩ := hK7.put (b := w6.heap.size) (hbl7.trans hbl8).size mget_mput_same hpa hq hf1 hf2
            have HF := Lib.hid hf3
            have HS := Lib.hid (hSK.put (k := (t : Int)) w6.heap.size (insI p1 (lget t M)))
            have hbl10 := (hbl7.trans hbl8).trans hbl9
            clear hf hSK hib hcn hr hK6 hK7 hbl7 hbl8 hbl9 hf1 hf2 hf3 hpa hft
            go_wp2
            exact ⟨⟨j + 1, _, _, f', by omega, by go_num, hML, HF.out, HS.out, hK8, hbl10⟩, by simp [intOf]; omega⟩
      · have hje : j = xs.length := by omega
        subst hje
        obtain ⟨dk, ed, hd1, hd2⟩ := mod_in dr 9 (by omega) (by omega)
        clear hK3 hB3
        go_wp2_with fail
        rw [ed]
        clear ed
        refine (hK.drop hbl.size dk).mono ?_
        rintro e w4 ⟨rfl, hK4, hbl4⟩
        have hbl5 := hbl.trans hbl4
        clear hK hbl hbl4
        go_wp2_with (at_delete; refine halt ?_)
        refine Halt.go ?_
        refine wpList_dele (enc := eMap) rfl _ _ _ _ rfl Try.underlying114 Try.underlying3 rfl rfl (by exact hK4.mp) ?_
        rintro w5 hI5 hO5
        obtain ⟨hK5, hbl6⟩ := hK4.del (f' := fun k => lget k (mdel dk M)) hbl5.size hO5 hI5 (fun j hj => by simp only [lget, mget_mdel, if_neg hj]; rw [hf j, lget])
        have hbl7 := hbl5.trans hbl6
        have hSK5 : SameK (mdel dk W) (mdel dk M) := hSK.del
        have hML5 : (mdel (dk : Int) M).length ≤ 200 := Nat.le_trans mdel_length_le (by omega)
        clear hK4 hbl5 hbl6 hI5 hO5 hSK hf
        generalize mdel (dk : Int) W = W2 at *
        generalize mdel (dk : Int) M = M2 at *
        go_wp2
        go_loopw [15] (fun i wr => ∃ q : Nat, q ≤ 9 ∧ i = .int .i64 ((q : Int) + 1) ∧ Kd w.heap.size wr cb ob n M2 W2 (fun k => lget k M2) ∧ Below w.heap.size w wr) (fun i _ => 11 - (intOf i).toNat)
        case atStart => exact ⟨0, by omega, rfl, hK5, hbl7⟩
        case round =>
          obtain ⟨q, hq9, rfl, hK, hbl⟩ := hrel
          clear hK5 hbl7
          by_cases hq : q < 9
          · go_wp2_with fail
            refine (hK.of ((q : Int) + 1)).mono ?_
            rintro e w6 ⟨v6, rfl, hs6, hK6, hb6⟩
            obtain ⟨a6, c6, rfl⟩ := hs6.form
            obtain ⟨X, l1, l2, l3⟩ := hK6.want (fun _ => rfl) hSK5 ((q : Int) + 1)
            have hsh := hK6.short ((q : Int) + 1)
            have hbl6 := hbl.trans (hb6.mono hbl.size)
            clear hK hbl hb6
            generalize lget ((q : Int) + 1) M2 = L at *
            have e1 : ((L.length : Int) != (L.length : Int)) = false := by simp
            go_wp2
            go_loopw [119] (fun i wr => ∃ p : Nat, p ≤ L.length ∧ i = .int .i64 p ∧ wr = w6) (fun i _ => L.length - (intOf i).toNat)
            case atStart => exact ⟨0, by omega, rfl, rfl⟩
            case round =>
              obtain ⟨p, hp, rfl, rfl⟩ := hrel
              by_cases hpl : p < L.length
              · obtain ⟨y, hy⟩ : ∃ y, L[p]? = some y := ⟨_, List.getElem?_eq_getElem hpl⟩
                obtain ⟨b6, o6, cap6, hv, _⟩ := hs6.form' (by omega)
                simp only [Value.slice.injEq, true_and] at hv
                obtain ⟨rfl, rfl⟩ := hv
                have g6 : wr.cell? ⟨b6, o6 + p, none⟩ = some (.int .i64 y) := hs6.cell (by rw [List.getElem?_map, hy]; rfl)
                have hcy : L.contains y = true := List.contains_iff_mem.2 (List.mem_of_getElem? hy)
                have l4 := l2 y
                rw [hcy] at l4
                have HS := Lib.hid hs6
                have HSH := Lib.hid hsh
                have HL2 := Lib.hid l2
                have hL4 := hsh.2
                clear l2
                by_cases hp0 : p = 0
                · subst hp0
                  simp only [Nat.add_zero] at g6
                  clear hs6 hy hcy hsh l3
                  go_wp2
                  exact ⟨⟨0 + 1, by omega, by go_num, by first | rfl | trivial⟩, by simp [intOf]; omega⟩
                · have hp1 : 0 < p := by omega
                  obtain ⟨x, hx⟩ : ∃ x, L[p - 1]? = some x := ⟨_, List.getElem?_eq_getElem (by omega)⟩
                  have g7 : wr.cell? ⟨b6, o6 + (p - 1), none⟩ = some (.int .i64 x) := hs6.cell (by rw [List.getElem?_map, hx]; rfl)
                  have hxy : x < y := by
                    have h1 := List.getElem?_eq_some_iff.1 hx
                    have h2 := List.getElem?_eq_some_iff.1 hy
                    rw [← h1.2, ← h2.2]
                    exact (List.pairwise_iff_getElem.1 hsh.1) (p - 1) p h1.1 h2.1 (by omega)
                  have hd : decide (y ≤ x) = false := by simp; omega
                  clear hs6 hy hcy hsh l3 hx hp0
                  go_wp2
                  exact ⟨⟨p + 1, by omega, by go_num, by first | rfl | trivial⟩, by simp [intOf]; omega⟩
              · have hpe : p = L.length := by omega
                subst hpe
                go_wp2
                exact ⟨⟨q + 1, by omega, by go_num, hK6, hbl6⟩, by simp [intOf]; omega⟩
          · have hqe : q = 9 := by omega
            subst hqe
            go_wp2_with fail
            refine (hK.traces (by omega)).mono ?_
            rintro e w6 ⟨v6, rfl, hs6, hK6, hb6⟩
            obtain ⟨a6, c6, rfl⟩ := hs6.form
            have l1 := fun ty => hK6.out_len (ty := ty)
            have e1 := same_len hK6.ok.1 hK6.ok.2.1 (fun k => (hSK5 k).symm)
            rw [← e1] at l1
            have hbl6 := hbl.trans (hb6.mono hbl.size)
            clear hK hbl hb6 e1
            go_wp2
            go_ret
            exact ⟨by simp, hbl6⟩
  · go_wp2_with fail
    refine (awake_any _).mono ?_
    rintro e w2 ⟨rfl, hb2⟩
    go_wp2
    go_ret
    exact ⟨rfl, hb1.trans (hb2.mono hb1.size)⟩
end Go.Proofs.Ytcdjeblcmgghhaa.Crumb
