/- The law CrumbReach: whom one comes to is the document's, is closed, and grows with the names. Conditions: the arguments are as Go hands them over. -/
import Derived.Test.YtcdjeblcmgghhaaRefReach
import Derived.Test.YtcdjeblcmgghhaaCrumbAwake
import Derived.Test.YtcdjeblcmgghhaaArgs
import Derived.Test.YtcdjeblcmgghhaaLeaseTime
import Derived.Deep.Cut
namespace Go.Sp
open Go.RowKit Go.WideShapes

theorem choose_list {α β : Type} {p : α → β → Prop} : ∀ {xs : List α}, (∀ x ∈ xs, ∃ y, p x y) → ∃ ys : List β, ys.length = xs.length ∧ ∀ (i : Nat) (x : α) (y : β), xs[i]? = some x → ys[i]? = some y → p x y
  | [], _ => ⟨[], rfl, fun i x y h => by simp at h⟩
  | x :: xs, h => by
    obtain ⟨y, hy⟩ := h x List.mem_cons_self
    obtain ⟨ys, h1, h2⟩ := choose_list (xs := xs) (p := p) (fun z hz => h z (List.mem_cons_of_mem _ hz))
    refine ⟨y :: ys, by simp [h1], fun i a b ha hb => ?_⟩
    cases i with
    | zero => simp at ha hb; subst ha; subst hb; exact hy
    | succ i => exact h2 i a b (by simpa using ha) (by simpa using hb)

theorem RS.below {α : Type} {w w' : World} {s : Nat} {enc : α → List Value} {u : Value} {xs : List α} (h : RS w s enc u xs) (o : Below w.heap.size w w') : RS w' s enc u xs := by
  obtain ⟨hl, a, cap, rfl, h2⟩ := h
  refine ⟨hl, a, cap, rfl, fun hn => ?_⟩
  obtain ⟨b, off, rfl, hb, h4⟩ := h2 hn
  refine ⟨b, off, rfl, Nat.lt_of_lt_of_le hb o.size, fun i x j u hx hu => ?_⟩
  rw [World.cell?_of_block (w := w) ((only_of_below o (fun _ => False)).block b hb id)]
  exact h4 i x j u hx hu

/-- append(s, x...) of a slice that reads as xs, nil too -/
theorem SL.appendI {P : Program} {w : World} {e : TypeId} {v src : Value} {n : Nat} {cs : List Value} {xs : List Int} {t ty : TypeId} {i : TypeInfo} {z : Value} (x : SL w.heap e 1 v n cs) (ht : P.underlying t = some (.slice e)) (hi : P.info? e = some i) (hz : i.zero = some z)
    (hsize : i.size = 1) (hby : i.bytes = 8) (hzs : z.cells.size = 1) (hr : RS w 1 eInt src xs) (h63 : n + xs.length ≤ 1000000) :
    ∃ v' w', (Builtin.append_ #[t, t] ty #[v, src]).run P w = .ok v' w' ∧ SL w'.heap e 1 v' (n + xs.length) (cs ++ xs.map zI) ∧ Only (fun k => v.ownBlock = some k) w w' ∧ (v'.ownBlock = v.ownBlock ∨ v'.ownBlock = some w.heap.size) := by
  by_cases h0 : 0 < xs.length
  · obtain ⟨b, off, cap, rfl, hb, hc⟩ := hr.int h0
    exact x.append ht hi hz hsize hby hzs ⟨b, off, none⟩ xs.length cap (xs.map zI) (by simp) (fun j u hu => by
      rw [List.getElem?_map] at hu
      obtain ⟨y, hy, rfl⟩ := Option.map_eq_some_iff.1 hu
      rw [Addr.add_lit]; exact hc j y hy) (fun u hu => by obtain ⟨y, _, rfl⟩ := List.mem_map.1 hu; rfl) (by unfold maxLen; omega) (by omega)
  · have hx : xs = [] := List.eq_nil_of_length_eq_zero (by omega)
    subst hx
    obtain ⟨_, a, cap, rfl, _⟩ := hr
    cases a with
    | some a => 
      have := x.append (ty := ty) ht hi hz hsize hby hzs a 0 cap [] rfl (fun j u hu => by simp at hu) (fun u hu => by simp at hu) (by unfold maxLen; simp at h63; omega) (by simp at h63; omega)
      exact this
    | none =>
      refine ⟨v, w, ?_, by simpa using x, Only.refl _ _, .inl rfl⟩
      obtain ⟨b, c, rfl⟩ := x.form
      rcases x.2 with ⟨hv, rfl⟩ | ⟨b', off, cap', cur, hv, h1, h2, hb, h3, h4⟩
      · simp at hv
        obtain ⟨rfl, rfl⟩ := hv
        simp [Builtin.append_, run_underlying ht, sizeOf, typeInfo, hi, Builtin.lenOf, Builtin.firstCells]
      · simp at hv
        obtain ⟨rfl, rfl⟩ := hv
        simp [Builtin.append_, run_underlying ht, sizeOf, typeInfo, hi, Builtin.lenOf, Builtin.firstCells, loadCells, h1, storeCells]

theorem Rch.more {N N2 : List (List Int)} {a x : Int} (hl : N2.length = N.length) (h : ∀ (i : Nat) (l : List Int), N[i]? = some l → ∃ l2, N2[i]? = some l2 ∧ ∀ y ∈ l, y ∈ l2) (r : Rch N a x) : Rch N2 a x := by
  induction r with
  | base h1 h2 => exact .base h1 (by rw [hl]; exact h2)
  | step _ h1 h2 h3 h4 ih =>
    obtain ⟨l2, h5, h6⟩ := h _ _ h1
    exact .step ih h5 (h6 _ h2) h3 (by rw [hl]; exact h4)

theorem rising_sub : ∀ {l m : List Int}, l.Pairwise (· < ·) → m.Pairwise (· < ·) → (∀ x ∈ l, x ∈ m) → l.length ≤ m.length
  | [], m, _, _, _ => by simp
  | x :: l, [], _, _, h => by have := h x List.mem_cons_self; simp at this
  | x :: l, y :: m, h1, h2, h => by
    have a1 := List.pairwise_cons.1 h1
    have a2 := List.pairwise_cons.1 h2
    by_cases e : x = y
    · subst e
      have := rising_sub a1.2 a2.2 (fun z hz => by
        rcases List.mem_cons.1 (h z (List.mem_cons_of_mem _ hz)) with e | hz'
        · subst e; have := a1.1 z hz; omega
        · exact hz')
      simp; omega
    · have hx : x ∈ m := by
        rcases List.mem_cons.1 (h x List.mem_cons_self) with e' | hx
        · exact absurd e' e
        · exact hx
      have hy := a2.1 x hx
      have := rising_sub h1 a2.2 (fun z hz => by
        rcases List.mem_cons.1 (h z hz) with e' | hz'
        · subst e'
          rcases List.mem_cons.1 hz with e'' | hz2
          · omega
          · have := a1.1 z hz2; omega
        · exact hz')
      simp at this ⊢; omega
end Go.Sp

namespace Go.Proofs.Ytcdjeblcmgghhaa.Crumb
open Go.RowKit Go.Sp Go.WideShapes

set_option maxRecDepth 100000 in
/-- names, as the row hands them over -/
theorem arg_names {H : Type} {enc : TypeId × Value → H} {w : World} {v : Value} {d : DataW H} {ps : List MemPlace} {base : Nat} (u : Value.okWide Try.prog w .any base 97 v)
    (k : DataW.Trod enc Try.prog w 0 (fun _ => true) true 97 v d ps) (z : (d.weights Try.prog 97).all (· ≤ reachBytes) = true) : ∃ N, NM w v N := by
  obtain ⟨vs, h1, h2, _⟩ := arg_slice (size := 1) (elt := eV) (Q := fun u => ∃ l, RS w 1 eInt u l) Try.underlying97 (by kernel_rfl) (by omega) (fun m ds h => by
    obtain ⟨v, xs, e, h3, _, _⟩ := rs_of_rd (size := 1) (elt := eInt) (Q := fun _ => True) h Try.underlying28 (by kernel_rfl) (by omega) (fun m ds h => by
      obtain ⟨a, e, _⟩ := rd_int h Try.underlying3
      exact ⟨a, e.symm, trivial⟩)
    exact ⟨v, e.symm, xs, h3⟩) u k z
  obtain ⟨N, h4, h5⟩ := choose_list h2
  exact ⟨N, vs, h4.symm, h1, h5⟩

theorem refReach_any {w : World} {v : Value} {N : List (List Int)} (hN : NM w v N) (hn : N.length ≤ 1000) (hN1 : ∀ l ∈ N, l.length ≤ 1000) (a : Int) :
    Calls Try.prog 45 #[.int .i64 a, v] w fun e w' => ∃ u L, e = .returned u ∧ SL w'.heap 3 1 u L.length (L.map Sp.zI) ∧ IsReach N a L ∧ (∀ g, u.ownBlock = some g → w.heap.size ≤ g) ∧ Below w.heap.size w w' := by
  by_cases h : 0 ≤ a ∧ a < N.length
  · exact refReach_yes hN h.1 h.2 hn hN1
  · refine (refReach_no hN h).mono ?_
    rintro e w' ⟨rfl, rfl⟩
    exact ⟨_, [], rfl, SL.nil _ _ _, IsReach.nil h, fun g hg => by simp [Value.ownBlock] at hg, Below.refl _ _⟩

set_option maxRecDepth 100000 in
set_option maxHeartbeats 2000000 in
theorem reachLaw_any {H : Type} {enc : TypeId × Value → H} {base : Nat} {d : DataW H} {ps : List MemPlace} (a : Int) (v : Value) (b c : Int) (w : World) (_ : (Lit.int .i64 a).wf = true)
    (u : Value.okWide Try.prog w .any base 97 v) (k : DataW.Trod enc Try.prog w 0 (fun _ => true) true 97 v d ps) (z : (d.weights Try.prog 97).all (· ≤ reachBytes) = true)
    (_ : (Lit.int .i64 b).wf = true) (_ : (Lit.int .i64 c).wf = true) :
    Calls Try.prog 9 #[.int .i64 a, v, .int .i64 b, .int .i64 c] w fun e w' => e = .returned (.bool true) ∧ Below w.heap.size w w' := by
  obtain ⟨N, hN⟩ := arg_names u k z
  clear u k z
  obtain ⟨vs, hvl, hR, hE⟩ := id hN
  obtain ⟨hvm, va, vc, rfl, hR⟩ := hR
  rw [hvl] at hvm hR
  rw [hvl] at hN ⊢
  obtain ⟨n, hnn⟩ : ∃ n, n = N.length := ⟨_, rfl⟩
  rw [← hnn] at hvm hR hN ⊢
  unfold maxLen at hvm
  have HNN := Lib.hid hnn
  have HVL := Lib.hid hvl
  clear hnn hvl
  have hmm := @run_makeMap Try.prog
  go_enter Try.func9, Try.ntmps9
  go_wp2_with fail
  refine (awake_any _).mono ?_
  rintro e w1 ⟨rfl, hb1⟩
  by_cases hlen : n ≤ 20
  · go_wp2
    go_loopw [31] (fun i wr => ∃ j : Nat, j ≤ n ∧ i = .int .i64 j ∧ wr = w1 ∧ ∀ q, q < j → ∀ l, N[q]? = some l → l.length ≤ 30) (fun i _ => n - (intOf i).toNat)
    case atStart => exact ⟨0, Nat.zero_le _, rfl, rfl, fun q hq => by omega⟩
    case round =>
      obtain ⟨j, hj, rfl, rfl, hJ⟩ := hrel
      by_cases hjn : j < n
      · obtain ⟨nb, noff, rfl, hnb, hR⟩ := hR (by omega)
        obtain ⟨l, hl⟩ : ∃ l, N[j]? = some l := ⟨_, List.getElem?_eq_getElem (by have := HNN.out; omega)⟩
        obtain ⟨u, hu⟩ : ∃ u, vs[j]? = some u := ⟨_, List.getElem?_eq_getElem (by have := HNN.out; have := HVL.out; omega)⟩
        have hRu := hE j u l hu hl
        have hcu : wr.cell? ⟨nb, noff + j, none⟩ = some u := by
          have := below_cell hb1 hnb (hR j u 0 u hu rfl)
          simpa using this
        obtain ⟨hlm, ua, uc, rfl, _⟩ := hRu
        unfold maxLen at hlm
        have HJ := Lib.hid hJ
        have HLJ := Lib.hid hl
        clear hJ hl hu
        by_cases hl30 : l.length ≤ 30
        · go_wp2
          refine ⟨⟨j + 1, by omega, by go_num, by first | rfl | trivial, fun q hq l' hl' => ?_⟩, by simp [intOf]; omega⟩
          by_cases e : q = j
          · subst e
            have := HLJ.out
            rw [hl'] at this
            cases this
            exact hl30
          · exact HJ.out q (by omega) l' hl'
        · go_wp2
          go_ret
          exact ⟨rfl, hb1⟩
      · have hje : j = n := by omega
        subst hje
        have hN30 : ∀ l ∈ N, l.length ≤ 30 := fun l hl => by
          obtain ⟨i, hi, e⟩ := List.mem_iff_getElem.1 hl
          exact hJ i (by have := HNN.out; omega) l (by rw [List.getElem?_eq_getElem hi, e])
        have hN1k : ∀ l ∈ N, l.length ≤ 1000 := fun l hl => Nat.le_trans (hN30 l hl) (by omega)
        have hNk : N.length ≤ 1000 := by have := HNN.out; omega
        have hNM1 := NM.below hN hb1
        clear hJ hR hvm hjn
        go_wp2_with fail
        refine (reach_any hNM1 hNk hN1k a).mono ?_
        rintro e w2 ⟨r, L, rfl, hsr, hL, hnr, hb2⟩
        have hNM2 := NM.below hNM1 hb2
        go_wp2_with fail
        refine (refReach_any hNM2 hNk hN1k a).mono ?_
        rintro e w3 ⟨r', L', rfl, hsr', hL', hnr', hb3⟩
        obtain rfl := hL.ext hL'
        have hNM3 := NM.below hNM2 hb3
        have hsr3 : SL w3.heap 3 1 r L.length (L.map Sp.zI) := hsr.only (only_of_below hb3 (fun _ => False)) (fun _ _ => id)
        go_wp2_with fail
        refine (sameInts_any (xs := L) (ys := L) (SL.ints hsr3) (SL.ints hsr')).mono ?_
        rintro e w4 ⟨rfl, q4, rfl⟩
        have hbel4 : Below w.heap.size w (w3.drewN q4) := ((hb1.trans (hb2.mono hb1.size)).trans (hb3.mono (Nat.le_trans hb1.size hb2.size))).trans (((Only.refl (fun _ => False) w3).drewN q4).below (Nat.le_trans hb1.size (Nat.le_trans hb2.size hb3.size)) (fun _ _ => id))
        have hNM4 : NM (w3.drewN q4) (.slice va j vc) N := NM.only hNM3 ((Only.refl (fun _ => False) w3).drewN q4) (fun _ _ => id)
        have hsr4 : SL (w3.drewN q4).heap 3 1 r L.length (L.map Sp.zI) := hsr3
        obtain ⟨ra, rc, rfl⟩ := hsr4.form
        have hLm := hsr4.le
        unfold maxLen at hLm
        have hin0 : IMap ((w3.drewN q4).alloc (.map #[] 0)).heap w3.heap.size eB [] := IMap.made' (w3.drewN q4) eB rfl
        have hsr5 : SL ((w3.drewN q4).alloc (.map #[] 0)).heap 3 1 (.slice ra L.length rc) L.length (L.map Sp.zI) := hsr4.alloc _
        have hbel5 : Below w.heap.size w ((w3.drewN q4).alloc (.map #[] 0)) := hbel4.alloc hbel4.size _
        have hib : w.heap.size ≤ w3.heap.size := hbel4.size
        have hxL : ∀ (q : Nat) (x : Int), L[q]? = some x → Rch N a x := fun q x hx => (hL.2 x).1 (List.mem_of_getElem? hx)
        clear hb1 hb2 hb3 hsr hsr' hsr3 hsr4 hNM1 hNM2 hNM3 hNM4 hbel4 hnr hnr' hL'
        go_wp2
        generalize w3.heap.size = ib at hin0 hib ⊢
        generalize (w3.drewN q4).alloc (.map #[] 0) = W5 at hin0 hsr5 hbel5 ⊢
        go_loopw [51] (fun i wr => ∃ (q : Nat) (M : List (Int × Bool)), q ≤ L.length ∧ i = .int .i64 q ∧ IMap wr.heap ib eB M ∧ (∀ k, mget k M = if k ∈ L.take q then some true else none) ∧ SL wr.heap 3 1 (.slice ra L.length rc) L.length (L.map Sp.zI) ∧ Below w.heap.size w wr) (fun i _ => L.length - (intOf i).toNat)
        case atStart => exact ⟨0, [], Nat.zero_le _, rfl, hin0, fun k => by simp [mget], hsr5, hbel5⟩
        case round =>
          obtain ⟨q, M, hq, rfl, hM, hg, hs, hbl⟩ := hrel
          by_cases hqL : q < L.length
          · obtain ⟨x, hx⟩ : ∃ x, L[q]? = some x := ⟨_, List.getElem?_eq_getElem hqL⟩
            obtain ⟨rb, roff, rcap, hv, _⟩ := hs.form' (by omega)
            simp only [Value.slice.injEq, true_and] at hv
            obtain ⟨rfl, rfl⟩ := hv
            have hcx : wr.cell? ⟨rb, roff + q, none⟩ = some (.int .i64 x) := hs.cell (by rw [List.getElem?_map, hx]; rfl)
            have hxw : (Lit.int .i64 x).wf = true := WalkArith.wf_i64 (by have := (hxL q x hx).rng; omega)
            obtain ⟨w6, hr6, hm6, ho6⟩ := hM.update (P := Try.prog) Try.underlying99 Try.underlying3 hxw true
            simp only [eB] at hr6
            have hs6 := hs.only ho6 (fun g hg e => sl_map hM hs (by rw [hg, e]))
            have hbl6 := hbl.trans (ho6.below hbl.size (fun i hi e => by omega))
            have HX := Lib.hid hx
            have HG := Lib.hid hg
            clear hx hg
            go_wp2
            refine ⟨⟨q + 1, mput x true M, by omega, by go_num, hm6, fun k => ?_, hs6, hbl6⟩, by simp [intOf]; omega⟩
            rw [mget_mput, HG.out, List.take_add_one, HX.out]
            by_cases e : k = x
            · simp [e]
            · simp [e]
          · have hqe : q = L.length := by omega
            subst hqe
            rw [List.take_length] at hg
            clear hin0 hsr5 hbel5
            go_wp2
            go_loopw [60] (fun i wr => ∃ (q : Nat), q ≤ L.length ∧ i = .int .i64 q ∧ IMap wr.heap ib eB M ∧ SL wr.heap 3 1 (.slice ra L.length rc) L.length (L.map Sp.zI) ∧ Below w.heap.size w wr) (fun i _ => L.length - (intOf i).toNat)
            case atStart => exact ⟨0, Nat.zero_le _, rfl, hM, hs, hbl⟩
            case round =>
              obtain ⟨q, hq, rfl, hM3, hs3, hbl3⟩ := hrel
              clear hM hs hbl
              by_cases hqL : q < L.length
              · obtain ⟨x, hx⟩ : ∃ x, L[q]? = some x := ⟨_, List.getElem?_eq_getElem hqL⟩
                obtain ⟨rb, roff, rcap, hv, _⟩ := hs3.form' (by omega)
                simp only [Value.slice.injEq, true_and] at hv
                obtain ⟨rfl, rfl⟩ := hv
                have hcx : wr.cell? ⟨rb, roff + q, none⟩ = some (.int .i64 x) := hs3.cell (by rw [List.getElem?_map, hx]; rfl)
                have HXR := Lib.hid (hxL q x hx)
                clear hx
                have hNMr := NM.below hN hbl3
                go_wp2_with fail
                refine (reach_any hNMr hNk hN1k x).mono ?_
                rintro e w7 ⟨r7, L7, rfl, hs7, hL7, hn7, hb7⟩
                have hLr := hs7.le
                unfold maxLen at hLr
                obtain ⟨ra7, rc7, rfl⟩ := hs7.form
                have hM7 := hM3.only (only_of_below hb7 (fun _ => False)) id
                have hsx := hs3.only (only_of_below hb7 (fun _ => False)) (fun _ _ => id)
                have hbl7 := hbl3.trans (hb7.mono hbl3.size)
                have HIN := Lib.hid (show ∀ (t : Nat) (y : Int), L7[t]? = some y → y ∈ L from fun t y hy => (hL.2 y).2 (HXR.out.trans ((hL7.2 y).1 (List.mem_of_getElem? hy))))
                clear hM3 hs3 hbl3 hNMr hb7 hL7 hcx
                go_wp2
                obtain ⟨wq, rfl⟩ : ∃ wq : World, wq = wr := ⟨_, rfl⟩
                go_loopw [68] (fun i wr => ∃ (t : Nat), t ≤ L7.length ∧ i = .int .i64 t ∧ IMap wr.heap ib eB M ∧ SL wr.heap 3 1 (.slice (some ⟨rb, roff, none⟩) L.length rc) L.length (L.map Sp.zI) ∧ SL wr.heap 3 1 (.slice ra7 L7.length rc7) L7.length (L7.map Sp.zI) ∧ Below w.heap.size w wr) (fun i _ => L7.length - (intOf i).toNat)
                case atStart => exact ⟨0, Nat.zero_le _, rfl, hM7, hsx, hs7, hbl7⟩
                case round =>
                  obtain ⟨t, ht, rfl, hM8, hs8, hr8, hbl8⟩ := hrel
                  clear hM7 hsx hs7 hbl7
                  by_cases htL : t < L7.length
                  · obtain ⟨y, hy⟩ : ∃ y, L7[t]? = some y := ⟨_, List.getElem?_eq_getElem htL⟩
                    obtain ⟨rb7, ro7, rcap7, hv, _⟩ := hr8.form' (by omega)
                    simp only [Value.slice.injEq, true_and] at hv
                    obtain ⟨rfl, rfl⟩ := hv
                    have hcy : wr.cell? ⟨rb7, ro7 + t, none⟩ = some (.int .i64 y) := hr8.cell (by rw [List.getElem?_map, hy]; rfl)
                    have hyL := HIN.out t y hy
                    have hlk : (Instr.lookup 99 (.map (some ib)) (.int .i64 y) false).run Try.prog wr = .ok (.bool true) wr := by
                      have := hM8.lookup (P := Try.prog) false Try.underlying99 Try.underlying3 (zB _) y
                      rw [hg, if_pos hyL] at this
                      exact this
                    clear hy hyL
                    go_wp2
                    refine ⟨⟨t + 1, by omega, by go_num, hM8, hs8, hr8, hbl8⟩, by simp [intOf]; omega⟩
                  · have hte : t = L7.length := by omega
                    subst hte
                    go_wp2
                    refine ⟨⟨q + 1, by omega, by go_num, hM8, hs8, hbl8⟩, by simp [intOf]; omega⟩
              · have hqe : q = L.length := by omega
                subst hqe
                by_cases hn0 : j = 0
                · subst hn0
                  have hL0 : L = [] := hL.ext (IsReach.nil (by have := HNN.out; omega))
                  subst hL0
                  go_wp2
                  go_ret
                  exact ⟨rfl, hbl3⟩
                · have hnz : ((j : Int) == 0) = false := by simp; omega
                  have hbl3' := hbl3
                  obtain ⟨vs', hvl', hR', hE'⟩ := NM.below hN hbl3
                  obtain ⟨hvm', a', c', hv', hc'⟩ := hR'
                  simp only [Value.slice.injEq] at hv'
                  obtain ⟨rfl, hjl, rfl⟩ := hv'
                  obtain ⟨nb, noff, rfl, hnb, hcn⟩ := hc' (by omega)
                  obtain ⟨is, zs, his, hzs, hzs1, hzs2, hzs3⟩ := info_at (P := Try.prog) (e := 28) (f := (1, 24, 1)) (by kernel_rfl)
                  obtain ⟨ii, zi, hii, hzi, hzi1, hzi2, hzi3⟩ := info_at (P := Try.prog) (e := 3) (f := (1, 8, 1)) (by kernel_rfl)
                  have hone : ∀ u ∈ vs', u.oneCell' = true := fun u hu => by
                    obtain ⟨i, hi, e⟩ := List.mem_iff_getElem.1 hu
                    obtain ⟨_, ua, uc, e2, _⟩ := hE' i u N[i] (by rw [List.getElem?_eq_getElem hi, e]) (by rw [List.getElem?_eq_getElem])
                    rw [e2]; rfl
                  have hs0 : SL (wr.alloc (.cells #[] 28)).heap 28 1 (.slice (some ⟨wr.heap.size, 0, none⟩) 0 0) 0 [] := ⟨rfl, .inr ⟨_, 0, 0, #[], rfl, by omega, by unfold maxLen; omega, heap_new wr _ rfl, by simp, fun j u hu => by simp at hu⟩⟩
                  have hnews : ∀ (t : Nat) (u : Value), vs'[t]? = some u → (wr.alloc (.cells #[] 28)).cell? ((⟨nb, noff, none⟩ : Addr).add t) = some u := fun t u hu => by
                    have h5 := hcn t u 0 u hu rfl
                    rw [Nat.mul_one, Nat.add_zero] at h5
                    rw [Addr.add_lit, World.cell?_of_block (w := wr) (heap_old wr _ hnb)]
                    exact h5
                  obtain ⟨A, eA, hA⟩ := Lease.tmod_small b j (by omega) (by omega)
                  have eU : IntKind.u64.wrap (j : Int) = j := Lease.u64_small (by omega) (by omega)
                  have HONE := Lib.hid hone
                  have HNEWS := Lib.hid hnews
                  have HCN := Lib.hid hcn
                  have HVL' := Lib.hid hvl'
                  have HE' := Lib.hid hE'
                  have HJL := Lib.hid hjl
                  have hab : Below w.heap.size w (wr.alloc (.cells #[] 28)) := hbl3.alloc hbl3.size _
                  have hws := hbl3.size
                  have hsr9 := hs3.alloc (.cells #[] 28)
                  clear hM3 hs3 hq hone hnews hcn hvl' hE' hjl hc' hvm'
                  go_wp2_with (at_builtin; refine halt ?_)
                  refine Halt.go ?_
                  refine wpList_appd (v := .slice (some ⟨wr.heap.size, 0, none⟩) 0 0) rfl _ _ _ rfl Try.underlying97 his hzs hzs1 hzs2 hzs3 rfl hs0 (m := j) (news := vs') rfl (by rw [← HJL.out]; simp) HNEWS.out HONE.out (by unfold maxLen; omega) (by omega) ?_
                  rintro v19 w8 hs8 ho8 hv8
                  rw [Nat.zero_add, List.nil_append] at hs8
                  have hv19 : ∀ g, v19.ownBlock = some g → w.heap.size ≤ g := fun g hg => by
                    rcases hv8 with e | e
                    · rw [e] at hg; simp [Value.ownBlock] at hg; omega
                    · rw [e] at hg; simp at hg; omega
                  have hab8 : Below w.heap.size w w8 := hab.trans (ho8.below hab.size (fun i hi e => by simp [Value.ownBlock] at e; omega))
                  obtain ⟨mb, mo, mc, rfl, hmb, hmc, _⟩ := hs8.form' (by omega)
                  obtain ⟨uk, huk⟩ : ∃ u, vs'[A]? = some u := ⟨_, List.getElem?_eq_getElem (by have := HJL.out; omega)⟩
                  have hcA : w8.cell? ⟨mb, mo + A, none⟩ = some uk := hs8.cell huk
                  have hb8 : Below wr.heap.size wr w8 := ((Below.refl _ wr).alloc (Nat.le_refl _) _).trans (ho8.below (by simp) (fun i hi e => by simp [Value.ownBlock] at e; omega))
                  have hmbw : wr.heap.size ≤ mb := by rcases hv8 with e | e <;> simp [Value.ownBlock] at e <;> omega
                  clear ho8 hv8 hs0 hab
                  go_upto_region 32 with (fail)
                  rw [eA]
                  obtain ⟨l, hl⟩ : ∃ l, N[A]? = some l := ⟨_, List.getElem?_eq_getElem (by have := HNN.out; omega)⟩
                  have hRk := RS.below (HE'.out A uk l huk hl) hb8
                  have hl30 := hN30 l (List.mem_of_getElem? hl)
                  have hs9 : SL (w8.alloc (.cells #[] 3)).heap 3 1 (.slice (some ⟨w8.heap.size, 0, none⟩) 0 0) 0 [] := ⟨rfl, .inr ⟨_, 0, 0, #[], rfl, by omega, by unfold maxLen; omega, heap_new w8 _ rfl, by simp, fun j u hu => by simp at hu⟩⟩
                  have hR9 := RS.below hRk ((Below.refl _ w8).alloc (Nat.le_refl _) (.cells #[] 3))
                  have hb9 : Below w8.heap.size w8 (w8.alloc (.cells #[] 3)) := (Below.refl _ w8).alloc (Nat.le_refl _) _
                  have HUK := Lib.hid huk
                  have HLK := Lib.hid hl
                  have HB8 := Lib.hid hb8
                  have hmb8 : mb < w8.heap.size := hmb
                  clear huk hl hb8 hRk eA eU
                  go_wp2_with (at_builtin; refine halt ?_)
                  refine Halt.go ?_
                  refine wpList_app rfl _ _ _ rfl (SL.appendI hs9 Try.underlying28 hii hzi hzi1 hzi2 hzi3 hR9 (by omega)) ?_
                  rintro v10 w10 ⟨hs10, ho10, hv10⟩
                  replace ho10 : Only (fun k => (Value.slice (some ⟨w8.heap.size, 0, none⟩) 0 0).ownBlock = some k) (w8.alloc (.cells #[] 3)) w10 := ho10
                  replace hv10 : v10.ownBlock = (Value.slice (some ⟨w8.heap.size, 0, none⟩) 0 0).ownBlock ∨ v10.ownBlock = some (w8.alloc (.cells #[] 3)).heap.size := hv10
                  rw [Nat.zero_add, List.nil_append] at hs10
                  have hb10 : Below w8.heap.size w8 w10 := hb9.trans (ho10.below (by simp) (fun i hi e => by simp [Value.ownBlock] at e; omega))
                  have hw10 := hb10.size
                  have hv10' : ∀ g, v10.ownBlock = some g → w8.heap.size ≤ g := fun g hg => by
                    rcases hv10 with e | e
                    · rw [e] at hg; simp [Value.ownBlock] at hg; omega
                    · rw [e] at hg; simp at hg; omega
                  clear hs9 hR9 hb9 ho10 hv10
                  go_wp2_with (at_builtin; refine halt ?_)
                  refine Halt.go ?_
                  refine wpList_appd (v := v10) rfl _ _ _ rfl Try.underlying28 hii hzi hzi1 hzi2 hzi3 rfl (hs10.alloc _) (m := 1) (news := [.int .i64 c]) rfl rfl (cells_new _ _ _ rfl) (by simp [Value.oneCell']) (by unfold maxLen; omega) (by omega) ?_
                  rintro v11 w11 hs11 ho11 hv11
                  have hb11 : Below w8.heap.size w8 w11 := (hb10.alloc hb10.size _).trans (ho11.below (by simp; omega) (fun i hi e => by have := hv10' i e; omega))
                  have hs11m : SL w11.heap 28 1 (.slice (some ⟨mb, mo, none⟩) j mc) j vs' := hs8.only (only_of_below hb11 (fun _ => False)) (fun _ _ => id)
                  have hcm := hs11m.cell HUK.out
                  have hfm := hs11m.free (mo + A)
                  obtain ⟨a11, c11, rfl⟩ := hs11.form
                  have hs12 := hs11m.set (j := A) (by rw [hs11m.1]; omega) (.slice a11 (l.length + 1) c11)
                  have hn11 : (Value.slice a11 (l.length + 1) c11).ownBlock ≠ some mb := by
                    have hmbx := hs11m
                    rcases hmbx.2 with ⟨hv, _⟩ | ⟨b', off', cap', cur', hv, _, _, hb', _⟩
                    · simp at hv
                    · simp at hv
                      obtain ⟨⟨rfl, rfl⟩, rfl⟩ := hv
                      exact sl_not hb' hs11 (by decide)
                  have ho12 : Only (· = mb) w11 (w11.setCell ⟨mb, mo + A, none⟩ (.slice a11 (l.length + 1) c11)) := (Only.refl (· = mb) w11).setCell (p := ⟨mb, mo + A, none⟩) (fun _ => rfl) _
                  have hs13 := hs11.only ho12 (fun g hg e => hn11 (by rw [hg, e]))
                  have hb12 : Below wr.heap.size wr (w11.setCell ⟨mb, mo + A, none⟩ (.slice a11 (l.length + 1) c11)) := (HB8.out.trans (hb11.mono HB8.out.size)).trans (ho12.below (by have := HB8.out.size; have := hb11.size; omega) (fun i hi e => by omega))
                  clear hs10 ho11 hv10' hcA hv11 hs11
                  go_wp2_with fail
                  generalize w11.setCell ⟨mb, mo + A, none⟩ (.slice a11 (l.length + 1) c11) = w12 at hs12 hs13 hb12 ⊢
                  have hNM12 : NM w12 (.slice (some ⟨mb, mo, none⟩) j mc) (N.set A (l ++ [c])) := by
                    refine ⟨vs'.set A (.slice a11 (l.length + 1) c11), by have := HVL'.out; simp [this], SL.rs (e := 28) (size := 1) (enc := eV) (fun _ => rfl) ?_, fun i u l' hu hl' => ?_⟩
                    · have e1 : ∀ (xs : List Value), xs.flatMap eV = xs := fun xs => by induction xs with
                        | nil => rfl
                        | cons x r ih => simp [eV, ih]
                      rw [e1, List.length_set, ← HJL.out]
                      exact hs12
                    · by_cases e : i = A
                      · subst e
                        rw [List.getElem?_set_self (by have := (List.getElem?_eq_some_iff.1 HUK.out).1; omega)] at hu
                        rw [List.getElem?_set_self (by have := (List.getElem?_eq_some_iff.1 HLK.out).1; omega)] at hl'
                        cases hu; cases hl'
                        refine SL.ints (e := 3) ?_
                        rw [List.length_append, List.map_append]
                        exact hs13
                      · rw [List.getElem?_set_ne (Ne.symm e)] at hu hl'
                        exact RS.below (HE'.out i u l' hu hl') hb12
                  have hN2 : ∀ l' ∈ N.set A (l ++ [c]), l'.length ≤ 1000 := fun l' hl' => by
                    rcases List.mem_or_eq_of_mem_set hl' with h | h
                    · exact hN1k l' h
                    · rw [h]; simp; omega
                  refine (reach_any hNM12 (by simpa using hNk) hN2 a).mono ?_
                  rintro e w13 ⟨r13, L13, rfl, hs13', hL13, _, hb13⟩
                  have hle : L.length ≤ L13.length := rising_sub hL.1 hL13.1 fun x hx => (hL13.2 x).2 (Rch.more (by simp) (fun i l' hl' => by
                    by_cases e : i = A
                    · subst e
                      refine ⟨l ++ [c], by rw [List.getElem?_set_self (List.getElem?_eq_some_iff.1 hl').1], fun y hy => ?_⟩
                      rw [HLK.out] at hl'; cases hl'
                      exact List.mem_append_left _ hy
                    · exact ⟨l', by rw [List.getElem?_set_ne (Ne.symm e)]; exact hl', fun y hy => hy⟩) ((hL.2 x).1 hx))
                  obtain ⟨a13, c13, rfl⟩ := hs13'.form
                  have hd : decide (L.length ≤ L13.length) = true := decide_eq_true hle
                  have hfin : Below w.heap.size w w13 := (hbl3.trans (hb12.mono hbl3.size)).trans (hb13.mono (Nat.le_trans hbl3.size hb12.size))
                  clear hNM12 hN2 hs12 hs13 hs13' hL13 hb13
                  go_wp2
                  go_ret
                  exact ⟨rfl, hfin⟩
  · go_wp2_with fail
    refine (awake_any _).mono ?_
    rintro e w2 ⟨rfl, hb2⟩
    go_wp2
    go_ret
    exact ⟨rfl, hb1.trans (hb2.mono hb1.size)⟩
end Go.Proofs.Ytcdjeblcmgghhaa.Crumb
