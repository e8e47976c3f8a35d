/- JobEnds: a job that is told all that it asks for is over, kept, and all are let go; the law answers true for every input. Conditions: the arguments can be read. -/
import Derived.Test.YtniggacgkhkgiaaEnds0
import Derived.Test.YtniggacgkhkgiaaTwice1
import Derived.Test.YtniggacgkhkgiaaNames
namespace Go.Proofs.Ytniggacgkhkgiaa.Job
open Go.RowKit Go.Sp Msg Go.Sort

theorem eOut_len' : ∀ x : Int × Mg, (eOut x).length = 2 := fun _ => rfl
theorem HeadIs.toL {w0 w : World} {J : Jb} {hd : List (Int × Mg)} (h : HeadIs w0 w J hd) : HeadL J hd := by
  rcases h with h | ⟨h1, pv, ps, h2, _⟩
  · exact .inl h
  · exact .inr ⟨h1, _, _, _, pv, ps, h2⟩

set_option maxRecDepth 100000 in
set_option maxHeartbeats 4000000 in
theorem ends_any {H : Type} {enc : TypeId × Value → H} {base : Nat} {d1 d2 : DataW H} {ps1 ps2 : List MemPlace} (ag : Int) (v1 v2 : Value) (w : World) (_ : (Lit.int .i64 ag).wf = true)
    (u1 : Value.okWide Try.prog w .any base 23 v1) (k1 : DataW.Trod enc Try.prog w 0 (fun _ => true) true 23 v1 d1 ps1) (z1 : (d1.weights Try.prog 23).all (· ≤ reachBytes) = true)
    (u2 : Value.okWide Try.prog w .any base 67 v2) (k2 : DataW.Trod enc Try.prog w 0 (fun _ => true) true 67 v2 d2 ps2) (z2 : (d2.weights Try.prog 67).all (· ≤ reachBytes) = true) :
    Calls Try.prog 6 #[.int .i64 ag, v1, v2] w fun e w' => e = .returned (.bool true) ∧ Below w.heap.size w w' := by
  obtain ⟨ta, tt, tc, rfl⟩ := arg_trig u1 k1 z1
  obtain ⟨N, hN⟩ := arg_names u2 k2 z2
  clear u1 k1 z1 u2 k2 z2
  obtain ⟨vs, hvl, hNr, hNe⟩ := id hN
  have hl := hNr.1
  unfold maxLen at hl
  have HVL := Lib.hid hvl
  clear hvl
  obtain ⟨_, na, nc, rfl, _⟩ := id hNr
  obtain ⟨A, eA, hA1, hA4⟩ := one_mod ag 4 (by omega) (by omega)
  have eU : IntKind.u64.wrap (A : Int) = A := u64_little (by omega) (by omega)
  obtain ⟨B, eB, hB⟩ := tmod_little ta A (by omega) (by omega)
  obtain ⟨io, zo, hio, hzo, ho1, ho2, ho3⟩ := info_at (P := Try.prog) (e := 3) (f := (1, 8, 1)) (by kernel_rfl)
  show Calls _ _ #[.int .i64 ag, .agg #[.int .i64 ta, .int .i64 tt, .int .i64 tc], .slice na vs.length nc] _ _
  go_enter Try.func6, Try.ntmps6
  go_upto_region 2 with fail
  rw [eA]
  go_wp2_with fail
  have hT := below_alloc (Below.refl w.heap.size w) (.cells #[.int .i64 B, .int .i64 tt, .int .i64 tc] 23)
  have hbt := heap_new w (.cells #[.int .i64 B, .int .i64 tt, .int .i64 tc] 23) rfl
  generalize (w.alloc (.cells #[.int .i64 B, .int .i64 tt, .int .i64 tc] 23)) = w0 at hT hbt ⊢
  clear eA eU eB
  cases hn : newOk 1 A B tt tc with
  | false =>
    refine (new_no w0 1 A B tt tc hn).mono ?_
    rintro e w1 ⟨rfl, hb1⟩
    have h1 := below_trans' hb1 hT
    clear hbt
    go_wp2_with fail
    refine (awake_any _).mono ?_
    rintro e w2 ⟨rfl, hb2⟩
    have h2 := below_trans' hb2 h1
    go_wp2_with fail
    refine (awake_any _).mono ?_
    rintro e w3 ⟨rfl, hb3⟩
    have h3 := below_trans' hb3 h2
    go_wp2
    go_ret
    exact ⟨rfl, h3⟩
  | true =>
    refine (Sj.new w0 hn).mono ?_
    rintro e w1 ⟨jb, rfl, hS1, _⟩
    go_wp2_with fail
    refine (awake_any _).mono ?_
    rintro e w2 ⟨rfl, hb2⟩
    have hS := hS1.step hb2
    obtain ⟨hP, hA, ht1, ht2⟩ := prog_new hn
    clear hS1 hb2 hn
    by_cases hlen : A ≤ vs.length
    · have b1 : decide ((vs.length : Int) < (A : Int)) = false := decide_eq_false (by omega)
      have b1' : decide (vs.length < A) = false := decide_eq_false (by omega)
      generalize newJ 1 A B tt tc = J0 at hP hS
      go_wp2
      go_loopw [45] (fun i wr => ∃ (n : Nat) (J : Jb), n ≤ A + 3 ∧ i = .int .i64 n ∧ Sj w0 wr (fun _ => False) jb J ∧ Prog A tt n J) (fun i _ => A + 3 - (intOf i).toNat)
      case atStart => exact ⟨0, J0, Nat.zero_le _, rfl, hS, hP⟩
      case round =>
        clear hS hP
        obtain ⟨n, J, hn, rfl, hS, hP⟩ := hrel
        by_cases hnA : n < A + 3
        · go_wp2_with fail
          refine hS.outs.mono ?_
          rintro e w3 ⟨⟨v, outs, rfl, ho⟩, hb3, _⟩
          obtain ⟨hd, hoe, hhd⟩ := ho.ex
          have hH := hhd.toL
          have hro := SL.rs eOut_len' ho.sl
          obtain ⟨oa, oc, rfl⟩ := ho.sl.form
          have hS3 : Sj w0 w3 (fun b => (Value.slice oa outs.length oc).ownBlock = some b) jb J := (hS.turn (fun b hb e => by have := ho.vn b e; omega)).step hb3
          have hPn := prog_step hA ⟨ht1, ht2⟩ (tells hA N) hP hH
          have hout := fun (x : Int × Mg) (hx : x ∈ outs) => prog_out hP hH (x := x) (by rw [← hoe]; exact hx)
          rw [← hoe] at hPn
          clear hS hb3 ho hhd hH hP hoe
          have hol := hro.1
          unfold maxLen at hol
          go_wp2
          go_loopw [50] (fun i wi => ∃ p : Nat, p ≤ outs.length ∧ i = .int .i64 p ∧ Sj w0 wi (fun b => (Value.slice oa outs.length oc).ownBlock = some b) jb ((outs.take p).foldl (ansJ tt (tellN A N)) J) ∧ RS wi 2 eOut (.slice oa outs.length oc) outs) (fun i _ => outs.length - (intOf i).toNat)
          case atStart => exact ⟨0, Nat.zero_le _, rfl, by simpa using hS3, hro⟩
          case round =>
            clear hS3 hro
            obtain ⟨p, hp, rfl, hS3, hro⟩ := hrel
            by_cases hpN : p < outs.length
            · obtain ⟨_, a', c', hv, h2⟩ := id hro
              obtain ⟨ob, oo, ha, hob, hcl⟩ := h2 (by omega)
              simp only [Value.slice.injEq] at hv
              obtain ⟨hv1, hv2, hv3⟩ := hv
              clear hv2 hv3
              rw [ha] at hv1
              subst hv1
              obtain ⟨⟨k, m⟩, hx⟩ : ∃ x, outs[p]? = some x := ⟨_, List.getElem?_eq_getElem hpN⟩
              have hm := hout _ (List.mem_of_getElem? hx)
              have g0 := hcl p (k, m) 0 _ hx rfl
              have g1 := hcl p (k, m) 1 _ hx rfl
              rw [← Nat.add_assoc] at g0 g1
              rw [Nat.add_zero] at g0
              simp only at hm g0 g1
              have hnx : (outs.take (p + 1)).foldl (ansJ tt (tellN A N)) J = ansJ tt (tellN A N) ((outs.take p).foldl (ansJ tt (tellN A N)) J) (k, m) := by
                rw [List.take_add_one, hx, List.foldl_append]; rfl
              have HN := Lib.hid hnx
              have hA4' := below_alloc (Below.refl wr.heap.size wr) (.cells #[.int .i64 k, val m] 58)
              have hbx := heap_new wr (.cells #[.int .i64 k, val m] 58) rfl
              have hS4 := hS3.step hA4'
              have hr4 := hro.only (only_of_below hA4' (fun _ => False)) (fun _ _ => id)
              have hK4 : ∀ b, (Value.slice (some ⟨ob, oo, none⟩) outs.length oc).ownBlock = some b → b < (wr.alloc (.cells #[.int .i64 k, val m] 58)).heap.size := fun b e => by
                simp [Value.ownBlock] at e
                have := hA4'.size
                omega
              have ct : (wr.alloc (.cells #[.int .i64 k, val m] 58)).cell? ⟨w.heap.size, 1, none⟩ = some (.int .i64 tt) := cell_blk ((hS4.bel.block _ (Array.getElem?_eq_some_iff.1 hbt).1).trans hbt) rfl
              generalize (outs.take p).foldl (ansJ tt (tellN A N)) J = J3 at hS4 HN
              clear hcl hx hnx h2 ha hS3 hro hout
              rcases hm with ⟨t, j, rfl, hk0, hkA⟩ | ⟨t, j, c, pv, ps, rfl⟩ | ⟨t, j, rfl⟩ | ⟨t, j, rfl⟩
              · obtain ⟨kn, rfl⟩ : ∃ kn : Nat, k = kn := ⟨k.toNat, by omega⟩
                obtain ⟨u, hu⟩ : ∃ u, vs[kn]? = some u := ⟨_, List.getElem?_eq_getElem (by omega)⟩
                obtain ⟨ns, hns⟩ : ∃ ns, N[kn]? = some ns := ⟨_, List.getElem?_eq_getElem (by rw [← HVL.out]; omega)⟩
                have hru := hNe kn u ns hu hns
                have htell : tellN A N kn = tellL A ns := by unfold tellN; rw [List.getD_eq_getElem?_getD, Int.toNat_natCast, hns]; rfl
                obtain ⟨_, na', nc', hvn, h2⟩ := id hNr
                obtain ⟨nb, no, hna, hnb, hnc⟩ := h2 (by omega)
                simp only [Value.slice.injEq] at hvn
                obtain ⟨e1, e2, e3⟩ := hvn
                clear e2 e3
                rw [hna] at e1
                subst e1
                have gn := hnc kn u 0 _ hu rfl
                obtain ⟨hnl, ua, uc, rfl, _⟩ := id hru
                unfold maxLen at hnl
                simp only [val] at g1 hbx hS4 hr4 hK4 ct hA4'
                go_wp2
                generalize (wr.alloc (.cells #[.int .i64 (kn : Int), .iface 70 (.agg #[.int .i64 t, .int .i64 j])] 58)) = w4 at hS4 hr4 hK4 ct hbx hA4' ⊢
                have hbw4 := below_trans' hS4.bel hT
                have gn4 : w4.cell? ⟨nb, no + kn, none⟩ = some (.slice ua ns.length uc) := by
                  rw [hbw4.cell (p := ⟨nb, no + kn, none⟩) hnb]; simpa using gn
                have hru4 := hru.only (only_of_below hbw4 (fun _ => False)) (fun _ _ => id)
                have c0 := cell_blk hbx (j := 0) (u := .int .i64 (kn : Int)) rfl
                have HTL := Lib.hid htell
                clear g0 g1 gn hnc h2 hna hru hu hns htell hA4' hbx
                go_loopw [10, 60] (fun l i wl => ∃ a : Nat, a ≤ A ∧ i = .int .i64 a ∧ SL wl.heap 3 1 l (tellL a ns).length ((tellL a ns).map fun x => .int .i64 x) ∧ (∀ g, l.ownBlock = some g → w4.heap.size ≤ g) ∧ Below w4.heap.size w4 wl) (fun _ i _ => A - (intOf i).toNat)
                case atStart => exact ⟨0, Nat.zero_le _, rfl, SL.nil _ _ _, fun g hg => by simp [Value.ownBlock] at hg, Below.refl _ _⟩
                case round =>
                  obtain ⟨a, ha, rfl, hl, hln, hbl⟩ := hrel
                  by_cases haA : a < A
                  · have k0 := (hbl.cell (World.block_lt_of_cell? _ _ c0)).trans c0
                    have kg : wr.cell? ⟨nb, no + kn, none⟩ = some (.slice ua ns.length uc) := by rw [hbl.cell (World.block_lt_of_cell? _ _ gn4)]; exact gn4
                    go_wp2
                    have hTr := tellL_rg (a := a) (ns := ns)
                    have hTl := tellL_len a ns
                    have hTS := Lib.hid (tellL_succ a ns)
                    generalize tellL a ns = T at hl hTr hTl hTS
                    go_loopw [10, 69] (fun l i wl => ∃ q : Nat, q ≤ ns.length ∧ i = .int .i64 q ∧ SL wl.heap 3 1 l (T ++ atL a (ns.take q)).length ((T ++ atL a (ns.take q)).map fun x => .int .i64 x) ∧ (∀ g, l.ownBlock = some g → w4.heap.size ≤ g) ∧ Below w4.heap.size w4 wl) (fun _ i _ => ns.length - (intOf i).toNat)
                    case atStart => exact ⟨0, Nat.zero_le _, rfl, by simpa [atL] using hl, hln, hbl⟩
                    case round =>
                      clear hl hln hbl k0 kg
                      obtain ⟨q, hq, rfl, hl, hln, hbl⟩ := hrel
                      by_cases hqN : q < ns.length
                      · obtain ⟨b8, o8, c8, e8, hb8, hc8⟩ := (hru4.only (only_of_below hbl (fun _ => False)) (fun _ _ => id)).int (by omega)
                        simp only [Value.slice.injEq, true_and] at e8
                        obtain ⟨rfl, rfl⟩ := e8
                        obtain ⟨x, hx⟩ : ∃ x, ns[q]? = some x := ⟨_, List.getElem?_eq_getElem hqN⟩
                        have kx := hc8 q x hx
                        have htk : ns.take (q + 1) = ns.take q ++ [x] := by rw [List.take_add_one, hx]; rfl
                        clear hc8 hx hb8 hru4 gn4
                        by_cases hxa : x = (a : Int)
                        · subst hxa
                          have hat1 : atL a (ns.take (q + 1)) = [(a : Int)] := by rw [htk]; unfold atL; simp
                          by_cases hin : (a : Int) ∈ ns.take q
                          · have hat0 : atL a (ns.take q) = [(a : Int)] := by unfold atL; simp [hin]
                            rw [hat0] at hl
                            have hlen : (T ++ [(a : Int)]).length = T.length + 1 := by simp
                            obtain ⟨b9, o9, c9, e9, _, hc9⟩ := (SL.ints hl).int (by simp)
                            have kl := hc9 T.length (a : Int) (by simp)
                            rw [hlen] at e9 hl
                            subst e9
                            have HE := Lib.hid hat1
                            have HLN := Lib.hid hlen
                            have ba : ((a : Int) != (a : Int)) = false := by simp
                            have bl : (((T.length : Int) + 1) == 0) = false := by simp; omega
                            have bl2 : decide (((T.length : Int) + 1) = 0) = false := decide_eq_false (by omega)
                            clear hc9 hat1 hat0 htk hin hlen
                            go_wp2
                            exact ⟨⟨q + 1, by omega, by go_num, by rw [HE.out, HLN.out]; exact hl, hln, hbl⟩, by simp [intOf]; omega⟩
                          · have hat0 : atL a (ns.take q) = [] := by unfold atL; simp [hin]
                            have HE := Lib.hid hat1
                            rw [hat0, List.append_nil] at hl
                            clear hat1 hat0 htk hin
                            by_cases hT0 : T.length = 0
                            · have HLN := Lib.hid (show (T ++ [(a : Int)]).length = 0 + 1 by simp [hT0])
                              rw [hT0] at hl
                              obtain ⟨la, lc, rfl⟩ := hl.form
                              clear hT0
                              go_wp2_with (at_builtin; refine halt ?_)
                              refine Halt.go ?_
                              refine wpList_appd (v := .slice la 0 lc) rfl _ _ _ rfl Try.underlying31 hio hzo ho1 ho2 ho3 rfl (hl.alloc _) (m := 1) (news := [.int .i64 (a : Int)]) rfl rfl (cells_new _ _ _ rfl) (by simp [Value.oneCell']) (by unfold maxLen; omega) (by omega) ?_
                              rintro v7 w7 hs7 ho7 hv7
                              have hb7 : Below w4.heap.size w4 w7 := (below_alloc hbl _).trans (ho7.below (by have := hbl.size; simp; omega) (fun i hi e => by have := hln i e; omega))
                              have hn7 : ∀ g', v7.ownBlock = some g' → w4.heap.size ≤ g' := fun g' hg' => by
                                rcases hv7 with e | e
                                · exact hln g' (by rw [← e]; exact hg')
                                · rw [e] at hg'; cases hg'; have := hbl.size; simp; omega
                              clear ho7 hv7 hl hln hbl
                              go_wp2
                              exact ⟨⟨q + 1, by omega, by go_num, by rw [HE.out, HLN.out, List.map_append]; exact hs7, hn7, hb7⟩, by simp [intOf]; omega⟩
                            · obtain ⟨T', y, rfl⟩ : ∃ T' y, T = T' ++ [y] := ⟨T.dropLast, T.getLast (by intro e; rw [e] at hT0; exact hT0 rfl), (List.dropLast_concat_getLast _).symm⟩
                              have hya : y < a := (hTr y (by simp)).2
                              have hlen : (T' ++ [y]).length = T'.length + 1 := by simp
                              obtain ⟨b9, o9, c9, e9, _, hc9⟩ := (SL.ints hl).int (by simp)
                              have kl := hc9 T'.length y (by simp)
                              rw [hlen] at e9 hl hTl
                              have HLN := Lib.hid (show ((T' ++ [y]) ++ [(a : Int)]).length = T'.length + 1 + 1 by simp)
                              subst e9
                              have by1 : (y != (a : Int)) = true := by simp; omega
                              have bl : (((T'.length : Int) + 1) == 0) = false := by simp; omega
                              have bl2 : decide (((T'.length : Int) + 1) = 0) = false := decide_eq_false (by omega)
                              clear hc9 hlen hT0 hTr
                              go_wp2_with (at_builtin; refine halt ?_)
                              refine Halt.go ?_
                              refine wpList_appd (v := .slice (some ⟨b9, o9, none⟩) (T'.length + 1) c9) rfl _ _ _ rfl Try.underlying31 hio hzo ho1 ho2 ho3 rfl (hl.alloc _) (m := 1) (news := [.int .i64 (a : Int)]) rfl rfl (cells_new _ _ _ rfl) (by simp [Value.oneCell']) (by unfold maxLen; omega) (by omega) ?_
                              rintro v7 w7 hs7 ho7 hv7
                              have hb7 : Below w4.heap.size w4 w7 := (below_alloc hbl _).trans (ho7.below (by have := hbl.size; simp; omega) (fun i hi e => by have := hln i e; omega))
                              have hn7 : ∀ g', v7.ownBlock = some g' → w4.heap.size ≤ g' := fun g' hg' => by
                                rcases hv7 with e | e
                                · exact hln g' (by rw [← e]; exact hg')
                                · rw [e] at hg'; cases hg'; have := hbl.size; simp; omega
                              clear ho7 hv7 hl hln hbl
                              go_wp2
                              exact ⟨⟨q + 1, by omega, by go_num, by rw [HE.out, HLN.out, List.map_append]; exact hs7, hn7, hb7⟩, by simp [intOf]; omega⟩
                        · have hat : atL a (ns.take (q + 1)) = atL a (ns.take q) := by
                            rw [htk]; unfold atL
                            have : ((a : Int) = x) = False := by simp; omega
                            simp [this]
                          have HAT := Lib.hid hat
                          have bx : (x == (a : Int)) = false := by simpa using hxa
                          have bx2 : decide (x = (a : Int)) = false := by simpa using hxa
                          clear hat htk hxa
                          go_wp2
                          exact ⟨⟨q + 1, by omega, by go_num, by rw [HAT.out]; exact hl, hln, hbl⟩, by simp [intOf]; omega⟩
                      · have hqe : q = ns.length := by omega
                        subst hqe
                        rw [List.take_length] at hl
                        go_wp2
                        exact ⟨⟨a + 1, by omega, by go_num, by rw [hTS.out]; exact hl, hln, hbl⟩, by simp [intOf]; omega⟩
                  · have hae : a = A := by omega
                    subst hae
                    have hS6 := hS4.step hbl
                    have hr6 := hr4.only (only_of_below hbl (fun _ => False)) (fun _ _ => id)
                    have hK6 := fun b e => Nat.lt_of_lt_of_le (hK4 b e) hbl.size
                    have k0 := (hbl.cell (World.block_lt_of_cell? _ _ c0)).trans c0
                    have k1 : wr.cell? ⟨w.heap.size, 1, none⟩ = some (.int .i64 tt) := by rw [hbl.cell (World.block_lt_of_cell? _ _ ct)]; exact ct
                    have hlr := SL.ints hl
                    obtain ⟨la, lc, rfl⟩ := hl.form
                    go_wp2_with fail
                    refine (hS6.hear (m := .pinned ⟨(kn : Int), tt, 1, 0, _, tellL a ns, false⟩) hK6 hlr trivial rfl).mono ?_
                    rintro e w7 ⟨rfl, hS7, hO7⟩
                    have hr7 := hr6.only hO7 (fun b hb e => e.2 hb)
                    go_wp2
                    exact ⟨⟨p + 1, by omega, by go_num, by rw [HN.out]; unfold ansJ; simp only; rw [HTL.out]; exact hS7, hr7⟩, by simp [intOf]; omega⟩
              · simp only [val] at g1 hbx hS4 hr4 hK4 ct hA4'
                go_wp2_with fail
                generalize (wr.alloc (.cells #[.int .i64 k, .iface 62 (.agg #[.int .i64 t, .int .i64 j, .int .i64 c, pv])] 58)) = w4 at hS4 hr4 hK4 ⊢
                clear hbx ct hA4' g0 g1
                refine (hS4.hear (m := .stor tt 1) hK4 trivial trivial rfl).mono ?_
                rintro e w5 ⟨rfl, hS5, hO5⟩
                have hr5 := hr4.only hO5 (fun b hb e => e.2 hb)
                go_wp2
                exact ⟨⟨p + 1, by omega, by go_num, by rw [HN.out]; exact hS5, hr5⟩, by simp [intOf]; omega⟩
              · simp only [val] at g1 hbx hS4 hr4 hK4 ct hA4'
                go_wp2_with fail
                generalize (wr.alloc (.cells #[.int .i64 k, .iface 79 (.agg #[.int .i64 t, .int .i64 j])] 58)) = w4 at hS4 hr4 hK4 ⊢
                clear hbx ct hA4' g0 g1
                refine (hS4.hear (m := .unpd k tt 1) hK4 trivial trivial rfl).mono ?_
                rintro e w5 ⟨rfl, hS5, hO5⟩
                have hr5 := hr4.only hO5 (fun b hb e => e.2 hb)
                go_wp2
                exact ⟨⟨p + 1, by omega, by go_num, by rw [HN.out]; exact hS5, hr5⟩, by simp [intOf]; omega⟩
              · simp only [val] at g1 hbx hS4 hr4 hK4 ct hA4'
                go_wp2
                exact ⟨⟨p + 1, by omega, by go_num, by rw [HN.out]; exact hS4, hr4⟩, by simp [intOf]; omega⟩
            · have hpe : p = outs.length := by omega
              subst hpe
              rw [List.take_length] at hS3
              have hS5 : Sj w0 wr (fun _ => False) jb (outs.foldl (ansJ tt (tellN A N)) J) := hS3.turn (fun b _ e => e.elim)
              clear hS3 hro
              go_wp2
              exact ⟨⟨n + 1, _, by omega, by go_num, hS5, hPn⟩, by simp [intOf]; omega⟩
        · obtain ⟨e4, ek⟩ := prog_end hP (by omega)
          have hne : n = A + 3 := by omega
          subst hne
          have hbe := below_trans' hS.bel hT
          have hph := hS.phase
          have hst := hS.stored
          rw [e4] at hph
          rw [ek] at hst
          clear hS hP hbt hn
          go_wp2_with fail
          refine hph.mono ?_
          rintro e w5 ⟨rfl, rfl⟩
          go_wp2_with fail
          refine hst.mono ?_
          rintro e w5 ⟨rfl, rfl⟩
          go_wp2
          go_ret
          exact ⟨rfl, hbe⟩
    · have b1 : decide ((vs.length : Int) < (A : Int)) = true := decide_eq_true (by omega)
      have h2 := below_trans' hS.bel hT
      clear hbt hS hP
      go_wp2_with fail
      refine (awake_any _).mono ?_
      rintro e w3 ⟨rfl, hb3⟩
      have h3 := below_trans' hb3 h2
      go_wp2
      go_ret
      exact ⟨rfl, h3⟩
end Go.Proofs.Ytniggacgkhkgiaa.Job
