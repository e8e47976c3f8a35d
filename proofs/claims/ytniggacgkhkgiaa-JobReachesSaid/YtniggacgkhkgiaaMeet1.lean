/- JobReaches: in Shipping those who are visited are all whom the first one comes to, as they told; the law answers true for every input. Conditions: the arguments can be read. -/
import Derived.Test.YtniggacgkhkgiaaMeet0
import Derived.Test.YtniggacgkhkgiaaEnds1
import Derived.Test.YtniggacgkhkgiaaRefReach
namespace Go.Proofs.Ytniggacgkhkgiaa.Job
open Go.RowKit Go.Sp Msg Go.Sort

/-- a slice of slices of ints that one builds oneself: all of it lies in the blocks from lo to hi -/
structure ToldIs (lo hi : Nat) (w : World) (v : Value) (T : List (List Int)) (us : List Value) : Prop where
  len : us.length = T.length
  sl : SL w.heap 31 1 v us.length us
  row : ∀ (i : Nat) (u : Value) (l : List Int), us[i]? = some u → T[i]? = some l → SL w.heap 3 1 u l.length (l.map fun x => .int .i64 x) ∧ ∀ g, u.ownBlock = some g → lo ≤ g ∧ g < hi
  own : ∀ g, v.ownBlock = some g → lo ≤ g ∧ g < hi
theorem ToldIs.only {F : Nat → Prop} {lo hi : Nat} {w w1 : World} {v : Value} {T : List (List Int)} {us : List Value} (h : ToldIs lo hi w v T us) (o : Only F w w1) (hF : ∀ b, lo ≤ b → b < hi → ¬ F b) : ToldIs lo hi w1 v T us :=
  ⟨h.len, h.sl.only o (fun g hg => hF g (h.own g hg).1 (h.own g hg).2), fun i u l hu hl => ⟨(h.row i u l hu hl).1.only o (fun g hg => hF g ((h.row i u l hu hl).2 g hg).1 ((h.row i u l hu hl).2 g hg).2), (h.row i u l hu hl).2⟩, h.own⟩
theorem ToldIs.below {lo hi : Nat} {w w1 : World} {v : Value} {T : List (List Int)} {us : List Value} (h : ToldIs lo hi w v T us) (o : Below w.heap.size w w1) : ToldIs lo hi w1 v T us := h.only (only_of_below o (fun _ => False)) (fun _ _ _ => id)
theorem flat_eV : ∀ us : List Value, us.flatMap eV = us
  | [] => rfl
  | u :: r => by rw [List.flatMap_cons, flat_eV r]; rfl
theorem ToldIs.nm {lo hi : Nat} {w : World} {v : Value} {T : List (List Int)} {us : List Value} (h : ToldIs lo hi w v T us) : NM w v T :=
  ⟨us, h.len, SL.rs (e := 31) (size := 1) (enc := eV) (fun _ => rfl) (by rw [flat_eV]; exact h.sl), fun i u l hu hl => SL.ints (h.row i u l hu hl).1⟩
/-- a row more -/
theorem ToldIs.put {lo : Nat} {w w1 w2 : World} {v v' u : Value} {T : List (List Int)} {us : List Value} {l : List Int} (h : ToldIs lo w.heap.size w v T us) (hlo : lo ≤ w.heap.size) (hb : Below w.heap.size w w1)
    (hu : SL w1.heap 3 1 u l.length (l.map fun x => .int .i64 x)) (hun : ∀ g, u.ownBlock = some g → w.heap.size ≤ g)
    (hs : SL w2.heap 31 1 v' (us.length + 1) (us ++ [u])) (ho : Only (fun k => v.ownBlock = some k) w1 w2) (hv : v'.ownBlock = v.ownBlock ∨ v'.ownBlock = some w1.heap.size) : ToldIs lo w2.heap.size w2 v' (T ++ [l]) (us ++ [u]) := by
  have h1 := h.below hb
  have hvl : ∀ g, v.ownBlock = some g → g < w.heap.size := fun g hg => (h.own g hg).2
  have hz1 := hb.size
  have hz2 := ho.size
  refine ⟨by simp [h.len], by simpa using hs, fun i x y hx hy => ?_, fun g hg => ?_⟩
  · by_cases hi : i < us.length
    · rw [List.getElem?_append_left hi] at hx
      rw [List.getElem?_append_left (by rw [← h.len]; exact hi)] at hy
      obtain ⟨g1, g2⟩ := h1.row i x y hx hy
      refine ⟨g1.only ho (fun g hg e => ?_), fun g hg => by have := g2 g hg; omega⟩
      rcases h1.sl.2 with ⟨rfl, _⟩ | ⟨b', off, cap, cur, rfl, _, _, hb', _⟩
      · simp [Value.ownBlock] at e
      · simp [Value.ownBlock] at e
        subst e
        exact sl_not hb' g1 (by decide) hg
    · have e : i = us.length := by
        have := (List.getElem?_eq_some_iff.1 hx).1
        simp at this
        omega
      subst e
      rw [List.getElem?_append_right (Nat.le_refl _)] at hx
      rw [h.len, List.getElem?_append_right (Nat.le_refl _)] at hy
      simp at hx hy
      subst hx; subst hy
      exact ⟨hu.only ho (fun g hg e => by have := hun g hg; have := hvl g e; omega), fun g hg => by have := hun g hg; have := hu.lt g hg; omega⟩
  · have hl := hs.lt g hg
    refine ⟨?_, hl⟩
    rcases hv with e | e
    · exact (h.own g (by rw [← e]; exact hg)).1
    · rw [e] at hg; cases hg; omega

set_option maxRecDepth 100000 in
set_option maxHeartbeats 4000000 in
theorem meet_any {H : Type} {enc : TypeId × Value → H} {base : Nat} {d1 d2 : DataW H} {ps1 ps2 : List MemPlace} (ag : Int) (v1 v2 : Value) (w : World) (_ : (Lit.int .i64 ag).wf = true)
    (u1 : Value.okWide Try.prog w .any base 23 v1) (k1 : DataW.Trod enc Try.prog w 0 (fun _ => true) true 23 v1 d1 ps1) (z1 : (d1.weights Try.prog 23).all (· ≤ reachBytes) = true)
    (u2 : Value.okWide Try.prog w .any base 67 v2) (k2 : DataW.Trod enc Try.prog w 0 (fun _ => true) true 67 v2 d2 ps2) (z2 : (d2.weights Try.prog 67).all (· ≤ reachBytes) = true) :
    Calls Try.prog 4 #[.int .i64 ag, v1, v2] w fun e w' => e = .returned (.bool true) ∧ Below w.heap.size w w' := by
  obtain ⟨ta, tt, tc, rfl⟩ := arg_trig u1 k1 z1
  obtain ⟨N, hN⟩ := arg_names u2 k2 z2
  clear u1 k1 z1 u2 k2 z2
  obtain ⟨vs, hvl, hNr, hNe⟩ := id hN
  have hl := hNr.1
  unfold maxLen at hl
  have HVL := Lib.hid hvl
  clear hvl
  obtain ⟨_, na, nc, rfl, _⟩ := id hNr
  obtain ⟨A, eA, hA1, hA4⟩ := one_mod ag 4 (by omega) (by omega)
  have eU : IntKind.u64.wrap (A : Int) = A := u64_little (by omega) (by omega)
  obtain ⟨B, eB, hB⟩ := tmod_little ta A (by omega) (by omega)
  obtain ⟨io, zo, hio, hzo, ho1, ho2, ho3⟩ := info_at (P := Try.prog) (e := 3) (f := (1, 8, 1)) (by kernel_rfl)
  obtain ⟨jo, yo, hjo, hyo, jo1, jo2, jo3⟩ := info_at (P := Try.prog) (e := 31) (f := (1, 24, 1)) (by kernel_rfl)
  show Calls _ _ #[.int .i64 ag, .agg #[.int .i64 ta, .int .i64 tt, .int .i64 tc], .slice na vs.length nc] _ _
  go_enter Try.func4, Try.ntmps4
  go_upto_region 2 with fail
  rw [eA]
  go_wp2_with fail
  have hT := below_alloc (Below.refl w.heap.size w) (.cells #[.int .i64 B, .int .i64 tt, .int .i64 tc] 23)
  have hbt := heap_new w (.cells #[.int .i64 B, .int .i64 tt, .int .i64 tc] 23) rfl
  generalize (w.alloc (.cells #[.int .i64 B, .int .i64 tt, .int .i64 tc] 23)) = w0 at hT hbt ⊢
  clear eA eU eB
  cases hn : newOk 1 A B tt tc with
  | false =>
    refine (new_no w0 1 A B tt tc hn).mono ?_
    rintro e w1 ⟨rfl, hb1⟩
    have h1 := below_trans' hb1 hT
    clear hbt
    go_wp2_with fail
    refine (awake_any _).mono ?_
    rintro e w2 ⟨rfl, hb2⟩
    have h2 := below_trans' hb2 h1
    go_wp2_with fail
    refine (awake_any _).mono ?_
    rintro e w3 ⟨rfl, hb3⟩
    have h3 := below_trans' hb3 h2
    go_wp2
    go_ret
    exact ⟨rfl, h3⟩
  | true =>
    refine (Sj.new w0 hn).mono ?_
    rintro e w1 ⟨jb, rfl, hS1, _⟩
    go_wp2_with fail
    refine (awake_any _).mono ?_
    rintro e w2 ⟨rfl, hb2⟩
    have hS := hS1.step hb2
    have hc3 := newOk_c hn
    obtain ⟨_, hA, ht1, ht2⟩ := prog_new hn
    have HPN := Lib.hid (fun (T : List (List Int)) (hT : T.length = A) => pm_new (T := T) hn hT)
    clear hS1 hb2 hn
    by_cases hlen : A ≤ vs.length
    · have b1 : decide ((vs.length : Int) < (A : Int)) = false := decide_eq_false (by omega)
      have b1' : decide (vs.length < A) = false := decide_eq_false (by omega)
      generalize newJ 1 A B tt tc = J0 at HPN hS
      have hT0 : ToldIs w2.heap.size (w2.alloc (.cells #[] 31)).heap.size (w2.alloc (.cells #[] 31)) (.slice (some ⟨w2.heap.size, 0, none⟩) 0 0) [] [] :=
        ⟨rfl, ⟨rfl, .inr ⟨_, 0, 0, _, rfl, Nat.le_refl _, by simp [maxLen], heap_new _ _ rfl, by simp, fun j u hu => by simp at hu⟩⟩, fun i u l hu => by simp at hu, fun g hg => by simp [Value.ownBlock] at hg; subst hg; simp⟩
      have hB2 := below_alloc (Below.refl w2.heap.size w2) (.cells #[] 31)
      have hlo : w2.heap.size ≤ (w2.alloc (.cells #[] 31)).heap.size := hB2.size
      have hbw2 := below_trans' hS.bel hT
      have ct1 : w0.cell? ⟨w.heap.size, 1, none⟩ = some (.int .i64 tt) := cell_blk hbt rfl
      have ct0 : w0.cell? ⟨w.heap.size, 0, none⟩ = some (.int .i64 B) := cell_blk hbt rfl
      have hwt0 : w.heap.size < w0.heap.size := World.block_lt_of_cell? _ _ ct0
      have CT1 := Lib.hid ct1
      have CT0 := Lib.hid ct0
      clear ct1 ct0
      clear hbt
      go_wp2
      generalize (w2.alloc (.cells #[] 31)) = w3 at hT0 hB2 hlo ⊢
      clear b1 b1'
      go_loopw [8, 51] (fun v i wl => ∃ (k : Nat) (us : List Value), k ≤ A ∧ i = .int .i64 k ∧ ToldIs w2.heap.size wl.heap.size wl v (tellAll (N.take k)) us ∧ Below w2.heap.size w2 wl) (fun _ i _ => A - (intOf i).toNat)
      case atStart => exact ⟨0, [], Nat.zero_le _, rfl, by simpa [tellAll] using hT0, hB2⟩
      case round =>
        clear hT0 hB2 hlo
        obtain ⟨k, us, hk, rfl, hTI, hBl⟩ := hrel
        by_cases hkA : k < A
        · obtain ⟨u, hu⟩ : ∃ u, vs[k]? = some u := ⟨_, List.getElem?_eq_getElem (by omega)⟩
          obtain ⟨ns, hns⟩ : ∃ ns, N[k]? = some ns := ⟨_, List.getElem?_eq_getElem (by rw [← HVL.out]; omega)⟩
          have hru := hNe k u ns hu hns
          have HTA := Lib.hid (show tellAll (N.take (k + 1)) = tellAll (N.take k) ++ [tellL 4 ns] by unfold tellAll; rw [List.take_add_one, hns, List.map_append]; rfl)
          obtain ⟨_, na', nc', hvn, h2⟩ := id hNr
          obtain ⟨nb, no, hna, hnb, hnc⟩ := h2 (by omega)
          simp only [Value.slice.injEq] at hvn
          obtain ⟨e1, e2, e3⟩ := hvn
          clear e2 e3
          rw [hna] at e1
          subst e1
          have gn := hnc k u 0 _ hu rfl
          have hTl4 : (tellAll (N.take k)).length ≤ 4 := by unfold tellAll; simp; omega
          have hul : us.length ≤ 4 := by rw [hTI.len]; exact hTl4
          obtain ⟨hnl, ua, uc, rfl, _⟩ := id hru
          unfold maxLen at hnl
          have hbwl := below_trans' hBl hbw2
          have gn4 : wr.cell? ⟨nb, no + k, none⟩ = some (.slice ua ns.length uc) := by
            rw [hbwl.cell (p := ⟨nb, no + k, none⟩) hnb]; simpa using gn
          have hru4 := hru.only (only_of_below hbwl (fun _ => False)) (fun _ _ => id)
          clear gn hnc h2 hna hru hu hns hNr
          obtain ⟨ta8, tc8, rfl⟩ := hTI.sl.form
          generalize tellAll (N.take k) = TT at hTI HTA hTl4
          obtain ⟨nu, hnu⟩ : ∃ nu, nu = us.length := ⟨_, rfl⟩
          rw [← hnu] at hul ⊢
          have HNU := Lib.hid hnu
          have HTI := Lib.hid hTI
          clear hnu hTI hTl4
          go_wp2
          obtain ⟨wo, rfl⟩ : ∃ wo : World, wo = wr := ⟨_, rfl⟩
          go_loopw [10, 54] (fun l i wl => ∃ a : Nat, a ≤ 4 ∧ i = .int .i64 a ∧ SL wl.heap 3 1 l (tellL a ns).length ((tellL a ns).map fun x => .int .i64 x) ∧ (∀ g, l.ownBlock = some g → wo.heap.size ≤ g) ∧ Below wo.heap.size wo wl) (fun _ i _ => 4 - (intOf i).toNat)
          case atStart => exact ⟨0, Nat.zero_le _, rfl, SL.nil _ _ _, fun g hg => by simp [Value.ownBlock] at hg, Below.refl _ _⟩
          case round =>
            obtain ⟨a, ha, rfl, hl, hln, hbl⟩ := hrel
            by_cases haA : a < 4
            · have kg : wr.cell? ⟨nb, no + k, none⟩ = some (.slice ua ns.length uc) := by rw [hbl.cell (World.block_lt_of_cell? _ _ gn4)]; exact gn4
              have b4 : decide ((a : Int) < 4) = true := decide_eq_true (by omega)
              have b4' : decide (a < 4) = true := decide_eq_true (by omega)
              go_wp2
              have hTr := tellL_rg (a := a) (ns := ns)
              have hTl := tellL_len a ns
              have hTS := Lib.hid (tellL_succ a ns)
              generalize tellL a ns = T at hl hTr hTl hTS
              go_loopw [10, 62] (fun l i wl => ∃ q : Nat, q ≤ ns.length ∧ i = .int .i64 q ∧ SL wl.heap 3 1 l (T ++ atL a (ns.take q)).length ((T ++ atL a (ns.take q)).map fun x => .int .i64 x) ∧ (∀ g, l.ownBlock = some g → wo.heap.size ≤ g) ∧ Below wo.heap.size wo wl) (fun _ i _ => ns.length - (intOf i).toNat)
              case atStart => exact ⟨0, Nat.zero_le _, rfl, by simpa [atL] using hl, hln, hbl⟩
              case round =>
                clear hl hln hbl kg
                obtain ⟨q, hq, rfl, hl, hln, hbl⟩ := hrel
                by_cases hqN : q < ns.length
                · obtain ⟨b8, o8, c8, e8, hb8, hc8⟩ := (hru4.only (only_of_below hbl (fun _ => False)) (fun _ _ => id)).int (by omega)
                  simp only [Value.slice.injEq, true_and] at e8
                  obtain ⟨rfl, rfl⟩ := e8
                  obtain ⟨x, hx⟩ : ∃ x, ns[q]? = some x := ⟨_, List.getElem?_eq_getElem hqN⟩
                  have kx := hc8 q x hx
                  have htk : ns.take (q + 1) = ns.take q ++ [x] := by rw [List.take_add_one, hx]; rfl
                  clear hc8 hx hb8 hru4 gn4
                  by_cases hxa : x = (a : Int)
                  · subst hxa
                    have hat1 : atL a (ns.take (q + 1)) = [(a : Int)] := by rw [htk]; unfold atL; simp
                    by_cases hin : (a : Int) ∈ ns.take q
                    · have hat0 : atL a (ns.take q) = [(a : Int)] := by unfold atL; simp [hin]
                      rw [hat0] at hl
                      have hlen : (T ++ [(a : Int)]).length = T.length + 1 := by simp
                      obtain ⟨b9, o9, c9, e9, _, hc9⟩ := (SL.ints hl).int (by simp)
                      have kl := hc9 T.length (a : Int) (by simp)
                      rw [hlen] at e9 hl
                      subst e9
                      have HE := Lib.hid hat1
                      have HLN := Lib.hid hlen
                      have ba : ((a : Int) != (a : Int)) = false := by simp
                      have bl : (((T.length : Int) + 1) == 0) = false := by simp; omega
                      have bl2 : decide (((T.length : Int) + 1) = 0) = false := decide_eq_false (by omega)
                      clear hc9 hat1 hat0 htk hin hlen
                      go_wp2
                      exact ⟨⟨q + 1, by omega, by go_num, by rw [HE.out, HLN.out]; exact hl, hln, hbl⟩, by simp [intOf]; omega⟩
                    · have hat0 : atL a (ns.take q) = [] := by unfold atL; simp [hin]
                      have HE := Lib.hid hat1
                      rw [hat0, List.append_nil] at hl
                      clear hat1 hat0 htk hin
                      by_cases hT0 : T.length = 0
                      · have HLN := Lib.hid (show (T ++ [(a : Int)]).length = 0 + 1 by simp [hT0])
                        rw [hT0] at hl
                        obtain ⟨la, lc, rfl⟩ := hl.form
                        clear hT0
                        go_wp2_with (at_builtin; refine halt ?_)
                        refine Halt.go ?_
                        refine wpList_appd (v := .slice la 0 lc) rfl _ _ _ rfl Try.underlying31 hio hzo ho1 ho2 ho3 rfl (hl.alloc _) (m := 1) (news := [.int .i64 (a : Int)]) rfl rfl (cells_new _ _ _ rfl) (by simp [Value.oneCell']) (by unfold maxLen; omega) (by omega) ?_
                        rintro v7 w7 hs7 ho7 hv7
                        have hb7 : Below wo.heap.size wo w7 := (below_alloc hbl _).trans (ho7.below (by have := hbl.size; simp; omega) (fun i hi e => by have := hln i e; omega))
                        have hn7 : ∀ g', v7.ownBlock = some g' → wo.heap.size ≤ g' := fun g' hg' => by
                          rcases hv7 with e | e
                          · exact hln g' (by rw [← e]; exact hg')
                          · rw [e] at hg'; cases hg'; have := hbl.size; simp; omega
                        clear ho7 hv7 hl hln hbl
                        go_wp2
                        exact ⟨⟨q + 1, by omega, by go_num, by rw [HE.out, HLN.out, List.map_append]; exact hs7, hn7, hb7⟩, by simp [intOf]; omega⟩
                      · obtain ⟨T', y, rfl⟩ : ∃ T' y, T = T' ++ [y] := ⟨T.dropLast, T.getLast (by intro e; rw [e] at hT0; exact hT0 rfl), (List.dropLast_concat_getLast _).symm⟩
                        have hya : y < a := (hTr y (by simp)).2
                        have hlen : (T' ++ [y]).length = T'.length + 1 := by simp
                        obtain ⟨b9, o9, c9, e9, _, hc9⟩ := (SL.ints hl).int (by simp)
                        have kl := hc9 T'.length y (by simp)
                        rw [hlen] at e9 hl hTl
                        have HLN := Lib.hid (show ((T' ++ [y]) ++ [(a : Int)]).length = T'.length + 1 + 1 by simp)
                        subst e9
                        have by1 : (y != (a : Int)) = true := by simp; omega
                        have bl : (((T'.length : Int) + 1) == 0) = false := by simp; omega
                        have bl2 : decide (((T'.length : Int) + 1) = 0) = false := decide_eq_false (by omega)
                        clear hc9 hlen hT0 hTr
                        go_wp2_with (at_builtin; refine halt ?_)
                        refine Halt.go ?_
                        refine wpList_appd (v := .slice (some ⟨b9, o9, none⟩) (T'.length + 1) c9) rfl _ _ _ rfl Try.underlying31 hio hzo ho1 ho2 ho3 rfl (hl.alloc _) (m := 1) (news := [.int .i64 (a : Int)]) rfl rfl (cells_new _ _ _ rfl) (by simp [Value.oneCell']) (by unfold maxLen; omega) (by omega) ?_
                        rintro v7 w7 hs7 ho7 hv7
                        have hb7 : Below wo.heap.size wo w7 := (below_alloc hbl _).trans (ho7.below (by have := hbl.size; simp; omega) (fun i hi e => by have := hln i e; omega))
                        have hn7 : ∀ g', v7.ownBlock = some g' → wo.heap.size ≤ g' := fun g' hg' => by
                          rcases hv7 with e | e
                          · exact hln g' (by rw [← e]; exact hg')
                          · rw [e] at hg'; cases hg'; have := hbl.size; simp; omega
                        clear ho7 hv7 hl hln hbl
                        go_wp2
                        exact ⟨⟨q + 1, by omega, by go_num, by rw [HE.out, HLN.out, List.map_append]; exact hs7, hn7, hb7⟩, by simp [intOf]; omega⟩
                  · have hat : atL a (ns.take (q + 1)) = atL a (ns.take q) := by
                      rw [htk]; unfold atL
                      have : ((a : Int) = x) = False := by simp; omega
                      simp [this]
                    have HAT := Lib.hid hat
                    have bx : (x == (a : Int)) = false := by simpa using hxa
                    have bx2 : decide (x = (a : Int)) = false := by simpa using hxa
                    clear hat htk hxa
                    go_wp2
                    exact ⟨⟨q + 1, by omega, by go_num, by rw [HAT.out]; exact hl, hln, hbl⟩, by simp [intOf]; omega⟩
                · have hqe : q = ns.length := by omega
                  subst hqe
                  rw [List.take_length] at hl
                  go_wp2
                  exact ⟨⟨a + 1, by omega, by go_num, by rw [hTS.out]; exact hl, hln, hbl⟩, by simp [intOf]; omega⟩
            · have hae : a = 4 := by omega
              subst hae
              have hTI2 := HTI.out
              have hsl := (hTI2.below hbl).sl
              rw [← HNU.out] at hsl
              obtain ⟨la, lc, rfl⟩ := hl.form
              go_wp2_with (at_builtin; refine halt ?_)
              refine Halt.go ?_
              refine wpList_appd (v := .slice ta8 nu tc8) rfl _ _ _ rfl Try.underlying67 hjo hyo jo1 jo2 jo3 rfl (hsl.alloc _) (m := 1) (news := [.slice la (tellL 4 ns).length lc]) rfl rfl (cells_new _ _ _ rfl) (by simp [Value.oneCell']) (by unfold maxLen; omega) (by omega) ?_
              rintro v7 w7 hs7 ho7 hv7
              have hput := hTI2.put hBl.size (below_alloc hbl _) (hl.alloc _) hln (by rw [← HNU.out]; exact hs7) (by rw [← HNU.out]; exact ho7) (by rw [← HNU.out]; exact hv7)
              rw [← HTA.out] at hput
              have hbA := hBl.trans ((below_alloc hbl (.cells #[.slice la (tellL 4 ns).length lc] 31)).mono hBl.size)
              have hB7 : Below w2.heap.size w2 w7 := hbA.trans (ho7.below hbA.size (fun i hi e => by have := (hTI2.own i (by rw [← HNU.out]; exact e)).1; omega))
              clear ho7 hv7 hs7 hl hln hbl hsl hTI2
              go_wp2
              exact ⟨⟨k + 1, _, by omega, by go_num, hput, hB7⟩, by simp [intOf]; omega⟩
        · have hke : k = A := by omega
          subst hke
          have hTl : (tellAll (N.take k)).length = k := by unfold tellAll; rw [List.length_map, List.length_take, ← HVL.out]; omega
          have hPm := HPN.out _ hTl
          have hTl4 : Tells k (tellT (tellAll (N.take k))) := tells4 k _
          have hTln : ∀ l ∈ tellAll (N.take k), l.length ≤ 1000 := fun l hl => by
            obtain ⟨ns, _, rfl⟩ := List.mem_map.1 hl
            have := tellL_len 4 ns
            omega
          generalize tellAll (N.take k) = T at hPm hTl4 hTl hTI hTln
          obtain ⟨wt, rfl⟩ : ∃ wt : World, wt = wr := ⟨_, rfl⟩
          have hS3 : Sj w0 wt (fun b => w2.heap.size ≤ b ∧ b < wt.heap.size) jb J0 := (hS.turn (fun b hb e => by omega)).step hBl
          have hul : us.length = k := hTI.len.trans hTl
          obtain ⟨tb, tof, tcap, hv, _⟩ := hTI.sl.form' (by omega)
          rw [hul] at hv
          subst hv
          have HUL := Lib.hid hul
          have HTl := Lib.hid hTl
          clear hul hTl hS HPN
          go_wp2
          go_loopw [96] (fun i wr => ∃ (n : Nat) (J : Jb), n ≤ k ∧ i = .int .i64 n ∧ Sj w0 wr (fun b => w2.heap.size ≤ b ∧ b < wt.heap.size) jb J ∧ Pm k tt tc T B n J ∧ wt.heap.size ≤ wr.heap.size ∧ ToldIs w2.heap.size wt.heap.size wr (.slice (some ⟨tb, tof, none⟩) k tcap) T us) (fun i _ => k - (intOf i).toNat)
          case atStart => exact ⟨0, J0, Nat.zero_le _, rfl, hS3, hPm, Nat.le_refl _, hTI⟩
          case round =>
            clear hS3 hPm hTI
            obtain ⟨n, J, hn, rfl, hS, hP, hzr, hTI⟩ := hrel
            by_cases hnA : n < k
            · go_wp2_with fail
              refine hS.outs.mono ?_
              rintro e w3 ⟨⟨v, outs, rfl, ho⟩, hb3, _⟩
              obtain ⟨hd, hoe, hhd⟩ := ho.ex
              have hH := hhd.toL
              have hro := SL.rs eOut_len' ho.sl
              obtain ⟨oa, oc, rfl⟩ := ho.sl.form
              have hS3 : Sj w0 w3 (fun b => (w2.heap.size ≤ b ∧ b < wt.heap.size) ∨ (Value.slice oa outs.length oc).ownBlock = some b) jb J := (hS.turn (fun b hb e => by rcases e with e | e; exact e; have := ho.vn b e; omega)).step hb3
              have hTI3 := hTI.below hb3
              have hz3 := Nat.le_trans hzr hb3.size
              have hPn := pm_step hA ⟨ht1, ht2⟩ HTl.out hTl4 hP hH
              have hout := fun (x : Int × Mg) (hx : x ∈ outs) => pm_out hP hH (x := x) (by rw [← hoe]; exact hx)
              rw [← hoe] at hPn
              clear hS hb3 ho hhd hH hP hoe hTI
              have hol := hro.1
              unfold maxLen at hol
              go_wp2
              go_loopw [101] (fun i wi => ∃ p : Nat, p ≤ outs.length ∧ i = .int .i64 p ∧ Sj w0 wi (fun b => (w2.heap.size ≤ b ∧ b < wt.heap.size) ∨ (Value.slice oa outs.length oc).ownBlock = some b) jb ((outs.take p).foldl (ansP tt (tellT T)) J) ∧ RS wi 2 eOut (.slice oa outs.length oc) outs ∧ wt.heap.size ≤ wi.heap.size ∧ ToldIs w2.heap.size wt.heap.size wi (.slice (some ⟨tb, tof, none⟩) k tcap) T us) (fun i _ => outs.length - (intOf i).toNat)
              case atStart => exact ⟨0, Nat.zero_le _, rfl, by simpa using hS3, hro, hz3, hTI3⟩
              case round =>
                clear hS3 hro hTI3 hz3
                obtain ⟨p, hp, rfl, hS3, hro, hz3, hTI3⟩ := hrel
                by_cases hpN : p < outs.length
                · obtain ⟨_, a', c', hv, h2⟩ := id hro
                  obtain ⟨ob, oo, ha, hob, hcl⟩ := h2 (by omega)
                  simp only [Value.slice.injEq] at hv
                  obtain ⟨hv1, hv2, hv3⟩ := hv
                  clear hv2 hv3
                  rw [ha] at hv1
                  subst hv1
                  obtain ⟨⟨kk, m⟩, hx⟩ : ∃ x, outs[p]? = some x := ⟨_, List.getElem?_eq_getElem hpN⟩
                  have hm := hout _ (List.mem_of_getElem? hx)
                  have g0 := hcl p (kk, m) 0 _ hx rfl
                  have g1 := hcl p (kk, m) 1 _ hx rfl
                  rw [← Nat.add_assoc] at g0 g1
                  rw [Nat.add_zero] at g0
                  simp only at hm g0 g1
                  have hnx : (outs.take (p + 1)).foldl (ansP tt (tellT T)) J = ansP tt (tellT T) ((outs.take p).foldl (ansP tt (tellT T)) J) (kk, m) := by
                    rw [List.take_add_one, hx, List.foldl_append]; rfl
                  have HN := Lib.hid hnx
                  generalize (outs.take p).foldl (ansP tt (tellT T)) J = J3 at hS3 HN
                  have hA4 := below_alloc (Below.refl wr.heap.size wr) (.cells #[.int .i64 kk, val m] 58)
                  clear hcl hx hnx h2 ha hout
                  rcases hm with ⟨t, j, rfl, hk0, hkA⟩ | ⟨t, j, c, pv, ps, rfl⟩ | ⟨t, j, rfl⟩ | ⟨t, j, rfl⟩
                  · obtain ⟨kn, rfl⟩ : ∃ kn : Nat, kk = kn := ⟨kk.toNat, by omega⟩
                    obtain ⟨u, hu⟩ : ∃ u, us[kn]? = some u := ⟨_, List.getElem?_eq_getElem (by have := HUL.out; omega)⟩
                    obtain ⟨row, hrow⟩ : ∃ row, T[kn]? = some row := ⟨_, List.getElem?_eq_getElem (by have := HTl.out; omega)⟩
                    have HTR := Lib.hid (show tellT T kn = row by unfold tellT; rw [List.getD_eq_getElem?_getD, Int.toNat_natCast, hrow]; rfl)
                    obtain ⟨ra, rc, rfl⟩ := (hTI3.row kn u row hu hrow).1.form
                    have hS4 : Sj w0 wr (fun b => ((w2.heap.size ≤ b ∧ b < wt.heap.size) ∨ (Value.slice (some ⟨ob, oo, none⟩) outs.length oc).ownBlock = some b) ∨ b = wr.heap.size) jb J3 := hS3.turn (fun b hb e => by rcases e with e | e; exact e; omega)
                    simp only [val] at g1 hA4
                    have hA5 := below_alloc hA4 (.cells #[.int .i64 t, .int .i64 j] 70)
                    have hz5 : wr.heap.size < ((wr.alloc (.cells #[.int .i64 (kn : Int), .iface 70 (.agg #[.int .i64 t, .int .i64 j])] 58)).alloc (.cells #[.int .i64 t, .int .i64 j] 70)).heap.size := by simp; omega
                    have p0 := cell_alloc (cell_blk (heap_new wr (.cells #[.int .i64 (kn : Int), .iface 70 (.agg #[.int .i64 t, .int .i64 j])] 58) rfl) (j := 0) (u := .int .i64 (kn : Int)) rfl) (.cells #[.int .i64 t, .int .i64 j] 70)
                    go_wp2_with fail
                    generalize ((wr.alloc (.cells #[.int .i64 (kn : Int), .iface 70 (.agg #[.int .i64 t, .int .i64 j])] 58)).alloc (.cells #[.int .i64 t, .int .i64 j] 70)) = W4 at hA5 hz5 p0 ⊢
                    have hA6 : Below wr.heap.size wr W4.drew := hA5.drew
                    have hS6 := hS4.step hA6
                    have hTI6 := hTI3.below hA6
                    have hr6 := hro.only (only_of_below hA6 (fun _ => False)) (fun _ _ => id)
                    have hrw6 := SL.ints (hTI6.row kn _ row hu hrow).1
                    have hsl6 := hTI6.sl
                    rw [HUL.out] at hsl6
                    have hown := hTI6.own tb rfl
                    have hK6 : ∀ b, (((w2.heap.size ≤ b ∧ b < wt.heap.size) ∨ (Value.slice (some ⟨ob, oo, none⟩) outs.length oc).ownBlock = some b) ∨ b = wr.heap.size) → b < W4.drew.heap.size := fun b e => by
                      have hz6 : wr.heap.size < W4.drew.heap.size := hz5
                      rcases e with (⟨_, e⟩ | e) | e
                      · omega
                      · simp [Value.ownBlock] at e; omega
                      · omega
                    have q0 : W4.drew.cell? ⟨wr.heap.size, 0, none⟩ = some (.int .i64 (kn : Int)) := p0
                    have q1 : W4.drew.cell? ⟨w.heap.size, 1, none⟩ = some (.int .i64 tt) := by rw [hS6.bel.cell (p := ⟨w.heap.size, 1, none⟩) hwt0]; exact CT1.out
                    have q2 : W4.drew.cell? ⟨tb, tof + kn, none⟩ = some (.slice ra row.length rc) := hsl6.cell hu
                    have hz6 : wr.heap.size < W4.drew.heap.size := hz5
                    have hrl : row.length ≤ maxLen := hrw6.1
                    unfold maxLen at hrl
                    clear hA4 hA5 hz5 p0 hS3 hS4 g0 g1 hu hrow hsl6
                    go_region_held3 (fun w' => w'.cell? ⟨wr.heap.size, 0, none⟩ = some (.int .i64 (kn : Int)) ∧ w'.cell? ⟨w.heap.size, 1, none⟩ = some (.int .i64 tt) ∧ w'.cell? ⟨tb, tof + kn, none⟩ = some (.slice ra row.length rc)) (first | exact ⟨q0, q1, q2⟩ | exact ⟨y0, y1, y2⟩)
                      (first
                      | (go_at_call 21
                         refine (hS6.hear (m := .pinned ⟨(kn : Int), tt, 1, 0, .slice ra row.length rc, row, false⟩) hK6 hrw6 trivial rfl).mono ?_
                         rintro e w7 ⟨rfl, hS7, hO7⟩
                         have y0 : w7.cell? ⟨wr.heap.size, 0, none⟩ = some (.int .i64 (kn : Int)) := by rw [World.cell?_of_block (w := W4.drew) (hO7.block _ hz6 (fun e => e.2 (.inr rfl)))]; exact q0
                         have y1 : w7.cell? ⟨w.heap.size, 1, none⟩ = some (.int .i64 tt) := by rw [hS7.bel.cell (p := ⟨w.heap.size, 1, none⟩) hwt0]; exact CT1.out
                         have y2 : w7.cell? ⟨tb, tof + kn, none⟩ = some (.slice ra row.length rc) := by rw [World.cell?_of_block (w := W4.drew) (hO7.block tb (World.block_lt_of_cell? _ _ q2) (fun e => e.2 (.inl (.inl hown))))]; exact q2)
                      | fail)
                    have hr7 := hr6.only hO7 (fun b hb e => e.2 (.inl (.inr hb)))
                    have hTI7 := hTI6.only hO7 (fun b h1 h2 e => e.2 (.inl (.inl ⟨h1, h2⟩)))
                    have hz7 : wt.heap.size ≤ w7.heap.size := by have := hO7.size; have : wr.heap.size < W4.drew.heap.size := hz6; omega
                    clear hr6 hTI6 hO7 hrw6 q0 q1 q2 y0 y1 y2 hS6 hA6
                    go_wp2
                    exact ⟨⟨p + 1, by omega, by go_num, by rw [HN.out]; unfold ansP ansJ; simp only; rw [HTR.out]; exact hS7.turn (fun b _ e => .inl e), hr7, hz7, hTI7⟩, by simp [intOf]; omega⟩
                  · simp only [val] at g1 hA4
                    have hA5 := below_alloc hA4 (.cells #[.int .i64 0, .int .i64 0] 70)
                    have hS5 := hS3.step hA5
                    have hTI5 := hTI3.below hA5
                    have hr5 := hro.only (only_of_below hA5 (fun _ => False)) (fun _ _ => id)
                    have hz5 := Nat.le_trans hz3 hA5.size
                    clear hS3 hTI3 hro hz3 hA5 hA4
                    go_wp2
                    exact ⟨⟨p + 1, by omega, by go_num, by rw [HN.out]; exact hS5, hr5, hz5, hTI5⟩, by simp [intOf]; omega⟩
                  · simp only [val] at g1 hA4
                    have hA5 := below_alloc hA4 (.cells #[.int .i64 0, .int .i64 0] 70)
                    have hS5 := hS3.step hA5
                    have hTI5 := hTI3.below hA5
                    have hr5 := hro.only (only_of_below hA5 (fun _ => False)) (fun _ _ => id)
                    have hz5 := Nat.le_trans hz3 hA5.size
                    clear hS3 hTI3 hro hz3 hA5 hA4
                    go_wp2
                    exact ⟨⟨p + 1, by omega, by go_num, by rw [HN.out]; exact hS5, hr5, hz5, hTI5⟩, by simp [intOf]; omega⟩
                  · simp only [val] at g1 hA4
                    have hA5 := below_alloc hA4 (.cells #[.int .i64 0, .int .i64 0] 70)
                    have hS5 := hS3.step hA5
                    have hTI5 := hTI3.below hA5
                    have hr5 := hro.only (only_of_below hA5 (fun _ => False)) (fun _ _ => id)
                    have hz5 := Nat.le_trans hz3 hA5.size
                    clear hS3 hTI3 hro hz3 hA5 hA4
                    go_wp2
                    exact ⟨⟨p + 1, by omega, by go_num, by rw [HN.out]; exact hS5, hr5, hz5, hTI5⟩, by simp [intOf]; omega⟩
                · have hpe : p = outs.length := by omega
                  subst hpe
                  rw [List.take_length] at hS3
                  have hS5 : Sj w0 wr (fun b => w2.heap.size ≤ b ∧ b < wt.heap.size) jb (outs.foldl (ansP tt (tellT T)) J) := hS3.turn (fun b _ e => .inl e)
                  clear hS3 hro
                  go_wp2
                  exact ⟨⟨n + 1, _, by omega, by go_num, hS5, hPn, hz3, hTI3⟩, by simp [intOf]; omega⟩
            · obtain ⟨e2, ef, hIR⟩ := pm_end hP HTl.out (by omega)
              have hne : n = k := by omega
              subst hne
              have bp : (J.ph == 2) = true := by simp [e2]
              have bp' : decide (J.ph = 2) = true := decide_eq_true e2
              have hright := fun (pv : Value) (ps : List Pt) (hs : ps.map strip = partsJ J) => pm_right (pv := pv) hP hTl4 hA ⟨ht1, ht2⟩ hc3 e2 hs
              clear hP e2
              go_wp2_with fail
              refine (hS.mani_yes ef).mono ?_
              rintro e w5 ⟨⟨pv, ps, rfl, hpn⟩, hb5, hS5⟩
              have hst := hpn.st
              have hpl : ps.length = (J.vs.map Prod.fst).length := by
                have e := congrArg List.length hpn.st
                simpa [partsJ] using e
              have hpts := hpn.pts
              obtain ⟨pa, pc, rfl⟩ := hpn.sl.form
              have hpm := hpn.sl.le
              have hTI5 := hTI.below hb5
              rw [hpl] at hpts hpm ⊢
              have hpm6 : ps.length ≤ 1000000 := by
                rw [hpl, List.length_map]
                obtain ⟨_, ⟨_, _, _, hJ⟩, _⟩ := id hS
                have := hJ.vlen
                omega
              obtain ⟨V, hV⟩ : ∃ V, V = J.vs.map Prod.fst := ⟨_, rfl⟩
              rw [← hV] at hIR hpts hpm ⊢
              have HV := Lib.hid hV
              have hr := hright (.slice pa V.length pc) ps hst
              clear hst hright
              unfold maxLen at hpm
              have hA6 := below_alloc (Below.refl w5.heap.size w5) (.cells #[.int .i64 J.tr, .int .i64 J.id, .int .i64 J.cl, .slice pa V.length pc] 62)
              have hbx := heap_new w5 (.cells #[.int .i64 J.tr, .int .i64 J.id, .int .i64 J.cl, .slice pa V.length pc] 62) rfl
              clear hV hpl hpn hS hTI
              go_wp2_with fail
              generalize (w5.alloc (.cells #[.int .i64 J.tr, .int .i64 J.id, .int .i64 J.cl, .slice pa V.length pc] 62)) = W6 at hA6 hbx ⊢
              have hA7 : Below w5.heap.size w5 W6.drew := hA6.drew
              have hS7 := hS5.step hA7
              have hTI7 := hTI5.below hA7
              have hpt7 := Pts.only hpts (only_of_below hA7 (fun _ => False)) (fun _ _ => id) (fun _ _ _ _ => id)
              have q0 : W6.drew.cell? ⟨w.heap.size, 0, none⟩ = some (.int .i64 B) := by rw [hS7.bel.cell (p := ⟨w.heap.size, 0, none⟩) hwt0]; exact CT0.out
              have m0 : W6.drew.cell? ⟨w5.heap.size, 0, none⟩ = some (.int .i64 J.tr) := cell_blk (w := W6) hbx rfl
              have m1 : W6.drew.cell? ⟨w5.heap.size, 1, none⟩ = some (.int .i64 J.id) := cell_blk (w := W6) hbx rfl
              have m2 : W6.drew.cell? ⟨w5.heap.size, 2, none⟩ = some (.int .i64 J.cl) := cell_blk (w := W6) hbx rfl
              have m3 : W6.drew.cell? ⟨w5.heap.size, 3, none⟩ = some (.slice pa V.length pc) := cell_blk (w := W6) hbx rfl
              generalize w5.heap.size = mb at m0 m1 m2 m3 ⊢
              have hph7 := hS7.phase
              have bV : ((V.length : Int) == (V.length : Int)) = true := by simp
              have bV' : (V.length == V.length) = true := by simp
              clear hA6 hbx hA7 hS5 hTI5 hpts hb5
              go_region_held3 (fun w' => w'.cell? ⟨w.heap.size, 0, none⟩ = some (.int .i64 B) ∧ w'.cell? ⟨mb, 0, none⟩ = some (.int .i64 J.tr) ∧ w'.cell? ⟨mb, 1, none⟩ = some (.int .i64 J.id) ∧ w'.cell? ⟨mb, 2, none⟩ = some (.int .i64 J.cl) ∧ w'.cell? ⟨mb, 3, none⟩ = some (.slice pa V.length pc))
                (first | exact ⟨q0, m0, m1, m2, m3⟩ | exact ⟨x0, x1, x2, x3, x4⟩ | exact ⟨y0, y1, y2, y3, y4⟩ | exact ⟨z0, z1, z2, z3, z4⟩ | exact ⟨s0, s1, s2, s3, s4⟩ | exact ⟨t0, t1, t2, t3, t4⟩)
                (first
                | (go_at_call 35
                   have tok := s0
                   refine (right_any w11 (.mani J.tr J.id J.cl (.slice pa V.length pc) ps) hpt11 hpm6).mono ?_
                   rintro e w12 ⟨rfl, hb12⟩
                   rw [hr]
                   have t0 : w12.cell? ⟨w.heap.size, 0, none⟩ = some (.int .i64 B) := by rw [hb12.cell (World.block_lt_of_cell? _ _ s0)]; exact s0
                   have t1 : w12.cell? ⟨mb, 0, none⟩ = some (.int .i64 J.tr) := by rw [hb12.cell (World.block_lt_of_cell? _ _ s1)]; exact s1
                   have t2 : w12.cell? ⟨mb, 1, none⟩ = some (.int .i64 J.id) := by rw [hb12.cell (World.block_lt_of_cell? _ _ s2)]; exact s2
                   have t3 : w12.cell? ⟨mb, 2, none⟩ = some (.int .i64 J.cl) := by rw [hb12.cell (World.block_lt_of_cell? _ _ s3)]; exact s3
                   have t4 : w12.cell? ⟨mb, 3, none⟩ = some (.slice pa V.length pc) := by rw [hb12.cell (World.block_lt_of_cell? _ _ s4)]; exact s4)
                | (go_at_call 28
                   have tok := z0
                   refine (Sj.visited hS10).mono ?_
                   rintro e w11 ⟨⟨v11, rfl, hr11, hn11⟩, hb11, hS11⟩
                   rw [← HV.out] at hr11
                   obtain ⟨_, a11, c11, rfl, _⟩ := id hr11
                   have hpt11 := Pts.only hpt10 (only_of_below hb11 (fun _ => False)) (fun _ _ => id) (fun _ _ _ _ => id)
                   have s0 : w11.cell? ⟨w.heap.size, 0, none⟩ = some (.int .i64 B) := by rw [hb11.cell (World.block_lt_of_cell? _ _ z0)]; exact z0
                   have s1 : w11.cell? ⟨mb, 0, none⟩ = some (.int .i64 J.tr) := by rw [hb11.cell (World.block_lt_of_cell? _ _ z1)]; exact z1
                   have s2 : w11.cell? ⟨mb, 1, none⟩ = some (.int .i64 J.id) := by rw [hb11.cell (World.block_lt_of_cell? _ _ z2)]; exact z2
                   have s3 : w11.cell? ⟨mb, 2, none⟩ = some (.int .i64 J.cl) := by rw [hb11.cell (World.block_lt_of_cell? _ _ z3)]; exact z3
                   have s4 : w11.cell? ⟨mb, 3, none⟩ = some (.slice pa V.length pc) := by rw [hb11.cell (World.block_lt_of_cell? _ _ z4)]; exact z4)
                | (go_at_call 27
                   have tok := y0
                   refine (sameInts_any hr9 hs9).mono ?_
                   rintro e w10 ⟨rfl, q10, rfl⟩
                   rw [decide_eq_true rfl]
                   have hb10 := belowN (Below.refl w9.heap.size w9) q10
                   have hS10 := Sj.step hS9 hb10
                   have hpt10 := Pts.only hpt9 (only_of_below hb10 (fun _ => False)) (fun _ _ => id) (fun _ _ _ _ => id)
                   have z0 : (w9.drewN q10).cell? ⟨w.heap.size, 0, none⟩ = some (.int .i64 B) := y0
                   have z1 : (w9.drewN q10).cell? ⟨mb, 0, none⟩ = some (.int .i64 J.tr) := y1
                   have z2 : (w9.drewN q10).cell? ⟨mb, 1, none⟩ = some (.int .i64 J.id) := y2
                   have z3 : (w9.drewN q10).cell? ⟨mb, 2, none⟩ = some (.int .i64 J.cl) := y3
                   have z4 : (w9.drewN q10).cell? ⟨mb, 3, none⟩ = some (.slice pa V.length pc) := y4)
                | (go_at_call 34
                   have tok := x0
                   refine (Crumb.refReach_any (ToldIs.nm hTI8) (by rw [HTl.out]; omega) hTln B).mono ?_
                   rintro e w9 ⟨u9, L, rfl, hs9', hL, hn9, hb9⟩
                   obtain rfl := hIR.ext hL
                   have hs9 := SL.ints hs9'
                   have hr9 : RS w9 1 eInt v8 V := hr8.only (only_of_below hb9 (fun _ => False)) (fun _ _ => id)
                   have hS9 := Sj.step hS8 hb9
                   have hpt9 := Pts.only hpt8 (only_of_below hb9 (fun _ => False)) (fun _ _ => id) (fun _ _ _ _ => id)
                   have y0 : w9.cell? ⟨w.heap.size, 0, none⟩ = some (.int .i64 B) := by rw [hb9.cell (World.block_lt_of_cell? _ _ x0)]; exact x0
                   have y1 : w9.cell? ⟨mb, 0, none⟩ = some (.int .i64 J.tr) := by rw [hb9.cell (World.block_lt_of_cell? _ _ x1)]; exact x1
                   have y2 : w9.cell? ⟨mb, 1, none⟩ = some (.int .i64 J.id) := by rw [hb9.cell (World.block_lt_of_cell? _ _ x2)]; exact x2
                   have y3 : w9.cell? ⟨mb, 2, none⟩ = some (.int .i64 J.cl) := by rw [hb9.cell (World.block_lt_of_cell? _ _ x3)]; exact x3
                   have y4 : w9.cell? ⟨mb, 3, none⟩ = some (.slice pa V.length pc) := by rw [hb9.cell (World.block_lt_of_cell? _ _ x4)]; exact x4)
                | (go_at_call 28
                   refine (Sj.visited hS7).mono ?_
                   rintro e w8 ⟨⟨v8, rfl, hr8, hn8⟩, hb8, hS8⟩
                   rw [← HV.out] at hr8
                   have hTI8 := ToldIs.below hTI7 hb8
                   have hpt8 := Pts.only hpt7 (only_of_below hb8 (fun _ => False)) (fun _ _ => id) (fun _ _ _ _ => id)
                   have x0 : w8.cell? ⟨w.heap.size, 0, none⟩ = some (.int .i64 B) := by rw [hb8.cell (World.block_lt_of_cell? _ _ q0)]; exact q0
                   have x1 : w8.cell? ⟨mb, 0, none⟩ = some (.int .i64 J.tr) := by rw [hb8.cell (World.block_lt_of_cell? _ _ m0)]; exact m0
                   have x2 : w8.cell? ⟨mb, 1, none⟩ = some (.int .i64 J.id) := by rw [hb8.cell (World.block_lt_of_cell? _ _ m1)]; exact m1
                   have x3 : w8.cell? ⟨mb, 2, none⟩ = some (.int .i64 J.cl) := by rw [hb8.cell (World.block_lt_of_cell? _ _ m2)]; exact m2
                   have x4 : w8.cell? ⟨mb, 3, none⟩ = some (.slice pa V.length pc) := by rw [hb8.cell (World.block_lt_of_cell? _ _ m3)]; exact m3)
                | (go_at_call 25
                   refine hph7.mono ?_
                   rintro e w7 ⟨rfl, rfl⟩)
                | fail)
              have hbe := below_trans' ((hS11.step hb12).bel) hT
              clear hS7 hS8 hS9 hS10 hS11 hb8 hb9 hb10 hb11 hb12
              go_wp2
              go_ret
              exact ⟨rfl, hbe⟩
    · have b1 : decide ((vs.length : Int) < (A : Int)) = true := decide_eq_true (by omega)
      have h2 := below_trans' hS.bel hT
      clear hbt hS HPN
      go_wp2_with fail
      refine (awake_any _).mono ?_
      rintro e w3 ⟨rfl, hb3⟩
      have h3 := below_trans' hb3 h2
      go_wp2
      go_ret
      exact ⟨rfl, h3⟩
end Go.Proofs.Ytniggacgkhkgiaa.Job
