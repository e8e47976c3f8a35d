/- What job's Outs says. Conditions: the job lies in memory as JbR says. -/
import Derived.Test.YtniggacgkhkgiaaJob4
import Derived.Outline
import Derived.Deep.RegionLaw
import Derived.BigRegion
namespace Go.Sp
open Go.RowKit
/-- what is still to be said to an agent -/
def outV (J : Jb) (x : Int × Vis) : List (Int × Mg) :=
  bif decide (J.ph = 1) && !x.2.pin then [(x.1, .pin J.tr J.id)] else bif decide (J.ph = 2) then [(x.1, .coll J.tr J.id)] else bif decide (J.ph = 3) && !x.2.free then [(x.1, .unp J.tr J.id)] else []
def outsT (J : Jb) : List (Int × Mg) := J.vs.flatMap (outV J)
def manOut (J : Jb) : Bool := J.full && decide (J.ph = 2)
end Go.Sp
namespace Go.Proofs.Ytniggacgkhkgiaa.Job
open Go.RowKit Go.Sp Msg
def eOut (x : Int × Mg) : List Value := [.int .i64 x.1, val x.2]
theorem eOut_len (x : Int × Mg) : (eOut x).length = 2 := rfl
/-- the manifest, if it is to be said -/
def HeadIs (w0 w : World) (J : Jb) (hd : List (Int × Mg)) : Prop := (manOut J = false ∧ hd = []) ∨ (manOut J = true ∧ ∃ pv ps, hd = [(-1, .mani J.tr J.id J.cl pv ps)] ∧ PtsNew w0 w pv ps (partsJ J))
theorem HeadIs.below {w0 w w1 : World} {J : Jb} {hd : List (Int × Mg)} (h : HeadIs w0 w J hd) (hb : Below w.heap.size w w1) : HeadIs w0 w1 J hd := by
  rcases h with h | ⟨h1, pv, ps, h2, h3⟩
  · exact .inl h
  · exact .inr ⟨h1, pv, ps, h2, h3.below hb⟩
theorem HeadIs.len {w0 w : World} {J : Jb} {hd : List (Int × Mg)} (h : HeadIs w0 w J hd) : hd.length ≤ 1 := by
  rcases h with ⟨_, rfl⟩ | ⟨_, _, _, rfl, _⟩ <;> simp
structure OutsNew (w0 w : World) (J : Jb) (v : Value) (outs : List (Int × Mg)) : Prop where
  sl : SL w.heap 58 2 v outs.length (outs.flatMap eOut)
  vn : ∀ g, v.ownBlock = some g → w0.heap.size ≤ g
  ex : ∃ hd, outs = hd ++ outsT J ∧ HeadIs w0 w J hd
theorem outV_len (J : Jb) (x : Int × Vis) : (outV J x).length ≤ 1 := by
  unfold outV
  cases decide (J.ph = 1) && !x.2.pin <;> cases decide (J.ph = 2) <;> cases decide (J.ph = 3) && !x.2.free <;> simp
theorem outTo_len (J : Jb) : ∀ l : List (Int × Vis), (l.flatMap (outV J)).length ≤ l.length
  | [] => by simp
  | x :: r => by
    rw [List.flatMap_cons, List.length_append, List.length_cons]
    have := outV_len J x
    have := outTo_len J r
    omega

section
variable {w : World} {R : Nat → Prop} {jb : Nat} {J : Jb}
/-- Manifest, either way -/
theorem mani_any (h : JbR w R jb J) : Calls Try.prog 32 #[.pointer (some ⟨jb, 0, none⟩)] w fun e w' => (∃ t i c a n cap, e = .returned (.tuple #[.agg #[.int .i64 t, .int .i64 i, .int .i64 c, .slice a n cap], .bool J.full]) ∧ (J.full = true → t = J.tr ∧ i = J.id ∧ c = J.cl ∧ ∃ ps, PtsNew w w' (.slice a n cap) ps (partsJ J))) ∧ Below w.heap.size w w' := by
  cases hf : J.full with
  | false =>
    refine (mani_no h hf).mono ?_
    rintro e w' ⟨rfl, hb⟩
    exact ⟨⟨0, 0, 0, none, 0, 0, rfl, fun e => by cases e⟩, hb⟩
  | true =>
    refine (mani_yes h hf).mono ?_
    rintro e w' ⟨⟨pv, ps, rfl, hP⟩, hb⟩
    obtain ⟨a, c, rfl⟩ := hP.sl.form
    exact ⟨⟨_, _, _, a, _, c, rfl, fun _ => ⟨rfl, rfl, rfl, ps, hP⟩⟩, hb⟩

set_option maxRecDepth 100000 in
set_option maxHeartbeats 4000000 in
theorem outs_any (h : JbR w R jb J) : Calls Try.prog 24 #[.pointer (some ⟨jb, 0, none⟩)] w fun e w' => ∃ v outs, e = .returned v ∧ OutsNew w w' J v outs ∧ Below w.heap.size w w' := by
  obtain ⟨io, zo, hio, hzo, ho1, ho2, ho3⟩ := info_at (P := Try.prog) (e := 58) (f := (2, 24, 2)) (by kernel_rfl)
  have hRlt := h.lt
  go_enter Try.func24, Try.ntmps24
  go_wp2_with fail
  refine (mani_any h).mono ?_
  rintro e w1 ⟨⟨mt, mi, mc, ma, mn, mcap, rfl, hman⟩, hb1⟩
  have hA := below_alloc hb1 (.cells #[.int .i64 mt, .int .i64 mi, .int .i64 mc, .slice ma mn mcap] 62)
  have hbx := heap_new w1 (.cells #[.int .i64 mt, .int .i64 mi, .int .i64 mc, .slice ma mn mcap] 62) rfl
  have hA1 := below_alloc (Below.refl w1.heap.size w1) (.cells #[.int .i64 mt, .int .i64 mi, .int .i64 mc, .slice ma mn mcap] 62)
  go_upto_region 4 with fail
  generalize (w1.alloc (.cells #[.int .i64 mt, .int .i64 mi, .int .i64 mc, .slice ma mn mcap] 62)) = w2 at hA hbx hA1 ⊢
  have hman2 : J.full = true → mt = J.tr ∧ mi = J.id ∧ mc = J.cl ∧ ∃ ps, PtsNew w w2 (.slice ma mn mcap) ps (partsJ J) := fun e => by
    obtain ⟨e1, e2, e3, ps, hP⟩ := hman e
    exact ⟨e1, e2, e3, ps, hP.below hA1⟩
  have HMAN := Lib.hid hman2
  clear hman hman2 hA1
  have hlt1 : w1.heap.size < w2.heap.size := (Array.getElem?_eq_some_iff.1 hbx).1
  have hsw1 := hb1.size
  generalize w1.heap.size = x1 at hbx hlt1 hsw1 ⊢
  clear hb1
  have h2 := h.below hA
  have c4 := jcell h (j := 4) (u := .int .i64 J.ph) (fun _ => rfl) w2 hA
  go_cut [4, 22] (fun _ s wx => s = .bool (manOut J) ∧ wx = w2)
  case first =>
    clear h h2 hbx
    cases hf : J.full with
    | false =>
      have HE := Lib.hid (show manOut J = false by simp [manOut, hf])
      clear hf
      go_wp2_with fail
      go_meet
      exact ⟨by rw [HE.out], rfl⟩
    | true =>
      by_cases h2 : J.ph = 2
      · have b1 : (J.ph == 2) = true := by simp [h2]
        have HE := Lib.hid (show manOut J = true by simp [manOut, hf, h2])
        clear hf h2
        go_wp2_with fail
        go_meet
        exact ⟨by rw [HE.out], rfl⟩
      · have b1 : (J.ph == 2) = false := by simp [h2]
        have HE := Lib.hid (show manOut J = false by simp [manOut, hf, h2])
        clear hf h2
        go_wp2_with fail
        go_meet
        exact ⟨by rw [HE.out], rfl⟩
  case rest =>
    obtain ⟨rfl, rfl⟩ := hcut
    clear c4
    obtain ⟨xc, hxc⟩ : ∃ xc, xc = wc.heap.size := ⟨_, rfl⟩
    have hwx : w.heap.size ≤ xc := by rw [hxc]; exact hA.size
    have HXC := Lib.hid hxc
    clear hxc
    go_upto_if 22 with fail
    go_cut [2] (fun v w3 => ∃ hd, SL w3.heap 58 2 v hd.length (hd.flatMap eOut) ∧ (∃ wm : World, wm.heap.size = xc ∧ HeadIs w wm J hd ∧ Below wm.heap.size wm w3) ∧ Below w.heap.size w w3 ∧ xc ≤ w3.heap.size ∧ ∀ g, v.ownBlock = some g → xc ≤ g)
    case first =>
      cases hm : manOut J with
      | false =>
        have HI : HeadIs w wc J [] := .inl ⟨hm, rfl⟩
        clear hm h h2
        go_wp2_with fail
        go_meet
        exact ⟨[], SL.nil _ _ _, ⟨wc, HXC.out.symm, HI, Below.refl _ _⟩, hA, by rw [HXC.out]; exact Nat.le_refl _, fun g hg => by simp [Value.ownBlock] at hg⟩
      | true =>
        obtain ⟨rfl, rfl, rfl, ps, hP⟩ := HMAN.out (by simp [manOut] at hm; exact hm.1)
        have m0 := cell_blk hbx (j := 0) (u := .int .i64 J.tr) rfl
        have m1 := cell_blk hbx (j := 1) (u := .int .i64 J.id) rfl
        have m2 := cell_blk hbx (j := 2) (u := .int .i64 J.cl) rfl
        have m3 := cell_blk hbx (j := 3) (u := .slice ma mn mcap) rfl
        have HM := Lib.hid hm
        clear hm h h2 hbx
        go_wp2_with (at_builtin; refine halt ?_)
        refine Halt.go ?_
        refine wpList_appd (v := .slice none 0 0) rfl _ _ _ rfl Try.underlying49 hio hzo ho1 ho2 ho3 rfl (SL.nil _ _ _) (m := 1) (news := eOut (-1, .mani J.tr J.id J.cl (.slice ma mn mcap) ps)) rfl rfl (cells_new _ _ _ rfl) (by simp [eOut, val, Value.oneCell']) (by unfold maxLen; omega) (by omega) ?_
        rintro v7 w7 hs7 ho7 hv7
        have hb7 : Below wc.heap.size wc w7 := (below_alloc (Below.refl _ _) _).trans (ho7.below (by simp) fun i hi e => by simp [Value.ownBlock] at e)
        have hn7 : ∀ g, v7.ownBlock = some g → wc.heap.size ≤ g := fun g hg => by
          rcases hv7 with e | e
          · rw [e] at hg; simp [Value.ownBlock] at hg
          · rw [e] at hg; simp at hg; omega
        have HS7 := Lib.hid hs7
        clear hs7 ho7 hv7
        go_wp2_with fail
        go_meet
        exact ⟨[(-1, .mani J.tr J.id J.cl (.slice ma mn mcap) ps)], by simpa using HS7.out, ⟨wc, HXC.out.symm, .inr ⟨HM.out, _, ps, rfl, hP⟩, hb7⟩, below_trans' hb7 hA, by rw [HXC.out]; exact hb7.size, fun g hg => by rw [HXC.out]; exact hn7 g hg⟩
    case rest =>
      obtain ⟨hd, hsd, ⟨wm, hxm, hHI, hbm⟩, hb3, hxw, hn3⟩ := hcut
      have HXM := Lib.hid hxm
      clear hxm
      have hhl := hHI.len
      clear HMAN hbx hA h2 hlt1
      obtain ⟨w3, hw3⟩ : ∃ w3 : World, w3 = wc := ⟨_, rfl⟩
      subst hw3
      have h3 := h.below hb3
      have hsw3 := hb3.size
      go_wp2_with fail
      refine (visited_any h3).mono ?_
      rintro e w5 ⟨v5, rfl, hr5, hn5, hb5⟩
      have hw5 := below_trans' hb5 hb3
      have hsz5 := hb5.size
      have hs0 := hsd.only (only_of_below hb5 (fun _ => False)) (fun _ _ => id)
      have hbm5 := hbm.trans (hb5.mono hbm.size)
      have hn0 := hsd.lt
      obtain ⟨hl5, a5, c5, rfl, _⟩ := id hr5
      rw [List.length_map] at hr5 hn5 ⊢
      go_wp2
      go_loopw [32, 2] (fun i v wr => ∃ q : Nat, q ≤ J.vs.length ∧ i = .int .i64 q ∧ SL wr.heap 58 2 v (hd ++ (J.vs.take q).flatMap (outV J)).length ((hd ++ (J.vs.take q).flatMap (outV J)).flatMap eOut) ∧ (∀ g, v.ownBlock = some g → (xc ≤ g ∧ g < w3.heap.size) ∨ w5.heap.size ≤ g) ∧ Only (fun b => xc ≤ b ∧ b < w3.heap.size) w5 wr) (fun i _ _ => J.vs.length - (intOf i).toNat)
      case atStart => exact ⟨0, Nat.zero_le _, rfl, by simpa using hs0, fun g hg => .inl ⟨hn3 g hg, hn0 g hg⟩, Only.refl _ _⟩
      case round =>
        obtain ⟨q, hq, rfl, hsl, hvn, hO⟩ := hrel
        clear hs0 hn3 hn0 hsd
        have hol : (hd ++ (J.vs.take q).flatMap (outV J)).length ≤ 1 + q := by
          have := outTo_len J (J.vs.take q)
          rw [List.length_append]
          rw [List.length_take] at this
          omega
        by_cases hqN : q < J.vs.length
        · have hJ0 := (h3.below hb5).only hO (fun b hb e => by have := hRlt b hb; omega)
          obtain ⟨D, mb, rows, hJ⟩ := hJ0
          have hvl := hJ.vlen
          have hrk := hr5.only hO (fun g hg e => by have := hn5 g hg; omega)
          obtain ⟨⟨k, v⟩, hx⟩ : ∃ x, J.vs[q]? = some x := ⟨_, List.getElem?_eq_getElem hqN⟩
          have hxk : (J.vs.map Prod.fst)[q]? = some k := by rw [List.getElem?_map, hx]; rfl
          obtain ⟨_, a', c', hv', h2'⟩ := hrk
          obtain ⟨b3, o3, ha3, hb3l, hc3⟩ := h2' (by rw [List.length_map]; omega)
          simp only [Value.slice.injEq] at hv'
          obtain ⟨rfl, hbad, rfl⟩ := hv'
          clear hbad
          subst ha3
          have gk : wr.cell? ⟨b3, o3 + q, none⟩ = some (.int .i64 k) := by have := hc3 q k 0 _ hxk rfl; simpa using this
          have hvk := mget_of_mem hJ.ks (List.mem_of_getElem? hx)
          obtain ⟨b, hkb⟩ := hJ.has' hvk
          obtain ⟨cv, hbv, _⟩ := hJ.vis k b v hkb hvk
          have lk := hJ.look k
          rw [hkb] at lk
          replace lk : (Instr.lookup 139 (.map (some mb)) (.int .i64 k) false).run Try.prog wr = .ok (.pointer (some ⟨b, 0, none⟩)) wr := lk
          have c5 := hJ.cell (j := 5) (u := .map (some mb)) rfl
          have c4 := hJ.cell (j := 4) (u := .int .i64 J.ph) rfl
          have c2 := hJ.cell (j := 2) (u := .int .i64 J.tr) rfl
          have c0 := hJ.cell (j := 0) (u := .int .i64 J.id) rfl
          have q0 := cell_blk hbv (j := 0) (u := .bool v.pin) rfl
          have q1 := cell_blk hbv (j := 1) (u := .bool v.free) rfl
          have HT := Lib.hid (show hd ++ (J.vs.take (q + 1)).flatMap (outV J) = (hd ++ (J.vs.take q).flatMap (outV J)) ++ outV J (k, v) by
            rw [List.take_add_one]
            simp [hx])
          clear hx hxk hc3 h2' hvk hkb hbv hJ
          by_cases p1 : J.ph = 1
          · have b1 : (J.ph == 1) = true := by simp [p1]
            have b2 : (J.ph == 2) = false := by simp [p1]
            have b3 : (J.ph == 3) = false := by simp [p1]
            cases hp : v.pin with
            | true =>
              rw [hp] at q0
              have HE := Lib.hid (show outV J (k, v) = [] by unfold outV; simp [p1, hp])
              have HT2 := Lib.hid (show hd ++ (J.vs.take (q + 1)).flatMap (outV J) = hd ++ (J.vs.take q).flatMap (outV J) by rw [HT.out, HE.out, List.append_nil])
              clear p1 hp
              go_wp2
              exact ⟨⟨q + 1, by omega, by go_num, by rw [HT2.out]; exact hsl, hvn, hO⟩, by simp [intOf]; omega⟩
            | false =>
              rw [hp] at q0
              have HE := Lib.hid (show outV J (k, v) = [(k, .pin J.tr J.id)] by unfold outV; simp [p1, hp])
              have HT2 := Lib.hid (show hd ++ (J.vs.take (q + 1)).flatMap (outV J) = (hd ++ (J.vs.take q).flatMap (outV J)) ++ [(k, .pin J.tr J.id)] by rw [HT.out, HE.out])
              clear p1 hp
              generalize hd ++ (J.vs.take q).flatMap (outV J) = OL at *
              go_wp2
              go_region_law
                ((refine step_appd (v := u2) rfl _ _ _ rfl Try.underlying49 hio hzo ho1 ho2 ho3 rfl ((hsl.alloc _).drew) (by omega) (m := 1) (news := eOut (k, .pin J.tr J.id)) rfl rfl (cells_new _ _ _ (by simp)) (by simp [eOut, val, Value.oneCell']) (by unfold maxLen; omega) (by omega) (by simp; rfl) ?_; intro b8 o8 c8 w8 hs8 ho8 hv8))
              all_goals (
                have hO8 := ((hO.alloc _).drew).trans' ho8 (fun i hi e => by
                  rcases hvn i e with h | h
                  · exact h
                  · omega)
                have hsz := hO.size
                have hn8 : ∀ g, (Value.slice (some ⟨b8, o8, none⟩) (OL.length + 1) c8).ownBlock = some g → (xc ≤ g ∧ g < w3.heap.size) ∨ w5.heap.size ≤ g := fun g hg => by
                  simp [Value.ownBlock] at hg
                  subst hg
                  rcases hv8 with e | e
                  · exact hvn _ e
                  · exact .inr (by omega)
                clear ho8 hv8 hsl hvn hO lk c5 c4 c2 c0 q0 q1 gk
                go_wp2
                exact ⟨⟨q + 1, by omega, by go_num, by rw [HT2.out, List.length_append, List.flatMap_append]; simpa using hs8, hn8, hO8⟩, by simp [intOf]; omega⟩)
          by_cases p2 : J.ph = 2
          · have b1 : (J.ph == 1) = false := by simp [p2]
            have b2 : (J.ph == 2) = true := by simp [p2]
            have b3 : (J.ph == 3) = false := by simp [p2]
            have HE := Lib.hid (show outV J (k, v) = [(k, .coll J.tr J.id)] by unfold outV; simp [p2])
            have HT2 := Lib.hid (show hd ++ (J.vs.take (q + 1)).flatMap (outV J) = (hd ++ (J.vs.take q).flatMap (outV J)) ++ [(k, .coll J.tr J.id)] by rw [HT.out, HE.out])
            clear p1 p2
            generalize hd ++ (J.vs.take q).flatMap (outV J) = OL at *
            go_wp2
            go_region_law
              ((refine step_appd (v := u2) rfl _ _ _ rfl Try.underlying49 hio hzo ho1 ho2 ho3 rfl ((hsl.alloc _).drew) (by omega) (m := 1) (news := eOut (k, .coll J.tr J.id)) rfl rfl (cells_new _ _ _ (by simp)) (by simp [eOut, val, Value.oneCell']) (by unfold maxLen; omega) (by omega) (by simp; rfl) ?_; intro b8 o8 c8 w8 hs8 ho8 hv8))
            all_goals (
              have hO8 := ((hO.alloc _).drew).trans' ho8 (fun i hi e => by
                rcases hvn i e with h | h
                · exact h
                · omega)
              have hsz := hO.size
              have hn8 : ∀ g, (Value.slice (some ⟨b8, o8, none⟩) (OL.length + 1) c8).ownBlock = some g → (xc ≤ g ∧ g < w3.heap.size) ∨ w5.heap.size ≤ g := fun g hg => by
                simp [Value.ownBlock] at hg
                subst hg
                rcases hv8 with e | e
                · exact hvn _ e
                · exact .inr (by omega)
              clear ho8 hv8 hsl hvn hO lk c5 c4 c2 c0 q0 q1 gk
              go_wp2
              exact ⟨⟨q + 1, by omega, by go_num, by rw [HT2.out, List.length_append, List.flatMap_append]; simpa using hs8, hn8, hO8⟩, by simp [intOf]; omega⟩)
          by_cases p3 : J.ph = 3
          · have b1 : (J.ph == 1) = false := by simp [p3]
            have b2 : (J.ph == 2) = false := by simp [p3]
            have b3 : (J.ph == 3) = true := by simp [p3]
            cases hp : v.free with
            | true =>
              rw [hp] at q1
              have HE := Lib.hid (show outV J (k, v) = [] by unfold outV; simp [p3, hp])
              have HT2 := Lib.hid (show hd ++ (J.vs.take (q + 1)).flatMap (outV J) = hd ++ (J.vs.take q).flatMap (outV J) by rw [HT.out, HE.out, List.append_nil])
              clear p1 p2 p3 hp
              go_wp2
              exact ⟨⟨q + 1, by omega, by go_num, by rw [HT2.out]; exact hsl, hvn, hO⟩, by simp [intOf]; omega⟩
            | false =>
              rw [hp] at q1
              have HE := Lib.hid (show outV J (k, v) = [(k, .unp J.tr J.id)] by unfold outV; simp [p3, hp])
              have HT2 := Lib.hid (show hd ++ (J.vs.take (q + 1)).flatMap (outV J) = (hd ++ (J.vs.take q).flatMap (outV J)) ++ [(k, .unp J.tr J.id)] by rw [HT.out, HE.out])
              clear p1 p2 p3 hp
              generalize hd ++ (J.vs.take q).flatMap (outV J) = OL at *
              go_wp2
              go_region_law
                ((refine step_appd (v := u2) rfl _ _ _ rfl Try.underlying49 hio hzo ho1 ho2 ho3 rfl ((hsl.alloc _).drew) (by omega) (m := 1) (news := eOut (k, .unp J.tr J.id)) rfl rfl (cells_new _ _ _ (by simp)) (by simp [eOut, val, Value.oneCell']) (by unfold maxLen; omega) (by omega) (by simp; rfl) ?_; intro b8 o8 c8 w8 hs8 ho8 hv8))
              all_goals (
                have hO8 := ((hO.alloc _).drew).trans' ho8 (fun i hi e => by
                  rcases hvn i e with h | h
                  · exact h
                  · omega)
                have hsz := hO.size
                have hn8 : ∀ g, (Value.slice (some ⟨b8, o8, none⟩) (OL.length + 1) c8).ownBlock = some g → (xc ≤ g ∧ g < w3.heap.size) ∨ w5.heap.size ≤ g := fun g hg => by
                  simp [Value.ownBlock] at hg
                  subst hg
                  rcases hv8 with e | e
                  · exact hvn _ e
                  · exact .inr (by omega)
                clear ho8 hv8 hsl hvn hO lk c5 c4 c2 c0 q0 q1 gk
                go_wp2
                exact ⟨⟨q + 1, by omega, by go_num, by rw [HT2.out, List.length_append, List.flatMap_append]; simpa using hs8, hn8, hO8⟩, by simp [intOf]; omega⟩)
          have b1 : (J.ph == 1) = false := by simp [p1]
          have b2 : (J.ph == 2) = false := by simp [p2]
          have b3 : (J.ph == 3) = false := by simp [p3]
          have HE := Lib.hid (show outV J (k, v) = [] by unfold outV; simp [p1, p2, p3])
          have HT2 := Lib.hid (show hd ++ (J.vs.take (q + 1)).flatMap (outV J) = hd ++ (J.vs.take q).flatMap (outV J) by rw [HT.out, HE.out, List.append_nil])
          clear p1 p2 p3
          go_wp2
          exact ⟨⟨q + 1, by omega, by go_num, by rw [HT2.out]; exact hsl, hvn, hO⟩, by simp [intOf]; omega⟩
        · have hqe : q = J.vs.length := by omega
          subst hqe
          have hw9 := hw5.trans (hO.below hw5.size (fun i hi e => by omega))
          have hH9 : HeadIs w wr J hd := hHI.below (hbm5.trans (hO.below hbm5.size (fun i hi e => by have := HXM.out; omega)))
          have hout : hd ++ (J.vs.take J.vs.length).flatMap (outV J) = hd ++ outsT J := by rw [List.take_length]; rfl
          rw [hout] at hsl
          clear hout
          go_wp2
          go_ret
          exact ⟨_, _, rfl, ⟨hsl, fun g hg => by rcases hvn g hg with h | h <;> omega, hd, rfl, hH9⟩, hw9⟩
end
end Go.Proofs.Ytniggacgkhkgiaa.Job
