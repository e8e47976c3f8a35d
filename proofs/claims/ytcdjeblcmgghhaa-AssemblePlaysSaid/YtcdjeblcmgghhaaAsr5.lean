/- What the reference's Missing answers. Conditions: it lies in memory as Wr says; few chunks are kept. -/
import Derived.Test.YtcdjeblcmgghhaaAsr4
namespace Go.Proofs.Ytcdjeblcmgghhaa.Asm
open Go.RowKit Go.Sp Msg Go.Sort

section
variable {w0 w : World} {Rw : Nat → Prop} {wb : Nat} {t j : Int} {man : Option (Int × List Pt)} {C : List Chk} {M : Ms} {cv : Value} {Cs : List (Chk × Value)}
/-- the manifest's parts -/
theorem Wr.parts {x : Int × List Pt} (h : Wr w0 w Rw wb t j (some x) C M cv Cs) : ∃ pa pc, M.pv = .slice pa x.2.length pc ∧ SL w.heap 30 6 (.slice pa x.2.length pc) x.2.length (x.2.flatMap ePt) ∧ w.cell? ⟨wb, 15, none⟩ = some (.slice pa x.2.length pc) ∧ w.cell? ⟨wb, 6, none⟩ = some (.int .i64 x.1) ∧ x.2.length ≤ 4 ∧ ∀ p ∈ x.2, p.cv = .slice none 0 0 ∧ p.cl = [] := by
  obtain ⟨h1, h2, h3, h4, _⟩ := h.mn x rfl
  obtain ⟨pa, pc, e⟩ := h2.form
  rw [e] at h2
  refine ⟨pa, pc, e, h2, ?_, ?_, h3, h4⟩
  · rw [← e]; exact h.cell rfl
  · exact h.cell (by rw [h1]; rfl)

set_option maxRecDepth 100000 in
set_option maxHeartbeats 4000000 in
theorem wMissing_any (h : Wr w0 w Rw wb t j man C M cv Cs) (hCl : C.length ≤ 1000) :
    Calls Try.prog 22 #[.pointer (some ⟨wb, 0, none⟩)] w fun e w' => ∃ v, e = .returned v ∧ RS w' 1 eInt v (missM t C man) ∧ (∀ g, v.ownBlock = some g → w.heap.size ≤ g) ∧ Below w.heap.size w w' := by
  obtain ⟨io, zo, hio, hzo, ho1, ho2, ho3⟩ := info_at (P := Try.prog) (e := 3) (f := (1, 8, 1)) (by kernel_rfl)
  cases man with
  | none =>
    have e17 := h.cell (q := 17) (u := .bool false) rfl
    go_enter Try.func22, Try.ntmps22
    go_wp2
    go_loopw [3, 4] (fun v i wr => v = .slice none 0 0 ∧ i = .int .i64 0 ∧ wr = w) (fun _ i _ => (intOf i).toNat)
    case atStart => exact ⟨rfl, rfl, rfl⟩
    case round =>
      obtain ⟨rfl, rfl, rfl⟩ := hrel
      go_wp2
      go_ret
      exact ⟨_, rfl, RS.nil _ _ _, fun g hg => by simp [Value.ownBlock] at hg, Below.refl _ _⟩
  | some x =>
    obtain ⟨c, ps⟩ := x
    go_enter Try.func22, Try.ntmps22
    go_wp2
    go_loopw [3, 4] (fun v i wr => ∃ q : Nat, q ≤ ps.length ∧ i = .int .i64 q ∧ SL wr.heap 3 1 v (missL t C (ps.take q)).length ((missL t C (ps.take q)).map fun x => .int .i64 x) ∧ (∀ g, v.ownBlock = some g → w.heap.size ≤ g) ∧ Below w.heap.size w wr) (fun _ i _ => ps.length - (intOf i).toNat)
    case atStart => exact ⟨0, Nat.zero_le _, rfl, SL.nil _ _ _, fun g hg => by simp [Value.ownBlock] at hg, Below.refl _ _⟩
    case round =>
      obtain ⟨q, hq, rfl, hs, hn, hb⟩ := hrel
      have hr := h.below hb
      have e17 := hr.cell (q := 17) (u := .bool true) rfl
      obtain ⟨pa, pc, _, hps, e15, _, hp4, hnil⟩ := hr.parts
      simp only at hps e15 hp4 hnil
      by_cases hqN : q < ps.length
      · obtain ⟨pb, po, pcap, hv, _⟩ := hps.form' (by omega)
        simp only [Value.slice.injEq] at hv
        obtain ⟨rfl, _, rfl⟩ := hv
        obtain ⟨p, hp⟩ : ∃ p, ps[q]? = some p := ⟨_, List.getElem?_eq_getElem hqN⟩
        have hpn := (hnil p (List.mem_of_getElem? hp)).1
        have g0 := hps.elem ePt_len hp (j := 0) (u := .int .i64 p.a) rfl
        have g1 := hps.elem ePt_len hp (j := 1) (u := .int .i64 p.t) rfl
        have g2 := hps.elem ePt_len hp (j := 2) (u := .int .i64 p.j) rfl
        have g3 := hps.elem ePt_len hp (j := 3) (u := .int .i64 p.n) rfl
        have g4 := hps.elem ePt_len hp (j := 4) (u := p.cv) rfl
        have g5 := hps.elem ePt_len hp (j := 5) (u := .bool p.l) rfl
        rw [hpn] at g4
        rw [← Nat.add_assoc] at g0 g1 g2 g3 g4 g5
        rw [Nat.add_zero] at g0
        have htk : ps.take (q + 1) = ps.take q ++ [p] := by rw [List.take_add_one, hp]; rfl
        have hml := missL_len t C (ps.take q)
        rw [List.length_take] at hml
        have HM := Lib.hid (show missL t C (ps.take (q + 1)) = missL t C (ps.take q) ++ bif (partR t C p.a p.n).2 then [] else [p.a] by rw [htk, missL_snoc])
        generalize missL t C (ps.take q) = L at hs hml HM
        obtain ⟨va, vc, rfl⟩ := hs.form
        have HH := Lib.hid hr
        have hbl2 := World.block_lt_of_cell? _ _ g0
        have hbl3 := World.block_lt_of_cell? _ _ e15
        clear hp htk hpn hnil hps hr
        go_wp2_with fail
        refine (wPart_any HH.out hCl).mono ?_
        rintro e w7 ⟨v7, rfl, ⟨x7, y7, z7, rfl⟩, _, _, hb7⟩
        obtain ⟨bb, hbb⟩ : ∃ bb, bb = (partR t C p.a p.n).2 := ⟨_, rfl⟩
        rw [← hbb] at HM ⊢
        have hs7 := hs.only (only_of_below hb7 (fun _ => False)) (fun _ _ => id)
        have hB7 : Below w.heap.size w w7 := hb.trans (hb7.mono hb.size)
        have p15 : w7.cell? ⟨wb, 15, none⟩ = some (.slice (some ⟨pb, po, none⟩) ps.length pc) := by rw [hb7.cell (p := ⟨wb, 15, none⟩) hbl3]; exact e15
        have p0 : w7.cell? ⟨pb, po + q * 6, none⟩ = some (.int .i64 p.a) := by rw [hb7.cell (p := ⟨pb, po + q * 6, none⟩) hbl2]; exact g0
        clear hbb hs hb hb7 e15 e17 g0 g1 g2 g3 g4 g5
        cases bb with
        | true =>
          go_wp2
          exact ⟨⟨q + 1, by omega, by go_num, by rw [HM.out]; simpa using hs7, hn, hB7⟩, by simp [intOf]; omega⟩
        | false =>
          go_wp2_with (at_builtin; refine halt ?_)
          refine Halt.go ?_
          refine wpList_appd (v := .slice va L.length vc) rfl _ _ _ rfl Try.underlying28 hio hzo ho1 ho2 ho3 rfl (hs7.alloc _) (m := 1) (news := [.int .i64 p.a]) rfl rfl (cells_new _ _ _ rfl) (by simp [Value.oneCell']) (by unfold maxLen; omega) (by omega) ?_
          rintro v8 w8 hs8 ho8 hv8
          have hB8 : Below w.heap.size w w8 := (hB7.alloc hB7.size _).trans (ho8.below (by have := hB7.size; simp; omega) (fun i hi e => by have := hn i e; omega))
          have hn8 : ∀ g', v8.ownBlock = some g' → w.heap.size ≤ g' := fun g' hg' => by
            rcases hv8 with e | e
            · exact hn g' (by rw [← e]; exact hg')
            · rw [e] at hg'; cases hg'; have := hB7.size; simp; omega
          clear ho8 hv8 hs7 hB7
          go_wp2
          exact ⟨⟨q + 1, by omega, by go_num, by rw [HM.out, cond_false, List.map_append, List.length_append]; exact hs8, hn8, hB8⟩, by simp [intOf]; omega⟩
      · have hqe : q = ps.length := by omega
        subst hqe
        rw [List.take_length] at hs
        have hre := SL.ints hs
        clear hs hr hps
        go_wp2
        go_ret
        exact ⟨_, rfl, hre, hn, hb⟩
end
end Go.Proofs.Ytcdjeblcmgghhaa.Asm
