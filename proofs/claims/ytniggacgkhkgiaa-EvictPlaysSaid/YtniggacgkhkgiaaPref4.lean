/- The walk of the reference's Write at its pool where there is no room, and at a trace that is there. Conditions: the receiver lies in memory as Qrep says, its traces are rising, trace and text are such as may be. PRINTED BY wip/gen_pref4.py. -/
import Derived.Test.YtniggacgkhkgiaaPref3
import Derived.Test.YtniggacgkhkgiaaPool6
import Derived.Deep.RegionHeld3
namespace Go.Sp
open Go.RowKit
theorem mput_at {α : Type} {k : Int} {l v : α} : ∀ {M : List (Int × α)} {j : Nat}, KS M → M[j]? = some (k, l) → mput k v M = M.set j (k, v)
  | [], j, _, hj => by simp at hj
  | p :: r, 0, _, hj => by
    simp at hj; subst hj
    simp [mput]
  | p :: r, j + 1, hs, hj => by
    have hj' : r[j]? = some (k, l) := by simpa using hj
    have h1 := (List.pairwise_cons.1 hs).1 (k, l) (List.mem_of_getElem? hj')
    simp only at h1
    unfold mput
    rw [if_neg (by omega), if_neg (by omega), mput_at (List.pairwise_cons.1 hs).2 hj']
    rfl
theorem eOne (x : Spn) : ∀ u ∈ eSpn x, u.oneCell' = true := fun u hu => by
  simp [eSpn] at hu
  rcases hu with rfl | rfl | rfl <;> rfl
theorem cells_blk {w : World} {b : Nat} {cs : List Value} {t : TypeId} {fr} (h : w.heap[b]? = some (.cells cs.toArray t fr)) : ∀ j u, cs[j]? = some u → w.cell? ((⟨b, 0, none⟩ : Addr).add j) = some u := fun j u hu => by
  simp [World.cell?, Addr.add_lit, h, hu]
end Go.Sp
namespace Go.Proofs.Ytniggacgkhkgiaa.Pref
open Go.RowKit Go.Sp Msg Ev Pool
section
variable {w w' w2 w9 : World} {R : Nat → Prop} {pb N : Nat} {M : List (Int × List Spn)} {tv av v9 : Value} {us : List Value} {k : Int} {s : ByteArray}
/-- another slice in one of the places -/
theorem Qrep.setAt {ab aoff acap j : Nat} {l l' : List Spn} (h : Qrep w R pb N M tv (.slice (some ⟨ab, aoff, none⟩) M.length acap) us) (hs : KS M) (hj : M[j]? = some (k, l)) (hb : Below w.heap.size w w9) (hs9 : SL w9.heap 89 3 v9 l'.length (l'.flatMap eSpn)) (hn9 : ∀ g, v9.ownBlock = some g → w.heap.size ≤ g) :
    QOut w R pb N (mput k l' M) (w9.setCell ⟨ab, aoff + j, none⟩ v9) := by
  have h9 := h.below hb
  have hjl := (List.getElem?_eq_some_iff.1 hj).1
  have hul := h9.ul
  have hset : Only (· = ab) w9 (w9.setCell ⟨ab, aoff + j, none⟩ v9) := (Only.refl (· = ab) w9).setCell (p := ⟨ab, aoff + j, none⟩) (fun _ => rfl) _
  have hRab : R ab := h.ra ab rfl
  have habz := h.rlt ab hRab
  have sa10 := h9.sa.set (j := j) (by omega) v9
  have hne : pb ≠ ab := fun e => sl_not h9.blk h9.sa (by decide) (by rw [e]; rfl)
  have hkeys : ((M.set j (k, l')).map fun p => Value.int .i64 p.1) = M.map fun p => .int .i64 p.1 := by
    refine List.ext_getElem? fun i => ?_
    rw [List.getElem?_map, List.getElem?_map, List.getElem?_set]
    by_cases e : j = i
    · subst e; rw [if_pos rfl, if_pos hjl, hj]; rfl
    · rw [if_neg e]
  rw [mput_at hs hj]
  have hlen : (M.set j (k, l')).length = M.length := by simp
  refine ⟨fun b => R b ∨ (w.heap.size ≤ b ∧ b < (w9.setCell ⟨ab, aoff + j, none⟩ v9).heap.size), tv, .slice (some ⟨ab, aoff, none⟩) M.length acap, us.set j v9, ⟨hset.heap h9.blk hne, by rw [hlen, hkeys]; exact h9.st.only hset (fun g hg e => sl_two' h9.st h9.sa (by decide) g hg (by rw [e]; rfl)), by rw [hlen]; exact sa10, fun i u p hu hp => ?_, .inl h.rr, fun g hg => .inl (h.rt g hg), fun g hg => .inl (h.ra g hg), fun i u hu g hg => ?_, fun b hb' => ?_⟩, fun b hb' => hb'.imp id And.left, (only_of_below hb R).trans (hset.mono fun b _ e => by rw [e]; exact hRab)⟩
  · rw [List.getElem?_set] at hu hp
    by_cases e : j = i
    · subst e
      rw [if_pos rfl, if_pos (by omega)] at hu hp
      cases hu; cases hp
      exact hs9.only hset (fun g hg e => by have := hn9 g hg; omega)
    · rw [if_neg e] at hu hp
      exact (h9.el i u p hu hp).only hset (fun g hg e => sl_two' (h9.el i u p hu hp) h9.sa (by decide) g hg (by rw [e]; rfl))
  · rw [List.getElem?_set] at hu
    by_cases e : j = i
    · subst e
      rw [if_pos rfl, if_pos (by omega)] at hu
      cases hu
      exact .inr ⟨hn9 g hg, Nat.lt_of_lt_of_le (hs9.lt g hg) hset.size⟩
    · rw [if_neg e] at hu
      exact .inl (h.re i u hu g hg)
  · rcases hb' with hb' | hb'
    · exact Nat.lt_of_lt_of_le (h9.rlt b hb') hset.size
    · exact hb'.2
theorem QOut.base {w1 w3 : World} (h : QOut w3 R pb N M w2) (hb : Below w1.heap.size w1 w3) : QOut w1 R pb N M w2 := by
  obtain ⟨R', tv', av', us', hQ, hR', hO⟩ := h
  exact ⟨R', tv', av', us', hQ, fun b hb' => (hR' b hb').imp id fun e => Nat.le_trans hb.size e, (only_of_below hb R).trans hO⟩
theorem res_below {B : Nat} {a b c : Value} (hO : Below w.heap.size w w2) (hB : w.heap.size ≤ B) (x y z : Value) : Below w.heap.size w (((w2.setCell ⟨B, 0, none⟩ x).setCell ⟨B, 1, none⟩ y).setCell ⟨B, 2, none⟩ z) :=
  ((hO.setCell (p := ⟨B, 0, none⟩) hB x).setCell (p := ⟨B, 1, none⟩) hB y).setCell (p := ⟨B, 2, none⟩) hB z
/-- the result's block written behind all -/
theorem QOut.res {w1 w20 : World} {B : Nat} (h : QOut w1 R pb N M w20) (hlt : ∀ b, R b → b < w.heap.size) (hA : Below w.heap.size w w1) (hB : w.heap.size ≤ B ∧ B < w1.heap.size) (x y z : Value) : QOut w R pb N M (((w20.setCell ⟨B, 0, none⟩ x).setCell ⟨B, 1, none⟩ y).setCell ⟨B, 2, none⟩ z) := by
  obtain ⟨R', tv', av', us', hQ, hR', hO⟩ := h
  have hset : Only (· = B) w20 (((w20.setCell ⟨B, 0, none⟩ x).setCell ⟨B, 1, none⟩ y).setCell ⟨B, 2, none⟩ z) :=
    (((Only.refl (· = B) w20).setCell (p := ⟨B, 0, none⟩) (fun _ => rfl) _).setCell (p := ⟨B, 1, none⟩) (fun _ => rfl) _).setCell (p := ⟨B, 2, none⟩) (fun _ => rfl) _
  refine ⟨R', tv', av', us', hQ.only hset (fun b hb e => ?_), fun b hb => (hR' b hb).imp id fun e => Nat.le_trans hA.size e, ((only_of_below hA R).trans hO).trans' hset fun i hi e => ?_⟩
  · subst e
    rcases hR' b hb with e | e
    · have := hlt b e; omega
    · omega
  · subst e; omega

set_option maxRecDepth 100000 in
set_option maxHeartbeats 4000000 in
theorem pw_full (h : Qrep w R pb N M tv av us) (hN : N ≤ 16) (hU : usedM M = N) (hL : ∀ p ∈ M, p.2.length ≤ 1000) (hk : 1 ≤ k ∧ k ≤ 65535) (hz : (s.size : Int) ≤ 40) (h3 : (lgetA k M).length % 3 = 0) :
    Calls Try.prog 101 #[.pointer (some ⟨pb, 0, none⟩), .int .i64 k, .string s] w fun e w' => e = .returned (.tuple #[.agg #[.int .i64 0, .int .i64 0, .string ⟨#[]⟩], .int .i64 6]) ∧ Below w.heap.size w w' := by
  have hA := below_alloc (Below.refl w.heap.size w) (.cells #[.int .i64 0, .int .i64 0, .string ⟨#[]⟩] 89)
  have hbx := heap_new w (.cells #[.int .i64 0, .int .i64 0, .string ⟨#[]⟩] 89) rfl
  have h1 := h.below hA
  have hF := free_any h1 hN (by omega) hL
  rw [show N - usedM M = 0 by omega] at hF
  have b1 : decide (k < 1) = false := decide_eq_false (by omega)
  have b2 : decide (65535 < k) = false := decide_eq_false (by omega)
  have b3 : decide (40 < (s.size : Int)) = false := decide_eq_false (by omega)
  have b4 : decide (40 < s.size) = false := decide_eq_false (by omega)
  have HO := of_any h1 k
  generalize lgetA k M = S at h3 HO
  have t1 : ((S.length : Int).tmod 3 == 0) = true := by rw [Int.tmod_eq_emod_of_nonneg (by omega)]; simp; omega
  have t2 : ((S.length : Int) % 3 == 0) = true := by simp; omega
  have t3 : (S.length % 3 == 0) = true := by simp; omega
  clear h h1 h3
  go_enter Try.func101, Try.ntmps101
  go_wp2_with fail
  generalize (w.alloc (.cells #[.int .i64 0, .int .i64 0, .string ⟨#[]⟩] 89)) = w1 at hA hbx HO hF ⊢
  refine HO.mono ?_
  rintro e w2 ⟨rfl, u, rfl, hs, _⟩
  obtain ⟨va, vc, rfl⟩ := hs.form
  clear HO hs
  go_wp2_with fail
  refine hF.mono ?_
  rintro e w2 ⟨rfl, hb2⟩
  have hbx2 := (hb2.block _ (Array.getElem?_eq_some_iff.1 hbx).1).trans hbx
  have hB2 := below_trans' hb2 hA
  have f0 := froz_blk hbx2 0
  have f1 := froz_blk hbx2 1
  have f2 := froz_blk hbx2 2
  have e0 := cell_blk hbx2 (j := 0) (u := .int .i64 0) rfl
  have e1 := cell_blk hbx2 (j := 1) (u := .int .i64 0) rfl
  have e2 := cell_blk hbx2 (j := 2) (u := .string ⟨#[]⟩) rfl
  have hR := Lib.hid (((hB2.setCell (p := ⟨w.heap.size, 0, none⟩) (Nat.le_refl _) (.int .i64 0)).setCell (p := ⟨w.heap.size, 1, none⟩) (Nat.le_refl _) (.int .i64 0)).setCell (p := ⟨w.heap.size, 2, none⟩) (Nat.le_refl _) (.string ⟨#[]⟩))
  have hr3 := Lib.hid (res3 hbx2 (.int .i64 0) (.int .i64 0) (.string ⟨#[]⟩))
  clear hF hbx hb2 hA hbx2 hB2
  go_wp2
  have x0 := cell_blk hr3.out (j := 0) (u := .int .i64 0) rfl
  have x1 := cell_blk hr3.out (j := 1) (u := .int .i64 0) rfl
  have x2 := cell_blk hr3.out (j := 2) (u := .string ⟨#[]⟩) rfl
  replace hR := hR.out
  generalize (((w2.setCell ⟨w.heap.size, 0, none⟩ (.int .i64 0)).setCell ⟨w.heap.size, 1, none⟩ (.int .i64 0)).setCell ⟨w.heap.size, 2, none⟩ (.string ⟨#[]⟩)) = w5 at hR x0 x1 x2 ⊢
  refine bodyPost_ret (by simp [results, Try.results101, go_sem, x0, x1, x2]; try rfl) rfl ?_
  exact ⟨rfl, hR⟩

set_option maxRecDepth 100000 in
set_option maxHeartbeats 4000000 in
theorem pw_old (h : Qrep w R pb N M tv av us) (hs : KS M) (hN : N ≤ 16) (hU : usedM M ≤ N) (hL : ∀ p ∈ M, p.2.length ≤ 1000) (hk : 1 ≤ k ∧ k ≤ 65535) (hz : (s.size : Int) ≤ 40) (hroom : (lgetA k M).length % 3 ≠ 0 ∨ usedM M < N) (hM : M.length ≤ 1000) (hin : (mget k M).isSome = true) :
    Calls Try.prog 101 #[.pointer (some ⟨pb, 0, none⟩), .int .i64 k, .string s] w fun e w' => e = .returned (.tuple #[.agg #[.int .i64 k, .int .i64 (((lgetA k M).length : Int) + 1), .string s], .int .i64 0]) ∧ QOut w R pb N (mput k (lgetA k M ++ [(k, ((lgetA k M).length : Int) + 1, s)]) M) w' := by
  obtain ⟨io, zo, hio, hzo, ho1, ho2, ho3⟩ := info_at (P := Try.prog) (e := 89) (f := (3, 32, 3)) (by kernel_rfl)
  have hlt := h.rlt
  have hA := below_alloc (Below.refl w.heap.size w) (.cells #[.int .i64 0, .int .i64 0, .string ⟨#[]⟩] 89)
  have hbx := heap_new w (.cells #[.int .i64 0, .int .i64 0, .string ⟨#[]⟩] 89) rfl
  have hBz : w.heap.size ≤ w.heap.size ∧ w.heap.size < (w.alloc (.cells #[.int .i64 0, .int .i64 0, .string ⟨#[]⟩] 89)).heap.size := by simp
  have h1 := h.below hA
  have hF := free_any h1 hN (by omega) hL
  have b1 : decide (k < 1) = false := decide_eq_false (by omega)
  have b2 : decide (65535 < k) = false := decide_eq_false (by omega)
  have b3 : decide (40 < (s.size : Int)) = false := decide_eq_false (by omega)
  have b4 : decide (40 < s.size) = false := decide_eq_false (by omega)
  have HO := of_any h1 k
  have hll : (lgetA k M).length ≤ 1000 := by
    unfold lgetA
    cases e : mget k M with
    | none => simp
    | some l => exact hL (k, l) (mget_mem e)
  obtain ⟨S, hS⟩ : ∃ S, S = lgetA k M := ⟨_, rfl⟩
  rw [← hS] at HO hll hroom ⊢
  obtain ⟨D, hD⟩ : ∃ D, D = mput k (S ++ [(k, (S.length : Int) + 1, s)]) M := ⟨_, rfl⟩
  rw [← hD]
  generalize hf : N - usedM M = f at hF
  have hw1 : IntKind.i64.wrap ((S.length : Int) + 1) = (S.length : Int) + 1 := i64_little (by omega) (by omega)
  have HI := Lib.hid (And.intro hS (And.intro hD hin))
  have HLT := Lib.hid hlt
  clear h hD hS hin hlt hL hN
  by_cases h3 : S.length % 3 = 0
  case' pos =>
    have t1 : ((S.length : Int).tmod 3 == 0) = true := by rw [Int.tmod_eq_emod_of_nonneg (by omega)]; simp; omega
    have t2 : ((S.length : Int) % 3 == 0) = true := by simp; omega
    have t3 : (S.length % 3 == 0) = true := by simp; omega
    have u1 : ((f : Int) == 0) = false := by simp; omega
    have u2 : (f == 0) = false := by simp; omega
  case' neg =>
    have t1 : ((S.length : Int).tmod 3 == 0) = false := by rw [Int.tmod_eq_emod_of_nonneg (by omega)]; simp; omega
    have t2 : ((S.length : Int) % 3 == 0) = false := by simp; omega
    have t3 : (S.length % 3 == 0) = false := by simp; omega
  all_goals (
    clear h3 hroom hf hU
    go_enter Try.func101, Try.ntmps101
    go_wp2_with fail
    generalize (w.alloc (.cells #[.int .i64 0, .int .i64 0, .string ⟨#[]⟩] 89)) = w1 at hA hbx HO hF h1 hBz ⊢
    refine HO.mono ?_
    rintro e w2 ⟨rfl, u, rfl, hsu, _⟩
    obtain ⟨va, vc, rfl⟩ := hsu.form
    clear HO hsu)
  obtain ⟨w2, hb2, hw12⟩ : ∃ w2, Below w1.heap.size w1 w2 ∧ w2 = w1 := ⟨w1, Below.refl _ _, rfl⟩
  rw [← hw12]
  clear hw12
  rotate_left 1
  go_wp2_with fail
  refine hF.mono ?_
  rintro e w2 ⟨rfl, hb2⟩
  all_goals (
    have h2 := h1.below hb2
    have hbx2 := (hb2.block _ (Array.getElem?_eq_some_iff.1 hbx).1).trans hbx
    have hA3 := below_alloc (Below.refl w2.heap.size w2) (.cells #[.int .i64 k, .int .i64 ((S.length : Int) + 1), .string s] 89)
    have hbs := heap_new w2 (.cells #[.int .i64 k, .int .i64 ((S.length : Int) + 1), .string s] 89) rfl
    have h3 := h2.below hA3
    have hbx3 := (hA3.block _ (Array.getElem?_eq_some_iff.1 hbx2).1).trans hbx2
    have hB3 := hb2.trans (hA3.mono hb2.size)
    clear h1 h2 hbx hbx2 hA3 hF
    go_wp2_with fail
    generalize (w2.alloc (.cells #[.int .i64 k, .int .i64 ((S.length : Int) + 1), .string s] 89)) = w3 at hbs h3 hbx3 hB3 ⊢
    generalize w2.heap.size = sb at hbs ⊢
    refine (find_any h3 k).mono ?_
    rintro e w4 ⟨rfl, ⟨rfl, hNo⟩ | ⟨j, l, rfl, hj, hl⟩⟩
    case' inl =>
      exfalso
      have := HI.out.2.2
      rw [hNo] at this; cases this
    case' inr =>
      obtain rfl : l = S := by have := HI.out.1; unfold lgetA at this; rw [hl] at this; exact this.symm
      have hjn := (List.getElem?_eq_some_iff.1 hj).1
      have hjb : decide ((j : Int) < 0) = false := decide_eq_false (by omega)
      obtain ⟨ab, aoff, acap, hav, _, hac1, _⟩ := h3.sa.form' (by omega)
      subst hav
      obtain ⟨u, hu⟩ := h3.at hj
      obtain ⟨ua, uc, rfl⟩ := (h3.el j u _ hu hj).form
      have hru : RS w3 3 eSpn (.slice ua l.length uc) l := SL.rs (enc := eSpn) (fun _ => rfl) (h3.el j _ _ hu hj)
      have hul := h3.ul
      have hpab : pb ≠ ab := fun e => sl_not h3.blk h3.sa (by decide) (by rw [e]; rfl)
      have hsab : sb ≠ ab := fun e => sl_not hbs h3.sa (by decide) (by rw [e]; rfl)
      have HW := Lib.hid (show ∀ W, Below w3.heap.size w3 W → (W.cell? ⟨pb, 2, none⟩ = some (.slice (some ⟨ab, aoff, none⟩) M.length acap) ∧ W.cell? ⟨sb, 0, none⟩ = some (.int .i64 k) ∧ W.cell? ⟨sb, 1, none⟩ = some (.int .i64 ((l.length : Int) + 1)) ∧ W.cell? ⟨sb, 2, none⟩ = some (.string s)) from fun W hW => by
        have h4 := h3.below hW
        have hb4 := (hW.block _ (Array.getElem?_eq_some_iff.1 hbs).1).trans hbs
        exact ⟨h4.cell rfl, cell_blk hb4 rfl, cell_blk hb4 rfl, cell_blk hb4 rfl⟩)
      have HU := Lib.hid (show ∀ W, Below w3.heap.size w3 W → W.cell? ⟨ab, aoff + j, none⟩ = some (.slice ua l.length uc) ∧ W.frozen? ⟨ab, aoff + j, none⟩ = false from fun W hW => ⟨(h3.below hW).sa.cell hu, (h3.below hW).sa.free _⟩)
      have H3 := Lib.hid (And.intro h3 (And.intro hj hB3))
      have hone : ∀ x ∈ l, ∀ u ∈ eSpn x, u.oneCell' = true := fun x _ u hu => eOne x u hu
      have HD := Lib.hid HI.out.2.1
      have HX := Lib.hid (And.intro hbx3 (And.intro hbs (fun e => by have := HLT.out _ (h3.ra ab rfl); omega : w.heap.size ≠ ab)))
      clear h3 hj hB3 hl hu HI hb2 hac1 hbx3 hbs
      go_upto_region 27 with (fail)
      go_cut [] (fun wx => QOut w1 R pb N (mput k (l ++ [(k, (l.length : Int) + 1, s)]) M) wx ∧ wx.heap[w.heap.size]? = some (.cells #[.int .i64 0, .int .i64 0, .string ⟨#[]⟩] 89 (0, 0)) ∧ wx.heap[sb]? = some (.cells #[.int .i64 k, .int .i64 ((l.length : Int) + 1), .string s] 89 (0, 0)))
      case first =>
        have hb50 : Below w3.heap.size w3 w3.drew := (Below.refl _ w3).drew
        have q50 := HW.out _ hb50
        have u50 := (HU.out _ hb50).1
        refine wp_region_held_drew (S := fun w' => w'.cell? ⟨pb, 2, none⟩ = some (.slice (some ⟨ab, aoff, none⟩) M.length acap) ∧ w'.cell? ⟨sb, 0, none⟩ = some (.int .i64 k) ∧ w'.cell? ⟨sb, 1, none⟩ = some (.int .i64 ((l.length : Int) + 1)) ∧ w'.cell? ⟨sb, 2, none⟩ = some (.string s)) (by kernel_rfl) q50 (fun hHeld => ?_)
        (try simp only [Act.put, List.setIfInBounds_toArray, List.set_cons_zero, List.set_cons_succ])
        refine wpAnyH_take (i := 0) (v := ?_) rfl (by kernel_rfl) (by kernel_rfl) (by kernel_rfl) (fun _ _ _ h => h) (Or.inl ⟨by rfl, ?_⟩) (by assumption) ?_
        rotate_left 1
        · intro w hSw
          (try dsimp only at hSw)
          go_simp
          try with_reducible rfl
        (try simp only [Act.put, List.setIfInBounds_toArray, List.set_cons_zero, List.set_cons_succ])
        refine wpAnyH_take (i := 1) (v := ?_) rfl (by kernel_rfl) (by kernel_rfl) (by kernel_rfl) (fun _ _ _ h => h) (Or.inl ⟨by rfl, ?_⟩) (by assumption) ?_
        rotate_left 1
        · intro w hSw
          (try dsimp only at hSw)
          go_simp
          try with_reducible rfl
        (try simp only [Act.put, List.setIfInBounds_toArray, List.set_cons_zero, List.set_cons_succ])
        refine wpAnyH_take (i := 2) (v := ?_) rfl (by kernel_rfl) (by kernel_rfl) (by kernel_rfl) (fun _ _ _ h => h) (Or.inl ⟨by rfl, ?_⟩) (by assumption) ?_
        rotate_left 1
        · intro w hSw
          (try dsimp only at hSw)
          go_simp
          try with_reducible rfl
        (try simp only [Act.put, List.setIfInBounds_toArray, List.set_cons_zero, List.set_cons_succ])
        refine wpAnyH_take (i := 3) (v := ?_) rfl (by kernel_rfl) (by kernel_rfl) (by kernel_rfl) (fun _ _ _ h => h) (Or.inl ⟨by rfl, ?_⟩) (by assumption) ?_
        rotate_left 1
        · intro w hSw
          (try dsimp only at hSw)
          go_simp
          try with_reducible rfl
        (try simp only [Act.put, List.setIfInBounds_toArray, List.set_cons_zero, List.set_cons_succ])
        refine wpAnyH_take (i := 4) (v := ?_) rfl (by kernel_rfl) (by kernel_rfl) (by kernel_rfl) (fun _ _ _ h => h) (Or.inl ⟨by rfl, ?_⟩) (by assumption) ?_
        rotate_left 1
        · intro w hSw
          (try dsimp only at hSw)
          go_simp
          try with_reducible rfl
        (try simp only [Act.put, List.setIfInBounds_toArray, List.set_cons_zero, List.set_cons_succ])
        refine wpAnyH_take (i := 6) (v := ?_) rfl (by kernel_rfl) (by kernel_rfl) (by kernel_rfl) (fun _ _ _ h => h) (Or.inl ⟨by rfl, ?_⟩) (by assumption) ?_
        rotate_left 1
        · intro w hSw
          (try dsimp only at hSw)
          go_simp
          try with_reducible rfl
        (try simp only [Act.put, List.setIfInBounds_toArray, List.set_cons_zero, List.set_cons_succ])
        refine wpAnyH_take (i := 7) (v := ?_) rfl (by kernel_rfl) (by kernel_rfl) (by kernel_rfl) (fun _ _ _ h => h) (Or.inl ⟨by rfl, ?_⟩) (by assumption) ?_
        rotate_left 1
        · intro w hSw
          (try dsimp only at hSw)
          go_simp
          try with_reducible rfl
        (try simp only [Act.put, List.setIfInBounds_toArray, List.set_cons_zero, List.set_cons_succ])
        refine wpAnyH_take (i := 8) (v := ?_) rfl (by kernel_rfl) (by kernel_rfl) (by kernel_rfl) (fun _ _ _ h => h) (Or.inl ⟨by rfl, ?_⟩) (by assumption) ?_
        rotate_left 1
        · intro w hSw
          (try dsimp only at hSw)
          go_simp
          try with_reducible rfl
        (try simp only [Act.put, List.setIfInBounds_toArray, List.set_cons_zero, List.set_cons_succ])
        refine wpAnyH_take (i := 9) (v := ?_) rfl (by kernel_rfl) (by kernel_rfl) (by kernel_rfl) (fun _ _ _ h => h) (Or.inl ⟨by rfl, ?_⟩) (by assumption) ?_
        rotate_left 1
        · intro w hSw
          (try dsimp only at hSw)
          go_simp
          try with_reducible rfl
        (try simp only [Act.put, List.setIfInBounds_toArray, List.set_cons_zero, List.set_cons_succ])
        refine wpAnyH_take (i := 10) (v := ?_) rfl (by kernel_rfl) (by kernel_rfl) (by kernel_rfl) (fun _ _ _ h => h) (Or.inl ⟨by rfl, ?_⟩) (by assumption) ?_
        rotate_left 1
        · intro w hSw
          (try dsimp only at hSw)
          go_simp
          try with_reducible rfl
        (try simp only [Act.put, List.setIfInBounds_toArray, List.set_cons_zero, List.set_cons_succ])
        refine wpAnyH_take (i := 11) (v := ?_) rfl (by kernel_rfl) (by kernel_rfl) (by kernel_rfl) (fun _ _ _ h => h) (Or.inl ⟨by rfl, ?_⟩) (by assumption) ?_
        rotate_left 1
        · intro w hSw
          (try dsimp only at hSw)
          go_simp
          try with_reducible rfl
        (try simp only [Act.put, List.setIfInBounds_toArray, List.set_cons_zero, List.set_cons_succ])
        refine wpAnyH_take (i := 14) (v := ?_) rfl (by kernel_rfl) (by kernel_rfl) (by kernel_rfl) (fun _ _ _ h => h) (Or.inl ⟨by rfl, ?_⟩) (by assumption) ?_
        rotate_left 1
        · intro w hSw
          (try dsimp only at hSw)
          go_simp
          try with_reducible rfl
        (try simp only [Act.put, List.setIfInBounds_toArray, List.set_cons_zero, List.set_cons_succ])
        refine wpAnyH_ready (rs := [5, 12, 15]) (by kernel_rfl) (by simp) ?_
        refine AllReadyH.cons (o := _) rfl (fun K hK => ?_) ?_
        · skip
          have hb51 : Below w3.heap.size w3 (w3.drew.alloc (.cells #[] 89)) := below_alloc hb50 _
          have q51 := HW.out _ hb51
          have u51 := (HU.out _ hb51).1
          go_simp
          refine hK.out _ _ (by exact q51) (fun hHeld => ?_)
          clear hK K
          (try simp only [Act.put, List.setIfInBounds_toArray, List.set_cons_zero, List.set_cons_succ])
          refine wpAnyH_ready (rs := [12, 15]) (by kernel_rfl) (by simp) ?_
          refine AllReadyH.cons (o := _) rfl (fun K hK => ?_) ?_
          · skip
            have q52 := HW.out _ hb51
            have ux52 := (HU.out ((w3.alloc (.cells #[] 89)).drew) hb51).1
            go_simp
            refine hK.out _ _ (by exact q52) (fun hHeld => ?_)
            clear hK K
            (try simp only [Act.put, List.setIfInBounds_toArray, List.set_cons_zero, List.set_cons_succ])
            refine wpAnyH_ready (rs := [13, 15]) (by kernel_rfl) (by simp) ?_
            refine AllReadyH.cons (o := _) rfl (fun K hK => ?_) ?_
            · skip
              (refine step_appR (enc := eSpn) (size := 3) (v := .slice (some ⟨w3.heap.size, 0, none⟩) 0 0) (xs := l) (fun _ => rfl) rfl _ _ _ rfl Try.underlying35 hio hzo ho1 ho2 ho3 rfl (sl_empty' w3.drew 89 3 (by simp)) rfl (hru.only (only_of_below hb51 (fun _ => False)) (fun _ _ => id)) hone (by unfold maxLen; omega) (by omega) ?_)
              rintro v8 w8 hs8 ho8 hv8
              have hb8 : Below w3.heap.size w3 w8 := hb51.trans (ho8.below hb51.size fun i hi e => by simp [Value.ownBlock] at e; omega)
              have hn8 : ∀ g, v8.ownBlock = some g → w3.heap.size ≤ g := fun g hg => by
                rcases hv8 with e | e
                · rw [e] at hg; simp [Value.ownBlock] at hg; omega
                · rw [e] at hg; cases hg; exact hb51.size
              have q53 := HW.out _ hb8
              rw [Nat.zero_add, List.nil_append] at hs8
              obtain ⟨a8, c8, rfl⟩ := hs8.form
              refine hK.out _ _ (by exact q53) (fun hHeld => ?_)
              clear hK K
              (try simp only [Act.put, List.setIfInBounds_toArray, List.set_cons_zero, List.set_cons_succ])
              refine wpAnyH_ready (rs := [15]) (by kernel_rfl) (by simp) ?_
              refine AllReadyH.cons (o := _) rfl (fun K hK => ?_) ?_
              · skip
                have hb54 : Below w3.heap.size w3 (w8.alloc (.cells #[.int .i64 k, .int .i64 ((l.length : Int) + 1), .string s] 89)) := below_alloc hb8 _
                have hg54 : (w8.alloc (.cells #[.int .i64 k, .int .i64 ((l.length : Int) + 1), .string s] 89)).heap[w8.heap.size]? = some (.cells #[.int .i64 k, .int .i64 ((l.length : Int) + 1), .string s] 89 (0, 0)) := heap_new _ _ (by simp)
                have q54 := HW.out _ hb54
                go_simp
                refine hK.out _ _ (by exact q54) (fun hHeld => ?_)
                clear hK K
                (try simp only [Act.put, List.setIfInBounds_toArray, List.set_cons_zero, List.set_cons_succ])
                refine wpAnyH_ready (rs := [16]) (by kernel_rfl) (by simp) ?_
                refine AllReadyH.cons (o := _) rfl (fun K hK => ?_) ?_
                · skip
                  (refine step_appd (v := .slice a8 l.length c8) (n := l.length) (m := 1) (c := 1) (news := eSpn (k, (l.length : Int) + 1, s)) (ad := ⟨w8.heap.size, 0, none⟩) rfl _ _ _ rfl Try.underlying35 hio hzo ho1 ho2 ho3 rfl (hs8.alloc _) (by omega) rfl rfl (cells_blk hg54) (fun u hu => eOne _ u hu) (by unfold maxLen; omega) (by omega) rfl ?_)
                  rintro b9 o9 c9 w9 hs9 ho9 hv9
                  have hb9 : Below w3.heap.size w3 w9 := hb54.trans (ho9.below hb54.size fun i hi e => by have := hn8 i e; omega)
                  have hn9 : ∀ g, (Value.slice (some ⟨b9, o9, none⟩) (l.length + 1) c9).ownBlock = some g → w3.heap.size ≤ g := fun g hg => by
                    simp [Value.ownBlock] at hg
                    subst hg
                    rcases hv9 with e | e
                    · exact hn8 _ e
                    · rw [e]; exact hb54.size
                  have q55 := HW.out _ hb9
                  have u9 := (HU.out _ hb9).1
                  have f9 := (HU.out _ hb9).2
                  refine hK.out _ _ (by exact q55) (fun hHeld => ?_)
                  clear hK K
                  (try simp only [Act.put, List.setIfInBounds_toArray, List.set_cons_zero, List.set_cons_succ])
                  refine wpAnyH_take (i := 17) (v := ?_) rfl (by kernel_rfl) (by kernel_rfl) (by kernel_rfl) (fun _ _ _ h => h) (Or.inl ⟨by rfl, ?_⟩) (by assumption) ?_
                  rotate_left 1
                  · intro w hSw
                    (try dsimp only at hSw)
                    go_simp
                    try with_reducible rfl
                  (try simp only [Act.put, List.setIfInBounds_toArray, List.set_cons_zero, List.set_cons_succ])
                  refine wpAnyH_ready (rs := [18]) (by kernel_rfl) (by simp) ?_
                  refine AllReadyH.cons (o := _) rfl (fun K hK => ?_) ?_
                  · skip
                    have hset : Only (· = ab) w9 (w9.setCell ⟨ab, aoff + j, none⟩ (.slice (some ⟨b9, o9, none⟩) (l.length + 1) c9)) := (Only.refl (· = ab) w9).setCell (p := ⟨ab, aoff + j, none⟩) (fun _ => rfl) _
                    have q10 := HW.out _ hb9
                    replace q10 : ((w9.setCell ⟨ab, aoff + j, none⟩ (.slice (some ⟨b9, o9, none⟩) (l.length + 1) c9)).cell? ⟨pb, 2, none⟩ = some (.slice (some ⟨ab, aoff, none⟩) M.length acap) ∧ (w9.setCell ⟨ab, aoff + j, none⟩ (.slice (some ⟨b9, o9, none⟩) (l.length + 1) c9)).cell? ⟨sb, 0, none⟩ = some (.int .i64 k) ∧ (w9.setCell ⟨ab, aoff + j, none⟩ (.slice (some ⟨b9, o9, none⟩) (l.length + 1) c9)).cell? ⟨sb, 1, none⟩ = some (.int .i64 ((l.length : Int) + 1)) ∧ (w9.setCell ⟨ab, aoff + j, none⟩ (.slice (some ⟨b9, o9, none⟩) (l.length + 1) c9)).cell? ⟨sb, 2, none⟩ = some (.string s)) := ⟨only_cell hset hpab q10.1, only_cell hset hsab q10.2.1, only_cell hset hsab q10.2.2.1, only_cell hset hsab q10.2.2.2⟩
                    go_simp
                    refine hK.out _ _ (by exact q10) (fun hHeld => ?_)
                    clear hK K
                    (try simp only [Act.put, List.setIfInBounds_toArray, List.set_cons_zero, List.set_cons_succ])
                    refine wpAnyH_done (by kernel_rfl) ?_ _
                    go_wp2_with fail
                    go_meet
                    have hs10 : SL w9.heap 89 3 (.slice (some ⟨b9, o9, none⟩) (l.length + 1) c9) (l ++ [(k, (l.length : Int) + 1, s)]).length ((l ++ [(k, (l.length : Int) + 1, s)]).flatMap eSpn) := by
                      rw [List.length_append, List.flatMap_append]; simpa using hs9
                    exact ⟨(H3.out.1.setAt hs H3.out.2.1 hb9 hs10 hn9).base H3.out.2.2, hset.heap ((hb9.block _ (Array.getElem?_eq_some_iff.1 HX.out.1).1).trans HX.out.1) HX.out.2.2, hset.heap ((hb9.block _ (Array.getElem?_eq_some_iff.1 HX.out.2.1).1).trans HX.out.2.1) hsab⟩
                  exact AllReadyH.nil
                exact AllReadyH.nil
              exact AllReadyH.nil
            refine AllReadyH.cons (o := _) rfl (fun K hK => ?_) ?_
            · skip
              have hb53 : Below w3.heap.size w3 ((w3.drew.alloc (.cells #[] 89)).alloc (.cells #[.int .i64 k, .int .i64 ((l.length : Int) + 1), .string s] 89)) := below_alloc hb51 _
              have hg53 : ((w3.drew.alloc (.cells #[] 89)).alloc (.cells #[.int .i64 k, .int .i64 ((l.length : Int) + 1), .string s] 89)).heap[w3.heap.size + 1]? = some (.cells #[.int .i64 k, .int .i64 ((l.length : Int) + 1), .string s] 89 (0, 0)) := heap_new _ _ (by simp)
              have q53 := HW.out _ hb53
              have u53 := (HU.out _ hb53).1
              go_simp
              refine hK.out _ _ (by exact q53) (fun hHeld => ?_)
              clear hK K
              (try simp only [Act.put, List.setIfInBounds_toArray, List.set_cons_zero, List.set_cons_succ])
              refine wpAnyH_ready (rs := [13]) (by kernel_rfl) (by simp) ?_
              refine AllReadyH.cons (o := _) rfl (fun K hK => ?_) ?_
              · skip
                (refine step_appR (enc := eSpn) (size := 3) (v := .slice (some ⟨w3.heap.size, 0, none⟩) 0 0) (xs := l) (fun _ => rfl) rfl _ _ _ rfl Try.underlying35 hio hzo ho1 ho2 ho3 rfl ((sl_empty' w3.drew 89 3 (by simp)).alloc _) rfl (hru.only (only_of_below hb53 (fun _ => False)) (fun _ _ => id)) hone (by unfold maxLen; omega) (by omega) ?_)
                rintro v8 w8 hs8 ho8 hv8
                have hb8 : Below w3.heap.size w3 w8 := hb53.trans (ho8.below hb53.size fun i hi e => by simp [Value.ownBlock] at e; omega)
                have hn8 : ∀ g, v8.ownBlock = some g → w3.heap.size ≤ g := fun g hg => by
                  rcases hv8 with e | e
                  · rw [e] at hg; simp [Value.ownBlock] at hg; omega
                  · rw [e] at hg; cases hg; exact hb53.size
                have q54 := HW.out _ hb8
                rw [Nat.zero_add, List.nil_append] at hs8
                obtain ⟨a8, c8, rfl⟩ := hs8.form
                have hg54 := ho8.heap hg53 (fun e => by simp [Value.ownBlock] at e)
                refine hK.out _ _ (by exact q54) (fun hHeld => ?_)
                clear hK K
                (try simp only [Act.put, List.setIfInBounds_toArray, List.set_cons_zero, List.set_cons_succ])
                refine wpAnyH_ready (rs := [16]) (by kernel_rfl) (by simp) ?_
                refine AllReadyH.cons (o := _) rfl (fun K hK => ?_) ?_
                · skip
                  (refine step_appd (v := .slice a8 l.length c8) (n := l.length) (m := 1) (c := 1) (news := eSpn (k, (l.length : Int) + 1, s)) (ad := ⟨w3.heap.size + 1, 0, none⟩) rfl _ _ _ rfl Try.underlying35 hio hzo ho1 ho2 ho3 rfl hs8 (by omega) rfl rfl (cells_blk hg54) (fun u hu => eOne _ u hu) (by unfold maxLen; omega) (by omega) rfl ?_)
                  rintro b9 o9 c9 w9 hs9 ho9 hv9
                  have hb9 : Below w3.heap.size w3 w9 := hb8.trans (ho9.below hb8.size fun i hi e => by have := hn8 i e; omega)
                  have hn9 : ∀ g, (Value.slice (some ⟨b9, o9, none⟩) (l.length + 1) c9).ownBlock = some g → w3.heap.size ≤ g := fun g hg => by
                    simp [Value.ownBlock] at hg
                    subst hg
                    rcases hv9 with e | e
                    · exact hn8 _ e
                    · rw [e]; exact hb8.size
                  have q55 := HW.out _ hb9
                  have u9 := (HU.out _ hb9).1
                  have f9 := (HU.out _ hb9).2
                  refine hK.out _ _ (by exact q55) (fun hHeld => ?_)
                  clear hK K
                  (try simp only [Act.put, List.setIfInBounds_toArray, List.set_cons_zero, List.set_cons_succ])
                  refine wpAnyH_take (i := 17) (v := ?_) rfl (by kernel_rfl) (by kernel_rfl) (by kernel_rfl) (fun _ _ _ h => h) (Or.inl ⟨by rfl, ?_⟩) (by assumption) ?_
                  rotate_left 1
                  · intro w hSw
                    (try dsimp only at hSw)
                    go_simp
                    try with_reducible rfl
                  (try simp only [Act.put, List.setIfInBounds_toArray, List.set_cons_zero, List.set_cons_succ])
                  refine wpAnyH_ready (rs := [18]) (by kernel_rfl) (by simp) ?_
                  refine AllReadyH.cons (o := _) rfl (fun K hK => ?_) ?_
                  · skip
                    have hset : Only (· = ab) w9 (w9.setCell ⟨ab, aoff + j, none⟩ (.slice (some ⟨b9, o9, none⟩) (l.length + 1) c9)) := (Only.refl (· = ab) w9).setCell (p := ⟨ab, aoff + j, none⟩) (fun _ => rfl) _
                    have q10 := HW.out _ hb9
                    replace q10 : ((w9.setCell ⟨ab, aoff + j, none⟩ (.slice (some ⟨b9, o9, none⟩) (l.length + 1) c9)).cell? ⟨pb, 2, none⟩ = some (.slice (some ⟨ab, aoff, none⟩) M.length acap) ∧ (w9.setCell ⟨ab, aoff + j, none⟩ (.slice (some ⟨b9, o9, none⟩) (l.length + 1) c9)).cell? ⟨sb, 0, none⟩ = some (.int .i64 k) ∧ (w9.setCell ⟨ab, aoff + j, none⟩ (.slice (some ⟨b9, o9, none⟩) (l.length + 1) c9)).cell? ⟨sb, 1, none⟩ = some (.int .i64 ((l.length : Int) + 1)) ∧ (w9.setCell ⟨ab, aoff + j, none⟩ (.slice (some ⟨b9, o9, none⟩) (l.length + 1) c9)).cell? ⟨sb, 2, none⟩ = some (.string s)) := ⟨only_cell hset hpab q10.1, only_cell hset hsab q10.2.1, only_cell hset hsab q10.2.2.1, only_cell hset hsab q10.2.2.2⟩
                    go_simp
                    refine hK.out _ _ (by exact q10) (fun hHeld => ?_)
                    clear hK K
                    (try simp only [Act.put, List.setIfInBounds_toArray, List.set_cons_zero, List.set_cons_succ])
                    refine wpAnyH_done (by kernel_rfl) ?_ _
                    go_wp2_with fail
                    go_meet
                    have hs10 : SL w9.heap 89 3 (.slice (some ⟨b9, o9, none⟩) (l.length + 1) c9) (l ++ [(k, (l.length : Int) + 1, s)]).length ((l ++ [(k, (l.length : Int) + 1, s)]).flatMap eSpn) := by
                      rw [List.length_append, List.flatMap_append]; simpa using hs9
                    exact ⟨(H3.out.1.setAt hs H3.out.2.1 hb9 hs10 hn9).base H3.out.2.2, hset.heap ((hb9.block _ (Array.getElem?_eq_some_iff.1 HX.out.1).1).trans HX.out.1) HX.out.2.2, hset.heap ((hb9.block _ (Array.getElem?_eq_some_iff.1 HX.out.2.1).1).trans HX.out.2.1) hsab⟩
                  exact AllReadyH.nil
                exact AllReadyH.nil
              exact AllReadyH.nil
            exact AllReadyH.nil
          refine AllReadyH.cons (o := _) rfl (fun K hK => ?_) ?_
          · skip
            have hb52 : Below w3.heap.size w3 ((w3.drew.alloc (.cells #[] 89)).alloc (.cells #[.int .i64 k, .int .i64 ((l.length : Int) + 1), .string s] 89)) := below_alloc hb51 _
            have hg52 : ((w3.drew.alloc (.cells #[] 89)).alloc (.cells #[.int .i64 k, .int .i64 ((l.length : Int) + 1), .string s] 89)).heap[w3.heap.size + 1]? = some (.cells #[.int .i64 k, .int .i64 ((l.length : Int) + 1), .string s] 89 (0, 0)) := heap_new _ _ (by simp)
            have q52 := HW.out _ hb52
            have u52 := (HU.out _ hb52).1
            go_simp
            refine hK.out _ _ (by exact q52) (fun hHeld => ?_)
            clear hK K
            (try simp only [Act.put, List.setIfInBounds_toArray, List.set_cons_zero, List.set_cons_succ])
            refine wpAnyH_ready (rs := [12]) (by kernel_rfl) (by simp) ?_
            refine AllReadyH.cons (o := _) rfl (fun K hK => ?_) ?_
            · skip
              have q53 := HW.out _ hb52
              have ux53 := (HU.out (((w3.alloc (.cells #[] 89)).alloc (.cells #[.int .i64 k, .int .i64 ((l.length : Int) + 1), .string s] 89)).drew) hb52).1
              go_simp
              refine hK.out _ _ (by exact q53) (fun hHeld => ?_)
              clear hK K
              (try simp only [Act.put, List.setIfInBounds_toArray, List.set_cons_zero, List.set_cons_succ])
              refine wpAnyH_ready (rs := [13]) (by kernel_rfl) (by simp) ?_
              refine AllReadyH.cons (o := _) rfl (fun K hK => ?_) ?_
              · skip
                (refine step_appR (enc := eSpn) (size := 3) (v := .slice (some ⟨w3.heap.size, 0, none⟩) 0 0) (xs := l) (fun _ => rfl) rfl _ _ _ rfl Try.underlying35 hio hzo ho1 ho2 ho3 rfl ((sl_empty' w3.drew 89 3 (by simp)).alloc _) rfl (hru.only (only_of_below hb52 (fun _ => False)) (fun _ _ => id)) hone (by unfold maxLen; omega) (by omega) ?_)
                rintro v8 w8 hs8 ho8 hv8
                have hb8 : Below w3.heap.size w3 w8 := hb52.trans (ho8.below hb52.size fun i hi e => by simp [Value.ownBlock] at e; omega)
                have hn8 : ∀ g, v8.ownBlock = some g → w3.heap.size ≤ g := fun g hg => by
                  rcases hv8 with e | e
                  · rw [e] at hg; simp [Value.ownBlock] at hg; omega
                  · rw [e] at hg; cases hg; exact hb52.size
                have q54 := HW.out _ hb8
                rw [Nat.zero_add, List.nil_append] at hs8
                obtain ⟨a8, c8, rfl⟩ := hs8.form
                have hg54 := ho8.heap hg52 (fun e => by simp [Value.ownBlock] at e)
                refine hK.out _ _ (by exact q54) (fun hHeld => ?_)
                clear hK K
                (try simp only [Act.put, List.setIfInBounds_toArray, List.set_cons_zero, List.set_cons_succ])
                refine wpAnyH_ready (rs := [16]) (by kernel_rfl) (by simp) ?_
                refine AllReadyH.cons (o := _) rfl (fun K hK => ?_) ?_
                · skip
                  (refine step_appd (v := .slice a8 l.length c8) (n := l.length) (m := 1) (c := 1) (news := eSpn (k, (l.length : Int) + 1, s)) (ad := ⟨w3.heap.size + 1, 0, none⟩) rfl _ _ _ rfl Try.underlying35 hio hzo ho1 ho2 ho3 rfl hs8 (by omega) rfl rfl (cells_blk hg54) (fun u hu => eOne _ u hu) (by unfold maxLen; omega) (by omega) rfl ?_)
                  rintro b9 o9 c9 w9 hs9 ho9 hv9
                  have hb9 : Below w3.heap.size w3 w9 := hb8.trans (ho9.below hb8.size fun i hi e => by have := hn8 i e; omega)
                  have hn9 : ∀ g, (Value.slice (some ⟨b9, o9, none⟩) (l.length + 1) c9).ownBlock = some g → w3.heap.size ≤ g := fun g hg => by
                    simp [Value.ownBlock] at hg
                    subst hg
                    rcases hv9 with e | e
                    · exact hn8 _ e
                    · rw [e]; exact hb8.size
                  have q55 := HW.out _ hb9
                  have u9 := (HU.out _ hb9).1
                  have f9 := (HU.out _ hb9).2
                  refine hK.out _ _ (by exact q55) (fun hHeld => ?_)
                  clear hK K
                  (try simp only [Act.put, List.setIfInBounds_toArray, List.set_cons_zero, List.set_cons_succ])
                  refine wpAnyH_take (i := 17) (v := ?_) rfl (by kernel_rfl) (by kernel_rfl) (by kernel_rfl) (fun _ _ _ h => h) (Or.inl ⟨by rfl, ?_⟩) (by assumption) ?_
                  rotate_left 1
                  · intro w hSw
                    (try dsimp only at hSw)
                    go_simp
                    try with_reducible rfl
                  (try simp only [Act.put, List.setIfInBounds_toArray, List.set_cons_zero, List.set_cons_succ])
                  refine wpAnyH_ready (rs := [18]) (by kernel_rfl) (by simp) ?_
                  refine AllReadyH.cons (o := _) rfl (fun K hK => ?_) ?_
                  · skip
                    have hset : Only (· = ab) w9 (w9.setCell ⟨ab, aoff + j, none⟩ (.slice (some ⟨b9, o9, none⟩) (l.length + 1) c9)) := (Only.refl (· = ab) w9).setCell (p := ⟨ab, aoff + j, none⟩) (fun _ => rfl) _
                    have q10 := HW.out _ hb9
                    replace q10 : ((w9.setCell ⟨ab, aoff + j, none⟩ (.slice (some ⟨b9, o9, none⟩) (l.length + 1) c9)).cell? ⟨pb, 2, none⟩ = some (.slice (some ⟨ab, aoff, none⟩) M.length acap) ∧ (w9.setCell ⟨ab, aoff + j, none⟩ (.slice (some ⟨b9, o9, none⟩) (l.length + 1) c9)).cell? ⟨sb, 0, none⟩ = some (.int .i64 k) ∧ (w9.setCell ⟨ab, aoff + j, none⟩ (.slice (some ⟨b9, o9, none⟩) (l.length + 1) c9)).cell? ⟨sb, 1, none⟩ = some (.int .i64 ((l.length : Int) + 1)) ∧ (w9.setCell ⟨ab, aoff + j, none⟩ (.slice (some ⟨b9, o9, none⟩) (l.length + 1) c9)).cell? ⟨sb, 2, none⟩ = some (.string s)) := ⟨only_cell hset hpab q10.1, only_cell hset hsab q10.2.1, only_cell hset hsab q10.2.2.1, only_cell hset hsab q10.2.2.2⟩
                    go_simp
                    refine hK.out _ _ (by exact q10) (fun hHeld => ?_)
                    clear hK K
                    (try simp only [Act.put, List.setIfInBounds_toArray, List.set_cons_zero, List.set_cons_succ])
                    refine wpAnyH_done (by kernel_rfl) ?_ _
                    go_wp2_with fail
                    go_meet
                    have hs10 : SL w9.heap 89 3 (.slice (some ⟨b9, o9, none⟩) (l.length + 1) c9) (l ++ [(k, (l.length : Int) + 1, s)]).length ((l ++ [(k, (l.length : Int) + 1, s)]).flatMap eSpn) := by
                      rw [List.length_append, List.flatMap_append]; simpa using hs9
                    exact ⟨(H3.out.1.setAt hs H3.out.2.1 hb9 hs10 hn9).base H3.out.2.2, hset.heap ((hb9.block _ (Array.getElem?_eq_some_iff.1 HX.out.1).1).trans HX.out.1) HX.out.2.2, hset.heap ((hb9.block _ (Array.getElem?_eq_some_iff.1 HX.out.2.1).1).trans HX.out.2.1) hsab⟩
                  exact AllReadyH.nil
                exact AllReadyH.nil
              exact AllReadyH.nil
            exact AllReadyH.nil
          exact AllReadyH.nil
        refine AllReadyH.cons (o := _) rfl (fun K hK => ?_) ?_
        · skip
          have q51 := HW.out _ hb50
          go_simp
          refine hK.out _ _ (by exact q51) (fun hHeld => ?_)
          clear hK K
          (try simp only [Act.put, List.setIfInBounds_toArray, List.set_cons_zero, List.set_cons_succ])
          refine wpAnyH_ready (rs := [5, 15]) (by kernel_rfl) (by simp) ?_
          refine AllReadyH.cons (o := _) rfl (fun K hK => ?_) ?_
          · skip
            have hb52 : Below w3.heap.size w3 (w3.drew.alloc (.cells #[] 89)) := below_alloc hb50 _
            have q52 := HW.out _ hb52
            have u52 := (HU.out _ hb52).1
            go_simp
            refine hK.out _ _ (by exact q52) (fun hHeld => ?_)
            clear hK K
            (try simp only [Act.put, List.setIfInBounds_toArray, List.set_cons_zero, List.set_cons_succ])
            refine wpAnyH_ready (rs := [13, 15]) (by kernel_rfl) (by simp) ?_
            refine AllReadyH.cons (o := _) rfl (fun K hK => ?_) ?_
            · skip
              (refine step_appR (enc := eSpn) (size := 3) (v := .slice (some ⟨w3.heap.size, 0, none⟩) 0 0) (xs := l) (fun _ => rfl) rfl _ _ _ rfl Try.underlying35 hio hzo ho1 ho2 ho3 rfl (sl_empty' w3.drew 89 3 (by simp)) rfl (hru.only (only_of_below hb52 (fun _ => False)) (fun _ _ => id)) hone (by unfold maxLen; omega) (by omega) ?_)
              rintro v8 w8 hs8 ho8 hv8
              have hb8 : Below w3.heap.size w3 w8 := hb52.trans (ho8.below hb52.size fun i hi e => by simp [Value.ownBlock] at e; omega)
              have hn8 : ∀ g, v8.ownBlock = some g → w3.heap.size ≤ g := fun g hg => by
                rcases hv8 with e | e
                · rw [e] at hg; simp [Value.ownBlock] at hg; omega
                · rw [e] at hg; cases hg; exact hb52.size
              have q53 := HW.out _ hb8
              rw [Nat.zero_add, List.nil_append] at hs8
              obtain ⟨a8, c8, rfl⟩ := hs8.form
              refine hK.out _ _ (by exact q53) (fun hHeld => ?_)
              clear hK K
              (try simp only [Act.put, List.setIfInBounds_toArray, List.set_cons_zero, List.set_cons_succ])
              refine wpAnyH_ready (rs := [15]) (by kernel_rfl) (by simp) ?_
              refine AllReadyH.cons (o := _) rfl (fun K hK => ?_) ?_
              · skip
                have hb54 : Below w3.heap.size w3 (w8.alloc (.cells #[.int .i64 k, .int .i64 ((l.length : Int) + 1), .string s] 89)) := below_alloc hb8 _
                have hg54 : (w8.alloc (.cells #[.int .i64 k, .int .i64 ((l.length : Int) + 1), .string s] 89)).heap[w8.heap.size]? = some (.cells #[.int .i64 k, .int .i64 ((l.length : Int) + 1), .string s] 89 (0, 0)) := heap_new _ _ (by simp)
                have q54 := HW.out _ hb54
                go_simp
                refine hK.out _ _ (by exact q54) (fun hHeld => ?_)
                clear hK K
                (try simp only [Act.put, List.setIfInBounds_toArray, List.set_cons_zero, List.set_cons_succ])
                refine wpAnyH_ready (rs := [16]) (by kernel_rfl) (by simp) ?_
                refine AllReadyH.cons (o := _) rfl (fun K hK => ?_) ?_
                · skip
                  (refine step_appd (v := .slice a8 l.length c8) (n := l.length) (m := 1) (c := 1) (news := eSpn (k, (l.length : Int) + 1, s)) (ad := ⟨w8.heap.size, 0, none⟩) rfl _ _ _ rfl Try.underlying35 hio hzo ho1 ho2 ho3 rfl (hs8.alloc _) (by omega) rfl rfl (cells_blk hg54) (fun u hu => eOne _ u hu) (by unfold maxLen; omega) (by omega) rfl ?_)
                  rintro b9 o9 c9 w9 hs9 ho9 hv9
                  have hb9 : Below w3.heap.size w3 w9 := hb54.trans (ho9.below hb54.size fun i hi e => by have := hn8 i e; omega)
                  have hn9 : ∀ g, (Value.slice (some ⟨b9, o9, none⟩) (l.length + 1) c9).ownBlock = some g → w3.heap.size ≤ g := fun g hg => by
                    simp [Value.ownBlock] at hg
                    subst hg
                    rcases hv9 with e | e
                    · exact hn8 _ e
                    · rw [e]; exact hb54.size
                  have q55 := HW.out _ hb9
                  have u9 := (HU.out _ hb9).1
                  have f9 := (HU.out _ hb9).2
                  refine hK.out _ _ (by exact q55) (fun hHeld => ?_)
                  clear hK K
                  (try simp only [Act.put, List.setIfInBounds_toArray, List.set_cons_zero, List.set_cons_succ])
                  refine wpAnyH_take (i := 17) (v := ?_) rfl (by kernel_rfl) (by kernel_rfl) (by kernel_rfl) (fun _ _ _ h => h) (Or.inl ⟨by rfl, ?_⟩) (by assumption) ?_
                  rotate_left 1
                  · intro w hSw
                    (try dsimp only at hSw)
                    go_simp
                    try with_reducible rfl
                  (try simp only [Act.put, List.setIfInBounds_toArray, List.set_cons_zero, List.set_cons_succ])
                  refine wpAnyH_ready (rs := [18]) (by kernel_rfl) (by simp) ?_
                  refine AllReadyH.cons (o := _) rfl (fun K hK => ?_) ?_
                  · skip
                    have hset : Only (· = ab) w9 (w9.setCell ⟨ab, aoff + j, none⟩ (.slice (some ⟨b9, o9, none⟩) (l.length + 1) c9)) := (Only.refl (· = ab) w9).setCell (p := ⟨ab, aoff + j, none⟩) (fun _ => rfl) _
                    have q10 := HW.out _ hb9
                    replace q10 : ((w9.setCell ⟨ab, aoff + j, none⟩ (.slice (some ⟨b9, o9, none⟩) (l.length + 1) c9)).cell? ⟨pb, 2, none⟩ = some (.slice (some ⟨ab, aoff, none⟩) M.length acap) ∧ (w9.setCell ⟨ab, aoff + j, none⟩ (.slice (some ⟨b9, o9, none⟩) (l.length + 1) c9)).cell? ⟨sb, 0, none⟩ = some (.int .i64 k) ∧ (w9.setCell ⟨ab, aoff + j, none⟩ (.slice (some ⟨b9, o9, none⟩) (l.length + 1) c9)).cell? ⟨sb, 1, none⟩ = some (.int .i64 ((l.length : Int) + 1)) ∧ (w9.setCell ⟨ab, aoff + j, none⟩ (.slice (some ⟨b9, o9, none⟩) (l.length + 1) c9)).cell? ⟨sb, 2, none⟩ = some (.string s)) := ⟨only_cell hset hpab q10.1, only_cell hset hsab q10.2.1, only_cell hset hsab q10.2.2.1, only_cell hset hsab q10.2.2.2⟩
                    go_simp
                    refine hK.out _ _ (by exact q10) (fun hHeld => ?_)
                    clear hK K
                    (try simp only [Act.put, List.setIfInBounds_toArray, List.set_cons_zero, List.set_cons_succ])
                    refine wpAnyH_done (by kernel_rfl) ?_ _
                    go_wp2_with fail
                    go_meet
                    have hs10 : SL w9.heap 89 3 (.slice (some ⟨b9, o9, none⟩) (l.length + 1) c9) (l ++ [(k, (l.length : Int) + 1, s)]).length ((l ++ [(k, (l.length : Int) + 1, s)]).flatMap eSpn) := by
                      rw [List.length_append, List.flatMap_append]; simpa using hs9
                    exact ⟨(H3.out.1.setAt hs H3.out.2.1 hb9 hs10 hn9).base H3.out.2.2, hset.heap ((hb9.block _ (Array.getElem?_eq_some_iff.1 HX.out.1).1).trans HX.out.1) HX.out.2.2, hset.heap ((hb9.block _ (Array.getElem?_eq_some_iff.1 HX.out.2.1).1).trans HX.out.2.1) hsab⟩
                  exact AllReadyH.nil
                exact AllReadyH.nil
              exact AllReadyH.nil
            refine AllReadyH.cons (o := _) rfl (fun K hK => ?_) ?_
            · skip
              have hb53 : Below w3.heap.size w3 ((w3.drew.alloc (.cells #[] 89)).alloc (.cells #[.int .i64 k, .int .i64 ((l.length : Int) + 1), .string s] 89)) := below_alloc hb52 _
              have hg53 : ((w3.drew.alloc (.cells #[] 89)).alloc (.cells #[.int .i64 k, .int .i64 ((l.length : Int) + 1), .string s] 89)).heap[w3.heap.size + 1]? = some (.cells #[.int .i64 k, .int .i64 ((l.length : Int) + 1), .string s] 89 (0, 0)) := heap_new _ _ (by simp)
              have q53 := HW.out _ hb53
              have u53 := (HU.out _ hb53).1
              go_simp
              refine hK.out _ _ (by exact q53) (fun hHeld => ?_)
              clear hK K
              (try simp only [Act.put, List.setIfInBounds_toArray, List.set_cons_zero, List.set_cons_succ])
              refine wpAnyH_ready (rs := [13]) (by kernel_rfl) (by simp) ?_
              refine AllReadyH.cons (o := _) rfl (fun K hK => ?_) ?_
              · skip
                (refine step_appR (enc := eSpn) (size := 3) (v := .slice (some ⟨w3.heap.size, 0, none⟩) 0 0) (xs := l) (fun _ => rfl) rfl _ _ _ rfl Try.underlying35 hio hzo ho1 ho2 ho3 rfl ((sl_empty' w3.drew 89 3 (by simp)).alloc _) rfl (hru.only (only_of_below hb53 (fun _ => False)) (fun _ _ => id)) hone (by unfold maxLen; omega) (by omega) ?_)
                rintro v8 w8 hs8 ho8 hv8
                have hb8 : Below w3.heap.size w3 w8 := hb53.trans (ho8.below hb53.size fun i hi e => by simp [Value.ownBlock] at e; omega)
                have hn8 : ∀ g, v8.ownBlock = some g → w3.heap.size ≤ g := fun g hg => by
                  rcases hv8 with e | e
                  · rw [e] at hg; simp [Value.ownBlock] at hg; omega
                  · rw [e] at hg; cases hg; exact hb53.size
                have q54 := HW.out _ hb8
                rw [Nat.zero_add, List.nil_append] at hs8
                obtain ⟨a8, c8, rfl⟩ := hs8.form
                have hg54 := ho8.heap hg53 (fun e => by simp [Value.ownBlock] at e)
                refine hK.out _ _ (by exact q54) (fun hHeld => ?_)
                clear hK K
                (try simp only [Act.put, List.setIfInBounds_toArray, List.set_cons_zero, List.set_cons_succ])
                refine wpAnyH_ready (rs := [16]) (by kernel_rfl) (by simp) ?_
                refine AllReadyH.cons (o := _) rfl (fun K hK => ?_) ?_
                · skip
                  (refine step_appd (v := .slice a8 l.length c8) (n := l.length) (m := 1) (c := 1) (news := eSpn (k, (l.length : Int) + 1, s)) (ad := ⟨w3.heap.size + 1, 0, none⟩) rfl _ _ _ rfl Try.underlying35 hio hzo ho1 ho2 ho3 rfl hs8 (by omega) rfl rfl (cells_blk hg54) (fun u hu => eOne _ u hu) (by unfold maxLen; omega) (by omega) rfl ?_)
                  rintro b9 o9 c9 w9 hs9 ho9 hv9
                  have hb9 : Below w3.heap.size w3 w9 := hb8.trans (ho9.below hb8.size fun i hi e => by have := hn8 i e; omega)
                  have hn9 : ∀ g, (Value.slice (some ⟨b9, o9, none⟩) (l.length + 1) c9).ownBlock = some g → w3.heap.size ≤ g := fun g hg => by
                    simp [Value.ownBlock] at hg
                    subst hg
                    rcases hv9 with e | e
                    · exact hn8 _ e
                    · rw [e]; exact hb8.size
                  have q55 := HW.out _ hb9
                  have u9 := (HU.out _ hb9).1
                  have f9 := (HU.out _ hb9).2
                  refine hK.out _ _ (by exact q55) (fun hHeld => ?_)
                  clear hK K
                  (try simp only [Act.put, List.setIfInBounds_toArray, List.set_cons_zero, List.set_cons_succ])
                  refine wpAnyH_take (i := 17) (v := ?_) rfl (by kernel_rfl) (by kernel_rfl) (by kernel_rfl) (fun _ _ _ h => h) (Or.inl ⟨by rfl, ?_⟩) (by assumption) ?_
                  rotate_left 1
                  · intro w hSw
                    (try dsimp only at hSw)
                    go_simp
                    try with_reducible rfl
                  (try simp only [Act.put, List.setIfInBounds_toArray, List.set_cons_zero, List.set_cons_succ])
                  refine wpAnyH_ready (rs := [18]) (by kernel_rfl) (by simp) ?_
                  refine AllReadyH.cons (o := _) rfl (fun K hK => ?_) ?_
                  · skip
                    have hset : Only (· = ab) w9 (w9.setCell ⟨ab, aoff + j, none⟩ (.slice (some ⟨b9, o9, none⟩) (l.length + 1) c9)) := (Only.refl (· = ab) w9).setCell (p := ⟨ab, aoff + j, none⟩) (fun _ => rfl) _
                    have q10 := HW.out _ hb9
                    replace q10 : ((w9.setCell ⟨ab, aoff + j, none⟩ (.slice (some ⟨b9, o9, none⟩) (l.length + 1) c9)).cell? ⟨pb, 2, none⟩ = some (.slice (some ⟨ab, aoff, none⟩) M.length acap) ∧ (w9.setCell ⟨ab, aoff + j, none⟩ (.slice (some ⟨b9, o9, none⟩) (l.length + 1) c9)).cell? ⟨sb, 0, none⟩ = some (.int .i64 k) ∧ (w9.setCell ⟨ab, aoff + j, none⟩ (.slice (some ⟨b9, o9, none⟩) (l.length + 1) c9)).cell? ⟨sb, 1, none⟩ = some (.int .i64 ((l.length : Int) + 1)) ∧ (w9.setCell ⟨ab, aoff + j, none⟩ (.slice (some ⟨b9, o9, none⟩) (l.length + 1) c9)).cell? ⟨sb, 2, none⟩ = some (.string s)) := ⟨only_cell hset hpab q10.1, only_cell hset hsab q10.2.1, only_cell hset hsab q10.2.2.1, only_cell hset hsab q10.2.2.2⟩
                    go_simp
                    refine hK.out _ _ (by exact q10) (fun hHeld => ?_)
                    clear hK K
                    (try simp only [Act.put, List.setIfInBounds_toArray, List.set_cons_zero, List.set_cons_succ])
                    refine wpAnyH_done (by kernel_rfl) ?_ _
                    go_wp2_with fail
                    go_meet
                    have hs10 : SL w9.heap 89 3 (.slice (some ⟨b9, o9, none⟩) (l.length + 1) c9) (l ++ [(k, (l.length : Int) + 1, s)]).length ((l ++ [(k, (l.length : Int) + 1, s)]).flatMap eSpn) := by
                      rw [List.length_append, List.flatMap_append]; simpa using hs9
                    exact ⟨(H3.out.1.setAt hs H3.out.2.1 hb9 hs10 hn9).base H3.out.2.2, hset.heap ((hb9.block _ (Array.getElem?_eq_some_iff.1 HX.out.1).1).trans HX.out.1) HX.out.2.2, hset.heap ((hb9.block _ (Array.getElem?_eq_some_iff.1 HX.out.2.1).1).trans HX.out.2.1) hsab⟩
                  exact AllReadyH.nil
                exact AllReadyH.nil
              exact AllReadyH.nil
            exact AllReadyH.nil
          refine AllReadyH.cons (o := _) rfl (fun K hK => ?_) ?_
          · skip
            have hb52 : Below w3.heap.size w3 (w3.drew.alloc (.cells #[.int .i64 k, .int .i64 ((l.length : Int) + 1), .string s] 89)) := below_alloc hb50 _
            have hg52 : (w3.drew.alloc (.cells #[.int .i64 k, .int .i64 ((l.length : Int) + 1), .string s] 89)).heap[w3.heap.size]? = some (.cells #[.int .i64 k, .int .i64 ((l.length : Int) + 1), .string s] 89 (0, 0)) := heap_new _ _ (by simp)
            have q52 := HW.out _ hb52
            have u52 := (HU.out _ hb52).1
            go_simp
            refine hK.out _ _ (by exact q52) (fun hHeld => ?_)
            clear hK K
            (try simp only [Act.put, List.setIfInBounds_toArray, List.set_cons_zero, List.set_cons_succ])
            refine wpAnyH_ready (rs := [5]) (by kernel_rfl) (by simp) ?_
            refine AllReadyH.cons (o := _) rfl (fun K hK => ?_) ?_
            · skip
              have hb53 : Below w3.heap.size w3 ((w3.drew.alloc (.cells #[.int .i64 k, .int .i64 ((l.length : Int) + 1), .string s] 89)).alloc (.cells #[] 89)) := below_alloc hb52 _
              have hg53 : ((w3.drew.alloc (.cells #[.int .i64 k, .int .i64 ((l.length : Int) + 1), .string s] 89)).alloc (.cells #[] 89)).heap[w3.heap.size]? = some (.cells #[.int .i64 k, .int .i64 ((l.length : Int) + 1), .string s] 89 (0, 0)) := ((below_alloc (Below.refl _ _) _).block _ (Array.getElem?_eq_some_iff.1 hg52).1).trans hg52
              have q53 := HW.out _ hb53
              have u53 := (HU.out _ hb53).1
              go_simp
              refine hK.out _ _ (by exact q53) (fun hHeld => ?_)
              clear hK K
              (try simp only [Act.put, List.setIfInBounds_toArray, List.set_cons_zero, List.set_cons_succ])
              refine wpAnyH_ready (rs := [13]) (by kernel_rfl) (by simp) ?_
              refine AllReadyH.cons (o := _) rfl (fun K hK => ?_) ?_
              · skip
                (refine step_appR (enc := eSpn) (size := 3) (v := .slice (some ⟨w3.heap.size + 1, 0, none⟩) 0 0) (xs := l) (fun _ => rfl) rfl _ _ _ rfl Try.underlying35 hio hzo ho1 ho2 ho3 rfl (sl_empty' (w3.drew.alloc (.cells #[.int .i64 k, .int .i64 ((l.length : Int) + 1), .string s] 89)) 89 3 (by simp)) rfl (hru.only (only_of_below hb53 (fun _ => False)) (fun _ _ => id)) hone (by unfold maxLen; omega) (by omega) ?_)
                rintro v8 w8 hs8 ho8 hv8
                have hb8 : Below w3.heap.size w3 w8 := hb53.trans (ho8.below hb53.size fun i hi e => by simp [Value.ownBlock] at e; omega)
                have hn8 : ∀ g, v8.ownBlock = some g → w3.heap.size ≤ g := fun g hg => by
                  rcases hv8 with e | e
                  · rw [e] at hg; simp [Value.ownBlock] at hg; omega
                  · rw [e] at hg; cases hg; exact hb53.size
                have q54 := HW.out _ hb8
                rw [Nat.zero_add, List.nil_append] at hs8
                obtain ⟨a8, c8, rfl⟩ := hs8.form
                have hg54 := ho8.heap hg53 (fun e => by simp [Value.ownBlock] at e)
                refine hK.out _ _ (by exact q54) (fun hHeld => ?_)
                clear hK K
                (try simp only [Act.put, List.setIfInBounds_toArray, List.set_cons_zero, List.set_cons_succ])
                refine wpAnyH_ready (rs := [16]) (by kernel_rfl) (by simp) ?_
                refine AllReadyH.cons (o := _) rfl (fun K hK => ?_) ?_
                · skip
                  (refine step_appd (v := .slice a8 l.length c8) (n := l.length) (m := 1) (c := 1) (news := eSpn (k, (l.length : Int) + 1, s)) (ad := ⟨w3.heap.size, 0, none⟩) rfl _ _ _ rfl Try.underlying35 hio hzo ho1 ho2 ho3 rfl hs8 (by omega) rfl rfl (cells_blk hg54) (fun u hu => eOne _ u hu) (by unfold maxLen; omega) (by omega) rfl ?_)
                  rintro b9 o9 c9 w9 hs9 ho9 hv9
                  have hb9 : Below w3.heap.size w3 w9 := hb8.trans (ho9.below hb8.size fun i hi e => by have := hn8 i e; omega)
                  have hn9 : ∀ g, (Value.slice (some ⟨b9, o9, none⟩) (l.length + 1) c9).ownBlock = some g → w3.heap.size ≤ g := fun g hg => by
                    simp [Value.ownBlock] at hg
                    subst hg
                    rcases hv9 with e | e
                    · exact hn8 _ e
                    · rw [e]; exact hb8.size
                  have q55 := HW.out _ hb9
                  have u9 := (HU.out _ hb9).1
                  have f9 := (HU.out _ hb9).2
                  refine hK.out _ _ (by exact q55) (fun hHeld => ?_)
                  clear hK K
                  (try simp only [Act.put, List.setIfInBounds_toArray, List.set_cons_zero, List.set_cons_succ])
                  refine wpAnyH_take (i := 17) (v := ?_) rfl (by kernel_rfl) (by kernel_rfl) (by kernel_rfl) (fun _ _ _ h => h) (Or.inl ⟨by rfl, ?_⟩) (by assumption) ?_
                  rotate_left 1
                  · intro w hSw
                    (try dsimp only at hSw)
                    go_simp
                    try with_reducible rfl
                  (try simp only [Act.put, List.setIfInBounds_toArray, List.set_cons_zero, List.set_cons_succ])
                  refine wpAnyH_ready (rs := [18]) (by kernel_rfl) (by simp) ?_
                  refine AllReadyH.cons (o := _) rfl (fun K hK => ?_) ?_
                  · skip
                    have hset : Only (· = ab) w9 (w9.setCell ⟨ab, aoff + j, none⟩ (.slice (some ⟨b9, o9, none⟩) (l.length + 1) c9)) := (Only.refl (· = ab) w9).setCell (p := ⟨ab, aoff + j, none⟩) (fun _ => rfl) _
                    have q10 := HW.out _ hb9
                    replace q10 : ((w9.setCell ⟨ab, aoff + j, none⟩ (.slice (some ⟨b9, o9, none⟩) (l.length + 1) c9)).cell? ⟨pb, 2, none⟩ = some (.slice (some ⟨ab, aoff, none⟩) M.length acap) ∧ (w9.setCell ⟨ab, aoff + j, none⟩ (.slice (some ⟨b9, o9, none⟩) (l.length + 1) c9)).cell? ⟨sb, 0, none⟩ = some (.int .i64 k) ∧ (w9.setCell ⟨ab, aoff + j, none⟩ (.slice (some ⟨b9, o9, none⟩) (l.length + 1) c9)).cell? ⟨sb, 1, none⟩ = some (.int .i64 ((l.length : Int) + 1)) ∧ (w9.setCell ⟨ab, aoff + j, none⟩ (.slice (some ⟨b9, o9, none⟩) (l.length + 1) c9)).cell? ⟨sb, 2, none⟩ = some (.string s)) := ⟨only_cell hset hpab q10.1, only_cell hset hsab q10.2.1, only_cell hset hsab q10.2.2.1, only_cell hset hsab q10.2.2.2⟩
                    go_simp
                    refine hK.out _ _ (by exact q10) (fun hHeld => ?_)
                    clear hK K
                    (try simp only [Act.put, List.setIfInBounds_toArray, List.set_cons_zero, List.set_cons_succ])
                    refine wpAnyH_done (by kernel_rfl) ?_ _
                    go_wp2_with fail
                    go_meet
                    have hs10 : SL w9.heap 89 3 (.slice (some ⟨b9, o9, none⟩) (l.length + 1) c9) (l ++ [(k, (l.length : Int) + 1, s)]).length ((l ++ [(k, (l.length : Int) + 1, s)]).flatMap eSpn) := by
                      rw [List.length_append, List.flatMap_append]; simpa using hs9
                    exact ⟨(H3.out.1.setAt hs H3.out.2.1 hb9 hs10 hn9).base H3.out.2.2, hset.heap ((hb9.block _ (Array.getElem?_eq_some_iff.1 HX.out.1).1).trans HX.out.1) HX.out.2.2, hset.heap ((hb9.block _ (Array.getElem?_eq_some_iff.1 HX.out.2.1).1).trans HX.out.2.1) hsab⟩
                  exact AllReadyH.nil
                exact AllReadyH.nil
              exact AllReadyH.nil
            exact AllReadyH.nil
          exact AllReadyH.nil
        refine AllReadyH.cons (o := _) rfl (fun K hK => ?_) ?_
        · skip
          have hb51 : Below w3.heap.size w3 (w3.drew.alloc (.cells #[.int .i64 k, .int .i64 ((l.length : Int) + 1), .string s] 89)) := below_alloc hb50 _
          have hg51 : (w3.drew.alloc (.cells #[.int .i64 k, .int .i64 ((l.length : Int) + 1), .string s] 89)).heap[w3.heap.size]? = some (.cells #[.int .i64 k, .int .i64 ((l.length : Int) + 1), .string s] 89 (0, 0)) := heap_new _ _ (by simp)
          have q51 := HW.out _ hb51
          have u51 := (HU.out _ hb51).1
          go_simp
          refine hK.out _ _ (by exact q51) (fun hHeld => ?_)
          clear hK K
          (try simp only [Act.put, List.setIfInBounds_toArray, List.set_cons_zero, List.set_cons_succ])
          refine wpAnyH_ready (rs := [5, 12]) (by kernel_rfl) (by simp) ?_
          refine AllReadyH.cons (o := _) rfl (fun K hK => ?_) ?_
          · skip
            have hb52 : Below w3.heap.size w3 ((w3.drew.alloc (.cells #[.int .i64 k, .int .i64 ((l.length : Int) + 1), .string s] 89)).alloc (.cells #[] 89)) := below_alloc hb51 _
            have hg52 : ((w3.drew.alloc (.cells #[.int .i64 k, .int .i64 ((l.length : Int) + 1), .string s] 89)).alloc (.cells #[] 89)).heap[w3.heap.size]? = some (.cells #[.int .i64 k, .int .i64 ((l.length : Int) + 1), .string s] 89 (0, 0)) := ((below_alloc (Below.refl _ _) _).block _ (Array.getElem?_eq_some_iff.1 hg51).1).trans hg51
            have q52 := HW.out _ hb52
            have u52 := (HU.out _ hb52).1
            go_simp
            refine hK.out _ _ (by exact q52) (fun hHeld => ?_)
            clear hK K
            (try simp only [Act.put, List.setIfInBounds_toArray, List.set_cons_zero, List.set_cons_succ])
            refine wpAnyH_ready (rs := [12]) (by kernel_rfl) (by simp) ?_
            refine AllReadyH.cons (o := _) rfl (fun K hK => ?_) ?_
            · skip
              have q53 := HW.out _ hb52
              have ux53 := (HU.out (((w3.alloc (.cells #[.int .i64 k, .int .i64 ((l.length : Int) + 1), .string s] 89)).alloc (.cells #[] 89)).drew) hb52).1
              go_simp
              refine hK.out _ _ (by exact q53) (fun hHeld => ?_)
              clear hK K
              (try simp only [Act.put, List.setIfInBounds_toArray, List.set_cons_zero, List.set_cons_succ])
              refine wpAnyH_ready (rs := [13]) (by kernel_rfl) (by simp) ?_
              refine AllReadyH.cons (o := _) rfl (fun K hK => ?_) ?_
              · skip
                (refine step_appR (enc := eSpn) (size := 3) (v := .slice (some ⟨w3.heap.size + 1, 0, none⟩) 0 0) (xs := l) (fun _ => rfl) rfl _ _ _ rfl Try.underlying35 hio hzo ho1 ho2 ho3 rfl (sl_empty' (w3.drew.alloc (.cells #[.int .i64 k, .int .i64 ((l.length : Int) + 1), .string s] 89)) 89 3 (by simp)) rfl (hru.only (only_of_below hb52 (fun _ => False)) (fun _ _ => id)) hone (by unfold maxLen; omega) (by omega) ?_)
                rintro v8 w8 hs8 ho8 hv8
                have hb8 : Below w3.heap.size w3 w8 := hb52.trans (ho8.below hb52.size fun i hi e => by simp [Value.ownBlock] at e; omega)
                have hn8 : ∀ g, v8.ownBlock = some g → w3.heap.size ≤ g := fun g hg => by
                  rcases hv8 with e | e
                  · rw [e] at hg; simp [Value.ownBlock] at hg; omega
                  · rw [e] at hg; cases hg; exact hb52.size
                have q54 := HW.out _ hb8
                rw [Nat.zero_add, List.nil_append] at hs8
                obtain ⟨a8, c8, rfl⟩ := hs8.form
                have hg54 := ho8.heap hg52 (fun e => by simp [Value.ownBlock] at e)
                refine hK.out _ _ (by exact q54) (fun hHeld => ?_)
                clear hK K
                (try simp only [Act.put, List.setIfInBounds_toArray, List.set_cons_zero, List.set_cons_succ])
                refine wpAnyH_ready (rs := [16]) (by kernel_rfl) (by simp) ?_
                refine AllReadyH.cons (o := _) rfl (fun K hK => ?_) ?_
                · skip
                  (refine step_appd (v := .slice a8 l.length c8) (n := l.length) (m := 1) (c := 1) (news := eSpn (k, (l.length : Int) + 1, s)) (ad := ⟨w3.heap.size, 0, none⟩) rfl _ _ _ rfl Try.underlying35 hio hzo ho1 ho2 ho3 rfl hs8 (by omega) rfl rfl (cells_blk hg54) (fun u hu => eOne _ u hu) (by unfold maxLen; omega) (by omega) rfl ?_)
                  rintro b9 o9 c9 w9 hs9 ho9 hv9
                  have hb9 : Below w3.heap.size w3 w9 := hb8.trans (ho9.below hb8.size fun i hi e => by have := hn8 i e; omega)
                  have hn9 : ∀ g, (Value.slice (some ⟨b9, o9, none⟩) (l.length + 1) c9).ownBlock = some g → w3.heap.size ≤ g := fun g hg => by
                    simp [Value.ownBlock] at hg
                    subst hg
                    rcases hv9 with e | e
                    · exact hn8 _ e
                    · rw [e]; exact hb8.size
                  have q55 := HW.out _ hb9
                  have u9 := (HU.out _ hb9).1
                  have f9 := (HU.out _ hb9).2
                  refine hK.out _ _ (by exact q55) (fun hHeld => ?_)
                  clear hK K
                  (try simp only [Act.put, List.setIfInBounds_toArray, List.set_cons_zero, List.set_cons_succ])
                  refine wpAnyH_take (i := 17) (v := ?_) rfl (by kernel_rfl) (by kernel_rfl) (by kernel_rfl) (fun _ _ _ h => h) (Or.inl ⟨by rfl, ?_⟩) (by assumption) ?_
                  rotate_left 1
                  · intro w hSw
                    (try dsimp only at hSw)
                    go_simp
                    try with_reducible rfl
                  (try simp only [Act.put, List.setIfInBounds_toArray, List.set_cons_zero, List.set_cons_succ])
                  refine wpAnyH_ready (rs := [18]) (by kernel_rfl) (by simp) ?_
                  refine AllReadyH.cons (o := _) rfl (fun K hK => ?_) ?_
                  · skip
                    have hset : Only (· = ab) w9 (w9.setCell ⟨ab, aoff + j, none⟩ (.slice (some ⟨b9, o9, none⟩) (l.length + 1) c9)) := (Only.refl (· = ab) w9).setCell (p := ⟨ab, aoff + j, none⟩) (fun _ => rfl) _
                    have q10 := HW.out _ hb9
                    replace q10 : ((w9.setCell ⟨ab, aoff + j, none⟩ (.slice (some ⟨b9, o9, none⟩) (l.length + 1) c9)).cell? ⟨pb, 2, none⟩ = some (.slice (some ⟨ab, aoff, none⟩) M.length acap) ∧ (w9.setCell ⟨ab, aoff + j, none⟩ (.slice (some ⟨b9, o9, none⟩) (l.length + 1) c9)).cell? ⟨sb, 0, none⟩ = some (.int .i64 k) ∧ (w9.setCell ⟨ab, aoff + j, none⟩ (.slice (some ⟨b9, o9, none⟩) (l.length + 1) c9)).cell? ⟨sb, 1, none⟩ = some (.int .i64 ((l.length : Int) + 1)) ∧ (w9.setCell ⟨ab, aoff + j, none⟩ (.slice (some ⟨b9, o9, none⟩) (l.length + 1) c9)).cell? ⟨sb, 2, none⟩ = some (.string s)) := ⟨only_cell hset hpab q10.1, only_cell hset hsab q10.2.1, only_cell hset hsab q10.2.2.1, only_cell hset hsab q10.2.2.2⟩
                    go_simp
                    refine hK.out _ _ (by exact q10) (fun hHeld => ?_)
                    clear hK K
                    (try simp only [Act.put, List.setIfInBounds_toArray, List.set_cons_zero, List.set_cons_succ])
                    refine wpAnyH_done (by kernel_rfl) ?_ _
                    go_wp2_with fail
                    go_meet
                    have hs10 : SL w9.heap 89 3 (.slice (some ⟨b9, o9, none⟩) (l.length + 1) c9) (l ++ [(k, (l.length : Int) + 1, s)]).length ((l ++ [(k, (l.length : Int) + 1, s)]).flatMap eSpn) := by
                      rw [List.length_append, List.flatMap_append]; simpa using hs9
                    exact ⟨(H3.out.1.setAt hs H3.out.2.1 hb9 hs10 hn9).base H3.out.2.2, hset.heap ((hb9.block _ (Array.getElem?_eq_some_iff.1 HX.out.1).1).trans HX.out.1) HX.out.2.2, hset.heap ((hb9.block _ (Array.getElem?_eq_some_iff.1 HX.out.2.1).1).trans HX.out.2.1) hsab⟩
                  exact AllReadyH.nil
                exact AllReadyH.nil
              exact AllReadyH.nil
            exact AllReadyH.nil
          refine AllReadyH.cons (o := _) rfl (fun K hK => ?_) ?_
          · skip
            have q52 := HW.out _ hb51
            have ux52 := (HU.out ((w3.alloc (.cells #[.int .i64 k, .int .i64 ((l.length : Int) + 1), .string s] 89)).drew) hb51).1
            go_simp
            refine hK.out _ _ (by exact q52) (fun hHeld => ?_)
            clear hK K
            (try simp only [Act.put, List.setIfInBounds_toArray, List.set_cons_zero, List.set_cons_succ])
            refine wpAnyH_ready (rs := [5]) (by kernel_rfl) (by simp) ?_
            refine AllReadyH.cons (o := _) rfl (fun K hK => ?_) ?_
            · skip
              have hb53 : Below w3.heap.size w3 ((w3.drew.alloc (.cells #[.int .i64 k, .int .i64 ((l.length : Int) + 1), .string s] 89)).alloc (.cells #[] 89)) := below_alloc hb51 _
              have hg53 : ((w3.drew.alloc (.cells #[.int .i64 k, .int .i64 ((l.length : Int) + 1), .string s] 89)).alloc (.cells #[] 89)).heap[w3.heap.size]? = some (.cells #[.int .i64 k, .int .i64 ((l.length : Int) + 1), .string s] 89 (0, 0)) := ((below_alloc (Below.refl _ _) _).block _ (Array.getElem?_eq_some_iff.1 hg51).1).trans hg51
              have q53 := HW.out _ hb53
              have u53 := (HU.out _ hb53).1
              go_simp
              refine hK.out _ _ (by exact q53) (fun hHeld => ?_)
              clear hK K
              (try simp only [Act.put, List.setIfInBounds_toArray, List.set_cons_zero, List.set_cons_succ])
              refine wpAnyH_ready (rs := [13]) (by kernel_rfl) (by simp) ?_
              refine AllReadyH.cons (o := _) rfl (fun K hK => ?_) ?_
              · skip
                (refine step_appR (enc := eSpn) (size := 3) (v := .slice (some ⟨w3.heap.size + 1, 0, none⟩) 0 0) (xs := l) (fun _ => rfl) rfl _ _ _ rfl Try.underlying35 hio hzo ho1 ho2 ho3 rfl (sl_empty' (w3.drew.alloc (.cells #[.int .i64 k, .int .i64 ((l.length : Int) + 1), .string s] 89)) 89 3 (by simp)) rfl (hru.only (only_of_below hb53 (fun _ => False)) (fun _ _ => id)) hone (by unfold maxLen; omega) (by omega) ?_)
                rintro v8 w8 hs8 ho8 hv8
                have hb8 : Below w3.heap.size w3 w8 := hb53.trans (ho8.below hb53.size fun i hi e => by simp [Value.ownBlock] at e; omega)
                have hn8 : ∀ g, v8.ownBlock = some g → w3.heap.size ≤ g := fun g hg => by
                  rcases hv8 with e | e
                  · rw [e] at hg; simp [Value.ownBlock] at hg; omega
                  · rw [e] at hg; cases hg; exact hb53.size
                have q54 := HW.out _ hb8
                rw [Nat.zero_add, List.nil_append] at hs8
                obtain ⟨a8, c8, rfl⟩ := hs8.form
                have hg54 := ho8.heap hg53 (fun e => by simp [Value.ownBlock] at e)
                refine hK.out _ _ (by exact q54) (fun hHeld => ?_)
                clear hK K
                (try simp only [Act.put, List.setIfInBounds_toArray, List.set_cons_zero, List.set_cons_succ])
                refine wpAnyH_ready (rs := [16]) (by kernel_rfl) (by simp) ?_
                refine AllReadyH.cons (o := _) rfl (fun K hK => ?_) ?_
                · skip
                  (refine step_appd (v := .slice a8 l.length c8) (n := l.length) (m := 1) (c := 1) (news := eSpn (k, (l.length : Int) + 1, s)) (ad := ⟨w3.heap.size, 0, none⟩) rfl _ _ _ rfl Try.underlying35 hio hzo ho1 ho2 ho3 rfl hs8 (by omega) rfl rfl (cells_blk hg54) (fun u hu => eOne _ u hu) (by unfold maxLen; omega) (by omega) rfl ?_)
                  rintro b9 o9 c9 w9 hs9 ho9 hv9
                  have hb9 : Below w3.heap.size w3 w9 := hb8.trans (ho9.below hb8.size fun i hi e => by have := hn8 i e; omega)
                  have hn9 : ∀ g, (Value.slice (some ⟨b9, o9, none⟩) (l.length + 1) c9).ownBlock = some g → w3.heap.size ≤ g := fun g hg => by
                    simp [Value.ownBlock] at hg
                    subst hg
                    rcases hv9 with e | e
                    · exact hn8 _ e
                    · rw [e]; exact hb8.size
                  have q55 := HW.out _ hb9
                  have u9 := (HU.out _ hb9).1
                  have f9 := (HU.out _ hb9).2
                  refine hK.out _ _ (by exact q55) (fun hHeld => ?_)
                  clear hK K
                  (try simp only [Act.put, List.setIfInBounds_toArray, List.set_cons_zero, List.set_cons_succ])
                  refine wpAnyH_take (i := 17) (v := ?_) rfl (by kernel_rfl) (by kernel_rfl) (by kernel_rfl) (fun _ _ _ h => h) (Or.inl ⟨by rfl, ?_⟩) (by assumption) ?_
                  rotate_left 1
                  · intro w hSw
                    (try dsimp only at hSw)
                    go_simp
                    try with_reducible rfl
                  (try simp only [Act.put, List.setIfInBounds_toArray, List.set_cons_zero, List.set_cons_succ])
                  refine wpAnyH_ready (rs := [18]) (by kernel_rfl) (by simp) ?_
                  refine AllReadyH.cons (o := _) rfl (fun K hK => ?_) ?_
                  · skip
                    have hset : Only (· = ab) w9 (w9.setCell ⟨ab, aoff + j, none⟩ (.slice (some ⟨b9, o9, none⟩) (l.length + 1) c9)) := (Only.refl (· = ab) w9).setCell (p := ⟨ab, aoff + j, none⟩) (fun _ => rfl) _
                    have q10 := HW.out _ hb9
                    replace q10 : ((w9.setCell ⟨ab, aoff + j, none⟩ (.slice (some ⟨b9, o9, none⟩) (l.length + 1) c9)).cell? ⟨pb, 2, none⟩ = some (.slice (some ⟨ab, aoff, none⟩) M.length acap) ∧ (w9.setCell ⟨ab, aoff + j, none⟩ (.slice (some ⟨b9, o9, none⟩) (l.length + 1) c9)).cell? ⟨sb, 0, none⟩ = some (.int .i64 k) ∧ (w9.setCell ⟨ab, aoff + j, none⟩ (.slice (some ⟨b9, o9, none⟩) (l.length + 1) c9)).cell? ⟨sb, 1, none⟩ = some (.int .i64 ((l.length : Int) + 1)) ∧ (w9.setCell ⟨ab, aoff + j, none⟩ (.slice (some ⟨b9, o9, none⟩) (l.length + 1) c9)).cell? ⟨sb, 2, none⟩ = some (.string s)) := ⟨only_cell hset hpab q10.1, only_cell hset hsab q10.2.1, only_cell hset hsab q10.2.2.1, only_cell hset hsab q10.2.2.2⟩
                    go_simp
                    refine hK.out _ _ (by exact q10) (fun hHeld => ?_)
                    clear hK K
                    (try simp only [Act.put, List.setIfInBounds_toArray, List.set_cons_zero, List.set_cons_succ])
                    refine wpAnyH_done (by kernel_rfl) ?_ _
                    go_wp2_with fail
                    go_meet
                    have hs10 : SL w9.heap 89 3 (.slice (some ⟨b9, o9, none⟩) (l.length + 1) c9) (l ++ [(k, (l.length : Int) + 1, s)]).length ((l ++ [(k, (l.length : Int) + 1, s)]).flatMap eSpn) := by
                      rw [List.length_append, List.flatMap_append]; simpa using hs9
                    exact ⟨(H3.out.1.setAt hs H3.out.2.1 hb9 hs10 hn9).base H3.out.2.2, hset.heap ((hb9.block _ (Array.getElem?_eq_some_iff.1 HX.out.1).1).trans HX.out.1) HX.out.2.2, hset.heap ((hb9.block _ (Array.getElem?_eq_some_iff.1 HX.out.2.1).1).trans HX.out.2.1) hsab⟩
                  exact AllReadyH.nil
                exact AllReadyH.nil
              exact AllReadyH.nil
            exact AllReadyH.nil
          exact AllReadyH.nil
        exact AllReadyH.nil
      case rest =>
        obtain ⟨hQ, hbxc, hbsc⟩ := hcut
        rw [← HD.out] at hQ
        have s0 := cell_blk hbsc (j := 0) (u := .int .i64 k) rfl
        have s1 := cell_blk hbsc (j := 1) (u := .int .i64 ((l.length : Int) + 1)) rfl
        have s2 := cell_blk hbsc (j := 2) (u := .string s) rfl
        have f0 := froz_blk hbxc 0
        have f1 := froz_blk hbxc 1
        have f2 := froz_blk hbxc 2
        have e0 := cell_blk hbxc (j := 0) (u := .int .i64 0) rfl
        have e1 := cell_blk hbxc (j := 1) (u := .int .i64 0) rfl
        have e2 := cell_blk hbxc (j := 2) (u := .string ⟨#[]⟩) rfl
        have hR := Lib.hid (hQ.res HLT.out hA hBz (.int .i64 k) (.int .i64 ((l.length : Int) + 1)) (.string s))
        have hr3 := Lib.hid (res3 hbxc (.int .i64 k) (.int .i64 ((l.length : Int) + 1)) (.string s))
        clear hbxc hbsc hQ hA hBz hru
        go_wp2
        have x0 := cell_blk hr3.out (j := 0) (u := .int .i64 k) rfl
        have x1 := cell_blk hr3.out (j := 1) (u := .int .i64 ((l.length : Int) + 1)) rfl
        have x2 := cell_blk hr3.out (j := 2) (u := .string s) rfl
        replace hR := hR.out
        generalize (((wc.setCell ⟨w.heap.size, 0, none⟩ (.int .i64 k)).setCell ⟨w.heap.size, 1, none⟩ (.int .i64 ((l.length : Int) + 1))).setCell ⟨w.heap.size, 2, none⟩ (.string s)) = w5 at hR x0 x1 x2 ⊢
        refine bodyPost_ret (by simp [results, Try.results101, go_sem, x0, x1, x2]; try rfl) rfl ?_
        exact ⟨rfl, hR⟩)
end
end Go.Proofs.Ytniggacgkhkgiaa.Pref
