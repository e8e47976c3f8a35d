/- The keeper's New and Forget; a keeper that is none. Conditions: it lies in memory as KpR says. -/
import Derived.Test.YtniggacgkhkgiaaEv3
namespace Go.Sp
open Go.RowKit
def newK (n : Nat) (s : Int) : Kp := ⟨n, s, [], [], [], []⟩
def forgetK (K : Kp) (k : Int) : Kp := { K with pins := mdel k K.pins, lost := mdel k K.lost, M := mdel k K.M }
theorem Pinv.new {n : Nat} (h1 : 1 ≤ n) (h16 : n ≤ 16) : Pinv n (List.replicate n zBf) ((List.range n).map fun i : Nat => (i : Int)) [] := by
  refine ⟨by simp, ⟨h1, h16⟩, KS.nil, fun b hb => ?_, ?_, fun i hi => ?_, by simp [chAll], fun k l e => by simp [mget] at e⟩
  · rw [(List.mem_replicate.1 hb).2]; simp [zBf]
  · simp only [chAll, List.flatMap_nil, List.append_nil]
    rw [List.nodup_iff_pairwise_ne, List.pairwise_map]
    exact List.nodup_range.imp fun h e => h (by omega)
  · simp only [chAll, List.flatMap_nil, List.append_nil, List.mem_map, List.mem_range] at hi
    obtain ⟨j, hj, rfl⟩ := hi
    omega
end Go.Sp
namespace Go.Proofs.Ytniggacgkhkgiaa.Ev
open Go.RowKit Go.Sp Msg Pool Hash
section
variable {w w' w1 w2 : World} {R Rp Rp' : Nat → Prop} {kb pb ib lb : Nat} {gv gv' : Value} {K : Kp} {k : Int} {s : ByteArray}
set_option maxRecDepth 100000 in
theorem new_no (w : World) {n : Int} (sd : Int) (hn : ¬ (1 ≤ n ∧ n ≤ 16)) : Calls Try.prog 37 #[.int .i64 n, .int .u64 sd] w fun e w' => e = .returned (.tuple #[.pointer none, .int .i64 1]) ∧ w = w' := by
  go_enter Try.func37, Try.ntmps37
  go_wp2_with fail
  refine (Pool.new_no _ hn).mono ?_
  rintro e w1 ⟨rfl, rfl⟩
  go_wp2
  go_returns
  exact ⟨rfl, by first | rfl | trivial⟩
set_option maxRecDepth 100000 in
theorem new_yes (w : World) {n : Nat} (sd : Int) (h1 : 1 ≤ n) (h16 : n ≤ 16) : Calls Try.prog 37 #[.int .i64 n, .int .u64 sd] w fun e w' => ∃ kb R, e = .returned (.tuple #[.pointer (some ⟨kb, 0, none⟩), .int .i64 0]) ∧ KpR w' R kb (newK n sd) ∧ (∀ b, R b → w.heap.size ≤ b) ∧ Below w.heap.size w w' := by
  have hmm := @run_makeMap Try.prog
  go_enter Try.func37, Try.ntmps37
  go_wp2_with fail
  refine (Pool.new_yes w h1 h16).mono ?_
  rintro e w1 ⟨pb, R, bb, mb, fv, rfl, hP, hR, hb⟩
  have hPM : PM w1 R pb n [] n := ⟨bb, mb, fv, _, _, _, hP, Pinv.new h1 h16, rfl, by simp⟩
  have hA := below_alloc (below_alloc (below_alloc (Below.refl w1.heap.size w1) (.map #[] 0)) (.map #[] 0)) (.cells #[.pointer (some ⟨pb, 0, none⟩), .int .u64 sd, .map (some w1.heap.size), .map (some (w1.heap.size + 1)), .slice none 0 0] 169)
  have hK : Krep (((w1.alloc (.map #[] 0)).alloc (.map #[] 0)).alloc (.cells #[.pointer (some ⟨pb, 0, none⟩), .int .u64 sd, .map (some w1.heap.size), .map (some (w1.heap.size + 1)), .slice none 0 0] 169)) (fun b => R b ∨ (w1.heap.size ≤ b ∧ b < w1.heap.size + 3)) R (w1.heap.size + 1 + 1) pb w1.heap.size (w1.heap.size + 1) (.slice none 0 0) (newK n sd) := by
    have hlt := hP.rlt
    have hn : ∀ j, ¬ R (w1.heap.size + j) := fun j e => by have := hlt _ e; omega
    refine ⟨heap_new _ _ (by simp), ?_, ?_, (IMap.made' _ _ (by simp)).alloc _, SL.nil _ _ _, ⟨.inr (by omega), hn 2⟩, ⟨.inr (by omega), hn 0⟩, ⟨.inr (by omega), hn 1⟩, fun g hg => by simp [Value.ownBlock] at hg, fun b hb => .inl hb, by omega, fun b hb => ?_⟩
    · have := hPM.below hA
      simpa [newK, usedM] using this
    · exact ((IMap.made w1 eTrue).alloc _).alloc _
    · rcases hb with hb | hb
      · have := hlt b hb; simp; omega
      · simp; omega
  have H := Lib.hid (And.intro hK (And.intro hR (And.intro hb hA)))
  clear hP hPM hA hK hR hb
  go_wp2
  go_returns
  obtain ⟨hK, hR, hb, hA⟩ := H.out
  exact ⟨_, _, rfl, ⟨_, _, _, _, _, hK⟩, fun b hb' => by
    rcases hb' with h | h
    · exact hR b h
    · exact Nat.le_trans hb.size h.1, below_trans' hA hb⟩
set_option maxRecDepth 100000 in
theorem forget_any (h : KpR w R kb K) (k : Int) : Calls Try.prog 100 #[.pointer (some ⟨kb, 0, none⟩), .int .i64 k] w fun e w' => e = .returned (.tuple #[]) ∧ KOut w R kb (forgetK K k) w' := by
  obtain ⟨Rp, pb, ib, lb, gv, h⟩ := h
  have c2 := h.cell (j := 2) rfl
  go_enter Try.func100, Try.ntmps100
  go_wp2_with (at_delete; refine halt ?_)
  refine Sp.Halt.go ?_
  refine wpList_dele (enc := eTrue) rfl _ _ _ _ rfl Try.underlying132 Try.underlying3 rfl rfl h.pins ?_
  rintro w1 hI hO
  obtain ⟨h1, h2⟩ := h.setPins hI hO
  have c3 := h1.cell (j := 3) rfl
  clear hI hO c2 h
  go_wp2_with (at_delete; refine halt ?_)
  refine Sp.Halt.go ?_
  refine wpList_dele (enc := eTrue) rfl _ _ _ _ rfl Try.underlying132 Try.underlying3 rfl rfl h1.lost ?_
  rintro w2 hI hO
  obtain ⟨h3, h4⟩ := h1.setLost hI hO
  have c0 := h3.cell (j := 0) rfl
  have hO2 := h2.trans h4
  clear hI hO c3 h1 h2 h4
  go_wp2_with fail
  refine (h3.pm.drop k).mono ?_
  rintro e w3 ⟨⟨n3, rfl⟩, R', F', hP, hR, hO⟩
  obtain ⟨h5, h6⟩ := h3.setPool hP hR hO
  have H := Lib.hid (And.intro h5 (And.intro (hO2.trans h6) (And.intro hR h3.rp)))
  have hz := hO2.size
  clear hP hR hO h5 h6 h3 hO2 c0
  go_wp2
  go_end0
  obtain ⟨h5, h6, hR, hrp⟩ := H.out
  exact ⟨rfl, _, ⟨_, _, _, _, _, h5⟩, fun b hb => by
    rcases hb with h | h
    · exact .inl h
    · rcases hR b h with e | e
      · exact .inl (hrp b e)
      · exact .inr (Nat.le_trans hz e), h6⟩
end
end Go.Proofs.Ytniggacgkhkgiaa.Ev
