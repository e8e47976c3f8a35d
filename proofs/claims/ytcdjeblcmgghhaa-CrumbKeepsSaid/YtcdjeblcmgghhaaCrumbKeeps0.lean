/- CrumbKeeps: the crumbs and the law's own map of maps side by side in memory: what each call and each map operation does to them. Conditions: both lie in memory as Kd says. -/
import Derived.Test.YtcdjeblcmgghhaaCrumbWant
import Derived.Test.YtcdjeblcmgghhaaCrumbAwake
import Derived.Test.YtcdjeblcmgghhaaLeaseTime
namespace Go.Proofs.Ytcdjeblcmgghhaa.Crumb
open Go.RowKit Go.Sp

theorem zM (w : World) : (zeroValue 99).run Try.prog w = .ok (.map none) w := by kernel_rfl

/-- both, all of their blocks made since s -/
def Kd (s : Nat) (w : World) (cb ob : Nat) (n : Int) (M : List (Int × List Int)) (W : List (Int × Nat)) (f : Int → List Int) : Prop :=
  ∃ R1 R, Cr w R1 cb n M ∧ Wt w R ob W f ∧ (∀ b, R1 b → ¬ R b) ∧ (∀ b, R1 b ∨ R b → s ≤ b)

section
variable {w w' w2 : World} {s cb ob b : Nat} {n k a t c : Int} {M M' : List (Int × List Int)} {W : List (Int × Nat)} {f f' : Int → List Int}

theorem Kd.ok (h : Kd s w cb ob n M W f) : KS M ∧ KS W ∧ ∀ k l, mget k M = some l → l.Pairwise (· < ·) ∧ ∀ a ∈ l, 0 ≤ a ∧ a < n := by
  obtain ⟨R1, R, h1, h2, _⟩ := h
  exact ⟨h1.ks, h2.mp.ks, h1.ok⟩

theorem Kd.mp (h : Kd s w cb ob n M W f) : IMap w.heap ob eMap W := by
  obtain ⟨R1, R, h1, h2, _⟩ := h
  exact h2.mp
theorem Kd.inn (h : Kd s w cb ob n M W f) (hk : mget k W = some b) : IMap w.heap b eTrue (un (f k)) := by
  obtain ⟨R1, R, h1, h2, _⟩ := h
  exact h2.inn k b hk

theorem Kd.short (h : Kd s w cb ob n M W f) (k : Int) : (lget k M).Pairwise (· < ·) ∧ (lget k M).length ≤ 4 := by
  obtain ⟨R1, R, h1, h2, _⟩ := h
  cases hk : mget k M with
  | none => simp [Sp.lget, hk]
  | some l =>
    obtain ⟨hs, hb⟩ := h1.ok k l hk
    have := h1.n4
    have := rising_len hs hb (by omega)
    have e : Sp.lget k M = l := by simp [Sp.lget, hk]
    rw [e]; exact ⟨hs, by omega⟩

theorem Kd.below (h : Kd s w cb ob n M W f) (o : Below w.heap.size w w') : Kd s w' cb ob n M W f := by
  obtain ⟨R1, R, h1, h2, h3, h4⟩ := h
  exact ⟨R1, R, h1.below o, h2.only (only_of_below o (fun _ => False)) (fun _ _ => id), h3, h4⟩

theorem below_drewN {B : Nat} {x y : World} (h : Below B x y) (q : Nat) : Below B x (y.drewN q) := ⟨h.os, h.tape, h.output, h.size, h.block⟩
theorem Kd.drewN (h : Kd s w cb ob n M W f) (q : Nat) : Kd s (w.drewN q) cb ob n M W f := h.below (below_drewN (Below.refl _ w) q)

theorem Kd.add (h : Kd s w cb ob n M W f) (hs : s ≤ w.heap.size) (ht : (Lit.int .i64 t).wf = true) (e : addM n M t a = (c, M')) :
    Calls Try.prog 47 #[.pointer (some ⟨cb, 0, none⟩), .int .i64 t, .int .i64 a] w fun e w' => e = .returned (.int .i64 c) ∧ Kd s w' cb ob n M' W f ∧ Below s w w' := by
  obtain ⟨R1, R, h1, h2, h3, h4⟩ := h
  refine (add_cr h1 ht e).mono ?_
  rintro e w' ⟨rfl, R', hC, hR', hO⟩
  refine ⟨rfl, ⟨R', R, hC, h2.only hO (fun b hb hb1 => h3 b hb1 hb), fun b hb hb2 => ?_, fun b hb => ?_⟩, hO.below hs fun i hi e => by have := h4 i (.inl e); omega⟩
  · rcases hR' b hb with h | h
    · exact h3 b h hb2
    · have := h2.rlt b hb2; omega
  · rcases hb with hb | hb
    · rcases hR' b hb with h | h
      · exact h4 b (.inl h)
      · omega
    · exact h4 b (.inr hb)

theorem Kd.drop (h : Kd s w cb ob n M W f) (hs : s ≤ w.heap.size) (k : Int) :
    Calls Try.prog 49 #[.pointer (some ⟨cb, 0, none⟩), .int .i64 k] w fun e w' => e = .returned (.tuple #[]) ∧ Kd s w' cb ob n (mdel k M) W f ∧ Below s w w' := by
  obtain ⟨R1, R, h1, h2, h3, h4⟩ := h
  refine (drop_cr h1 k).mono ?_
  rintro e w' ⟨rfl, hC, hO⟩
  exact ⟨rfl, ⟨R1, R, hC, h2.only hO (fun b hb hb1 => h3 b hb1 hb), h3, h4⟩, hO.below hs fun i hi e => by have := h4 i (.inl e); omega⟩

theorem Kd.of (h : Kd s w cb ob n M W f) (k : Int) :
    Calls Try.prog 51 #[.pointer (some ⟨cb, 0, none⟩), .int .i64 k] w fun e w' => ∃ v, e = .returned v ∧ SL w'.heap 3 1 v (lget k M).length ((lget k M).map Sp.zI) ∧ Kd s w' cb ob n M W f ∧ Below w.heap.size w w' := by
  obtain ⟨R1, R, h1, h2, h3, h4⟩ := id h
  refine (of_cr h1 k).mono ?_
  rintro e w' ⟨v, rfl, h5, _, h6⟩
  exact ⟨v, rfl, h5, h.below h6, h6⟩

theorem Kd.traces (h : Kd s w cb ob n M W f) (hn : M.length ≤ 1000000) :
    Calls Try.prog 53 #[.pointer (some ⟨cb, 0, none⟩)] w fun e w' => ∃ v, e = .returned v ∧ SL w'.heap 3 1 v M.length ((M.map Prod.fst).map Sp.zI) ∧ Kd s w' cb ob n M W f ∧ Below w.heap.size w w' := by
  obtain ⟨R1, R, h1, h2, h3, h4⟩ := id h
  refine (traces_cr h1 hn).mono ?_
  rintro e w' ⟨v, rfl, h5, _, h6⟩
  exact ⟨v, rfl, by rw [List.length_map] at h5; exact h5, h.below h6, h6⟩

theorem Kd.new (h : Kd s w cb ob n M W f) (hs : s ≤ w.heap.size) (hf : f k = []) (hk : (Lit.int .i64 k).wf = true) :
    ∃ w2, (Instr.mapUpdate 114 (.map (some ob)) (.int .i64 k) (.map (some w.heap.size))).run Try.prog (w.alloc (.map #[] 0)) = .ok () w2 ∧ Kd s w2 cb ob n M (mput k w.heap.size W) f ∧ Below s w w2 := by
  obtain ⟨R1, R, h1, h2, h3, h4⟩ := h
  obtain ⟨w2, hr, hI, hO⟩ := (h2.mp.alloc (.map #[] 0)).update (P := Try.prog) Try.underlying114 Try.underlying3 hk w.heap.size
  have hB : Below s w w2 := ((Below.refl s w).alloc hs _).trans (hO.below (by simp; omega) fun i hi e => by have := h4 i (.inr (by rw [e]; exact h2.ro)); omega)
  refine ⟨w2, hr, ⟨R1, _, (h1.below ((Below.refl _ w).alloc (Nat.le_refl _) _)).only hO (fun b hb e => h3 b hb (by rw [e]; exact h2.ro)), h2.new rfl hf hO hI, fun b hb hb2 => ?_, fun b hb => ?_⟩, hB⟩
  · rcases hb2 with h | h
    · exact h3 b hb h
    · have := h1.lt b hb; omega
  · rcases hb with h | h | h
    · exact h4 b (.inl h)
    · exact h4 b (.inr h)
    · omega

theorem Kd.put (h : Kd s w cb ob n M W f) (hs : s ≤ w.heap.size) (hb : mget k W = some b) (ha : a ∉ f k) (hwf : (Lit.int .i64 a).wf = true) (hf : f' k = insI a (f k)) (hf2 : ∀ j, j ≠ k → f' j = f j) :
    ∃ w2, (Instr.mapUpdate 99 (.map (some b)) (.int .i64 a) (.bool true)).run Try.prog w = .ok () w2 ∧ Kd s w2 cb ob n M W f' ∧ Below s w w2 := by
  obtain ⟨R1, R, h1, h2, h3, h4⟩ := h
  obtain ⟨w2, hr, hI, hO⟩ := (h2.inn k b hb).update (P := Try.prog) Try.underlying99 Try.underlying3 hwf ()
  have hR := (h2.own k b hb).1
  exact ⟨w2, hr, ⟨R1, R, h1.only hO (fun b' hb' e => h3 b' hb' (by rw [e]; exact hR)), h2.put hb hO hI ha hf hf2, h3, h4⟩, hO.below hs fun i hi e => by have := h4 i (.inr (by rw [e]; exact hR)); omega⟩

theorem Kd.del (h : Kd s w cb ob n M W f) (hs : s ≤ w.heap.size) (hO : Only (· = ob) w w2) (hI : IMap w2.heap ob eMap (mdel k W)) (hf2 : ∀ j, j ≠ k → f' j = f j) : Kd s w2 cb ob n M (mdel k W) f' ∧ Below s w w2 := by
  obtain ⟨R1, R, h1, h2, h3, h4⟩ := h
  exact ⟨⟨R1, R, h1.only hO (fun b' hb' e => h3 b' hb' (by rw [e]; exact h2.ro)), h2.del hO hI hf2, h3, h4⟩, hO.below hs fun i hi e => by have := h4 i (.inr (by rw [e]; exact h2.ro)); omega⟩

theorem Kd.look_none (h : Kd s w cb ob n M W f) (hk : mget k W = none) : (Instr.lookup 114 (.map (some ob)) (.int .i64 k) false).run Try.prog w = .ok (.map none) w := by
  have := h.mp.lookup (P := Try.prog) false Try.underlying114 Try.underlying3 (zM _) k
  rw [hk] at this; exact this
theorem Kd.look_some (h : Kd s w cb ob n M W f) (hk : mget k W = some b) : (Instr.lookup 114 (.map (some ob)) (.int .i64 k) false).run Try.prog w = .ok (.map (some b)) w := by
  have := h.mp.lookup (P := Try.prog) false Try.underlying114 Try.underlying3 (zM _) k
  rw [hk] at this; exact this
theorem nil_look (w : World) (a : Int) : (Instr.lookup 99 (.map none) (.int .i64 a) false).run Try.prog w = .ok (.bool false) w :=
  lookup_nil false Try.underlying99 Try.underlying3 (zB _) a
theorem Kd.inn_look (h : Kd s w cb ob n M W f) (hk : mget k W = some b) (a : Int) : (Instr.lookup 99 (.map (some b)) (.int .i64 a) false).run Try.prog w = .ok (.bool ((f k).contains a)) w := by
  have := (h.inn hk).lookup (P := Try.prog) false Try.underlying99 Try.underlying3 (zB _) a
  cases hc : (f k).contains a with
  | true => rw [un_mem (List.contains_iff_mem.1 hc)] at this; exact this
  | false => rw [un_not (fun e => by rw [List.contains_iff_mem.2 e] at hc; cases hc)] at this; exact this
theorem Kd.inn_len (h : Kd s w cb ob n M W f) (hk : mget k W = some b) {ty : TypeId} : (Builtin.len_ #[99] ty #[.map (some b)]).run Try.prog w = .ok (.int .i64 ((f k).length)) w := by
  have := (h.inn hk).len (P := Try.prog) (ty := ty) Try.underlying99
  rw [un_length] at this; exact this
theorem Kd.out_len (h : Kd s w cb ob n M W f) {ty : TypeId} : (Builtin.len_ #[114] ty #[.map (some ob)]).run Try.prog w = .ok (.int .i64 W.length) w :=
  h.mp.len (P := Try.prog) Try.underlying114
theorem len_nil (w : World) (ty : TypeId) : (Builtin.len_ #[99] ty #[.map none]).run Try.prog w = .ok (.int .i64 0) w := by kernel_rfl
/-- what the law asks of its own map for one trace -/
theorem Kd.want (h : Kd s w cb ob n M W f) (hf : ∀ k, f k = lget k M) (hSK : SameK W M) (k : Int) : ∃ X, (Instr.lookup 114 (.map (some ob)) (.int .i64 k) false).run Try.prog w = .ok (.map X) w ∧
    (∀ a, (Instr.lookup 99 (.map X) (.int .i64 a) false).run Try.prog w = .ok (.bool ((lget k M).contains a)) w) ∧ ∀ ty, (Builtin.len_ #[99] ty #[.map X]).run Try.prog w = .ok (.int .i64 ((lget k M).length)) w := by
  cases hk : mget k W with
  | none =>
    have e : lget k M = [] := by rw [lget, (hSK k).1 hk]; rfl
    rw [e]
    exact ⟨none, h.look_none hk, fun a => nil_look w a, fun ty => len_nil w ty⟩
  | some b =>
    rw [← hf]
    exact ⟨some b, h.look_some hk, fun a => h.inn_look hk a, fun ty => h.inn_len hk⟩
end
end Go.Proofs.Ytcdjeblcmgghhaa.Crumb
