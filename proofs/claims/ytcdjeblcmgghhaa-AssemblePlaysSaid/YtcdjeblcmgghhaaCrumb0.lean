/- What the methods of crumb.Crumbs do to the map behind the pointer, and to the lists in it. Conditions: the receiver lies in memory as Crep says. -/
import Derived.Test.YtcdjeblcmgghhaaLists
import Derived.Test.YtcdjeblcmgghhaaBase
import Derived.Test.YtcdjeblcmgghhaaKeys
import Derived.StillTailTactics
import Derived.WalkKit
import Derived.WalkSpells
import Derived.WalkLawsBesides
import Derived.Deep.RegionWith
namespace Go.Sp
open Go.RowKit

/-- what the map says, without the slices -/
def mm (m : List (Int × (Value × List Int))) : List (Int × List Int) := m.map fun p => (p.1, p.2.2)
theorem mm_length (m : List (Int × (Value × List Int))) : (mm m).length = m.length := by simp [mm]
theorem mget_mm (k : Int) : ∀ m : List (Int × (Value × List Int)), mget k (mm m) = (mget k m).map Prod.snd
  | [] => rfl
  | p :: r => by
    show mget k ((p.1, p.2.2) :: mm r) = _
    unfold mget
    by_cases h : p.1 = k
    · simp [h]
    · simp [h, mget_mm k r]
theorem mm_put (k : Int) (v : Value) (l : List Int) : ∀ m : List (Int × (Value × List Int)), mm (mput k (v, l) m) = mput k l (mm m)
  | [] => rfl
  | p :: r => by
    show mm (mput k (v, l) (p :: r)) = mput k l ((p.1, p.2.2) :: mm r)
    unfold mput
    by_cases h : k < p.1
    · simp [h, mm]
    · by_cases h2 : p.1 = k
      · simp [h2, mm]
      · simp only [h, h2, if_false]
        show (p.1, p.2.2) :: mm (mput k (v, l) r) = _
        rw [mm_put k v l r]
theorem mm_del (k : Int) (m : List (Int × (Value × List Int))) : mm (mdel k m) = mdel k (mm m) := by
  rw [mdel_eq, mdel_eq, mm, mm, List.filter_map]
  rfl
def lget (k : Int) (M : List (Int × List Int)) : List Int := (mget k M).getD []
end Go.Sp

namespace Go.Proofs.Ytcdjeblcmgghhaa.Crumb
open Go.RowKit Go.Sp

theorem zL (w : World) : (zeroValue 28).run Try.prog w = .ok (.slice none 0 0) w := by kernel_rfl

/-- the object at block cb: n agents, the map of lists at block mb; R: the blocks that are its own -/
structure Crep (w : World) (R : Nat → Prop) (cb mb : Nat) (n : Int) (m : List (Int × (Value × List Int))) : Prop where
  blk : w.heap[cb]? = some (.cells #[.int .i64 n, .map (some mb)] 153 (0, 0))
  mp : IMap w.heap mb Prod.fst m
  sl : ∀ k v l, mget k m = some (v, l) → SL w.heap 3 1 v l.length (l.map Sp.zI)
  own : ∀ k v l, mget k m = some (v, l) → ∀ g, v.ownBlock = some g → R g
  dis : ∀ k v l k' v' l', k ≠ k' → mget k m = some (v, l) → mget k' m = some (v', l') → ∀ g, v.ownBlock = some g → v'.ownBlock ≠ some g
  srt : ∀ k v l, mget k m = some (v, l) → l.Pairwise (· < ·) ∧ ∀ a ∈ l, 0 ≤ a ∧ a < n
  rc : R cb
  rm : R mb
  rlt : ∀ b, R b → b < w.heap.size
  n4 : 1 ≤ n ∧ n ≤ 4

section
variable {w w' : World} {R : Nat → Prop} {cb mb : Nat} {n : Int} {m : List (Int × (Value × List Int))}

theorem Crep.c0 (h : Crep w R cb mb n m) : w.cell? ⟨cb, 0, none⟩ = some (.int .i64 n) := by simp [World.cell?, h.blk]
theorem Crep.c1 (h : Crep w R cb mb n m) : w.cell? ⟨cb, 1, none⟩ = some (.map (some mb)) := by simp [World.cell?, h.blk]
theorem Crep.nc (h : Crep w R cb mb n m) {k : Int} {v : Value} {l : List Int} (e : mget k m = some (v, l)) : v.ownBlock ≠ some cb := sl_not h.blk (h.sl k v l e) (by decide)
theorem Crep.nm (h : Crep w R cb mb n m) {k : Int} {v : Value} {l : List Int} (e : mget k m = some (v, l)) : v.ownBlock ≠ some mb := sl_map h.mp (h.sl k v l e)
theorem Crep.ne (h : Crep w R cb mb n m) : cb ≠ mb := fun e => by
  obtain ⟨es, c, hh, _⟩ := h.mp
  have := h.blk
  rw [e, hh] at this; cases this
theorem Crep.only {F : Nat → Prop} (h : Crep w R cb mb n m) (o : Only F w w') (hF : ∀ b, R b → ¬ F b) : Crep w' R cb mb n m :=
  ⟨o.heap h.blk (hF _ h.rc), h.mp.only o (hF _ h.rm), fun k v l e => (h.sl k v l e).only o (fun g hg => hF _ (h.own k v l e g hg)), h.own, h.dis, h.srt, h.rc, h.rm, fun b hb => Nat.lt_of_lt_of_le (h.rlt b hb) o.size, h.n4⟩
theorem Crep.heap (h : Crep w R cb mb n m) (e : w'.heap = w.heap) : Crep w' R cb mb n m :=
  ⟨by rw [e]; exact h.blk, by rw [e]; exact h.mp, by rw [e]; exact h.sl, h.own, h.dis, h.srt, h.rc, h.rm, by rw [e]; exact h.rlt, h.n4⟩
theorem Crep.len (h : Crep w R cb mb n m) {k : Int} {v : Value} {l : List Int} (e : mget k m = some (v, l)) : l.length ≤ 4 := by
  have := rising_len (h.srt k v l e).1 (h.srt k v l e).2 (by have := h.n4; omega)
  have := h.n4; omega

/-- what the lists' map gives at a trace: its slice, what it holds -/
theorem Crep.look (h : Crep w R cb mb n m) (k : Int) : ∃ v l, (∀ w2 : World, w2.heap = w.heap → (Instr.lookup 151 (.map (some mb)) (.int .i64 k) false).run Try.prog w2 = .ok v w2) ∧ SL w.heap 3 1 v l.length (l.map Sp.zI) ∧
    (∀ g, v.ownBlock = some g → R g) ∧ l.Pairwise (· < ·) ∧ (∀ a ∈ l, 0 ≤ a ∧ a < n) ∧ l = lget k (mm m) ∧ l.length ≤ 4 ∧ v.ownBlock ≠ some cb ∧ v.ownBlock ≠ some mb ∧ (∀ k' v' l', k' ≠ k → mget k' m = some (v', l') → ∀ g, v.ownBlock = some g → v'.ownBlock ≠ some g) := by
  have hl : ∀ w2 : World, w2.heap = w.heap → (Instr.lookup 151 (.map (some mb)) (.int .i64 k) false).run Try.prog w2 = .ok (((mget k m).map Prod.fst).getD (.slice none 0 0)) w2 := fun w2 e =>
    (show IMap w2.heap mb Prod.fst m by rw [e]; exact h.mp).lookup (P := Try.prog) false Try.underlying151 Try.underlying3 (zL _) k
  have hg : lget k (mm m) = ((mget k m).map Prod.snd).getD [] := by rw [lget, mget_mm]
  cases e : mget k m with
  | none =>
    rw [e] at hl hg
    exact ⟨_, [], hl, SL.nil _ _ _, fun g hg => by simp [Value.ownBlock] at hg, List.Pairwise.nil, fun a ha => by simp at ha, hg.symm, by simp, by simp [Value.ownBlock], by simp [Value.ownBlock], fun k' v' l' _ _ g hg => by simp [Value.ownBlock] at hg⟩
  | some p =>
    obtain ⟨v, l⟩ := p
    rw [e] at hl hg
    exact ⟨v, l, hl, h.sl k v l e, h.own k v l e, (h.srt k v l e).1, (h.srt k v l e).2, hg.symm, h.len e, h.nc e, h.nm e, fun k' v' l' hk e' => h.dis k v l k' v' l' (fun x => hk x.symm) e e'⟩

theorem of_any (h : Crep w R cb mb n m) (k : Int) :
    Calls Try.prog 51 #[.pointer (some ⟨cb, 0, none⟩), .int .i64 k] w fun e w' => ∃ v, e = .returned v ∧ SL w'.heap 3 1 v (lget k (mm m)).length ((lget k (mm m)).map Sp.zI) ∧ (∀ g, v.ownBlock = some g → w.heap.size ≤ g) ∧ Below w.heap.size w w' := by
  obtain ⟨v, l, hl, hsl, _, _, _, rfl, h4, _⟩ := h.look k
  have hl0 := hl w rfl
  have c1 := h.c1
  clear h hl
  go_enter Try.func51, Try.ntmps51
  go_wp2_with (go_at_call 63; refine (clone_any hsl (by omega)).mono ?_; rintro e w' ⟨v', rfl, hs', hf', hb'⟩)
  go_ret
  exact ⟨_, rfl, hs', hf', hb'⟩

theorem drop_any (h : Crep w R cb mb n m) (k : Int) :
    Calls Try.prog 49 #[.pointer (some ⟨cb, 0, none⟩), .int .i64 k] w fun e w' => e = .returned (.tuple #[]) ∧ Crep w' R cb mb n (mdel k m) ∧ Only R w w' := by
  have c1 := h.c1
  go_enter Try.func49, Try.ntmps49
  go_wp2_with (at_delete; refine wpList_dele (enc := Prod.fst) rfl _ _ _ _ rfl Try.underlying151 Try.underlying3 rfl rfl (by exact h.mp) ?_; rintro w1 hm1 ho1)
  go_end0
  have hd : ∀ {j v l}, mget j (mdel k m) = some (v, l) → mget j m = some (v, l) := by
    intro j v l e
    rw [mget_mdel] at e
    split at e
    · cases e
    · exact e
  refine ⟨rfl, ⟨ho1.heap h.blk h.ne, hm1, fun j v l e => (h.sl j v l (hd e)).only ho1 (fun g hg e1 => h.nm (hd e) (by rw [hg, e1])), fun j v l e => h.own j v l (hd e), fun j v l j' v' l' hne e e' => h.dis j v l j' v' l' hne (hd e) (hd e'), fun j v l e => h.srt j v l (hd e), h.rc, h.rm, fun b hb => Nat.lt_of_lt_of_le (h.rlt b hb) ho1.size, h.n4⟩, ho1.mono fun i _ e => by rw [e]; exact h.rm⟩

theorem traces_any (h : Crep w R cb mb n m) (hn : m.length ≤ 1000000) :
    Calls Try.prog 53 #[.pointer (some ⟨cb, 0, none⟩)] w fun e w' => ∃ v, e = .returned v ∧ SL w'.heap 3 1 v m.length (m.map fun p => .int .i64 p.1) ∧ (∀ g, v.ownBlock = some g → w.heap.size ≤ g) ∧ Below w.heap.size w w' := by
  have c1 := h.c1
  go_enter Try.func53, Try.ntmps53
  go_wp2_with (first
    | (go_at_call 72; refine (keys_72 _ _).mono ?_; rintro e w' ⟨rfl, rfl⟩)
    | (go_at_call 65; refine (sorted_72 h.mp hn).mono ?_; rintro e w1 ⟨v, rfl, hsl, hnew, hbel⟩))
  go_ret
  exact ⟨_, rfl, hsl, hnew, hbel⟩

theorem new_no (h1 : ¬ (1 ≤ n ∧ n ≤ 4)) :
    Calls Try.prog 46 #[.int .i64 n] w fun e w' => e = .returned (.pointer none) ∧ w = w' := by
  by_cases hlt : n < 1
  · go_enter Try.func46, Try.ntmps46
    go_wp2
    go_ret
    exact ⟨rfl, rfl⟩
  · have hgt : 4 < n := by omega
    go_enter Try.func46, Try.ntmps46
    go_wp2
    go_ret
    exact ⟨rfl, rfl⟩

theorem new_yes (h1 : 1 ≤ n) (h2 : n ≤ 4) :
    Calls Try.prog 46 #[.int .i64 n] w fun e w' => ∃ R cb mb, e = .returned (.pointer (some ⟨cb, 0, none⟩)) ∧ Crep w' R cb mb n [] ∧ (∀ b, R b → w.heap.size ≤ b) ∧ Below w.heap.size w w' := by
  have hmm := @run_makeMap Try.prog
  go_enter Try.func46, Try.ntmps46
  go_wp2
  go_ret
  refine ⟨fun b => w.heap.size ≤ b ∧ b < w.heap.size + 2, w.heap.size + 1, w.heap.size, rfl, ⟨?_, ?_, fun k v l e => by simp [mget] at e, fun k v l e => by simp [mget] at e, fun k v l k' v' l' _ e => by simp [mget] at e, fun k v l e => by simp [mget] at e, by omega, by omega, ?_, h1, h2⟩, fun b hb => hb.1, ((Below.refl _ _).alloc (Nat.le_refl _) _).alloc (by simp) _⟩
  · exact heap_new _ _ (by simp)
  · exact (IMap.made w Prod.fst).alloc _
  · intro b hb; simp; omega
end
end Go.Proofs.Ytcdjeblcmgghhaa.Crumb
