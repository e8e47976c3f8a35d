/- The law's own map of lists of spans: what a span more, and a trace's end, do to it. Conditions: it lies in memory as Wm says. -/
import Derived.Test.YtniggacgkhkgiaaEvAll0
import Derived.Test.YtniggacgkhkgiaaSame05
import Derived.Test.YtniggacgkhkgiaaRange
namespace Go.Proofs.Ytniggacgkhkgiaa.Ev
open Go.RowKit Go.Sp Msg Pool Hash
abbrev SRows := List (Int × (Value × List Spn))
abbrev wS (m : SRows) : List (Int × List Spn) := mmap Prod.snd m
/-- a map of lists of spans at block wb; R: its own blocks -/
structure Wm (w : World) (R : Nat → Prop) (wb : Nat) (m : SRows) : Prop where
  mp : IMap w.heap wb Prod.fst m
  sl : ∀ k v l, mget k m = some (v, l) → SL w.heap 89 3 v l.length (l.flatMap eSpn)
  own : ∀ k v l, mget k m = some (v, l) → ∀ g, v.ownBlock = some g → R g
  dis : ∀ k v l k' v' l', k ≠ k' → mget k m = some (v, l) → mget k' m = some (v', l') → ∀ g, v.ownBlock = some g → v'.ownBlock ≠ some g
  rw' : R wb
  rlt : ∀ b, R b → b < w.heap.size
section
variable {w w' w1 w2 : World} {R : Nat → Prop} {wb : Nat} {m : SRows} {k : Int} {v v' : Value} {l l' : List Spn} {n : Nat}
theorem Wm.only {F : Nat → Prop} (h : Wm w R wb m) (o : Only F w w') (hF : ∀ b, R b → ¬ F b) : Wm w' R wb m :=
  ⟨h.mp.only o (hF _ h.rw'), fun k v l e => (h.sl k v l e).only o (fun g hg => hF _ (h.own k v l e g hg)), h.own, h.dis, h.rw', fun b hb => Nat.lt_of_lt_of_le (h.rlt b hb) o.size⟩
theorem Wm.below (h : Wm w R wb m) (o : Below w.heap.size w w') : Wm w' R wb m := h.only (only_of_below o (fun _ => False)) (fun _ _ => id)
theorem Wm.heap (h : Wm w R wb m) (e : w'.heap = w.heap) : Wm w' R wb m := ⟨by rw [e]; exact h.mp, by rw [e]; exact h.sl, h.own, h.dis, h.rw', by rw [e]; exact h.rlt⟩
theorem Wm.nm (h : Wm w R wb m) (e : mget k m = some (v, l)) : v.ownBlock ≠ some wb := sl_map h.mp (h.sl k v l e)
theorem Wm.len (h : ∀ k v l, mget k m = some (v, l) → l.length ≤ n) (k : Int) : (lgetA k (wS m)).length ≤ n := by
  rw [lgetA, mget_mmap]
  cases e : mget k m with
  | none => simp
  | some p => exact h k p.1 p.2 e
theorem zLS (w : World) : (zeroValue 35).run Try.prog w = .ok (.slice none 0 0) w := by kernel_rfl
theorem Wm.look (h : Wm w R wb m) (k : Int) : ∃ v l, (∀ w2 : World, IMap w2.heap wb Prod.fst m → (Instr.lookup 114 (.map (some wb)) (.int .i64 k) false).run Try.prog w2 = .ok v w2) ∧ SL w.heap 89 3 v l.length (l.flatMap eSpn) ∧
    (∀ g, v.ownBlock = some g → R g) ∧ l = lgetA k (wS m) ∧ v.ownBlock ≠ some wb ∧ (∀ k' v' l', k' ≠ k → mget k' m = some (v', l') → ∀ g, v.ownBlock = some g → v'.ownBlock ≠ some g) := by
  have hl : ∀ w2 : World, IMap w2.heap wb Prod.fst m → (Instr.lookup 114 (.map (some wb)) (.int .i64 k) false).run Try.prog w2 = .ok (((mget k m).map Prod.fst).getD (.slice none 0 0)) w2 := fun w2 e =>
    e.lookup (P := Try.prog) false Try.underlying114 Try.underlying3 (zLS _) k
  have hg : lgetA k (wS m) = ((mget k m).map Prod.snd).getD [] := by rw [lgetA, mget_mmap]
  cases e : mget k m with
  | none =>
    rw [e] at hl hg
    exact ⟨_, [], hl, SL.nil _ _ _, fun g hg => by simp [Value.ownBlock] at hg, hg.symm, by simp [Value.ownBlock], fun k' v' l' _ _ g hg => by simp [Value.ownBlock] at hg⟩
  | some p =>
    obtain ⟨v, l⟩ := p
    rw [e] at hl hg
    exact ⟨v, l, hl, h.sl k v l e, h.own k v l e, hg.symm, h.nm e, fun k' v' l' hk e' => h.dis k v l k' v' l' (fun x => hk x.symm) e e'⟩
/-- a trace's list is another one -/
theorem Wm.setRow (h : Wm w R wb m) (hvR : ∀ g, v.ownBlock = some g → R g) (hvm : v.ownBlock ≠ some wb)
    (hvd : ∀ k' v' l', k' ≠ k → mget k' m = some (v', l') → ∀ g, v.ownBlock = some g → v'.ownBlock ≠ some g) (hO : Only (fun g => v.ownBlock = some g) w w1) (hs : SL w1.heap 89 3 v' l'.length (l'.flatMap eSpn)) (hn : v'.ownBlock = v.ownBlock ∨ ∃ g, v'.ownBlock = some g ∧ w.heap.size ≤ g)
    (hI : IMap w2.heap wb Prod.fst (mput k (v', l') m)) (hO2 : Only (· = wb) w1 w2) : Wm w2 (fun b => R b ∨ v'.ownBlock = some b) wb (mput k (v', l') m) ∧ Only R w w2 := by
  have hm1 : IMap w1.heap wb Prod.fst m := h.mp.only hO hvm
  have hO3 : Only (fun b => v.ownBlock = some b ∨ b = wb) w w2 := (hO.mono fun b _ e => .inl e).trans (hO2.mono fun b _ e => .inr e)
  have hnm : v'.ownBlock ≠ some wb := sl_map hm1 hs
  have hno : ∀ g, v'.ownBlock = some g → v.ownBlock = some g ∨ w.heap.size ≤ g := fun g hg => by
    rcases hn with e | ⟨g', e, hle⟩
    · exact .inl (by rw [← e]; exact hg)
    · rw [e] at hg; cases hg; exact .inr hle
  have hne : ∀ k' x l, k' ≠ k → mget k' m = some (x, l) → ∀ g, v'.ownBlock = some g → x.ownBlock ≠ some g := fun k' x l hk e g hg e2 => by
    rcases hno g hg with e3 | e3
    · exact hvd k' x l hk e g e3 e2
    · have := (h.sl k' x l e).lt g e2; omega
  refine ⟨⟨hI, fun k' x l e => ?_, fun k' x l e g hg => ?_, fun k1 x1 l1 k2 x2 l2 hk e1 e2 g hg => ?_, .inl h.rw', fun b hb => ?_⟩, (hO3.mono fun b _ e => ?_)⟩
  · rw [mget_mput] at e
    by_cases hk : k' = k
    · rw [if_pos hk] at e; cases e
      exact hs.only hO2 (fun g hg e => hnm (by rw [hg, e]))
    · rw [if_neg hk] at e
      exact (h.sl k' x l e).only hO3 (fun g hg e2 => by
        rcases e2 with e2 | e2
        · exact hvd k' x l hk e g e2 hg
        · exact h.nm e (by rw [hg, e2]))
  · rw [mget_mput] at e
    by_cases hk : k' = k
    · rw [if_pos hk] at e; cases e
      exact .inr hg
    · rw [if_neg hk] at e
      exact .inl (h.own k' x l e g hg)
  · rw [mget_mput] at e1 e2
    by_cases h1 : k1 = k
    · rw [if_pos h1] at e1; cases e1
      rw [if_neg (fun e => hk (h1.trans e.symm))] at e2
      exact hne k2 x2 l2 (fun e => hk (h1.trans e.symm)) e2 g hg
    · rw [if_neg h1] at e1
      by_cases h2 : k2 = k
      · rw [if_pos h2] at e2; cases e2
        exact fun e => hne k1 x1 l1 h1 e1 g e hg
      · rw [if_neg h2] at e2
        exact h.dis k1 x1 l1 k2 x2 l2 hk e1 e2 g hg
  · rcases hb with hb | hb
    · exact Nat.lt_of_lt_of_le (h.rlt b hb) hO3.size
    · exact Nat.lt_of_lt_of_le (hs.lt b hb) hO2.size
  · rcases e with e | e
    · exact hvR b e
    · rw [e]; exact h.rw'
theorem Wm.del (h : Wm w R wb m) (k : Int) (hI : IMap w1.heap wb Prod.fst (mdel k m)) (hO : Only (· = wb) w w1) : Wm w1 R wb (mdel k m) ∧ Only R w w1 := by
  have hd : ∀ {j v l}, mget j (mdel k m) = some (v, l) → mget j m = some (v, l) := by
    intro j v l e
    rw [mget_mdel] at e
    split at e
    · cases e
    · exact e
  exact ⟨⟨hI, fun k v l e => (h.sl k v l (hd e)).only hO (fun g hg e1 => h.nm (hd e) (by rw [hg, e1])), fun k v l e => h.own k v l (hd e), fun k v l k' v' l' hk e e' => h.dis k v l k' v' l' hk (hd e) (hd e'), h.rw', fun b hb => Nat.lt_of_lt_of_le (h.rlt b hb) hO.size⟩, hO.mono fun b _ e => by rw [e]; exact h.rw'⟩
end
end Go.Proofs.Ytniggacgkhkgiaa.Ev
