/- What the pool's last says and does: the buffer that a trace's next span goes to. Conditions: it lies in memory as Prep says, its buffers are linked as Pinv says. -/
import Derived.Test.YtniggacgkhkgiaaPool3
import Derived.Deep.QuietTactic
import Derived.BigQuiet
namespace Go.Proofs.Ytniggacgkhkgiaa.Pool
open Go.RowKit Go.Sp Msg
section
variable {w w1 w2 : World} {R : Nat → Prop} {pb bb mb N : Nat} {fv : Value} {bf : List Bf} {fr : List Int} {m : Rows} {k : Int}

theorem Prep.chain {v : Value} {l : List Int} (h : Prep w R pb bb mb fv bf fr m) (hk : mget k m = some (v, l) ∨ (mget k m = none ∧ v = .slice none 0 0 ∧ l = [])) : SL w.heap 3 1 v l.length (l.map Sp.zI) ∧
    (∀ g, v.ownBlock = some g → R g) ∧ v.ownBlock ≠ some pb ∧ v.ownBlock ≠ some mb ∧ v.ownBlock ≠ some bb ∧ (∀ g, v.ownBlock = some g → fv.ownBlock ≠ some g) ∧ (∀ k' v' l', k' ≠ k → mget k' m = some (v', l') → ∀ g, v.ownBlock = some g → v'.ownBlock ≠ some g) := by
  rcases hk with e | ⟨_, rfl, rfl⟩
  · exact ⟨h.sl k v l e, h.own k v l e, h.np e, h.nm e, h.nb e, h.fd k v l e, fun k' v' l' hk e' => h.dis k v l k' v' l' (fun x => hk x.symm) e e'⟩
  · exact ⟨SL.nil _ _ _, fun g hg => by simp [Value.ownBlock] at hg, by simp [Value.ownBlock], by simp [Value.ownBlock], by simp [Value.ownBlock], fun g hg => by simp [Value.ownBlock] at hg, fun k' v' l' _ _ g hg => by simp [Value.ownBlock] at hg⟩
/-- a trace's chain that ends in i, as it is read -/
theorem Prep.tail {l' : List Int} {i : Int} (h : Prep w R pb bb mb fv bf fr m) (hI : Pinv N bf fr (mS m)) (e : mget k (mS m) = some (l' ++ [i])) : ∃ vb vo vc, ∃ n : Nat, i = n ∧ n < bf.length ∧ bf[n]? = some (bufAt bf (n : Int)) ∧ mget k m = some (.slice (some ⟨vb, vo, none⟩) (l'.length + 1) vc, l' ++ [i]) ∧ w.cell? ⟨vb, vo + l'.length, none⟩ = some (.int .i64 (n : Int)) ∧ (bufAt bf (n : Int)).n ≤ 3 := by
  have hr := hI.rg i (List.mem_append_right _ (mem_chAll e (by simp)))
  obtain ⟨n, rfl⟩ : ∃ n : Nat, i = n := ⟨i.toNat, by omega⟩
  have hn : n < bf.length := by rw [hI.hN]; omega
  rw [mget_mmap] at e
  cases em : mget k m with
  | none => rw [em] at e; cases e
  | some p =>
    obtain ⟨v, l⟩ := p
    rw [em] at e
    simp only [Option.map_some, Option.some.injEq] at e
    subst e
    have hs := h.sl k v _ em
    rw [List.length_append, List.length_singleton] at hs
    obtain ⟨vb, vo, vc, rfl, _⟩ := hs.form' (by omega)
    refine ⟨vb, vo, vc, n, rfl, hn, by unfold bufAt; rw [Int.toNat_natCast, List.getD_eq_getElem?_getD, List.getElem?_eq_getElem hn]; rfl, rfl, ?_, hI.bn _⟩
    exact hs.cell (j := l'.length) (u := .int .i64 (n : Int)) (by rw [List.map_append, List.getElem?_append_right (by simp)]; simp [zI])

set_option maxRecDepth 100000 in
set_option maxHeartbeats 2000000 in
theorem last_room {l' : List Int} {i : Int} (h : Prep w R pb bb mb fv bf fr m) (hI : Pinv N bf fr (mS m)) (e : mget k (mS m) = some (l' ++ [i])) (hn : (bufAt bf i).n < 3) :
    Calls Try.prog 119 #[.pointer (some ⟨pb, 0, none⟩), .int .i64 k] w fun e w' => e = .returned (.pointer (some ⟨bb, i.toNat * 10, none⟩)) ∧ Below w.heap.size w w' := by
  obtain ⟨vb, vo, vc, n, rfl, hnb, hbn, hm, g0, hn3⟩ := h.tail hI e
  obtain ⟨v0, l0, hl, _, _, rfl, hk, _⟩ := h.look k
  rw [hm] at hk
  have hk := hk.resolve_right (fun e => by cases e.1)
  simp only [Option.some.injEq, Prod.mk.injEq] at hk
  obtain ⟨rfl, _⟩ := hk
  have hl0 := hl w rfl
  have c0 := h.c0
  have c2 := h.c2
  have g9 : w.cell? ⟨bb, n * 10 + 9, none⟩ = some (.int .i64 ((bufAt bf (n : Int)).n : Int)) := h.buf hbn rfl
  have hl9 := hI.small k
  have h16 := hI.n16
  have hle : l'.length + 1 ≤ N := by
    have : lgetA k (mS m) = l' ++ [(n : Int)] := by unfold lgetA; rw [e]; rfl
    rw [this] at hl9; simpa using hl9
  clear hl hbn e hm h hI hl9
  generalize (bufAt bf (n : Int)).n = bn at hn hn3 g9
  generalize bf.length = bl at c0 hnb
  generalize l'.length = q at g0 hl0 hle
  rw [Int.toNat_natCast]
  have b1 : decide ((bn : Int) < 3) = true := decide_eq_true (by omega)
  have b1' : decide (bn < 3) = true := decide_eq_true hn
  go_enter Try.func119, Try.ntmps119
  go_wp2
  go_quiet (fail)
  go_wp2
  go_quiet (fail)
  go_wp2
  go_ret
  exact ⟨rfl, by repeat (first | exact Below.refl _ _ | apply belowN)⟩

set_option maxRecDepth 100000 in
set_option maxHeartbeats 2000000 in
theorem last_none (h : Prep w R pb bb mb fv bf [] m) (hI : Pinv N bf [] (mS m)) (hno : mget k (mS m) = none ∨ ∃ l' i, mget k (mS m) = some (l' ++ [i]) ∧ (bufAt bf i).n = 3) :
    Calls Try.prog 119 #[.pointer (some ⟨pb, 0, none⟩), .int .i64 k] w fun e w' => e = .returned (.pointer none) ∧ Below w.heap.size w w' := by
  obtain ⟨v0, l0, hl, _, _, rfl, hk, _⟩ := h.look k
  have hl0 := hl w rfl
  have c0 := h.c0
  have c1 := h.c1
  have c2 := h.c2
  have hfr := h.free
  obtain ⟨fa, fc, rfl⟩ := hfr.form
  simp only [List.length_nil] at c1
  rcases hno with e | ⟨l', i, e, hn⟩
  · rw [mget_mmap] at e
    rcases hk with hk | ⟨_, rfl, _⟩
    · rw [hk] at e; cases e
    clear hl h hI hfr
    go_enter Try.func119, Try.ntmps119
    go_wp2
    go_quiet (fail)
    go_wp2
    go_ret
    exact ⟨rfl, by repeat (first | exact Below.refl _ _ | apply belowN)⟩
  · obtain ⟨vb, vo, vc, n, rfl, hnb, hbn, hm, g0, hn3⟩ := h.tail hI e
    rw [hm] at hk
    have hk := hk.resolve_right (fun e => by cases e.1)
    simp only [Option.some.injEq, Prod.mk.injEq] at hk
    obtain ⟨rfl, _⟩ := hk
    have g9 : w.cell? ⟨bb, n * 10 + 9, none⟩ = some (.int .i64 ((bufAt bf (n : Int)).n : Int)) := h.buf hbn rfl
    have hl9 := hI.small k
    have h16 := hI.n16
    have hle : l'.length + 1 ≤ N := by
      have : lgetA k (mS m) = l' ++ [(n : Int)] := by unfold lgetA; rw [e]; rfl
      rw [this] at hl9; simpa using hl9
    rw [hn] at g9
    clear hl hbn e hm h hI hl9 hn hn3 hfr
    generalize bf.length = bl at c0 hnb
    generalize l'.length = q at g0 hl0 hle
    go_enter Try.func119, Try.ntmps119
    go_wp2
    go_quiet (fail)
    go_wp2
    go_ret
    exact ⟨rfl, by repeat (first | exact Below.refl _ _ | apply belowN)⟩
end
end Go.Proofs.Ytniggacgkhkgiaa.Pool
