/- assemble.Asm in memory, and what a new row, a new chunk and a manifest do to it. Conditions: it lies in memory as Arep says. -/
import Derived.Test.YtcdjeblcmgghhaaAsm0
import Derived.Test.YtcdjeblcmgghhaaCrumb0
namespace Go.Sp
open Go.RowKit

/-- an agent's row: its map's block, its total, its chunks -/
structure Ro where
  m : Nat
  tot : Int
  ch : List (Int × (Value × List Spn))
/-- a manifest that was kept: its block, class, parts -/
structure ManD where
  mb : Nat
  c : Int
  pv : Value
  ps : List Pt
def ePtr (b : Nat) : Value := .pointer (some ⟨b, 0, none⟩)
def manPtr : Option ManD → Value
  | none => .pointer none
  | some d => .pointer (some ⟨d.mb, 0, none⟩)
def gSet (g : Int → Ro) (a : Int) (r : Ro) : Int → Ro := fun k => if k = a then r else g k
theorem gSet_same (g : Int → Ro) (a : Int) (r : Ro) : gSet g a r a = r := by simp [gSet]
theorem gSet_other (g : Int → Ro) {a k : Int} (r : Ro) (h : k ≠ a) : gSet g a r k = g k := by simp [gSet, h]
end Go.Sp
namespace Go.Proofs.Ytcdjeblcmgghhaa.Asm
open Go.RowKit Go.Sp Msg

structure Arep (w : World) (R D : Nat → Prop) (ab rm : Nat) (t j : Int) (man : Option ManD) (rows : List (Int × Nat)) (g : Int → Ro) : Prop where
  blk : w.heap[ab]? = some (.cells #[.int .i64 t, .int .i64 j, manPtr man, .map (some rm)] 119 (0, 0))
  mp : IMap w.heap rm ePtr rows
  row : ∀ k b, mget k rows = some b → w.heap[b]? = some (.cells #[.int .i64 (g k).tot, .map (some (g k).m)] 169 (0, 0)) ∧ IMap w.heap (g k).m Prod.fst (g k).ch
  rown : ∀ k b, mget k rows = some b → R b ∧ R (g k).m ∧ (g k).m ≠ rm ∧ ¬ D b ∧ ¬ D (g k).m
  chk : ∀ k b i x, mget k rows = some b → mget i (g k).ch = some x → RS w 3 eSpn x.1 x.2 ∧ ∀ g', x.1.ownBlock = some g' → D g'
  dis : ∀ k k' b b', mget k rows = some b → mget k' rows = some b' → (g k).m = (g k').m → k = k'
  mn : ∀ d, man = some d → w.heap[d.mb]? = some (.cells #[.int .i64 t, .int .i64 j, .int .i64 d.c, d.pv] 59 (0, 0)) ∧ RS w 6 ePt d.pv d.ps
  mnn : ∀ d, man = some d → R d.mb ∧ ¬ D d.mb ∧ (∀ g', d.pv.ownBlock = some g' → D g') ∧ ∀ p ∈ d.ps, p.cv = .slice none 0 0 ∧ p.cl = []
  ra : R ab
  rr : R rm
  dr : ∀ b, D b → R b
  da : ¬ D ab
  dm : ¬ D rm
  rlt : ∀ b, R b → b < w.heap.size

section
variable {w w1 w2 : World} {R D : Nat → Prop} {ab rm : Nat} {t j : Int} {man : Option ManD} {rows : List (Int × Nat)} {g : Int → Ro} {a i n : Int} {b : Nat} {v : Value} {xs : List Spn}

theorem Arep.only {F : Nat → Prop} (h : Arep w R D ab rm t j man rows g) (o : Only F w w1) (hF : ∀ b, R b → ¬ F b) : Arep w1 R D ab rm t j man rows g :=
  ⟨o.heap h.blk (hF _ h.ra), h.mp.only o (hF _ h.rr), fun k b hk => ⟨o.heap (h.row k b hk).1 (hF _ (h.rown k b hk).1), (h.row k b hk).2.only o (hF _ (h.rown k b hk).2.1)⟩, h.rown,
    fun k b i x hk hx => ⟨(h.chk k b i x hk hx).1.only o (fun g' hg' => hF _ (h.dr _ ((h.chk k b i x hk hx).2 g' hg'))), (h.chk k b i x hk hx).2⟩, h.dis,
    fun d hd => ⟨o.heap (h.mn d hd).1 (hF _ (h.mnn d hd).1), (h.mn d hd).2.only o (fun g' hg' => hF _ (h.dr _ ((h.mnn d hd).2.2.1 g' hg')))⟩, h.mnn, h.ra, h.rr, h.dr, h.da, h.dm, fun b hb => Nat.lt_of_lt_of_le (h.rlt b hb) o.size⟩
theorem Arep.below (h : Arep w R D ab rm t j man rows g) (o : Below w.heap.size w w1) : Arep w1 R D ab rm t j man rows g := h.only (only_of_below o (fun _ => False)) (fun _ _ => id)
theorem Arep.drewN (h : Arep w R D ab rm t j man rows g) (q : Nat) : Arep (w.drewN q) R D ab rm t j man rows g := h.below (belowN (Below.refl _ w) q)
theorem Arep.c0 (h : Arep w R D ab rm t j man rows g) : w.cell? ⟨ab, 0, none⟩ = some (.int .i64 t) := by simp [World.cell?, h.blk]
theorem Arep.c1 (h : Arep w R D ab rm t j man rows g) : w.cell? ⟨ab, 1, none⟩ = some (.int .i64 j) := by simp [World.cell?, h.blk]
theorem Arep.c2 (h : Arep w R D ab rm t j man rows g) : w.cell? ⟨ab, 2, none⟩ = some (manPtr man) := by simp [World.cell?, h.blk]
theorem Arep.c3 (h : Arep w R D ab rm t j man rows g) : w.cell? ⟨ab, 3, none⟩ = some (.map (some rm)) := by simp [World.cell?, h.blk]

theorem zP (w : World) : (zeroValue 166).run Try.prog w = .ok (.pointer none) w := by kernel_rfl
theorem zS (w : World) : (zeroValue 32).run Try.prog w = .ok (.slice none 0 0) w := by kernel_rfl

theorem Arep.look (h : Arep w R D ab rm t j man rows g) (a : Int) : (Instr.lookup 116 (.map (some rm)) (.int .i64 a) false).run Try.prog w = .ok (((mget a rows).map ePtr).getD (.pointer none)) w :=
  h.mp.lookup (P := Try.prog) false Try.underlying116 Try.underlying3 (zP _) a
theorem Arep.lookc (c : Bool) (h : Arep w R D ab rm t j man rows g) (hk : mget a rows = some b) (i : Int) : (Instr.lookup 167 (.map (some (g a).m)) (.int .i64 i) c).run Try.prog w = .ok (if c then .tuple #[((mget i (g a).ch).map Prod.fst).getD (.slice none 0 0), .bool (mget i (g a).ch).isSome] else ((mget i (g a).ch).map Prod.fst).getD (.slice none 0 0)) w :=
  (h.row a b hk).2.lookup (P := Try.prog) c Try.underlying167 Try.underlying3 (zS _) i

/-- a new row, as region 3 makes it and region 4 keeps it -/
theorem Arep.newRow (h : Arep w R D ab rm t j man rows g) (hk : mget a rows = none) {B : Nat} (hB : B = w.heap.size) (hI : IMap w2.heap rm ePtr (mput a (B + 1) rows))
    (hO : Only (· = rm) ((w.alloc (.map #[] 0)).alloc (.cells #[.int .i64 n, .map (some B)] 169)) w2) :
    Arep w2 (fun b => R b ∨ b = B ∨ b = B + 1) D ab rm t j man (mput a (B + 1) rows) (gSet g a ⟨B, n, []⟩) := by
  subst hB
  have hrm := h.rlt rm h.rr
  have hab := h.rlt ab h.ra
  have hrm2 : ab ≠ rm := fun e => by
    obtain ⟨es, cl, hb, _⟩ := h.mp
    rw [← e, h.blk] at hb; cases hb
  have h0 : Arep w2 R D ab rm t j man rows g → True := fun _ => trivial
  have hA : Only (fun _ => False) w ((w.alloc (.map #[] 0)).alloc (.cells #[.int .i64 n, .map (some w.heap.size)] 169)) := ((Only.refl _ _).alloc _).alloc _
  have h1 := h.only hA (fun _ _ => id)
  have hs0 : ((w.alloc (.map #[] 0)).alloc (.cells #[.int .i64 n, .map (some w.heap.size)] 169)).heap.size = w.heap.size + 2 := by simp
  have hnm : IMap ((w.alloc (.map #[] 0)).alloc (.cells #[.int .i64 n, .map (some w.heap.size)] 169)).heap w.heap.size (Prod.fst (α := Value) (β := List Spn)) [] := (IMap.made' w Prod.fst rfl).alloc _
  have hnr : ((w.alloc (.map #[] 0)).alloc (.cells #[.int .i64 n, .map (some w.heap.size)] 169)).heap[w.heap.size + 1]? = some (.cells #[.int .i64 n, .map (some w.heap.size)] 169 (0, 0)) := heap_new _ _ (by simp)
  have hne1 : w.heap.size ≠ rm := by omega
  have hne2 : w.heap.size + 1 ≠ rm := by omega
  have hold : ∀ k b, k ≠ a → mget k (mput a (w.heap.size + 1) rows) = some b → mget k rows = some b := fun k b e hb => by rw [mget_mput, if_neg e] at hb; exact hb
  have rne : ∀ k b, mget k rows = some b → b ≠ rm := fun k b hb e => by
    obtain ⟨es, cl, hb2, _⟩ := h.mp
    rw [← e, (h.row k b hb).1] at hb2; cases hb2
  refine ⟨hO.heap h1.blk hrm2, hI, fun k b hb => ?_, fun k b hb => ?_, fun k b i x hb hx => ?_, fun k k' b b' hb hb' e => ?_, fun d hd => ?_, fun d hd => ?_, .inl h.ra, .inl h.rr, fun b hb => .inl (h.dr b hb), h.da, h.dm, fun b hb => ?_⟩
  · by_cases e : k = a
    · subst e
      rw [mget_mput_same] at hb; cases hb
      rw [gSet_same]
      exact ⟨hO.heap hnr hne2, hnm.only hO hne1⟩
    · have hb1 := hold k b e hb
      rw [gSet_other g _ e]
      exact ⟨hO.heap (h1.row k b hb1).1 (rne k b hb1), (h1.row k b hb1).2.only hO (h.rown k b hb1).2.2.1⟩
  · by_cases e : k = a
    · subst e
      rw [mget_mput_same] at hb; cases hb
      rw [gSet_same]
      exact ⟨.inr (.inr rfl), .inr (.inl rfl), hne1, fun hd => by have := h.rlt _ (h.dr _ hd); omega, fun hd => by have := h.rlt _ (h.dr _ hd); simp only at this; omega⟩
    · have hb1 := h.rown k b (hold k b e hb)
      rw [gSet_other g _ e]
      exact ⟨.inl hb1.1, .inl hb1.2.1, hb1.2.2⟩
  · by_cases e : k = a
    · subst e
      rw [gSet_same] at hx
      simp [mget] at hx
    · rw [gSet_other g _ e] at hx
      have := h1.chk k b i x (hold k b e hb) hx
      exact ⟨this.1.only hO (fun g' hg' e2 => h.dm (by rw [← e2]; exact this.2 g' hg')), this.2⟩
  · by_cases e1 : k = a <;> by_cases e2 : k' = a
    · rw [e1, e2]
    · rw [e1, gSet_same, gSet_other g _ e2] at e
      have := h.rlt _ (h.rown k' b' (hold k' b' e2 hb')).2.1
      simp only at e; omega
    · rw [e2, gSet_same, gSet_other g _ e1] at e
      have := h.rlt _ (h.rown k b (hold k b e1 hb)).2.1
      simp only at e; omega
    · rw [gSet_other g _ e1, gSet_other g _ e2] at e
      exact h.dis k k' b b' (hold k b e1 hb) (hold k' b' e2 hb') e
  · have hm := h1.mn d hd
    refine ⟨hO.heap hm.1 (fun e => ?_), hm.2.only hO (fun g' hg' e2 => h.dm (by rw [← e2]; exact (h.mnn d hd).2.2.1 g' hg'))⟩
    obtain ⟨es, cl, hb2, _⟩ := h1.mp
    rw [← e, hm.1] at hb2; cases hb2
  · have hm := h.mnn d hd
    exact ⟨.inl hm.1, hm.2⟩
  · have := hO.size
    rcases hb with hb | hb | hb
    · have := h.rlt b hb; omega
    · omega
    · omega

/-- a new chunk in a row -/
theorem Arep.put (h : Arep w R D ab rm t j man rows g) (hk : mget a rows = some b) (hv : RS w 3 eSpn v xs) (hvn : ∀ g', v.ownBlock = some g' → ¬ R g' ∧ g' < w.heap.size) (hO : Only (· = (g a).m) w w2) (hI : IMap w2.heap (g a).m Prod.fst (mput i (v, xs) (g a).ch)) :
    Arep w2 (fun b => R b ∨ v.ownBlock = some b) (fun b => D b ∨ v.ownBlock = some b) ab rm t j man rows (gSet g a ⟨(g a).m, (g a).tot, mput i (v, xs) (g a).ch⟩) := by
  obtain ⟨hr1, hr2, hr3, hr4, hr5⟩ := h.rown a b hk
  have hmap : ∀ b1 o ty fr, w.heap[b1]? = some (.cells o ty fr) → b1 ≠ (g a).m := fun b1 o ty fr hb e => by
    obtain ⟨es, cl, hb2, _⟩ := (h.row a b hk).2
    rw [← e, hb] at hb2; cases hb2
  have hvm : ∀ g', v.ownBlock = some g' → g' ≠ (g a).m := fun g' hg' e => (hvn g' hg').1 (by rw [e]; exact hr2)
  have hm : ∀ k, (gSet g a ⟨(g a).m, (g a).tot, mput i (v, xs) (g a).ch⟩ k).m = (g k).m := fun k => by
    by_cases e : k = a
    · subst e; rw [gSet_same]
    · rw [gSet_other g _ e]
  refine ⟨hO.heap h.blk (hmap _ _ _ _ h.blk), h.mp.only hO (fun e => hr3 e.symm), fun k b' hb => ?_, fun k b' hb => ?_, fun k b' q x hb hx => ?_, fun k k' b1 b2 h1 h2 e => ?_, fun d hd => ?_, fun d hd => ?_, .inl h.ra, .inl h.rr, fun b hb => hb.imp (h.dr b) id, ?_, ?_, fun b hb => ?_⟩
  · by_cases e : k = a
    · subst e
      rw [gSet_same]
      exact ⟨hO.heap (h.row k b' hb).1 (hmap _ _ _ _ (h.row k b' hb).1), hI⟩
    · rw [gSet_other g _ e]
      exact ⟨hO.heap (h.row k b' hb).1 (hmap _ _ _ _ (h.row k b' hb).1), (h.row k b' hb).2.only hO (fun e2 => e (h.dis k a b' b hb hk e2))⟩
  · have := h.rown k b' hb
    rw [hm k]
    refine ⟨.inl this.1, .inl this.2.1, this.2.2.1, fun hd => ?_, fun hd => ?_⟩
    · rcases hd with hd | hd
      · exact this.2.2.2.1 hd
      · exact (hvn _ hd).1 this.1
    · rcases hd with hd | hd
      · exact this.2.2.2.2 hd
      · exact (hvn _ hd).1 this.2.1
  · by_cases e : k = a
    · subst e
      rw [gSet_same] at hx
      simp only [mget_mput] at hx
      by_cases e2 : q = i
      · rw [if_pos e2] at hx; cases hx
        exact ⟨hv.only hO hvm, fun g' hg' => .inr hg'⟩
      · rw [if_neg e2] at hx
        have := h.chk k b' q x hb hx
        exact ⟨this.1.only hO (fun g' hg' e3 => hr5 (by rw [← e3]; exact this.2 g' hg')), fun g' hg' => .inl (this.2 g' hg')⟩
    · rw [gSet_other g _ e] at hx
      have := h.chk k b' q x hb hx
      exact ⟨this.1.only hO (fun g' hg' e3 => hr5 (by rw [← e3]; exact this.2 g' hg')), fun g' hg' => .inl (this.2 g' hg')⟩
  · rw [hm k, hm k'] at e
    exact h.dis k k' b1 b2 h1 h2 e
  · have := h.mn d hd
    exact ⟨hO.heap this.1 (hmap _ _ _ _ this.1), this.2.only hO (fun g' hg' e3 => hr5 (by rw [← e3]; exact (h.mnn d hd).2.2.1 g' hg'))⟩
  · have := h.mnn d hd
    refine ⟨.inl this.1, fun hd2 => ?_, fun g' hg' => .inl (this.2.2.1 g' hg'), this.2.2.2⟩
    rcases hd2 with h2 | h2
    · exact this.2.1 h2
    · exact (hvn _ h2).1 this.1
  · rintro (h2 | h2)
    · exact h.da h2
    · exact (hvn _ h2).1 h.ra
  · rintro (h2 | h2)
    · exact h.dm h2
    · exact (hvn _ h2).1 h.rr
  · have := hO.size
    rcases hb with hb | hb
    · have := h.rlt b hb; omega
    · have := (hvn b hb).2; omega
end
end Go.Proofs.Ytcdjeblcmgghhaa.Asm
