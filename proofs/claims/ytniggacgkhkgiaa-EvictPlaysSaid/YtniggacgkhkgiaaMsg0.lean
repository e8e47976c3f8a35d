/- Messages as interface values: what a type assertion says of each kind. No condition. -/
import Derived.Test.YtniggacgkhkgiaaInts
namespace Go.Sp
open Go.RowKit
/-- a span: trace, place, text -/
abbrev Spn := Int × Int × ByteArray
def eSpn (x : Spn) : List Value := [.int .i64 x.1, .int .i64 x.2.1, .string x.2.2]
/-- a Pinned: its fields, and the numbers that its slice holds -/
structure Pt where
  a : Int
  t : Int
  j : Int
  n : Int
  cv : Value
  cl : List Int
  l : Bool
def ePt (p : Pt) : List Value := [.int .i64 p.a, .int .i64 p.t, .int .i64 p.j, .int .i64 p.n, p.cv, .bool p.l]
/-- a message: its fields as they lie in the interface value, and what its slices hold -/
inductive Mg where
  | trig (a : Int) (t : Int) (c : Int)
  | pin (t : Int) (j : Int)
  | pinned (p : Pt)
  | gone (a : Int) (t : Int) (j : Int)
  | coll (t : Int) (j : Int)
  | chunk (a : Int) (t : Int) (j : Int) (i : Int) (n : Int) (sv : Value) (xs : List Spn)
  | mani (t : Int) (j : Int) (c : Int) (pv : Value) (ps : List Pt)
  | stor (t : Int) (j : Int)
  | unp (t : Int) (j : Int)
  | unpd (a : Int) (t : Int) (j : Int)
  | none
/-- the slices of parts, and theirs -/
def Pts (w : World) (v : Value) (ps : List Pt) : Prop := RS w 6 ePt v ps ∧ ∀ p ∈ ps, RS w 1 eInt p.cv p.cl
theorem RS.only' {α : Type} {w w' : World} {size : Nat} {enc : α → List Value} {v : Value} {xs : List α} (h : RS w size enc v xs) {F : Nat → Prop} (o : Only F w w') (hF : 0 < xs.length → ∀ k, v.ownBlock = some k → ¬ F k) : RS w' size enc v xs := by
  obtain ⟨hl, a, cap, rfl, h2⟩ := h
  refine ⟨hl, a, cap, rfl, fun hn => ?_⟩
  obtain ⟨b, off, rfl, hb, h3⟩ := h2 hn
  refine ⟨b, off, rfl, Nat.lt_of_lt_of_le hb o.size, fun i x j u hx hu => ?_⟩
  rw [World.cell?_of_block (w := w) (o.block b hb (hF hn b rfl))]
  exact h3 i x j u hx hu
/-- a message's slices lie in memory -/
def InMem (w : World) : Mg → Prop
  | .pinned p => RS w 1 eInt p.cv p.cl
  | .chunk _ _ _ _ _ sv xs => RS w 3 eSpn sv xs
  | .mani _ _ _ pv ps => Pts w pv ps
  | _ => True
/-- the blocks of its slices -/
def MOwn (F : Nat → Prop) : Mg → Prop
  | .pinned p => ∀ g, p.cv.ownBlock = some g → ¬ F g
  | .chunk _ _ _ _ _ sv xs => 0 < xs.length → ∀ g, sv.ownBlock = some g → ¬ F g
  | .mani _ _ _ pv ps => (∀ g, pv.ownBlock = some g → ¬ F g) ∧ ∀ p ∈ ps, ∀ g, p.cv.ownBlock = some g → ¬ F g
  | _ => True
theorem Pts.only {w w' : World} {v : Value} {ps : List Pt} (h : Pts w v ps) {F : Nat → Prop} (o : Only F w w') (h1 : ∀ g, v.ownBlock = some g → ¬ F g) (h2 : ∀ p ∈ ps, ∀ g, p.cv.ownBlock = some g → ¬ F g) : Pts w' v ps :=
  ⟨h.1.only o h1, fun p hp => (h.2 p hp).only o (h2 p hp)⟩
theorem InMem.only {w w' : World} {m : Mg} (h : InMem w m) {F : Nat → Prop} (o : Only F w w') (hF : MOwn F m) : InMem w' m := by
  cases m <;> first | trivial | exact RS.only h o hF | exact RS.only' h o hF | exact Pts.only h o hF.1 hF.2
theorem InMem.below {w w' : World} {m : Mg} (h : InMem w m) (o : Below w.heap.size w w') : InMem w' m :=
  h.only (only_of_below o (fun _ => False)) (by cases m <;> first | trivial | exact fun _ _ => id | exact fun _ _ _ => id | exact ⟨fun _ _ => id, fun _ _ _ _ => id⟩)
def wi (n lo hi : Int) : Bool := decide (lo ≤ n) && decide (n ≤ hi)
theorem wi_true {n lo hi : Int} : wi n lo hi = true ↔ lo ≤ n ∧ n ≤ hi := by simp [wi]
/-- of which trace and job it is -/
def mT : Mg → Int
  | .trig _ t _ => t
  | .pin t _ => t
  | .pinned p => p.t
  | .gone _ t _ => t
  | .coll t _ => t
  | .chunk _ t _ _ _ _ _ => t
  | .mani t _ _ _ _ => t
  | .stor t _ => t
  | .unp t _ => t
  | .unpd _ t _ => t
  | .none => 0
def mJ : Mg → Int
  | .trig _ _ _ => 0
  | .pin _ j => j
  | .pinned p => p.j
  | .gone _ _ j => j
  | .coll _ j => j
  | .chunk _ _ j _ _ _ _ => j
  | .mani _ j _ _ _ => j
  | .stor _ j => j
  | .unp _ j => j
  | .unpd _ _ j => j
  | .none => 0
def mOk : Mg → Bool
  | .none => false
  | _ => true
def mA : Mg → Option Int
  | .trig a _ _ => some a
  | .pinned p => some p.a
  | .gone a _ _ => some a
  | .chunk a _ _ _ _ _ _ => some a
  | .unpd a _ _ => some a
  | _ => none
end Go.Sp
namespace Go.Proofs.Ytniggacgkhkgiaa.Msg
open Go.RowKit Go.Sp
def val : Mg → Value
  | .trig a t c => .iface 23 (.agg #[.int .i64 a, .int .i64 t, .int .i64 c])
  | .pin t j => .iface 70 (.agg #[.int .i64 t, .int .i64 j])
  | .pinned p => .iface 72 (.agg #[.int .i64 p.a, .int .i64 p.t, .int .i64 p.j, .int .i64 p.n, p.cv, .bool p.l])
  | .gone a t j => .iface 143 (.agg #[.int .i64 a, .int .i64 t, .int .i64 j])
  | .coll t j => .iface 144 (.agg #[.int .i64 t, .int .i64 j])
  | .chunk a t j i n sv _ => .iface 146 (.agg #[.int .i64 a, .int .i64 t, .int .i64 j, .int .i64 i, .int .i64 n, sv])
  | .mani t j c pv _ => .iface 62 (.agg #[.int .i64 t, .int .i64 j, .int .i64 c, pv])
  | .stor t j => .iface 78 (.agg #[.int .i64 t, .int .i64 j])
  | .unp t j => .iface 79 (.agg #[.int .i64 t, .int .i64 j])
  | .unpd a t j => .iface 81 (.agg #[.int .i64 a, .int .i64 t, .int .i64 j])
  | .none => .nilIface
@[go_sem] theorem ta_trig_trig (v : Value) (w : World) : (Instr.typeAssert (.iface 23 v) 42 23 true).run Try.prog w = .ok (.tuple #[v, .bool true]) w := by kernel_rfl
@[go_sem] theorem ta_trig_pin (v : Value) (w : World) : (Instr.typeAssert (.iface 23 v) 42 70 true).run Try.prog w = .ok (.tuple #[.agg #[.int .i64 0, .int .i64 0], .bool false]) w := by kernel_rfl
@[go_sem] theorem ta_trig_pinned (v : Value) (w : World) : (Instr.typeAssert (.iface 23 v) 42 72 true).run Try.prog w = .ok (.tuple #[.agg #[.int .i64 0, .int .i64 0, .int .i64 0, .int .i64 0, .slice none 0 0, .bool false], .bool false]) w := by kernel_rfl
@[go_sem] theorem ta_trig_gone (v : Value) (w : World) : (Instr.typeAssert (.iface 23 v) 42 143 true).run Try.prog w = .ok (.tuple #[.agg #[.int .i64 0, .int .i64 0, .int .i64 0], .bool false]) w := by kernel_rfl
@[go_sem] theorem ta_trig_coll (v : Value) (w : World) : (Instr.typeAssert (.iface 23 v) 42 144 true).run Try.prog w = .ok (.tuple #[.agg #[.int .i64 0, .int .i64 0], .bool false]) w := by kernel_rfl
@[go_sem] theorem ta_trig_chunk (v : Value) (w : World) : (Instr.typeAssert (.iface 23 v) 42 146 true).run Try.prog w = .ok (.tuple #[.agg #[.int .i64 0, .int .i64 0, .int .i64 0, .int .i64 0, .int .i64 0, .slice none 0 0], .bool false]) w := by kernel_rfl
@[go_sem] theorem ta_trig_mani (v : Value) (w : World) : (Instr.typeAssert (.iface 23 v) 42 62 true).run Try.prog w = .ok (.tuple #[.agg #[.int .i64 0, .int .i64 0, .int .i64 0, .slice none 0 0], .bool false]) w := by kernel_rfl
@[go_sem] theorem ta_trig_stor (v : Value) (w : World) : (Instr.typeAssert (.iface 23 v) 42 78 true).run Try.prog w = .ok (.tuple #[.agg #[.int .i64 0, .int .i64 0], .bool false]) w := by kernel_rfl
@[go_sem] theorem ta_trig_unp (v : Value) (w : World) : (Instr.typeAssert (.iface 23 v) 42 79 true).run Try.prog w = .ok (.tuple #[.agg #[.int .i64 0, .int .i64 0], .bool false]) w := by kernel_rfl
@[go_sem] theorem ta_trig_unpd (v : Value) (w : World) : (Instr.typeAssert (.iface 23 v) 42 81 true).run Try.prog w = .ok (.tuple #[.agg #[.int .i64 0, .int .i64 0, .int .i64 0], .bool false]) w := by kernel_rfl
@[go_sem] theorem ta_pin_trig (v : Value) (w : World) : (Instr.typeAssert (.iface 70 v) 42 23 true).run Try.prog w = .ok (.tuple #[.agg #[.int .i64 0, .int .i64 0, .int .i64 0], .bool false]) w := by kernel_rfl
@[go_sem] theorem ta_pin_pin (v : Value) (w : World) : (Instr.typeAssert (.iface 70 v) 42 70 true).run Try.prog w = .ok (.tuple #[v, .bool true]) w := by kernel_rfl
@[go_sem] theorem ta_pin_pinned (v : Value) (w : World) : (Instr.typeAssert (.iface 70 v) 42 72 true).run Try.prog w = .ok (.tuple #[.agg #[.int .i64 0, .int .i64 0, .int .i64 0, .int .i64 0, .slice none 0 0, .bool false], .bool false]) w := by kernel_rfl
@[go_sem] theorem ta_pin_gone (v : Value) (w : World) : (Instr.typeAssert (.iface 70 v) 42 143 true).run Try.prog w = .ok (.tuple #[.agg #[.int .i64 0, .int .i64 0, .int .i64 0], .bool false]) w := by kernel_rfl
@[go_sem] theorem ta_pin_coll (v : Value) (w : World) : (Instr.typeAssert (.iface 70 v) 42 144 true).run Try.prog w = .ok (.tuple #[.agg #[.int .i64 0, .int .i64 0], .bool false]) w := by kernel_rfl
@[go_sem] theorem ta_pin_chunk (v : Value) (w : World) : (Instr.typeAssert (.iface 70 v) 42 146 true).run Try.prog w = .ok (.tuple #[.agg #[.int .i64 0, .int .i64 0, .int .i64 0, .int .i64 0, .int .i64 0, .slice none 0 0], .bool false]) w := by kernel_rfl
@[go_sem] theorem ta_pin_mani (v : Value) (w : World) : (Instr.typeAssert (.iface 70 v) 42 62 true).run Try.prog w = .ok (.tuple #[.agg #[.int .i64 0, .int .i64 0, .int .i64 0, .slice none 0 0], .bool false]) w := by kernel_rfl
@[go_sem] theorem ta_pin_stor (v : Value) (w : World) : (Instr.typeAssert (.iface 70 v) 42 78 true).run Try.prog w = .ok (.tuple #[.agg #[.int .i64 0, .int .i64 0], .bool false]) w := by kernel_rfl
@[go_sem] theorem ta_pin_unp (v : Value) (w : World) : (Instr.typeAssert (.iface 70 v) 42 79 true).run Try.prog w = .ok (.tuple #[.agg #[.int .i64 0, .int .i64 0], .bool false]) w := by kernel_rfl
@[go_sem] theorem ta_pin_unpd (v : Value) (w : World) : (Instr.typeAssert (.iface 70 v) 42 81 true).run Try.prog w = .ok (.tuple #[.agg #[.int .i64 0, .int .i64 0, .int .i64 0], .bool false]) w := by kernel_rfl
@[go_sem] theorem ta_pinned_trig (v : Value) (w : World) : (Instr.typeAssert (.iface 72 v) 42 23 true).run Try.prog w = .ok (.tuple #[.agg #[.int .i64 0, .int .i64 0, .int .i64 0], .bool false]) w := by kernel_rfl
@[go_sem] theorem ta_pinned_pin (v : Value) (w : World) : (Instr.typeAssert (.iface 72 v) 42 70 true).run Try.prog w = .ok (.tuple #[.agg #[.int .i64 0, .int .i64 0], .bool false]) w := by kernel_rfl
@[go_sem] theorem ta_pinned_pinned (v : Value) (w : World) : (Instr.typeAssert (.iface 72 v) 42 72 true).run Try.prog w = .ok (.tuple #[v, .bool true]) w := by kernel_rfl
@[go_sem] theorem ta_pinned_gone (v : Value) (w : World) : (Instr.typeAssert (.iface 72 v) 42 143 true).run Try.prog w = .ok (.tuple #[.agg #[.int .i64 0, .int .i64 0, .int .i64 0], .bool false]) w := by kernel_rfl
@[go_sem] theorem ta_pinned_coll (v : Value) (w : World) : (Instr.typeAssert (.iface 72 v) 42 144 true).run Try.prog w = .ok (.tuple #[.agg #[.int .i64 0, .int .i64 0], .bool false]) w := by kernel_rfl
@[go_sem] theorem ta_pinned_chunk (v : Value) (w : World) : (Instr.typeAssert (.iface 72 v) 42 146 true).run Try.prog w = .ok (.tuple #[.agg #[.int .i64 0, .int .i64 0, .int .i64 0, .int .i64 0, .int .i64 0, .slice none 0 0], .bool false]) w := by kernel_rfl
@[go_sem] theorem ta_pinned_mani (v : Value) (w : World) : (Instr.typeAssert (.iface 72 v) 42 62 true).run Try.prog w = .ok (.tuple #[.agg #[.int .i64 0, .int .i64 0, .int .i64 0, .slice none 0 0], .bool false]) w := by kernel_rfl
@[go_sem] theorem ta_pinned_stor (v : Value) (w : World) : (Instr.typeAssert (.iface 72 v) 42 78 true).run Try.prog w = .ok (.tuple #[.agg #[.int .i64 0, .int .i64 0], .bool false]) w := by kernel_rfl
@[go_sem] theorem ta_pinned_unp (v : Value) (w : World) : (Instr.typeAssert (.iface 72 v) 42 79 true).run Try.prog w = .ok (.tuple #[.agg #[.int .i64 0, .int .i64 0], .bool false]) w := by kernel_rfl
@[go_sem] theorem ta_pinned_unpd (v : Value) (w : World) : (Instr.typeAssert (.iface 72 v) 42 81 true).run Try.prog w = .ok (.tuple #[.agg #[.int .i64 0, .int .i64 0, .int .i64 0], .bool false]) w := by kernel_rfl
@[go_sem] theorem ta_gone_trig (v : Value) (w : World) : (Instr.typeAssert (.iface 143 v) 42 23 true).run Try.prog w = .ok (.tuple #[.agg #[.int .i64 0, .int .i64 0, .int .i64 0], .bool false]) w := by kernel_rfl
@[go_sem] theorem ta_gone_pin (v : Value) (w : World) : (Instr.typeAssert (.iface 143 v) 42 70 true).run Try.prog w = .ok (.tuple #[.agg #[.int .i64 0, .int .i64 0], .bool false]) w := by kernel_rfl
@[go_sem] theorem ta_gone_pinned (v : Value) (w : World) : (Instr.typeAssert (.iface 143 v) 42 72 true).run Try.prog w = .ok (.tuple #[.agg #[.int .i64 0, .int .i64 0, .int .i64 0, .int .i64 0, .slice none 0 0, .bool false], .bool false]) w := by kernel_rfl
@[go_sem] theorem ta_gone_gone (v : Value) (w : World) : (Instr.typeAssert (.iface 143 v) 42 143 true).run Try.prog w = .ok (.tuple #[v, .bool true]) w := by kernel_rfl
@[go_sem] theorem ta_gone_coll (v : Value) (w : World) : (Instr.typeAssert (.iface 143 v) 42 144 true).run Try.prog w = .ok (.tuple #[.agg #[.int .i64 0, .int .i64 0], .bool false]) w := by kernel_rfl
@[go_sem] theorem ta_gone_chunk (v : Value) (w : World) : (Instr.typeAssert (.iface 143 v) 42 146 true).run Try.prog w = .ok (.tuple #[.agg #[.int .i64 0, .int .i64 0, .int .i64 0, .int .i64 0, .int .i64 0, .slice none 0 0], .bool false]) w := by kernel_rfl
@[go_sem] theorem ta_gone_mani (v : Value) (w : World) : (Instr.typeAssert (.iface 143 v) 42 62 true).run Try.prog w = .ok (.tuple #[.agg #[.int .i64 0, .int .i64 0, .int .i64 0, .slice none 0 0], .bool false]) w := by kernel_rfl
@[go_sem] theorem ta_gone_stor (v : Value) (w : World) : (Instr.typeAssert (.iface 143 v) 42 78 true).run Try.prog w = .ok (.tuple #[.agg #[.int .i64 0, .int .i64 0], .bool false]) w := by kernel_rfl
@[go_sem] theorem ta_gone_unp (v : Value) (w : World) : (Instr.typeAssert (.iface 143 v) 42 79 true).run Try.prog w = .ok (.tuple #[.agg #[.int .i64 0, .int .i64 0], .bool false]) w := by kernel_rfl
@[go_sem] theorem ta_gone_unpd (v : Value) (w : World) : (Instr.typeAssert (.iface 143 v) 42 81 true).run Try.prog w = .ok (.tuple #[.agg #[.int .i64 0, .int .i64 0, .int .i64 0], .bool false]) w := by kernel_rfl
@[go_sem] theorem ta_coll_trig (v : Value) (w : World) : (Instr.typeAssert (.iface 144 v) 42 23 true).run Try.prog w = .ok (.tuple #[.agg #[.int .i64 0, .int .i64 0, .int .i64 0], .bool false]) w := by kernel_rfl
@[go_sem] theorem ta_coll_pin (v : Value) (w : World) : (Instr.typeAssert (.iface 144 v) 42 70 true).run Try.prog w = .ok (.tuple #[.agg #[.int .i64 0, .int .i64 0], .bool false]) w := by kernel_rfl
@[go_sem] theorem ta_coll_pinned (v : Value) (w : World) : (Instr.typeAssert (.iface 144 v) 42 72 true).run Try.prog w = .ok (.tuple #[.agg #[.int .i64 0, .int .i64 0, .int .i64 0, .int .i64 0, .slice none 0 0, .bool false], .bool false]) w := by kernel_rfl
@[go_sem] theorem ta_coll_gone (v : Value) (w : World) : (Instr.typeAssert (.iface 144 v) 42 143 true).run Try.prog w = .ok (.tuple #[.agg #[.int .i64 0, .int .i64 0, .int .i64 0], .bool false]) w := by kernel_rfl
@[go_sem] theorem ta_coll_coll (v : Value) (w : World) : (Instr.typeAssert (.iface 144 v) 42 144 true).run Try.prog w = .ok (.tuple #[v, .bool true]) w := by kernel_rfl
@[go_sem] theorem ta_coll_chunk (v : Value) (w : World) : (Instr.typeAssert (.iface 144 v) 42 146 true).run Try.prog w = .ok (.tuple #[.agg #[.int .i64 0, .int .i64 0, .int .i64 0, .int .i64 0, .int .i64 0, .slice none 0 0], .bool false]) w := by kernel_rfl
@[go_sem] theorem ta_coll_mani (v : Value) (w : World) : (Instr.typeAssert (.iface 144 v) 42 62 true).run Try.prog w = .ok (.tuple #[.agg #[.int .i64 0, .int .i64 0, .int .i64 0, .slice none 0 0], .bool false]) w := by kernel_rfl
@[go_sem] theorem ta_coll_stor (v : Value) (w : World) : (Instr.typeAssert (.iface 144 v) 42 78 true).run Try.prog w = .ok (.tuple #[.agg #[.int .i64 0, .int .i64 0], .bool false]) w := by kernel_rfl
@[go_sem] theorem ta_coll_unp (v : Value) (w : World) : (Instr.typeAssert (.iface 144 v) 42 79 true).run Try.prog w = .ok (.tuple #[.agg #[.int .i64 0, .int .i64 0], .bool false]) w := by kernel_rfl
@[go_sem] theorem ta_coll_unpd (v : Value) (w : World) : (Instr.typeAssert (.iface 144 v) 42 81 true).run Try.prog w = .ok (.tuple #[.agg #[.int .i64 0, .int .i64 0, .int .i64 0], .bool false]) w := by kernel_rfl
@[go_sem] theorem ta_chunk_trig (v : Value) (w : World) : (Instr.typeAssert (.iface 146 v) 42 23 true).run Try.prog w = .ok (.tuple #[.agg #[.int .i64 0, .int .i64 0, .int .i64 0], .bool false]) w := by kernel_rfl
@[go_sem] theorem ta_chunk_pin (v : Value) (w : World) : (Instr.typeAssert (.iface 146 v) 42 70 true).run Try.prog w = .ok (.tuple #[.agg #[.int .i64 0, .int .i64 0], .bool false]) w := by kernel_rfl
@[go_sem] theorem ta_chunk_pinned (v : Value) (w : World) : (Instr.typeAssert (.iface 146 v) 42 72 true).run Try.prog w = .ok (.tuple #[.agg #[.int .i64 0, .int .i64 0, .int .i64 0, .int .i64 0, .slice none 0 0, .bool false], .bool false]) w := by kernel_rfl
@[go_sem] theorem ta_chunk_gone (v : Value) (w : World) : (Instr.typeAssert (.iface 146 v) 42 143 true).run Try.prog w = .ok (.tuple #[.agg #[.int .i64 0, .int .i64 0, .int .i64 0], .bool false]) w := by kernel_rfl
@[go_sem] theorem ta_chunk_coll (v : Value) (w : World) : (Instr.typeAssert (.iface 146 v) 42 144 true).run Try.prog w = .ok (.tuple #[.agg #[.int .i64 0, .int .i64 0], .bool false]) w := by kernel_rfl
@[go_sem] theorem ta_chunk_chunk (v : Value) (w : World) : (Instr.typeAssert (.iface 146 v) 42 146 true).run Try.prog w = .ok (.tuple #[v, .bool true]) w := by kernel_rfl
@[go_sem] theorem ta_chunk_mani (v : Value) (w : World) : (Instr.typeAssert (.iface 146 v) 42 62 true).run Try.prog w = .ok (.tuple #[.agg #[.int .i64 0, .int .i64 0, .int .i64 0, .slice none 0 0], .bool false]) w := by kernel_rfl
@[go_sem] theorem ta_chunk_stor (v : Value) (w : World) : (Instr.typeAssert (.iface 146 v) 42 78 true).run Try.prog w = .ok (.tuple #[.agg #[.int .i64 0, .int .i64 0], .bool false]) w := by kernel_rfl
@[go_sem] theorem ta_chunk_unp (v : Value) (w : World) : (Instr.typeAssert (.iface 146 v) 42 79 true).run Try.prog w = .ok (.tuple #[.agg #[.int .i64 0, .int .i64 0], .bool false]) w := by kernel_rfl
@[go_sem] theorem ta_chunk_unpd (v : Value) (w : World) : (Instr.typeAssert (.iface 146 v) 42 81 true).run Try.prog w = .ok (.tuple #[.agg #[.int .i64 0, .int .i64 0, .int .i64 0], .bool false]) w := by kernel_rfl
@[go_sem] theorem ta_mani_trig (v : Value) (w : World) : (Instr.typeAssert (.iface 62 v) 42 23 true).run Try.prog w = .ok (.tuple #[.agg #[.int .i64 0, .int .i64 0, .int .i64 0], .bool false]) w := by kernel_rfl
@[go_sem] theorem ta_mani_pin (v : Value) (w : World) : (Instr.typeAssert (.iface 62 v) 42 70 true).run Try.prog w = .ok (.tuple #[.agg #[.int .i64 0, .int .i64 0], .bool false]) w := by kernel_rfl
@[go_sem] theorem ta_mani_pinned (v : Value) (w : World) : (Instr.typeAssert (.iface 62 v) 42 72 true).run Try.prog w = .ok (.tuple #[.agg #[.int .i64 0, .int .i64 0, .int .i64 0, .int .i64 0, .slice none 0 0, .bool false], .bool false]) w := by kernel_rfl
@[go_sem] theorem ta_mani_gone (v : Value) (w : World) : (Instr.typeAssert (.iface 62 v) 42 143 true).run Try.prog w = .ok (.tuple #[.agg #[.int .i64 0, .int .i64 0, .int .i64 0], .bool false]) w := by kernel_rfl
@[go_sem] theorem ta_mani_coll (v : Value) (w : World) : (Instr.typeAssert (.iface 62 v) 42 144 true).run Try.prog w = .ok (.tuple #[.agg #[.int .i64 0, .int .i64 0], .bool false]) w := by kernel_rfl
@[go_sem] theorem ta_mani_chunk (v : Value) (w : World) : (Instr.typeAssert (.iface 62 v) 42 146 true).run Try.prog w = .ok (.tuple #[.agg #[.int .i64 0, .int .i64 0, .int .i64 0, .int .i64 0, .int .i64 0, .slice none 0 0], .bool false]) w := by kernel_rfl
@[go_sem] theorem ta_mani_mani (v : Value) (w : World) : (Instr.typeAssert (.iface 62 v) 42 62 true).run Try.prog w = .ok (.tuple #[v, .bool true]) w := by kernel_rfl
@[go_sem] theorem ta_mani_stor (v : Value) (w : World) : (Instr.typeAssert (.iface 62 v) 42 78 true).run Try.prog w = .ok (.tuple #[.agg #[.int .i64 0, .int .i64 0], .bool false]) w := by kernel_rfl
@[go_sem] theorem ta_mani_unp (v : Value) (w : World) : (Instr.typeAssert (.iface 62 v) 42 79 true).run Try.prog w = .ok (.tuple #[.agg #[.int .i64 0, .int .i64 0], .bool false]) w := by kernel_rfl
@[go_sem] theorem ta_mani_unpd (v : Value) (w : World) : (Instr.typeAssert (.iface 62 v) 42 81 true).run Try.prog w = .ok (.tuple #[.agg #[.int .i64 0, .int .i64 0, .int .i64 0], .bool false]) w := by kernel_rfl
@[go_sem] theorem ta_stor_trig (v : Value) (w : World) : (Instr.typeAssert (.iface 78 v) 42 23 true).run Try.prog w = .ok (.tuple #[.agg #[.int .i64 0, .int .i64 0, .int .i64 0], .bool false]) w := by kernel_rfl
@[go_sem] theorem ta_stor_pin (v : Value) (w : World) : (Instr.typeAssert (.iface 78 v) 42 70 true).run Try.prog w = .ok (.tuple #[.agg #[.int .i64 0, .int .i64 0], .bool false]) w := by kernel_rfl
@[go_sem] theorem ta_stor_pinned (v : Value) (w : World) : (Instr.typeAssert (.iface 78 v) 42 72 true).run Try.prog w = .ok (.tuple #[.agg #[.int .i64 0, .int .i64 0, .int .i64 0, .int .i64 0, .slice none 0 0, .bool false], .bool false]) w := by kernel_rfl
@[go_sem] theorem ta_stor_gone (v : Value) (w : World) : (Instr.typeAssert (.iface 78 v) 42 143 true).run Try.prog w = .ok (.tuple #[.agg #[.int .i64 0, .int .i64 0, .int .i64 0], .bool false]) w := by kernel_rfl
@[go_sem] theorem ta_stor_coll (v : Value) (w : World) : (Instr.typeAssert (.iface 78 v) 42 144 true).run Try.prog w = .ok (.tuple #[.agg #[.int .i64 0, .int .i64 0], .bool false]) w := by kernel_rfl
@[go_sem] theorem ta_stor_chunk (v : Value) (w : World) : (Instr.typeAssert (.iface 78 v) 42 146 true).run Try.prog w = .ok (.tuple #[.agg #[.int .i64 0, .int .i64 0, .int .i64 0, .int .i64 0, .int .i64 0, .slice none 0 0], .bool false]) w := by kernel_rfl
@[go_sem] theorem ta_stor_mani (v : Value) (w : World) : (Instr.typeAssert (.iface 78 v) 42 62 true).run Try.prog w = .ok (.tuple #[.agg #[.int .i64 0, .int .i64 0, .int .i64 0, .slice none 0 0], .bool false]) w := by kernel_rfl
@[go_sem] theorem ta_stor_stor (v : Value) (w : World) : (Instr.typeAssert (.iface 78 v) 42 78 true).run Try.prog w = .ok (.tuple #[v, .bool true]) w := by kernel_rfl
@[go_sem] theorem ta_stor_unp (v : Value) (w : World) : (Instr.typeAssert (.iface 78 v) 42 79 true).run Try.prog w = .ok (.tuple #[.agg #[.int .i64 0, .int .i64 0], .bool false]) w := by kernel_rfl
@[go_sem] theorem ta_stor_unpd (v : Value) (w : World) : (Instr.typeAssert (.iface 78 v) 42 81 true).run Try.prog w = .ok (.tuple #[.agg #[.int .i64 0, .int .i64 0, .int .i64 0], .bool false]) w := by kernel_rfl
@[go_sem] theorem ta_unp_trig (v : Value) (w : World) : (Instr.typeAssert (.iface 79 v) 42 23 true).run Try.prog w = .ok (.tuple #[.agg #[.int .i64 0, .int .i64 0, .int .i64 0], .bool false]) w := by kernel_rfl
@[go_sem] theorem ta_unp_pin (v : Value) (w : World) : (Instr.typeAssert (.iface 79 v) 42 70 true).run Try.prog w = .ok (.tuple #[.agg #[.int .i64 0, .int .i64 0], .bool false]) w := by kernel_rfl
@[go_sem] theorem ta_unp_pinned (v : Value) (w : World) : (Instr.typeAssert (.iface 79 v) 42 72 true).run Try.prog w = .ok (.tuple #[.agg #[.int .i64 0, .int .i64 0, .int .i64 0, .int .i64 0, .slice none 0 0, .bool false], .bool false]) w := by kernel_rfl
@[go_sem] theorem ta_unp_gone (v : Value) (w : World) : (Instr.typeAssert (.iface 79 v) 42 143 true).run Try.prog w = .ok (.tuple #[.agg #[.int .i64 0, .int .i64 0, .int .i64 0], .bool false]) w := by kernel_rfl
@[go_sem] theorem ta_unp_coll (v : Value) (w : World) : (Instr.typeAssert (.iface 79 v) 42 144 true).run Try.prog w = .ok (.tuple #[.agg #[.int .i64 0, .int .i64 0], .bool false]) w := by kernel_rfl
@[go_sem] theorem ta_unp_chunk (v : Value) (w : World) : (Instr.typeAssert (.iface 79 v) 42 146 true).run Try.prog w = .ok (.tuple #[.agg #[.int .i64 0, .int .i64 0, .int .i64 0, .int .i64 0, .int .i64 0, .slice none 0 0], .bool false]) w := by kernel_rfl
@[go_sem] theorem ta_unp_mani (v : Value) (w : World) : (Instr.typeAssert (.iface 79 v) 42 62 true).run Try.prog w = .ok (.tuple #[.agg #[.int .i64 0, .int .i64 0, .int .i64 0, .slice none 0 0], .bool false]) w := by kernel_rfl
@[go_sem] theorem ta_unp_stor (v : Value) (w : World) : (Instr.typeAssert (.iface 79 v) 42 78 true).run Try.prog w = .ok (.tuple #[.agg #[.int .i64 0, .int .i64 0], .bool false]) w := by kernel_rfl
@[go_sem] theorem ta_unp_unp (v : Value) (w : World) : (Instr.typeAssert (.iface 79 v) 42 79 true).run Try.prog w = .ok (.tuple #[v, .bool true]) w := by kernel_rfl
@[go_sem] theorem ta_unp_unpd (v : Value) (w : World) : (Instr.typeAssert (.iface 79 v) 42 81 true).run Try.prog w = .ok (.tuple #[.agg #[.int .i64 0, .int .i64 0, .int .i64 0], .bool false]) w := by kernel_rfl
@[go_sem] theorem ta_unpd_trig (v : Value) (w : World) : (Instr.typeAssert (.iface 81 v) 42 23 true).run Try.prog w = .ok (.tuple #[.agg #[.int .i64 0, .int .i64 0, .int .i64 0], .bool false]) w := by kernel_rfl
@[go_sem] theorem ta_unpd_pin (v : Value) (w : World) : (Instr.typeAssert (.iface 81 v) 42 70 true).run Try.prog w = .ok (.tuple #[.agg #[.int .i64 0, .int .i64 0], .bool false]) w := by kernel_rfl
@[go_sem] theorem ta_unpd_pinned (v : Value) (w : World) : (Instr.typeAssert (.iface 81 v) 42 72 true).run Try.prog w = .ok (.tuple #[.agg #[.int .i64 0, .int .i64 0, .int .i64 0, .int .i64 0, .slice none 0 0, .bool false], .bool false]) w := by kernel_rfl
@[go_sem] theorem ta_unpd_gone (v : Value) (w : World) : (Instr.typeAssert (.iface 81 v) 42 143 true).run Try.prog w = .ok (.tuple #[.agg #[.int .i64 0, .int .i64 0, .int .i64 0], .bool false]) w := by kernel_rfl
@[go_sem] theorem ta_unpd_coll (v : Value) (w : World) : (Instr.typeAssert (.iface 81 v) 42 144 true).run Try.prog w = .ok (.tuple #[.agg #[.int .i64 0, .int .i64 0], .bool false]) w := by kernel_rfl
@[go_sem] theorem ta_unpd_chunk (v : Value) (w : World) : (Instr.typeAssert (.iface 81 v) 42 146 true).run Try.prog w = .ok (.tuple #[.agg #[.int .i64 0, .int .i64 0, .int .i64 0, .int .i64 0, .int .i64 0, .slice none 0 0], .bool false]) w := by kernel_rfl
@[go_sem] theorem ta_unpd_mani (v : Value) (w : World) : (Instr.typeAssert (.iface 81 v) 42 62 true).run Try.prog w = .ok (.tuple #[.agg #[.int .i64 0, .int .i64 0, .int .i64 0, .slice none 0 0], .bool false]) w := by kernel_rfl
@[go_sem] theorem ta_unpd_stor (v : Value) (w : World) : (Instr.typeAssert (.iface 81 v) 42 78 true).run Try.prog w = .ok (.tuple #[.agg #[.int .i64 0, .int .i64 0], .bool false]) w := by kernel_rfl
@[go_sem] theorem ta_unpd_unp (v : Value) (w : World) : (Instr.typeAssert (.iface 81 v) 42 79 true).run Try.prog w = .ok (.tuple #[.agg #[.int .i64 0, .int .i64 0], .bool false]) w := by kernel_rfl
@[go_sem] theorem ta_unpd_unpd (v : Value) (w : World) : (Instr.typeAssert (.iface 81 v) 42 81 true).run Try.prog w = .ok (.tuple #[v, .bool true]) w := by kernel_rfl
@[go_sem] theorem ta_none_trig (w : World) : (Instr.typeAssert .nilIface 42 23 true).run Try.prog w = .ok (.tuple #[.agg #[.int .i64 0, .int .i64 0, .int .i64 0], .bool false]) w := by kernel_rfl
@[go_sem] theorem ta_none_pin (w : World) : (Instr.typeAssert .nilIface 42 70 true).run Try.prog w = .ok (.tuple #[.agg #[.int .i64 0, .int .i64 0], .bool false]) w := by kernel_rfl
@[go_sem] theorem ta_none_pinned (w : World) : (Instr.typeAssert .nilIface 42 72 true).run Try.prog w = .ok (.tuple #[.agg #[.int .i64 0, .int .i64 0, .int .i64 0, .int .i64 0, .slice none 0 0, .bool false], .bool false]) w := by kernel_rfl
@[go_sem] theorem ta_none_gone (w : World) : (Instr.typeAssert .nilIface 42 143 true).run Try.prog w = .ok (.tuple #[.agg #[.int .i64 0, .int .i64 0, .int .i64 0], .bool false]) w := by kernel_rfl
@[go_sem] theorem ta_none_coll (w : World) : (Instr.typeAssert .nilIface 42 144 true).run Try.prog w = .ok (.tuple #[.agg #[.int .i64 0, .int .i64 0], .bool false]) w := by kernel_rfl
@[go_sem] theorem ta_none_chunk (w : World) : (Instr.typeAssert .nilIface 42 146 true).run Try.prog w = .ok (.tuple #[.agg #[.int .i64 0, .int .i64 0, .int .i64 0, .int .i64 0, .int .i64 0, .slice none 0 0], .bool false]) w := by kernel_rfl
@[go_sem] theorem ta_none_mani (w : World) : (Instr.typeAssert .nilIface 42 62 true).run Try.prog w = .ok (.tuple #[.agg #[.int .i64 0, .int .i64 0, .int .i64 0, .slice none 0 0], .bool false]) w := by kernel_rfl
@[go_sem] theorem ta_none_stor (w : World) : (Instr.typeAssert .nilIface 42 78 true).run Try.prog w = .ok (.tuple #[.agg #[.int .i64 0, .int .i64 0], .bool false]) w := by kernel_rfl
@[go_sem] theorem ta_none_unp (w : World) : (Instr.typeAssert .nilIface 42 79 true).run Try.prog w = .ok (.tuple #[.agg #[.int .i64 0, .int .i64 0], .bool false]) w := by kernel_rfl
@[go_sem] theorem ta_none_unpd (w : World) : (Instr.typeAssert .nilIface 42 81 true).run Try.prog w = .ok (.tuple #[.agg #[.int .i64 0, .int .i64 0, .int .i64 0], .bool false]) w := by kernel_rfl
end Go.Proofs.Ytniggacgkhkgiaa.Msg
