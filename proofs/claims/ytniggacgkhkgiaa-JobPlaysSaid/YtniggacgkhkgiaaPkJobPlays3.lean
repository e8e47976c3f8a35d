/- Messages as interface values: what a type assertion says of each kind. No condition. -/
import Derived.Test.YtniggacgkhkgiaaPkJobPlays2
import Derived.BigQuiet
import Derived.OwnWalk
import Derived.Stop.Asserts
namespace Go.Sp
open Go.RowKit
/-- a span: trace, place, text -/
abbrev Spn := Int × Int × ByteArray
def eSpn (x : Spn) : List Value := [.int .i64 x.1, .int .i64 x.2.1, .string x.2.2]
/-- a Pinned: its fields, and the numbers that its slice holds -/
structure Pt where
  a : Int
  t : Int
  j : Int
  n : Int
  cv : Value
  cl : List Int
  l : Bool
def ePt (p : Pt) : List Value := [.int .i64 p.a, .int .i64 p.t, .int .i64 p.j, .int .i64 p.n, p.cv, .bool p.l]
/-- a message: its fields as they lie in the interface value, and what its slices hold -/
inductive Mg where
  | trig (a : Int) (t : Int) (c : Int)
  | pin (t : Int) (j : Int)
  | pinned (p : Pt)
  | gone (a : Int) (t : Int) (j : Int)
  | coll (t : Int) (j : Int)
  | chunk (a : Int) (t : Int) (j : Int) (i : Int) (n : Int) (sv : Value) (xs : List Spn)
  | mani (t : Int) (j : Int) (c : Int) (pv : Value) (ps : List Pt)
  | stor (t : Int) (j : Int)
  | unp (t : Int) (j : Int)
  | unpd (a : Int) (t : Int) (j : Int)
  | none
/-- the slices of parts, and theirs -/
def Pts (w : World) (v : Value) (ps : List Pt) : Prop := RS w 6 ePt v ps ∧ ∀ p ∈ ps, RS w 1 eInt p.cv p.cl
theorem RS.only' {α : Type} {w w' : World} {size : Nat} {enc : α → List Value} {v : Value} {xs : List α} (h : RS w size enc v xs) {F : Nat → Prop} (o : Only F w w') (hF : 0 < xs.length → ∀ k, v.ownBlock = some k → ¬ F k) : RS w' size enc v xs := by
  obtain ⟨hl, a, cap, rfl, h2⟩ := h
  refine ⟨hl, a, cap, rfl, fun hn => ?_⟩
  obtain ⟨b, off, rfl, hb, h3⟩ := h2 hn
  refine ⟨b, off, rfl, Nat.lt_of_lt_of_le hb o.size, fun i x j u hx hu => ?_⟩
  rw [World.cell?_of_block (w := w) (o.block b hb (hF hn b rfl))]
  exact h3 i x j u hx hu
/-- a message's slices lie in memory -/
def InMem (w : World) : Mg → Prop
  | .pinned p => RS w 1 eInt p.cv p.cl
  | .chunk _ _ _ _ _ sv xs => RS w 3 eSpn sv xs
  | .mani _ _ _ pv ps => Pts w pv ps
  | _ => True
/-- the blocks of its slices -/
def MOwn (F : Nat → Prop) : Mg → Prop
  | .pinned p => ∀ g, p.cv.ownBlock = some g → ¬ F g
  | .chunk _ _ _ _ _ sv xs => 0 < xs.length → ∀ g, sv.ownBlock = some g → ¬ F g
  | .mani _ _ _ pv ps => (∀ g, pv.ownBlock = some g → ¬ F g) ∧ ∀ p ∈ ps, ∀ g, p.cv.ownBlock = some g → ¬ F g
  | _ => True
theorem Pts.only {w w' : World} {v : Value} {ps : List Pt} (h : Pts w v ps) {F : Nat → Prop} (o : Only F w w') (h1 : ∀ g, v.ownBlock = some g → ¬ F g) (h2 : ∀ p ∈ ps, ∀ g, p.cv.ownBlock = some g → ¬ F g) : Pts w' v ps :=
  ⟨h.1.only o h1, fun p hp => (h.2 p hp).only o (h2 p hp)⟩
theorem InMem.only {w w' : World} {m : Mg} (h : InMem w m) {F : Nat → Prop} (o : Only F w w') (hF : MOwn F m) : InMem w' m := by
  cases m <;> first | trivial | exact RS.only h o hF | exact RS.only' h o hF | exact Pts.only h o hF.1 hF.2
theorem InMem.below {w w' : World} {m : Mg} (h : InMem w m) (o : Below w.heap.size w w') : InMem w' m :=
  h.only (only_of_below o (fun _ => False)) (by cases m <;> first | trivial | exact fun _ _ => id | exact fun _ _ _ => id | exact ⟨fun _ _ => id, fun _ _ _ _ => id⟩)
def wi (n lo hi : Int) : Bool := decide (lo ≤ n) && decide (n ≤ hi)
theorem wi_true {n lo hi : Int} : wi n lo hi = true ↔ lo ≤ n ∧ n ≤ hi := by simp [wi]
/-- of which trace and job it is -/
def mT : Mg → Int
  | .trig _ t _ => t
  | .pin t _ => t
  | .pinned p => p.t
  | .gone _ t _ => t
  | .coll t _ => t
  | .chunk _ t _ _ _ _ _ => t
  | .mani t _ _ _ _ => t
  | .stor t _ => t
  | .unp t _ => t
  | .unpd _ t _ => t
  | .none => 0
def mJ : Mg → Int
  | .trig _ _ _ => 0
  | .pin _ j => j
  | .pinned p => p.j
  | .gone _ _ j => j
  | .coll _ j => j
  | .chunk _ _ j _ _ _ _ => j
  | .mani _ j _ _ _ => j
  | .stor _ j => j
  | .unp _ j => j
  | .unpd _ _ j => j
  | .none => 0
def mOk : Mg → Bool
  | .none => false
  | _ => true
def mA : Mg → Option Int
  | .trig a _ _ => some a
  | .pinned p => some p.a
  | .gone a _ _ => some a
  | .chunk a _ _ _ _ _ _ => some a
  | .unpd a _ _ => some a
  | _ => none
end Go.Sp
namespace Go.Proofs.Ytniggacgkhkgiaa.Msg
open Go.RowKit Go.Sp
def val : Mg → Value
  | .trig a t c => .iface 23 (.agg #[.int .i64 a, .int .i64 t, .int .i64 c])
  | .pin t j => .iface 70 (.agg #[.int .i64 t, .int .i64 j])
  | .pinned p => .iface 72 (.agg #[.int .i64 p.a, .int .i64 p.t, .int .i64 p.j, .int .i64 p.n, p.cv, .bool p.l])
  | .gone a t j => .iface 143 (.agg #[.int .i64 a, .int .i64 t, .int .i64 j])
  | .coll t j => .iface 144 (.agg #[.int .i64 t, .int .i64 j])
  | .chunk a t j i n sv _ => .iface 146 (.agg #[.int .i64 a, .int .i64 t, .int .i64 j, .int .i64 i, .int .i64 n, sv])
  | .mani t j c pv _ => .iface 62 (.agg #[.int .i64 t, .int .i64 j, .int .i64 c, pv])
  | .stor t j => .iface 78 (.agg #[.int .i64 t, .int .i64 j])
  | .unp t j => .iface 79 (.agg #[.int .i64 t, .int .i64 j])
  | .unpd a t j => .iface 81 (.agg #[.int .i64 a, .int .i64 t, .int .i64 j])
  | .none => .nilIface
@[go_sem] theorem ta_trig_trig (v : Value) (w : World) : (Instr.typeAssert (.iface 23 v) 42 23 true).run Try.prog w = .ok (.tuple #[v, .bool true]) w := by kernel_rfl
@[go_sem] theorem ta_trig_pin (v : Value) (w : World) : (Instr.typeAssert (.iface 23 v) 42 70 true).run Try.prog w = .ok (.tuple #[.agg #[.int .i64 0, .int .i64 0], .bool false]) w := by kernel_rfl
@[go_sem] theorem ta_trig_pinned (v : Value) (w : World) : (Instr.typeAssert (.iface 23 v) 42 72 true).run Try.prog w = .ok (.tuple #[.agg #[.int .i64 0, .int .i64 0, .int .i64 0, .int .i64 0, .slice none 0 0, .bool false], .bool false]) w := by kernel_rfl
@[go_sem] theorem ta_trig_gone (v : Value) (w : World) : (Instr.typeAssert (.iface 23 v) 42 143 true).run Try.prog w = .ok (.tuple #[.agg #[.int .i64 0, .int .i64 0, .int .i64 0], .bool false]) w := by kernel_rfl
@[go_sem] theorem ta_trig_coll (v : Value) (w : World) : (Instr.typeAssert (.iface 23 v) 42 144 true).run Try.prog w = .ok (.tuple #[.agg #[.int .i64 0, .int .i64 0], .bool false]) w := by kernel_rfl
@[go_sem] theorem ta_trig_chunk (v : Value) (w : World) : (Instr.typeAssert (.iface 23 v) 42 146 true).run Try.prog w = .ok (.tuple #[.agg #[.int .i64 0, .int .i64 0, .int .i64 0, .int .i64 0, .int .i64 0, .slice none 0 0], .bool false]) w := by kernel_rfl
@[go_sem] theorem ta_trig_mani (v : Value) (w : World) : (Instr.typeAssert (.iface 23 v) 42 62 true).run Try.prog w = .ok (.tuple #[.agg #[.int .i64 0, .int .i64 0, .int .i64 0, .slice none 0 0], .bool false]) w := by kernel_rfl
@[go_sem] theorem ta_trig_stor (v : Value) (w : World) : (Instr.typeAssert (.iface 23 v) 42 78 true).run Try.prog w = .ok (.tuple #[.agg #[.int .i64 0, .int .i64 0], .bool false]) w := by kernel_rfl
@[go_sem] theorem ta_trig_unp (v : Value) (w : World) : (Instr.typeAssert (.iface 23 v) 42 79 true).run Try.prog w = .ok (.tuple #[.agg #[.int .i64 0, .int .i64 0], .bool false]) w := by kernel_rfl
@[go_sem] theorem ta_trig_unpd (v : Value) (w : World) : (Instr.typeAssert (.iface 23 v) 42 81 true).run Try.prog w = .ok (.tuple #[.agg #[.int .i64 0, .int .i64 0, .int .i64 0], .bool false]) w := by kernel_rfl
@[go_sem] theorem ta_pin_trig (v : Value) (w : World) : (Instr.typeAssert (.iface 70 v) 42 23 true).run Try.prog w = .ok (.tuple #[.agg #[.int .i64 0, .int .i64 0, .int .i64 0], .bool false]) w := by kernel_rfl
@[go_sem] theorem ta_pin_pin (v : Value) (w : World) : (Instr.typeAssert (.iface 70 v) 42 70 true).run Try.prog w = .ok (.tuple #[v, .bool true]) w := by kernel_rfl
@[go_sem] theorem ta_pin_pinned (v : Value) (w : World) : (Instr.typeAssert (.iface 70 v) 42 72 true).run Try.prog w = .ok (.tuple #[.agg #[.int .i64 0, .int .i64 0, .int .i64 0, .int .i64 0, .slice none 0 0, .bool false], .bool false]) w := by kernel_rfl
@[go_sem] theorem ta_pin_gone (v : Value) (w : World) : (Instr.typeAssert (.iface 70 v) 42 143 true).run Try.prog w = .ok (.tuple #[.agg #[.int .i64 0, .int .i64 0, .int .i64 0], .bool false]) w := by kernel_rfl
@[go_sem] theorem ta_pin_coll (v : Value) (w : World) : (Instr.typeAssert (.iface 70 v) 42 144 true).run Try.prog w = .ok (.tuple #[.agg #[.int .i64 0, .int .i64 0], .bool false]) w := by kernel_rfl
@[go_sem] theorem ta_pin_chunk (v : Value) (w : World) : (Instr.typeAssert (.iface 70 v) 42 146 true).run Try.prog w = .ok (.tuple #[.agg #[.int .i64 0, .int .i64 0, .int .i64 0, .int .i64 0, .int .i64 0, .slice none 0 0], .bool false]) w := by kernel_rfl
@[go_sem] theorem ta_pin_mani (v : Value) (w : World) : (Instr.typeAssert (.iface 70 v) 42 62 true).run Try.prog w = .ok (.tuple #[.agg #[.int .i64 0, .int .i64 0, .int .i64 0, .slice none 0 0], .bool false]) w := by kernel_rfl
@[go_sem] theorem ta_pin_stor (v : Value) (w : World) : (Instr.typeAssert (.iface 70 v) 42 78 true).run Try.prog w = .ok (.tuple #[.agg #[.int .i64 0, .int .i64 0], .bool false]) w := by kernel_rfl
@[go_sem] theorem ta_pin_unp (v : Value) (w : World) : (Instr.typeAssert (.iface 70 v) 42 79 true).run Try.prog w = .ok (.tuple #[.agg #[.int .i64 0, .int .i64 0], .bool false]) w := by kernel_rfl
@[go_sem] theorem ta_pin_unpd (v : Value) (w : World) : (Instr.typeAssert (.iface 70 v) 42 81 true).run Try.prog w = .ok (.tuple #[.agg #[.int .i64 0, .int .i64 0, .int .i64 0], .bool false]) w := by kernel_rfl
@[go_sem] theorem ta_pinned_trig (v : Value) (w : World) : (Instr.typeAssert (.iface 72 v) 42 23 true).run Try.prog w = .ok (.tuple #[.agg #[.int .i64 0, .int .i64 0, .int .i64 0], .bool false]) w := by kernel_rfl
@[go_sem] theorem ta_pinned_pin (v : Value) (w : World) : (Instr.typeAssert (.iface 72 v) 42 70 true).run Try.prog w = .ok (.tuple #[.agg #[.int .i64 0, .int .i64 0], .bool false]) w := by kernel_rfl
@[go_sem] theorem ta_pinned_pinned (v : Value) (w : World) : (Instr.typeAssert (.iface 72 v) 42 72 true).run Try.prog w = .ok (.tuple #[v, .bool true]) w := by kernel_rfl
@[go_sem] theorem ta_pinned_gone (v : Value) (w : World) : (Instr.typeAssert (.iface 72 v) 42 143 true).run Try.prog w = .ok (.tuple #[.agg #[.int .i64 0, .int .i64 0, .int .i64 0], .bool false]) w := by kernel_rfl
@[go_sem] theorem ta_pinned_coll (v : Value) (w : World) : (Instr.typeAssert (.iface 72 v) 42 144 true).run Try.prog w = .ok (.tuple #[.agg #[.int .i64 0, .int .i64 0], .bool false]) w := by kernel_rfl
@[go_sem] theorem ta_pinned_chunk (v : Value) (w : World) : (Instr.typeAssert (.iface 72 v) 42 146 true).run Try.prog w = .ok (.tuple #[.agg #[.int .i64 0, .int .i64 0, .int .i64 0, .int .i64 0, .int .i64 0, .slice none 0 0], .bool false]) w := by kernel_rfl
@[go_sem] theorem ta_pinned_mani (v : Value) (w : World) : (Instr.typeAssert (.iface 72 v) 42 62 true).run Try.prog w = .ok (.tuple #[.agg #[.int .i64 0, .int .i64 0, .int .i64 0, .slice none 0 0], .bool false]) w := by kernel_rfl
@[go_sem] theorem ta_pinned_stor (v : Value) (w : World) : (Instr.typeAssert (.iface 72 v) 42 78 true).run Try.prog w = .ok (.tuple #[.agg #[.int .i64 0, .int .i64 0], .bool false]) w := by kernel_rfl
@[go_sem] theorem ta_pinned_unp (v : Value) (w : World) : (Instr.typeAssert (.iface 72 v) 42 79 true).run Try.prog w = .ok (.tuple #[.agg #[.int .i64 0, .int .i64 0], .bool false]) w := by kernel_rfl
@[go_sem] theorem ta_pinned_unpd (v : Value) (w : World) : (Instr.typeAssert (.iface 72 v) 42 81 true).run Try.prog w = .ok (.tuple #[.agg #[.int .i64 0, .int .i64 0, .int .i64 0], .bool false]) w := by kernel_rfl
@[go_sem] theorem ta_gone_trig (v : Value) (w : World) : (Instr.typeAssert (.iface 143 v) 42 23 true).run Try.prog w = .ok (.tuple #[.agg #[.int .i64 0, .int .i64 0, .int .i64 0], .bool false]) w := by kernel_rfl
@[go_sem] theorem ta_gone_pin (v : Value) (w : World) : (Instr.typeAssert (.iface 143 v) 42 70 true).run Try.prog w = .ok (.tuple #[.agg #[.int .i64 0, .int .i64 0], .bool false]) w := by kernel_rfl
@[go_sem] theorem ta_gone_pinned (v : Value) (w : World) : (Instr.typeAssert (.iface 143 v) 42 72 true).run Try.prog w = .ok (.tuple #[.agg #[.int .i64 0, .int .i64 0, .int .i64 0, .int .i64 0, .slice none 0 0, .bool false], .bool false]) w := by kernel_rfl
@[go_sem] theorem ta_gone_gone (v : Value) (w : World) : (Instr.typeAssert (.iface 143 v) 42 143 true).run Try.prog w = .ok (.tuple #[v, .bool true]) w := by kernel_rfl
@[go_sem] theorem ta_gone_coll (v : Value) (w : World) : (Instr.typeAssert (.iface 143 v) 42 144 true).run Try.prog w = .ok (.tuple #[.agg #[.int .i64 0, .int .i64 0], .bool false]) w := by kernel_rfl
@[go_sem] theorem ta_gone_chunk (v : Value) (w : World) : (Instr.typeAssert (.iface 143 v) 42 146 true).run Try.prog w = .ok (.tuple #[.agg #[.int .i64 0, .int .i64 0, .int .i64 0, .int .i64 0, .int .i64 0, .slice none 0 0], .bool false]) w := by kernel_rfl
@[go_sem] theorem ta_gone_mani (v : Value) (w : World) : (Instr.typeAssert (.iface 143 v) 42 62 true).run Try.prog w = .ok (.tuple #[.agg #[.int .i64 0, .int .i64 0, .int .i64 0, .slice none 0 0], .bool false]) w := by kernel_rfl
@[go_sem] theorem ta_gone_stor (v : Value) (w : World) : (Instr.typeAssert (.iface 143 v) 42 78 true).run Try.prog w = .ok (.tuple #[.agg #[.int .i64 0, .int .i64 0], .bool false]) w := by kernel_rfl
@[go_sem] theorem ta_gone_unp (v : Value) (w : World) : (Instr.typeAssert (.iface 143 v) 42 79 true).run Try.prog w = .ok (.tuple #[.agg #[.int .i64 0, .int .i64 0], .bool false]) w := by kernel_rfl
@[go_sem] theorem ta_gone_unpd (v : Value) (w : World) : (Instr.typeAssert (.iface 143 v) 42 81 true).run Try.prog w = .ok (.tuple #[.agg #[.int .i64 0, .int .i64 0, .int .i64 0], .bool false]) w := by kernel_rfl
@[go_sem] theorem ta_coll_trig (v : Value) (w : World) : (Instr.typeAssert (.iface 144 v) 42 23 true).run Try.prog w = .ok (.tuple #[.agg #[.int .i64 0, .int .i64 0, .int .i64 0], .bool false]) w := by kernel_rfl
@[go_sem] theorem ta_coll_pin (v : Value) (w : World) : (Instr.typeAssert (.iface 144 v) 42 70 true).run Try.prog w = .ok (.tuple #[.agg #[.int .i64 0, .int .i64 0], .bool false]) w := by kernel_rfl
@[go_sem] theorem ta_coll_pinned (v : Value) (w : World) : (Instr.typeAssert (.iface 144 v) 42 72 true).run Try.prog w = .ok (.tuple #[.agg #[.int .i64 0, .int .i64 0, .int .i64 0, .int .i64 0, .slice none 0 0, .bool false], .bool false]) w := by kernel_rfl
@[go_sem] theorem ta_coll_gone (v : Value) (w : World) : (Instr.typeAssert (.iface 144 v) 42 143 true).run Try.prog w = .ok (.tuple #[.agg #[.int .i64 0, .int .i64 0, .int .i64 0], .bool false]) w := by kernel_rfl
@[go_sem] theorem ta_coll_coll (v : Value) (w : World) : (Instr.typeAssert (.iface 144 v) 42 144 true).run Try.prog w = .ok (.tuple #[v, .bool true]) w := by kernel_rfl
@[go_sem] theorem ta_coll_chunk (v : Value) (w : World) : (Instr.typeAssert (.iface 144 v) 42 146 true).run Try.prog w = .ok (.tuple #[.agg #[.int .i64 0, .int .i64 0, .int .i64 0, .int .i64 0, .int .i64 0, .slice none 0 0], .bool false]) w := by kernel_rfl
@[go_sem] theorem ta_coll_mani (v : Value) (w : World) : (Instr.typeAssert (.iface 144 v) 42 62 true).run Try.prog w = .ok (.tuple #[.agg #[.int .i64 0, .int .i64 0, .int .i64 0, .slice none 0 0], .bool false]) w := by kernel_rfl
@[go_sem] theorem ta_coll_stor (v : Value) (w : World) : (Instr.typeAssert (.iface 144 v) 42 78 true).run Try.prog w = .ok (.tuple #[.agg #[.int .i64 0, .int .i64 0], .bool false]) w := by kernel_rfl
@[go_sem] theorem ta_coll_unp (v : Value) (w : World) : (Instr.typeAssert (.iface 144 v) 42 79 true).run Try.prog w = .ok (.tuple #[.agg #[.int .i64 0, .int .i64 0], .bool false]) w := by kernel_rfl
@[go_sem] theorem ta_coll_unpd (v : Value) (w : World) : (Instr.typeAssert (.iface 144 v) 42 81 true).run Try.prog w = .ok (.tuple #[.agg #[.int .i64 0, .int .i64 0, .int .i64 0], .bool false]) w := by kernel_rfl
@[go_sem] theorem ta_chunk_trig (v : Value) (w : World) : (Instr.typeAssert (.iface 146 v) 42 23 true).run Try.prog w = .ok (.tuple #[.agg #[.int .i64 0, .int .i64 0, .int .i64 0], .bool false]) w := by kernel_rfl
@[go_sem] theorem ta_chunk_pin (v : Value) (w : World) : (Instr.typeAssert (.iface 146 v) 42 70 true).run Try.prog w = .ok (.tuple #[.agg #[.int .i64 0, .int .i64 0], .bool false]) w := by kernel_rfl
@[go_sem] theorem ta_chunk_pinned (v : Value) (w : World) : (Instr.typeAssert (.iface 146 v) 42 72 true).run Try.prog w = .ok (.tuple #[.agg #[.int .i64 0, .int .i64 0, .int .i64 0, .int .i64 0, .slice none 0 0, .bool false], .bool false]) w := by kernel_rfl
@[go_sem] theorem ta_chunk_gone (v : Value) (w : World) : (Instr.typeAssert (.iface 146 v) 42 143 true).run Try.prog w = .ok (.tuple #[.agg #[.int .i64 0, .int .i64 0, .int .i64 0], .bool false]) w := by kernel_rfl
@[go_sem] theorem ta_chunk_coll (v : Value) (w : World) : (Instr.typeAssert (.iface 146 v) 42 144 true).run Try.prog w = .ok (.tuple #[.agg #[.int .i64 0, .int .i64 0], .bool false]) w := by kernel_rfl
@[go_sem] theorem ta_chunk_chunk (v : Value) (w : World) : (Instr.typeAssert (.iface 146 v) 42 146 true).run Try.prog w = .ok (.tuple #[v, .bool true]) w := by kernel_rfl
@[go_sem] theorem ta_chunk_mani (v : Value) (w : World) : (Instr.typeAssert (.iface 146 v) 42 62 true).run Try.prog w = .ok (.tuple #[.agg #[.int .i64 0, .int .i64 0, .int .i64 0, .slice none 0 0], .bool false]) w := by kernel_rfl
@[go_sem] theorem ta_chunk_stor (v : Value) (w : World) : (Instr.typeAssert (.iface 146 v) 42 78 true).run Try.prog w = .ok (.tuple #[.agg #[.int .i64 0, .int .i64 0], .bool false]) w := by kernel_rfl
@[go_sem] theorem ta_chunk_unp (v : Value) (w : World) : (Instr.typeAssert (.iface 146 v) 42 79 true).run Try.prog w = .ok (.tuple #[.agg #[.int .i64 0, .int .i64 0], .bool false]) w := by kernel_rfl
@[go_sem] theorem ta_chunk_unpd (v : Value) (w : World) : (Instr.typeAssert (.iface 146 v) 42 81 true).run Try.prog w = .ok (.tuple #[.agg #[.int .i64 0, .int .i64 0, .int .i64 0], .bool false]) w := by kernel_rfl
@[go_sem] theorem ta_mani_trig (v : Value) (w : World) : (Instr.typeAssert (.iface 62 v) 42 23 true).run Try.prog w = .ok (.tuple #[.agg #[.int .i64 0, .int .i64 0, .int .i64 0], .bool false]) w := by kernel_rfl
@[go_sem] theorem ta_mani_pin (v : Value) (w : World) : (Instr.typeAssert (.iface 62 v) 42 70 true).run Try.prog w = .ok (.tuple #[.agg #[.int .i64 0, .int .i64 0], .bool false]) w := by kernel_rfl
@[go_sem] theorem ta_mani_pinned (v : Value) (w : World) : (Instr.typeAssert (.iface 62 v) 42 72 true).run Try.prog w = .ok (.tuple #[.agg #[.int .i64 0, .int .i64 0, .int .i64 0, .int .i64 0, .slice none 0 0, .bool false], .bool false]) w := by kernel_rfl
@[go_sem] theorem ta_mani_gone (v : Value) (w : World) : (Instr.typeAssert (.iface 62 v) 42 143 true).run Try.prog w = .ok (.tuple #[.agg #[.int .i64 0, .int .i64 0, .int .i64 0], .bool false]) w := by kernel_rfl
@[go_sem] theorem ta_mani_coll (v : Value) (w : World) : (Instr.typeAssert (.iface 62 v) 42 144 true).run Try.prog w = .ok (.tuple #[.agg #[.int .i64 0, .int .i64 0], .bool false]) w := by kernel_rfl
@[go_sem] theorem ta_mani_chunk (v : Value) (w : World) : (Instr.typeAssert (.iface 62 v) 42 146 true).run Try.prog w = .ok (.tuple #[.agg #[.int .i64 0, .int .i64 0, .int .i64 0, .int .i64 0, .int .i64 0, .slice none 0 0], .bool false]) w := by kernel_rfl
@[go_sem] theorem ta_mani_mani (v : Value) (w : World) : (Instr.typeAssert (.iface 62 v) 42 62 true).run Try.prog w = .ok (.tuple #[v, .bool true]) w := by kernel_rfl
@[go_sem] theorem ta_mani_stor (v : Value) (w : World) : (Instr.typeAssert (.iface 62 v) 42 78 true).run Try.prog w = .ok (.tuple #[.agg #[.int .i64 0, .int .i64 0], .bool false]) w := by kernel_rfl
@[go_sem] theorem ta_mani_unp (v : Value) (w : World) : (Instr.typeAssert (.iface 62 v) 42 79 true).run Try.prog w = .ok (.tuple #[.agg #[.int .i64 0, .int .i64 0], .bool false]) w := by kernel_rfl
@[go_sem] theorem ta_mani_unpd (v : Value) (w : World) : (Instr.typeAssert (.iface 62 v) 42 81 true).run Try.prog w = .ok (.tuple #[.agg #[.int .i64 0, .int .i64 0, .int .i64 0], .bool false]) w := by kernel_rfl
@[go_sem] theorem ta_stor_trig (v : Value) (w : World) : (Instr.typeAssert (.iface 78 v) 42 23 true).run Try.prog w = .ok (.tuple #[.agg #[.int .i64 0, .int .i64 0, .int .i64 0], .bool false]) w := by kernel_rfl
@[go_sem] theorem ta_stor_pin (v : Value) (w : World) : (Instr.typeAssert (.iface 78 v) 42 70 true).run Try.prog w = .ok (.tuple #[.agg #[.int .i64 0, .int .i64 0], .bool false]) w := by kernel_rfl
@[go_sem] theorem ta_stor_pinned (v : Value) (w : World) : (Instr.typeAssert (.iface 78 v) 42 72 true).run Try.prog w = .ok (.tuple #[.agg #[.int .i64 0, .int .i64 0, .int .i64 0, .int .i64 0, .slice none 0 0, .bool false], .bool false]) w := by kernel_rfl
@[go_sem] theorem ta_stor_gone (v : Value) (w : World) : (Instr.typeAssert (.iface 78 v) 42 143 true).run Try.prog w = .ok (.tuple #[.agg #[.int .i64 0, .int .i64 0, .int .i64 0], .bool false]) w := by kernel_rfl
@[go_sem] theorem ta_stor_coll (v : Value) (w : World) : (Instr.typeAssert (.iface 78 v) 42 144 true).run Try.prog w = .ok (.tuple #[.agg #[.int .i64 0, .int .i64 0], .bool false]) w := by kernel_rfl
@[go_sem] theorem ta_stor_chunk (v : Value) (w : World) : (Instr.typeAssert (.iface 78 v) 42 146 true).run Try.prog w = .ok (.tuple #[.agg #[.int .i64 0, .int .i64 0, .int .i64 0, .int .i64 0, .int .i64 0, .slice none 0 0], .bool false]) w := by kernel_rfl
@[go_sem] theorem ta_stor_mani (v : Value) (w : World) : (Instr.typeAssert (.iface 78 v) 42 62 true).run Try.prog w = .ok (.tuple #[.agg #[.int .i64 0, .int .i64 0, .int .i64 0, .slice none 0 0], .bool false]) w := by kernel_rfl
@[go_sem] theorem ta_stor_stor (v : Value) (w : World) : (Instr.typeAssert (.iface 78 v) 42 78 true).run Try.prog w = .ok (.tuple #[v, .bool true]) w := by kernel_rfl
@[go_sem] theorem ta_stor_unp (v : Value) (w : World) : (Instr.typeAssert (.iface 78 v) 42 79 true).run Try.prog w = .ok (.tuple #[.agg #[.int .i64 0, .int .i64 0], .bool false]) w := by kernel_rfl
@[go_sem] theorem ta_stor_unpd (v : Value) (w : World) : (Instr.typeAssert (.iface 78 v) 42 81 true).run Try.prog w = .ok (.tuple #[.agg #[.int .i64 0, .int .i64 0, .int .i64 0], .bool false]) w := by kernel_rfl
@[go_sem] theorem ta_unp_trig (v : Value) (w : World) : (Instr.typeAssert (.iface 79 v) 42 23 true).run Try.prog w = .ok (.tuple #[.agg #[.int .i64 0, .int .i64 0, .int .i64 0], .bool false]) w := by kernel_rfl
@[go_sem] theorem ta_unp_pin (v : Value) (w : World) : (Instr.typeAssert (.iface 79 v) 42 70 true).run Try.prog w = .ok (.tuple #[.agg #[.int .i64 0, .int .i64 0], .bool false]) w := by kernel_rfl
@[go_sem] theorem ta_unp_pinned (v : Value) (w : World) : (Instr.typeAssert (.iface 79 v) 42 72 true).run Try.prog w = .ok (.tuple #[.agg #[.int .i64 0, .int .i64 0, .int .i64 0, .int .i64 0, .slice none 0 0, .bool false], .bool false]) w := by kernel_rfl
@[go_sem] theorem ta_unp_gone (v : Value) (w : World) : (Instr.typeAssert (.iface 79 v) 42 143 true).run Try.prog w = .ok (.tuple #[.agg #[.int .i64 0, .int .i64 0, .int .i64 0], .bool false]) w := by kernel_rfl
@[go_sem] theorem ta_unp_coll (v : Value) (w : World) : (Instr.typeAssert (.iface 79 v) 42 144 true).run Try.prog w = .ok (.tuple #[.agg #[.int .i64 0, .int .i64 0], .bool false]) w := by kernel_rfl
@[go_sem] theorem ta_unp_chunk (v : Value) (w : World) : (Instr.typeAssert (.iface 79 v) 42 146 true).run Try.prog w = .ok (.tuple #[.agg #[.int .i64 0, .int .i64 0, .int .i64 0, .int .i64 0, .int .i64 0, .slice none 0 0], .bool false]) w := by kernel_rfl
@[go_sem] theorem ta_unp_mani (v : Value) (w : World) : (Instr.typeAssert (.iface 79 v) 42 62 true).run Try.prog w = .ok (.tuple #[.agg #[.int .i64 0, .int .i64 0, .int .i64 0, .slice none 0 0], .bool false]) w := by kernel_rfl
@[go_sem] theorem ta_unp_stor (v : Value) (w : World) : (Instr.typeAssert (.iface 79 v) 42 78 true).run Try.prog w = .ok (.tuple #[.agg #[.int .i64 0, .int .i64 0], .bool false]) w := by kernel_rfl
@[go_sem] theorem ta_unp_unp (v : Value) (w : World) : (Instr.typeAssert (.iface 79 v) 42 79 true).run Try.prog w = .ok (.tuple #[v, .bool true]) w := by kernel_rfl
@[go_sem] theorem ta_unp_unpd (v : Value) (w : World) : (Instr.typeAssert (.iface 79 v) 42 81 true).run Try.prog w = .ok (.tuple #[.agg #[.int .i64 0, .int .i64 0, .int .i64 0], .bool false]) w := by kernel_rfl
@[go_sem] theorem ta_unpd_trig (v : Value) (w : World) : (Instr.typeAssert (.iface 81 v) 42 23 true).run Try.prog w = .ok (.tuple #[.agg #[.int .i64 0, .int .i64 0, .int .i64 0], .bool false]) w := by kernel_rfl
@[go_sem] theorem ta_unpd_pin (v : Value) (w : World) : (Instr.typeAssert (.iface 81 v) 42 70 true).run Try.prog w = .ok (.tuple #[.agg #[.int .i64 0, .int .i64 0], .bool false]) w := by kernel_rfl
@[go_sem] theorem ta_unpd_pinned (v : Value) (w : World) : (Instr.typeAssert (.iface 81 v) 42 72 true).run Try.prog w = .ok (.tuple #[.agg #[.int .i64 0, .int .i64 0, .int .i64 0, .int .i64 0, .slice none 0 0, .bool false], .bool false]) w := by kernel_rfl
@[go_sem] theorem ta_unpd_gone (v : Value) (w : World) : (Instr.typeAssert (.iface 81 v) 42 143 true).run Try.prog w = .ok (.tuple #[.agg #[.int .i64 0, .int .i64 0, .int .i64 0], .bool false]) w := by kernel_rfl
@[go_sem] theorem ta_unpd_coll (v : Value) (w : World) : (Instr.typeAssert (.iface 81 v) 42 144 true).run Try.prog w = .ok (.tuple #[.agg #[.int .i64 0, .int .i64 0], .bool false]) w := by kernel_rfl
@[go_sem] theorem ta_unpd_chunk (v : Value) (w : World) : (Instr.typeAssert (.iface 81 v) 42 146 true).run Try.prog w = .ok (.tuple #[.agg #[.int .i64 0, .int .i64 0, .int .i64 0, .int .i64 0, .int .i64 0, .slice none 0 0], .bool false]) w := by kernel_rfl
@[go_sem] theorem ta_unpd_mani (v : Value) (w : World) : (Instr.typeAssert (.iface 81 v) 42 62 true).run Try.prog w = .ok (.tuple #[.agg #[.int .i64 0, .int .i64 0, .int .i64 0, .slice none 0 0], .bool false]) w := by kernel_rfl
@[go_sem] theorem ta_unpd_stor (v : Value) (w : World) : (Instr.typeAssert (.iface 81 v) 42 78 true).run Try.prog w = .ok (.tuple #[.agg #[.int .i64 0, .int .i64 0], .bool false]) w := by kernel_rfl
@[go_sem] theorem ta_unpd_unp (v : Value) (w : World) : (Instr.typeAssert (.iface 81 v) 42 79 true).run Try.prog w = .ok (.tuple #[.agg #[.int .i64 0, .int .i64 0], .bool false]) w := by kernel_rfl
@[go_sem] theorem ta_unpd_unpd (v : Value) (w : World) : (Instr.typeAssert (.iface 81 v) 42 81 true).run Try.prog w = .ok (.tuple #[v, .bool true]) w := by kernel_rfl
@[go_sem] theorem ta_none_trig (w : World) : (Instr.typeAssert .nilIface 42 23 true).run Try.prog w = .ok (.tuple #[.agg #[.int .i64 0, .int .i64 0, .int .i64 0], .bool false]) w := by kernel_rfl
@[go_sem] theorem ta_none_pin (w : World) : (Instr.typeAssert .nilIface 42 70 true).run Try.prog w = .ok (.tuple #[.agg #[.int .i64 0, .int .i64 0], .bool false]) w := by kernel_rfl
@[go_sem] theorem ta_none_pinned (w : World) : (Instr.typeAssert .nilIface 42 72 true).run Try.prog w = .ok (.tuple #[.agg #[.int .i64 0, .int .i64 0, .int .i64 0, .int .i64 0, .slice none 0 0, .bool false], .bool false]) w := by kernel_rfl
@[go_sem] theorem ta_none_gone (w : World) : (Instr.typeAssert .nilIface 42 143 true).run Try.prog w = .ok (.tuple #[.agg #[.int .i64 0, .int .i64 0, .int .i64 0], .bool false]) w := by kernel_rfl
@[go_sem] theorem ta_none_coll (w : World) : (Instr.typeAssert .nilIface 42 144 true).run Try.prog w = .ok (.tuple #[.agg #[.int .i64 0, .int .i64 0], .bool false]) w := by kernel_rfl
@[go_sem] theorem ta_none_chunk (w : World) : (Instr.typeAssert .nilIface 42 146 true).run Try.prog w = .ok (.tuple #[.agg #[.int .i64 0, .int .i64 0, .int .i64 0, .int .i64 0, .int .i64 0, .slice none 0 0], .bool false]) w := by kernel_rfl
@[go_sem] theorem ta_none_mani (w : World) : (Instr.typeAssert .nilIface 42 62 true).run Try.prog w = .ok (.tuple #[.agg #[.int .i64 0, .int .i64 0, .int .i64 0, .slice none 0 0], .bool false]) w := by kernel_rfl
@[go_sem] theorem ta_none_stor (w : World) : (Instr.typeAssert .nilIface 42 78 true).run Try.prog w = .ok (.tuple #[.agg #[.int .i64 0, .int .i64 0], .bool false]) w := by kernel_rfl
@[go_sem] theorem ta_none_unp (w : World) : (Instr.typeAssert .nilIface 42 79 true).run Try.prog w = .ok (.tuple #[.agg #[.int .i64 0, .int .i64 0], .bool false]) w := by kernel_rfl
@[go_sem] theorem ta_none_unpd (w : World) : (Instr.typeAssert .nilIface 42 81 true).run Try.prog w = .ok (.tuple #[.agg #[.int .i64 0, .int .i64 0, .int .i64 0], .bool false]) w := by kernel_rfl
end Go.Proofs.Ytniggacgkhkgiaa.Msg
/- What msg.Of and msg.Agent say of a message. No condition. -/
namespace Go.Proofs.Ytniggacgkhkgiaa.Msg
open Go.RowKit Go.Sp

theorem within_any (w : World) (n lo hi : Int) : Calls Try.prog 83 #[.int .i64 n, .int .i64 lo, .int .i64 hi] w fun e w' => e = .returned (.bool (wi n lo hi)) ∧ w = w' := by
  go_enter Try.func83, Try.ntmps83
  by_cases h : lo ≤ n
  · have h1 : decide (lo ≤ n) = true := decide_eq_true h
    go_wp2
    go_ret
    exact ⟨by simp [wi, h], by first | rfl | trivial⟩
  · have h1 : decide (lo ≤ n) = false := decide_eq_false h
    go_wp2
    go_ret
    exact ⟨by simp only [wi, h1, Bool.false_and]; rfl, by first | rfl | trivial⟩

theorem belowN {B : Nat} {x y : World} (h : Below B x y) (q : Nat) : Below B x (y.drewN q) := ⟨h.os, h.tape, h.output, h.size, h.block⟩

set_option maxRecDepth 100000 in
set_option maxHeartbeats 4000000 in
theorem of_any (w : World) (m : Mg) (h : InMem w m) : Calls Try.prog 72 #[val m] w fun e w' => e = .returned (.tuple #[.int .i64 (mT m), .int .i64 (mJ m), .bool (mOk m)]) ∧ Below w.heap.size w w' := by
  cases m with
  | none =>
    show Calls _ _ #[Value.nilIface] _ _
    go_enter Try.func72, Try.ntmps72
    go_wp2
    go_ret3
    exact ⟨rfl, Below.refl _ _⟩
  | trig a t c =>
    unfold val
    go_enter Try.func72, Try.ntmps72
    go_wp2
    go_ret3
    exact ⟨rfl, (Below.refl _ w).alloc (Nat.le_refl _) _⟩
  | pin t j =>
    clear h
    unfold val
    go_enter Try.func72, Try.ntmps72
    go_wp2
    go_quiet (fail)
    go_wp2
    go_ret3
    exact ⟨rfl, belowN ((Below.refl _ w).alloc (Nat.le_refl _) _) _⟩
  | gone a t j =>
    clear h
    unfold val
    go_enter Try.func72, Try.ntmps72
    go_wp2
    go_quiet (fail)
    go_wp2
    go_ret3
    exact ⟨rfl, belowN ((Below.refl _ w).alloc (Nat.le_refl _) _) _⟩
  | coll t j =>
    clear h
    unfold val
    go_enter Try.func72, Try.ntmps72
    go_wp2
    go_quiet (fail)
    go_wp2
    go_ret3
    exact ⟨rfl, belowN ((Below.refl _ w).alloc (Nat.le_refl _) _) _⟩
  | stor t j =>
    clear h
    unfold val
    go_enter Try.func72, Try.ntmps72
    go_wp2
    go_quiet (fail)
    go_wp2
    go_ret3
    exact ⟨rfl, belowN ((Below.refl _ w).alloc (Nat.le_refl _) _) _⟩
  | unp t j =>
    clear h
    unfold val
    go_enter Try.func72, Try.ntmps72
    go_wp2
    go_quiet (fail)
    go_wp2
    go_ret3
    exact ⟨rfl, belowN ((Below.refl _ w).alloc (Nat.le_refl _) _) _⟩
  | unpd a t j =>
    clear h
    unfold val
    go_enter Try.func72, Try.ntmps72
    go_wp2
    go_quiet (fail)
    go_wp2
    go_ret3
    exact ⟨rfl, belowN ((Below.refl _ w).alloc (Nat.le_refl _) _) _⟩
  | pinned p =>
    obtain ⟨a, t, j, n, cv, cl, l⟩ := p
    obtain ⟨_, a', c', hv, _⟩ := id h
    simp only at hv
    subst hv
    clear h
    unfold val
    go_enter Try.func72, Try.ntmps72
    go_wp2
    go_quiet (fail)
    go_wp2
    go_ret3
    exact ⟨rfl, belowN ((Below.refl _ w).alloc (Nat.le_refl _) _) _⟩
  | chunk a t j i n sv xs =>
    obtain ⟨_, a', c', rfl, _⟩ := id h
    clear h
    unfold val
    go_enter Try.func72, Try.ntmps72
    go_wp2
    go_quiet (fail)
    go_wp2
    go_ret3
    exact ⟨rfl, belowN ((Below.refl _ w).alloc (Nat.le_refl _) _) _⟩
  | mani t j c pv ps =>
    obtain ⟨_, a', c', rfl, _⟩ := id h.1
    clear h
    unfold val
    go_enter Try.func72, Try.ntmps72
    go_wp2
    go_quiet (fail)
    go_wp2
    go_ret3
    exact ⟨rfl, belowN ((Below.refl _ w).alloc (Nat.le_refl _) _) _⟩
end Go.Proofs.Ytniggacgkhkgiaa.Msg
/- What msg.Agent, msg.agents and span.Right say. Conditions: the message's slices lie in memory. -/
namespace Go.Proofs.Ytniggacgkhkgiaa.Msg
open Go.RowKit Go.Sp

@[go_sem] theorem as_trig (v : Value) (w : World) : (Instr.typeAssert (.iface 23 v) 42 181 true).run Try.prog w = .ok (.tuple #[.iface 23 v, .bool true]) w := run_typeAssert_hasB Try.underlying181 (by kernel_rfl) v _ w
@[go_sem] theorem as_pin (v : Value) (w : World) : (Instr.typeAssert (.iface 70 v) 42 181 true).run Try.prog w = .ok (.tuple #[.nilIface, .bool false]) w := run_typeAssert_lacksB Try.underlying181 (by kernel_rfl) (by kernel_rfl) v _ w
@[go_sem] theorem as_pinned (v : Value) (w : World) : (Instr.typeAssert (.iface 72 v) 42 181 true).run Try.prog w = .ok (.tuple #[.iface 72 v, .bool true]) w := run_typeAssert_hasB Try.underlying181 (by kernel_rfl) v _ w
@[go_sem] theorem as_gone (v : Value) (w : World) : (Instr.typeAssert (.iface 143 v) 42 181 true).run Try.prog w = .ok (.tuple #[.iface 143 v, .bool true]) w := run_typeAssert_hasB Try.underlying181 (by kernel_rfl) v _ w
@[go_sem] theorem as_coll (v : Value) (w : World) : (Instr.typeAssert (.iface 144 v) 42 181 true).run Try.prog w = .ok (.tuple #[.nilIface, .bool false]) w := run_typeAssert_lacksB Try.underlying181 (by kernel_rfl) (by kernel_rfl) v _ w
@[go_sem] theorem as_chunk (v : Value) (w : World) : (Instr.typeAssert (.iface 146 v) 42 181 true).run Try.prog w = .ok (.tuple #[.iface 146 v, .bool true]) w := run_typeAssert_hasB Try.underlying181 (by kernel_rfl) v _ w
@[go_sem] theorem as_mani (v : Value) (w : World) : (Instr.typeAssert (.iface 62 v) 42 181 true).run Try.prog w = .ok (.tuple #[.nilIface, .bool false]) w := run_typeAssert_lacksB Try.underlying181 (by kernel_rfl) (by kernel_rfl) v _ w
@[go_sem] theorem as_stor (v : Value) (w : World) : (Instr.typeAssert (.iface 78 v) 42 181 true).run Try.prog w = .ok (.tuple #[.nilIface, .bool false]) w := run_typeAssert_lacksB Try.underlying181 (by kernel_rfl) (by kernel_rfl) v _ w
@[go_sem] theorem as_unp (v : Value) (w : World) : (Instr.typeAssert (.iface 79 v) 42 181 true).run Try.prog w = .ok (.tuple #[.nilIface, .bool false]) w := run_typeAssert_lacksB Try.underlying181 (by kernel_rfl) (by kernel_rfl) v _ w
@[go_sem] theorem as_unpd (v : Value) (w : World) : (Instr.typeAssert (.iface 81 v) 42 181 true).run Try.prog w = .ok (.tuple #[.iface 81 v, .bool true]) w := run_typeAssert_hasB Try.underlying181 (by kernel_rfl) v _ w
@[go_sem] theorem as_none (w : World) : (Instr.typeAssert .nilIface 42 181 true).run Try.prog w = .ok (.tuple #[.nilIface, .bool false]) w := by kernel_rfl
@[go_sem] theorem me_trig (k : Nat) (v : Value) (w : World) : (method (k + 1) 23 v "spoor/msg.from").run Try.prog w = .ok (174, v) w := by kernel_rfl
@[go_sem] theorem me_pinned (k : Nat) (v : Value) (w : World) : (method (k + 1) 72 v "spoor/msg.from").run Try.prog w = .ok (178, v) w := by kernel_rfl
@[go_sem] theorem me_gone (k : Nat) (v : Value) (w : World) : (method (k + 1) 143 v "spoor/msg.from").run Try.prog w = .ok (184, v) w := by kernel_rfl
@[go_sem] theorem me_chunk (k : Nat) (v : Value) (w : World) : (method (k + 1) 146 v "spoor/msg.from").run Try.prog w = .ok (187, v) w := by kernel_rfl
@[go_sem] theorem me_unpd (k : Nat) (v : Value) (w : World) : (method (k + 1) 81 v "spoor/msg.from").run Try.prog w = .ok (182, v) w := by kernel_rfl

set_option maxRecDepth 100000 in
set_option maxHeartbeats 4000000 in
theorem agent_any (w : World) (m : Mg) (h : InMem w m) : Calls Try.prog 75 #[val m] w fun e w' => e = .returned (.tuple #[.int .i64 ((mA m).getD 0), .bool (mA m).isSome]) ∧ Below w.heap.size w w' := by
  cases m with
  | none =>
    have H := of_any w _ h
    clear h
    unfold val at H ⊢
    go_enter Try.func75, Try.ntmps75
    go_wp2_with fail
    refine H.mono ?_
    rintro e w1 ⟨rfl, hb⟩
    go_wp2
    go_ret2
    exact ⟨rfl, by first | exact hb | exact hb.alloc hb.size _⟩
  | trig a t c =>
    have H := of_any w _ h
    clear h
    unfold val at H ⊢
    go_enter Try.func75, Try.ntmps75
    go_wp2_with fail
    refine H.mono ?_
    rintro e w1 ⟨rfl, hb⟩
    go_wp2
    go_ret2
    exact ⟨rfl, by first | exact hb | exact hb.alloc hb.size _⟩
  | pin t j =>
    have H := of_any w _ h
    clear h
    unfold val at H ⊢
    go_enter Try.func75, Try.ntmps75
    go_wp2_with fail
    refine H.mono ?_
    rintro e w1 ⟨rfl, hb⟩
    go_wp2
    go_ret2
    exact ⟨rfl, by first | exact hb | exact hb.alloc hb.size _⟩
  | gone a t j =>
    have H := of_any w _ h
    clear h
    unfold val at H ⊢
    go_enter Try.func75, Try.ntmps75
    go_wp2_with fail
    refine H.mono ?_
    rintro e w1 ⟨rfl, hb⟩
    go_wp2
    go_ret2
    exact ⟨rfl, by first | exact hb | exact hb.alloc hb.size _⟩
  | coll t j =>
    have H := of_any w _ h
    clear h
    unfold val at H ⊢
    go_enter Try.func75, Try.ntmps75
    go_wp2_with fail
    refine H.mono ?_
    rintro e w1 ⟨rfl, hb⟩
    go_wp2
    go_ret2
    exact ⟨rfl, by first | exact hb | exact hb.alloc hb.size _⟩
  | stor t j =>
    have H := of_any w _ h
    clear h
    unfold val at H ⊢
    go_enter Try.func75, Try.ntmps75
    go_wp2_with fail
    refine H.mono ?_
    rintro e w1 ⟨rfl, hb⟩
    go_wp2
    go_ret2
    exact ⟨rfl, by first | exact hb | exact hb.alloc hb.size _⟩
  | unp t j =>
    have H := of_any w _ h
    clear h
    unfold val at H ⊢
    go_enter Try.func75, Try.ntmps75
    go_wp2_with fail
    refine H.mono ?_
    rintro e w1 ⟨rfl, hb⟩
    go_wp2
    go_ret2
    exact ⟨rfl, by first | exact hb | exact hb.alloc hb.size _⟩
  | unpd a t j =>
    have H := of_any w _ h
    clear h
    unfold val at H ⊢
    go_enter Try.func75, Try.ntmps75
    go_wp2_with fail
    refine H.mono ?_
    rintro e w1 ⟨rfl, hb⟩
    go_wp2
    go_ret2
    exact ⟨rfl, by first | exact hb | exact hb.alloc hb.size _⟩
  | pinned p =>
    obtain ⟨a, t, j, n, cv, cl, l⟩ := p
    obtain ⟨_, a', c', hv, _⟩ := id h
    simp only at hv
    subst hv
    have H := of_any w _ h
    clear h
    unfold val at H ⊢
    go_enter Try.func75, Try.ntmps75
    go_wp2_with fail
    refine H.mono ?_
    rintro e w1 ⟨rfl, hb⟩
    go_wp2
    go_ret2
    exact ⟨rfl, by first | exact hb | exact hb.alloc hb.size _⟩
  | chunk a t j i n sv xs =>
    obtain ⟨_, a', c', rfl, _⟩ := id h
    have H := of_any w _ h
    clear h
    unfold val at H ⊢
    go_enter Try.func75, Try.ntmps75
    go_wp2_with fail
    refine H.mono ?_
    rintro e w1 ⟨rfl, hb⟩
    go_wp2
    go_ret2
    exact ⟨rfl, by first | exact hb | exact hb.alloc hb.size _⟩
  | mani t j c pv ps =>
    obtain ⟨_, a', c', rfl, _⟩ := id h.1
    have H := of_any w _ h
    clear h
    unfold val at H ⊢
    go_enter Try.func75, Try.ntmps75
    go_wp2_with fail
    refine H.mono ?_
    rintro e w1 ⟨rfl, hb⟩
    go_wp2
    go_ret2
    exact ⟨rfl, by first | exact hb | exact hb.alloc hb.size _⟩
end Go.Proofs.Ytniggacgkhkgiaa.Msg
