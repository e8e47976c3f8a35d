/-
  No cell of these rows narrows 'for every input' (looked for: loops, veiled, ifaces, maps, wideKeys, modest, calm, conditions, laid).
  DERIVED. THE GIVEN ROWS OF THIS SEAT. 12 by the template 'for every input the law returns true; each argument reads behind the call as it read before'; 0 by the template 'total and deterministic' (their statements: YtniggacgkhkgiaaTotals.lean).
  GIVEN WITH THE SEED: the statements are not yours to turn. If you find one false, say at which input.
  Laid BY PROGRAM, IN A SANDBOX (cutbox-rows.mjs): the forced cells as the released guide's own fill.sh prints them over the translation 7e9f9329ecfadc72… (all of the seat's roots in one cut). By AI agents, Wed Nov 11 2026. No macro, syntax, notation, axiom, sorry.
-/
import Derived.Test.YtniggacgkhkgiaaChecked
import GoSem.Claim
import GoSem.ClaimJoined
import GoSem.ClaimMapViews
import Derived.JoinedTies
import Derived.KernelRfl
namespace Go.Proofs.Ytniggacgkhkgiaa
/- THE CELL 'sum', in the pinned program and in every row, IS THE sha256 OF THE DUMP (.gsa) THAT YtniggacgkhkgiaaProg.lean LOADS. Nothing in Lean hashes anything: it is a label: what it is worth is what the hold of that sum in a sandbox is worth. -/
noncomputable def Try.pinned : Pinned := { name := "ytniggacgkhkgiaa", sum := "7e9f9329ecfadc72abd59c4a7c87357a007cf930ac105bbbc45b2ffea2953648", checked := Try.checked }
namespace Rows
def none {H : Type} : Left H := { results := [], args := [] }

/-- 'spoorlaw13.JobPlays': WHATEVER THE INPUT: true; the input reads as it did. -/
def jobPlaysSpec : ChangeSpec := { name := "jobPlays", fn := fun _ => fun
  | [d1, d2, d3, d4] => { results := [.lit (.bool true)], args := [d1, d2, d3, d4] }
  | _ => none }
def jobPlaysRow : OpenClaim := { program := "ytniggacgkhkgiaa", sum := "7e9f9329ecfadc72abd59c4a7c87357a007cf930ac105bbbc45b2ffea2953648", func := "spoor/spoorlaw13.JobPlays", spec := "jobPlays", unfollowed := true, recurses := true, apart := false }
def JobPlaysSaid : Prop := jobPlaysRow.holds Try.pinned (OpenSpec.ofChange jobPlaysSpec)

/-- ITS FALSE NEIGHBOUR: 'it returns false'. Refute it at one input. -/
def jobPlaysWrong : ChangeSpec := { name := "jobPlays", fn := fun _ => fun
  | [d1, d2, d3, d4] => { results := [.lit (.bool false)], args := [d1, d2, d3, d4] }
  | _ => none }
def JobPlaysWrongFalsely : Prop := jobPlaysRow.holds Try.pinned (OpenSpec.ofChange jobPlaysWrong)

/-- 'spoorlaw13.JobReaches': WHATEVER THE INPUT: true; the input reads as it did. -/
def jobReachesSpec : ChangeSpec := { name := "jobReaches", fn := fun _ => fun
  | [d1, d2, d3] => { results := [.lit (.bool true)], args := [d1, d2, d3] }
  | _ => none }
def jobReachesRow : OpenClaim := { program := "ytniggacgkhkgiaa", sum := "7e9f9329ecfadc72abd59c4a7c87357a007cf930ac105bbbc45b2ffea2953648", func := "spoor/spoorlaw13.JobReaches", spec := "jobReaches", unfollowed := true, recurses := true, apart := false }
def JobReachesSaid : Prop := jobReachesRow.holds Try.pinned (OpenSpec.ofChange jobReachesSpec)

/-- ITS FALSE NEIGHBOUR: 'it returns false'. Refute it at one input. -/
def jobReachesWrong : ChangeSpec := { name := "jobReaches", fn := fun _ => fun
  | [d1, d2, d3] => { results := [.lit (.bool false)], args := [d1, d2, d3] }
  | _ => none }
def JobReachesWrongFalsely : Prop := jobReachesRow.holds Try.pinned (OpenSpec.ofChange jobReachesWrong)

/-- 'spoorlaw13.JobNil': WHATEVER THE INPUT: true; the input reads as it did. -/
def jobNilSpec : ChangeSpec := { name := "jobNil", fn := fun _ => fun
  | [d] => { results := [.lit (.bool true)], args := [d] }
  | _ => none }
def jobNilRow : OpenClaim := { program := "ytniggacgkhkgiaa", sum := "7e9f9329ecfadc72abd59c4a7c87357a007cf930ac105bbbc45b2ffea2953648", func := "spoor/spoorlaw13.JobNil", spec := "jobNil", unfollowed := true, recurses := true, apart := false }
def JobNilSaid : Prop := jobNilRow.holds Try.pinned (OpenSpec.ofChange jobNilSpec)

/-- ITS FALSE NEIGHBOUR: 'it returns false'. Refute it at one input. -/
def jobNilWrong : ChangeSpec := { name := "jobNil", fn := fun _ => fun
  | [d] => { results := [.lit (.bool false)], args := [d] }
  | _ => none }
def JobNilWrongFalsely : Prop := jobNilRow.holds Try.pinned (OpenSpec.ofChange jobNilWrong)

/-- 'spoorlaw13.JobEnds': WHATEVER THE INPUT: true; the input reads as it did. -/
def jobEndsSpec : ChangeSpec := { name := "jobEnds", fn := fun _ => fun
  | [d1, d2, d3] => { results := [.lit (.bool true)], args := [d1, d2, d3] }
  | _ => none }
def jobEndsRow : OpenClaim := { program := "ytniggacgkhkgiaa", sum := "7e9f9329ecfadc72abd59c4a7c87357a007cf930ac105bbbc45b2ffea2953648", func := "spoor/spoorlaw13.JobEnds", spec := "jobEnds", unfollowed := true, recurses := true, apart := false }
def JobEndsSaid : Prop := jobEndsRow.holds Try.pinned (OpenSpec.ofChange jobEndsSpec)

/-- ITS FALSE NEIGHBOUR: 'it returns false'. Refute it at one input. -/
def jobEndsWrong : ChangeSpec := { name := "jobEnds", fn := fun _ => fun
  | [d1, d2, d3] => { results := [.lit (.bool false)], args := [d1, d2, d3] }
  | _ => none }
def JobEndsWrongFalsely : Prop := jobEndsRow.holds Try.pinned (OpenSpec.ofChange jobEndsWrong)

/-- 'spoorlaw13.JobTwice': WHATEVER THE INPUT: true; the input reads as it did. -/
def jobTwiceSpec : ChangeSpec := { name := "jobTwice", fn := fun _ => fun
  | [d1, d2, d3, d4] => { results := [.lit (.bool true)], args := [d1, d2, d3, d4] }
  | _ => none }
def jobTwiceRow : OpenClaim := { program := "ytniggacgkhkgiaa", sum := "7e9f9329ecfadc72abd59c4a7c87357a007cf930ac105bbbc45b2ffea2953648", func := "spoor/spoorlaw13.JobTwice", spec := "jobTwice", unfollowed := true, recurses := true, apart := false }
def JobTwiceSaid : Prop := jobTwiceRow.holds Try.pinned (OpenSpec.ofChange jobTwiceSpec)

/-- ITS FALSE NEIGHBOUR: 'it returns false'. Refute it at one input. -/
def jobTwiceWrong : ChangeSpec := { name := "jobTwice", fn := fun _ => fun
  | [d1, d2, d3, d4] => { results := [.lit (.bool false)], args := [d1, d2, d3, d4] }
  | _ => none }
def JobTwiceWrongFalsely : Prop := jobTwiceRow.holds Try.pinned (OpenSpec.ofChange jobTwiceWrong)

/-- 'spoorlaw07.EvictFull': WHATEVER THE INPUT: true; the input reads as it did. -/
def evictFullSpec : ChangeSpec := { name := "evictFull", fn := fun _ => fun
  | [d1, d2, d3] => { results := [.lit (.bool true)], args := [d1, d2, d3] }
  | _ => none }
def evictFullRow : OpenClaim := { program := "ytniggacgkhkgiaa", sum := "7e9f9329ecfadc72abd59c4a7c87357a007cf930ac105bbbc45b2ffea2953648", func := "spoor/spoorlaw07.EvictFull", spec := "evictFull", unfollowed := true, recurses := true, apart := false }
def EvictFullSaid : Prop := evictFullRow.holds Try.pinned (OpenSpec.ofChange evictFullSpec)

/-- ITS FALSE NEIGHBOUR: 'it returns false'. Refute it at one input. -/
def evictFullWrong : ChangeSpec := { name := "evictFull", fn := fun _ => fun
  | [d1, d2, d3] => { results := [.lit (.bool false)], args := [d1, d2, d3] }
  | _ => none }
def EvictFullWrongFalsely : Prop := evictFullRow.holds Try.pinned (OpenSpec.ofChange evictFullWrong)

/-- 'spoorlaw07.EvictPlays': WHATEVER THE INPUT: true; the input reads as it did. -/
def evictPlaysSpec : ChangeSpec := { name := "evictPlays", fn := fun _ => fun
  | [d1, d2, d3] => { results := [.lit (.bool true)], args := [d1, d2, d3] }
  | _ => none }
def evictPlaysRow : OpenClaim := { program := "ytniggacgkhkgiaa", sum := "7e9f9329ecfadc72abd59c4a7c87357a007cf930ac105bbbc45b2ffea2953648", func := "spoor/spoorlaw07.EvictPlays", spec := "evictPlays", unfollowed := true, recurses := true, apart := false }
def EvictPlaysSaid : Prop := evictPlaysRow.holds Try.pinned (OpenSpec.ofChange evictPlaysSpec)

/-- ITS FALSE NEIGHBOUR: 'it returns false'. Refute it at one input. -/
def evictPlaysWrong : ChangeSpec := { name := "evictPlays", fn := fun _ => fun
  | [d1, d2, d3] => { results := [.lit (.bool false)], args := [d1, d2, d3] }
  | _ => none }
def EvictPlaysWrongFalsely : Prop := evictPlaysRow.holds Try.pinned (OpenSpec.ofChange evictPlaysWrong)

/-- 'spoorlaw07.EvictCoherent': WHATEVER THE INPUT: true; the input reads as it did. -/
def evictCoherentSpec : ChangeSpec := { name := "evictCoherent", fn := fun _ => fun
  | [d1, d2, d3] => { results := [.lit (.bool true)], args := [d1, d2, d3] }
  | _ => none }
def evictCoherentRow : OpenClaim := { program := "ytniggacgkhkgiaa", sum := "7e9f9329ecfadc72abd59c4a7c87357a007cf930ac105bbbc45b2ffea2953648", func := "spoor/spoorlaw07.EvictCoherent", spec := "evictCoherent", unfollowed := true, recurses := true, apart := false }
def EvictCoherentSaid : Prop := evictCoherentRow.holds Try.pinned (OpenSpec.ofChange evictCoherentSpec)

/-- ITS FALSE NEIGHBOUR: 'it returns false'. Refute it at one input. -/
def evictCoherentWrong : ChangeSpec := { name := "evictCoherent", fn := fun _ => fun
  | [d1, d2, d3] => { results := [.lit (.bool false)], args := [d1, d2, d3] }
  | _ => none }
def EvictCoherentWrongFalsely : Prop := evictCoherentRow.holds Try.pinned (OpenSpec.ofChange evictCoherentWrong)

/-- 'spoorlaw07.EvictAll': WHATEVER THE INPUT: true; the input reads as it did. -/
def evictAllSpec : ChangeSpec := { name := "evictAll", fn := fun _ => fun
  | [d1, d2, d3] => { results := [.lit (.bool true)], args := [d1, d2, d3] }
  | _ => none }
def evictAllRow : OpenClaim := { program := "ytniggacgkhkgiaa", sum := "7e9f9329ecfadc72abd59c4a7c87357a007cf930ac105bbbc45b2ffea2953648", func := "spoor/spoorlaw07.EvictAll", spec := "evictAll", unfollowed := true, recurses := true, apart := false }
def EvictAllSaid : Prop := evictAllRow.holds Try.pinned (OpenSpec.ofChange evictAllSpec)

/-- ITS FALSE NEIGHBOUR: 'it returns false'. Refute it at one input. -/
def evictAllWrong : ChangeSpec := { name := "evictAll", fn := fun _ => fun
  | [d1, d2, d3] => { results := [.lit (.bool false)], args := [d1, d2, d3] }
  | _ => none }
def EvictAllWrongFalsely : Prop := evictAllRow.holds Try.pinned (OpenSpec.ofChange evictAllWrong)

/-- 'spoorlaw07.EvictNil': WHATEVER THE INPUT: true; the input reads as it did. -/
def evictNilSpec : ChangeSpec := { name := "evictNil", fn := fun _ => fun
  | [d] => { results := [.lit (.bool true)], args := [d] }
  | _ => none }
def evictNilRow : OpenClaim := { program := "ytniggacgkhkgiaa", sum := "7e9f9329ecfadc72abd59c4a7c87357a007cf930ac105bbbc45b2ffea2953648", func := "spoor/spoorlaw07.EvictNil", spec := "evictNil", unfollowed := true, recurses := true, apart := false }
def EvictNilSaid : Prop := evictNilRow.holds Try.pinned (OpenSpec.ofChange evictNilSpec)

/-- ITS FALSE NEIGHBOUR: 'it returns false'. Refute it at one input. -/
def evictNilWrong : ChangeSpec := { name := "evictNil", fn := fun _ => fun
  | [d] => { results := [.lit (.bool false)], args := [d] }
  | _ => none }
def EvictNilWrongFalsely : Prop := evictNilRow.holds Try.pinned (OpenSpec.ofChange evictNilWrong)

/-- 'spoorlaw14.CoordPlays': WHATEVER THE INPUT: true; the input reads as it did. -/
def coordPlaysSpec : ChangeSpec := { name := "coordPlays", fn := fun _ => fun
  | [d1, d2, d3] => { results := [.lit (.bool true)], args := [d1, d2, d3] }
  | _ => none }
def coordPlaysRow : OpenClaim := { program := "ytniggacgkhkgiaa", sum := "7e9f9329ecfadc72abd59c4a7c87357a007cf930ac105bbbc45b2ffea2953648", func := "spoor/spoorlaw14.CoordPlays", spec := "coordPlays", unfollowed := true, recurses := true, apart := false }
def CoordPlaysSaid : Prop := coordPlaysRow.holds Try.pinned (OpenSpec.ofChange coordPlaysSpec)

/-- ITS FALSE NEIGHBOUR: 'it returns false'. Refute it at one input. -/
def coordPlaysWrong : ChangeSpec := { name := "coordPlays", fn := fun _ => fun
  | [d1, d2, d3] => { results := [.lit (.bool false)], args := [d1, d2, d3] }
  | _ => none }
def CoordPlaysWrongFalsely : Prop := coordPlaysRow.holds Try.pinned (OpenSpec.ofChange coordPlaysWrong)

/-- 'spoorlaw14.CoordOne': WHATEVER THE INPUT: true; the input reads as it did. -/
def coordOneSpec : ChangeSpec := { name := "coordOne", fn := fun _ => fun
  | [d1, d2] => { results := [.lit (.bool true)], args := [d1, d2] }
  | _ => none }
def coordOneRow : OpenClaim := { program := "ytniggacgkhkgiaa", sum := "7e9f9329ecfadc72abd59c4a7c87357a007cf930ac105bbbc45b2ffea2953648", func := "spoor/spoorlaw14.CoordOne", spec := "coordOne", unfollowed := true, recurses := true, apart := false }
def CoordOneSaid : Prop := coordOneRow.holds Try.pinned (OpenSpec.ofChange coordOneSpec)

/-- ITS FALSE NEIGHBOUR: 'it returns false'. Refute it at one input. -/
def coordOneWrong : ChangeSpec := { name := "coordOne", fn := fun _ => fun
  | [d1, d2] => { results := [.lit (.bool false)], args := [d1, d2] }
  | _ => none }
def CoordOneWrongFalsely : Prop := coordOneRow.holds Try.pinned (OpenSpec.ofChange coordOneWrong)

/- THE SECOND FORM. 'bulk': how many values and letters a reading holds, each counted each time it is reached (what is shared counts as often as it is met; a slice's spare places count too). A statement '..UptoSaid' is the law's where the arguments, and the package variables that the reading takes, are together of bulk at most 1048576: NARROWER than '..Said'. Prove '..Said' where nothing that the law and all that it calls make is longer than what came in: it says more and counts as full. Else prove '..UptoSaid'. A law counts once. -/
mutual
def uptoBulk {H : Type} : DataW H → Nat
  | .lit (.string bytes) => bytes.length + 1
  | .lit _ => 1
  | .nil => 1
  | .ptr d => uptoBulk d + 1
  | .slice elems spare => uptoBulkAll elems + uptoBulkAll spare + 1
  | .agg parts => uptoBulkAll parts + 1
  | .iface _ d => uptoBulk d + 1
  | .map entries => uptoBulkEntries entries + 1
  | .held _ => 1
def uptoBulkAll {H : Type} : List (DataW H) → Nat
  | [] => 0
  | d :: r => uptoBulk d + uptoBulkAll r
def uptoBulkEntries {H : Type} : List (Lit × DataW H) → Nat
  | [] => 0
  | x :: r => uptoBulkEntry x + uptoBulkEntries r
def uptoBulkEntry {H : Type} : Lit × DataW H → Nat
  | (.string bytes, d) => bytes.length + uptoBulk d + 1
  | (_, d) => uptoBulk d + 1
 end
def uptoSmall : (H : Type) → List (DataW H) → Bool := fun _ ds => decide (uptoBulkAll ds ≤ 1048576)
def OpenSpec.upto (s : _root_.Go.ChangeSpec) : _root_.Go.OpenSpec := { _root_.Go.OpenSpec.ofChange s with cond := some uptoSmall }

/-- 'spoorlaw13.JobPlays', WHERE WHAT IT READS IS OF BULK AT MOST 1048576: true; the input reads as it did. -/
def jobPlaysUptoRow : OpenClaim := { program := "ytniggacgkhkgiaa", sum := "7e9f9329ecfadc72abd59c4a7c87357a007cf930ac105bbbc45b2ffea2953648", func := "spoor/spoorlaw13.JobPlays", spec := "jobPlays", unfollowed := true, recurses := true, apart := false, narrowed := true }
def JobPlaysUptoSaid : Prop := jobPlaysUptoRow.holds Try.pinned (OpenSpec.upto jobPlaysSpec)

/-- 'spoorlaw13.JobReaches', WHERE WHAT IT READS IS OF BULK AT MOST 1048576: true; the input reads as it did. -/
def jobReachesUptoRow : OpenClaim := { program := "ytniggacgkhkgiaa", sum := "7e9f9329ecfadc72abd59c4a7c87357a007cf930ac105bbbc45b2ffea2953648", func := "spoor/spoorlaw13.JobReaches", spec := "jobReaches", unfollowed := true, recurses := true, apart := false, narrowed := true }
def JobReachesUptoSaid : Prop := jobReachesUptoRow.holds Try.pinned (OpenSpec.upto jobReachesSpec)

/-- 'spoorlaw13.JobNil', WHERE WHAT IT READS IS OF BULK AT MOST 1048576: true; the input reads as it did. -/
def jobNilUptoRow : OpenClaim := { program := "ytniggacgkhkgiaa", sum := "7e9f9329ecfadc72abd59c4a7c87357a007cf930ac105bbbc45b2ffea2953648", func := "spoor/spoorlaw13.JobNil", spec := "jobNil", unfollowed := true, recurses := true, apart := false, narrowed := true }
def JobNilUptoSaid : Prop := jobNilUptoRow.holds Try.pinned (OpenSpec.upto jobNilSpec)

/-- 'spoorlaw13.JobEnds', WHERE WHAT IT READS IS OF BULK AT MOST 1048576: true; the input reads as it did. -/
def jobEndsUptoRow : OpenClaim := { program := "ytniggacgkhkgiaa", sum := "7e9f9329ecfadc72abd59c4a7c87357a007cf930ac105bbbc45b2ffea2953648", func := "spoor/spoorlaw13.JobEnds", spec := "jobEnds", unfollowed := true, recurses := true, apart := false, narrowed := true }
def JobEndsUptoSaid : Prop := jobEndsUptoRow.holds Try.pinned (OpenSpec.upto jobEndsSpec)

/-- 'spoorlaw13.JobTwice', WHERE WHAT IT READS IS OF BULK AT MOST 1048576: true; the input reads as it did. -/
def jobTwiceUptoRow : OpenClaim := { program := "ytniggacgkhkgiaa", sum := "7e9f9329ecfadc72abd59c4a7c87357a007cf930ac105bbbc45b2ffea2953648", func := "spoor/spoorlaw13.JobTwice", spec := "jobTwice", unfollowed := true, recurses := true, apart := false, narrowed := true }
def JobTwiceUptoSaid : Prop := jobTwiceUptoRow.holds Try.pinned (OpenSpec.upto jobTwiceSpec)

/-- 'spoorlaw07.EvictFull', WHERE WHAT IT READS IS OF BULK AT MOST 1048576: true; the input reads as it did. -/
def evictFullUptoRow : OpenClaim := { program := "ytniggacgkhkgiaa", sum := "7e9f9329ecfadc72abd59c4a7c87357a007cf930ac105bbbc45b2ffea2953648", func := "spoor/spoorlaw07.EvictFull", spec := "evictFull", unfollowed := true, recurses := true, apart := false, narrowed := true }
def EvictFullUptoSaid : Prop := evictFullUptoRow.holds Try.pinned (OpenSpec.upto evictFullSpec)

/-- 'spoorlaw07.EvictPlays', WHERE WHAT IT READS IS OF BULK AT MOST 1048576: true; the input reads as it did. -/
def evictPlaysUptoRow : OpenClaim := { program := "ytniggacgkhkgiaa", sum := "7e9f9329ecfadc72abd59c4a7c87357a007cf930ac105bbbc45b2ffea2953648", func := "spoor/spoorlaw07.EvictPlays", spec := "evictPlays", unfollowed := true, recurses := true, apart := false, narrowed := true }
def EvictPlaysUptoSaid : Prop := evictPlaysUptoRow.holds Try.pinned (OpenSpec.upto evictPlaysSpec)

/-- 'spoorlaw07.EvictCoherent', WHERE WHAT IT READS IS OF BULK AT MOST 1048576: true; the input reads as it did. -/
def evictCoherentUptoRow : OpenClaim := { program := "ytniggacgkhkgiaa", sum := "7e9f9329ecfadc72abd59c4a7c87357a007cf930ac105bbbc45b2ffea2953648", func := "spoor/spoorlaw07.EvictCoherent", spec := "evictCoherent", unfollowed := true, recurses := true, apart := false, narrowed := true }
def EvictCoherentUptoSaid : Prop := evictCoherentUptoRow.holds Try.pinned (OpenSpec.upto evictCoherentSpec)

/-- 'spoorlaw07.EvictAll', WHERE WHAT IT READS IS OF BULK AT MOST 1048576: true; the input reads as it did. -/
def evictAllUptoRow : OpenClaim := { program := "ytniggacgkhkgiaa", sum := "7e9f9329ecfadc72abd59c4a7c87357a007cf930ac105bbbc45b2ffea2953648", func := "spoor/spoorlaw07.EvictAll", spec := "evictAll", unfollowed := true, recurses := true, apart := false, narrowed := true }
def EvictAllUptoSaid : Prop := evictAllUptoRow.holds Try.pinned (OpenSpec.upto evictAllSpec)

/-- 'spoorlaw07.EvictNil', WHERE WHAT IT READS IS OF BULK AT MOST 1048576: true; the input reads as it did. -/
def evictNilUptoRow : OpenClaim := { program := "ytniggacgkhkgiaa", sum := "7e9f9329ecfadc72abd59c4a7c87357a007cf930ac105bbbc45b2ffea2953648", func := "spoor/spoorlaw07.EvictNil", spec := "evictNil", unfollowed := true, recurses := true, apart := false, narrowed := true }
def EvictNilUptoSaid : Prop := evictNilUptoRow.holds Try.pinned (OpenSpec.upto evictNilSpec)

/-- 'spoorlaw14.CoordPlays', WHERE WHAT IT READS IS OF BULK AT MOST 1048576: true; the input reads as it did. -/
def coordPlaysUptoRow : OpenClaim := { program := "ytniggacgkhkgiaa", sum := "7e9f9329ecfadc72abd59c4a7c87357a007cf930ac105bbbc45b2ffea2953648", func := "spoor/spoorlaw14.CoordPlays", spec := "coordPlays", unfollowed := true, recurses := true, apart := false, narrowed := true }
def CoordPlaysUptoSaid : Prop := coordPlaysUptoRow.holds Try.pinned (OpenSpec.upto coordPlaysSpec)

/-- 'spoorlaw14.CoordOne', WHERE WHAT IT READS IS OF BULK AT MOST 1048576: true; the input reads as it did. -/
def coordOneUptoRow : OpenClaim := { program := "ytniggacgkhkgiaa", sum := "7e9f9329ecfadc72abd59c4a7c87357a007cf930ac105bbbc45b2ffea2953648", func := "spoor/spoorlaw14.CoordOne", spec := "coordOne", unfollowed := true, recurses := true, apart := false, narrowed := true }
def CoordOneUptoSaid : Prop := coordOneUptoRow.holds Try.pinned (OpenSpec.upto coordOneSpec)

end Rows
end Go.Proofs.Ytniggacgkhkgiaa
