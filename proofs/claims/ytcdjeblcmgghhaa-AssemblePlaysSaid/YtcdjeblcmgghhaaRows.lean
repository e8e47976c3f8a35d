/-
  No cell of these rows narrows 'for every input' (looked for: loops, veiled, ifaces, maps, wideKeys, modest, calm, conditions, laid).
  DERIVED. THE GIVEN ROWS OF THIS SEAT. 10 by the template 'for every input the law returns true; each argument reads behind the call as it read before'; 0 by the template 'total and deterministic' (their statements: YtcdjeblcmgghhaaTotals.lean).
  GIVEN WITH THE SEED: the statements are not yours to turn. If you find one false, say at which input.
  Laid BY PROGRAM, IN A SANDBOX (cutbox-rows.mjs): the forced cells as the released guide's own fill.sh prints them over the translation 325f11ad5abad692… (all of the seat's roots in one cut). By AI agents, Wed Nov 11 2026. No macro, syntax, notation, axiom, sorry.
-/
import Derived.Test.YtcdjeblcmgghhaaChecked
import GoSem.Claim
import GoSem.ClaimJoined
import GoSem.ClaimMapViews
import Derived.JoinedTies
import Derived.KernelRfl
namespace Go.Proofs.Ytcdjeblcmgghhaa
/- THE CELL 'sum', in the pinned program and in every row, IS THE sha256 OF THE DUMP (.gsa) THAT YtcdjeblcmgghhaaProg.lean LOADS. Nothing in Lean hashes anything: it is a label: what it is worth is what the hold of that sum in a sandbox is worth. -/
noncomputable def Try.pinned : Pinned := { name := "ytcdjeblcmgghhaa", sum := "325f11ad5abad69204a76ea1f71fc458ff6908224928bfbe06aa49fb7d16f566", checked := Try.checked }
namespace Rows
def none {H : Type} : Left H := { results := [], args := [] }

/-- 'spoorlaw17.AssemblePlays': WHATEVER THE INPUT: true; the input reads as it did. -/
def assemblePlaysSpec : ChangeSpec := { name := "assemblePlays", fn := fun _ => fun
  | [d1, d2, d3] => { results := [.lit (.bool true)], args := [d1, d2, d3] }
  | _ => none }
def assemblePlaysRow : OpenClaim := { program := "ytcdjeblcmgghhaa", sum := "325f11ad5abad69204a76ea1f71fc458ff6908224928bfbe06aa49fb7d16f566", func := "spoor/spoorlaw17.AssemblePlays", spec := "assemblePlays", unfollowed := true, recurses := true, apart := false }
def AssemblePlaysSaid : Prop := assemblePlaysRow.holds Try.pinned (OpenSpec.ofChange assemblePlaysSpec)

/-- ITS FALSE NEIGHBOUR: 'it returns false'. Refute it at one input. -/
def assemblePlaysWrong : ChangeSpec := { name := "assemblePlays", fn := fun _ => fun
  | [d1, d2, d3] => { results := [.lit (.bool false)], args := [d1, d2, d3] }
  | _ => none }
def AssemblePlaysWrongFalsely : Prop := assemblePlaysRow.holds Try.pinned (OpenSpec.ofChange assemblePlaysWrong)

/-- 'spoorlaw17.AssembleAny': WHATEVER THE INPUT: true; the input reads as it did. -/
def assembleAnySpec : ChangeSpec := { name := "assembleAny", fn := fun _ => fun
  | [d1, d2] => { results := [.lit (.bool true)], args := [d1, d2] }
  | _ => none }
def assembleAnyRow : OpenClaim := { program := "ytcdjeblcmgghhaa", sum := "325f11ad5abad69204a76ea1f71fc458ff6908224928bfbe06aa49fb7d16f566", func := "spoor/spoorlaw17.AssembleAny", spec := "assembleAny", unfollowed := true, recurses := true, apart := false }
def AssembleAnySaid : Prop := assembleAnyRow.holds Try.pinned (OpenSpec.ofChange assembleAnySpec)

/-- ITS FALSE NEIGHBOUR: 'it returns false'. Refute it at one input. -/
def assembleAnyWrong : ChangeSpec := { name := "assembleAny", fn := fun _ => fun
  | [d1, d2] => { results := [.lit (.bool false)], args := [d1, d2] }
  | _ => none }
def AssembleAnyWrongFalsely : Prop := assembleAnyRow.holds Try.pinned (OpenSpec.ofChange assembleAnyWrong)

/-- 'spoorlaw17.AssembleNil': WHATEVER THE INPUT: true; the input reads as it did. -/
def assembleNilSpec : ChangeSpec := { name := "assembleNil", fn := fun _ => fun
  | [d] => { results := [.lit (.bool true)], args := [d] }
  | _ => none }
def assembleNilRow : OpenClaim := { program := "ytcdjeblcmgghhaa", sum := "325f11ad5abad69204a76ea1f71fc458ff6908224928bfbe06aa49fb7d16f566", func := "spoor/spoorlaw17.AssembleNil", spec := "assembleNil", unfollowed := true, recurses := true, apart := false }
def AssembleNilSaid : Prop := assembleNilRow.holds Try.pinned (OpenSpec.ofChange assembleNilSpec)

/-- ITS FALSE NEIGHBOUR: 'it returns false'. Refute it at one input. -/
def assembleNilWrong : ChangeSpec := { name := "assembleNil", fn := fun _ => fun
  | [d] => { results := [.lit (.bool false)], args := [d] }
  | _ => none }
def AssembleNilWrongFalsely : Prop := assembleNilRow.holds Try.pinned (OpenSpec.ofChange assembleNilWrong)

/-- 'spoorlaw11.LeasePlays': WHATEVER THE INPUT: true; the input reads as it did. -/
def leasePlaysSpec : ChangeSpec := { name := "leasePlays", fn := fun _ => fun
  | [d1, d2] => { results := [.lit (.bool true)], args := [d1, d2] }
  | _ => none }
def leasePlaysRow : OpenClaim := { program := "ytcdjeblcmgghhaa", sum := "325f11ad5abad69204a76ea1f71fc458ff6908224928bfbe06aa49fb7d16f566", func := "spoor/spoorlaw11.LeasePlays", spec := "leasePlays", unfollowed := true, recurses := true, apart := false }
def LeasePlaysSaid : Prop := leasePlaysRow.holds Try.pinned (OpenSpec.ofChange leasePlaysSpec)

/-- ITS FALSE NEIGHBOUR: 'it returns false'. Refute it at one input. -/
def leasePlaysWrong : ChangeSpec := { name := "leasePlays", fn := fun _ => fun
  | [d1, d2] => { results := [.lit (.bool false)], args := [d1, d2] }
  | _ => none }
def LeasePlaysWrongFalsely : Prop := leasePlaysRow.holds Try.pinned (OpenSpec.ofChange leasePlaysWrong)

/-- 'spoorlaw11.LeaseTime': WHATEVER THE INPUT: true; the input reads as it did. -/
def leaseTimeSpec : ChangeSpec := { name := "leaseTime", fn := fun _ => fun
  | [d1, d2] => { results := [.lit (.bool true)], args := [d1, d2] }
  | _ => none }
def leaseTimeRow : OpenClaim := { program := "ytcdjeblcmgghhaa", sum := "325f11ad5abad69204a76ea1f71fc458ff6908224928bfbe06aa49fb7d16f566", func := "spoor/spoorlaw11.LeaseTime", spec := "leaseTime", unfollowed := true, recurses := true, apart := false }
def LeaseTimeSaid : Prop := leaseTimeRow.holds Try.pinned (OpenSpec.ofChange leaseTimeSpec)

/-- ITS FALSE NEIGHBOUR: 'it returns false'. Refute it at one input. -/
def leaseTimeWrong : ChangeSpec := { name := "leaseTime", fn := fun _ => fun
  | [d1, d2] => { results := [.lit (.bool false)], args := [d1, d2] }
  | _ => none }
def LeaseTimeWrongFalsely : Prop := leaseTimeRow.holds Try.pinned (OpenSpec.ofChange leaseTimeWrong)

/-- 'spoorlaw11.LeaseHeld': WHATEVER THE INPUT: true; the input reads as it did. -/
def leaseHeldSpec : ChangeSpec := { name := "leaseHeld", fn := fun _ => fun
  | [d1, d2] => { results := [.lit (.bool true)], args := [d1, d2] }
  | _ => none }
def leaseHeldRow : OpenClaim := { program := "ytcdjeblcmgghhaa", sum := "325f11ad5abad69204a76ea1f71fc458ff6908224928bfbe06aa49fb7d16f566", func := "spoor/spoorlaw11.LeaseHeld", spec := "leaseHeld", unfollowed := true, recurses := true, apart := false }
def LeaseHeldSaid : Prop := leaseHeldRow.holds Try.pinned (OpenSpec.ofChange leaseHeldSpec)

/-- ITS FALSE NEIGHBOUR: 'it returns false'. Refute it at one input. -/
def leaseHeldWrong : ChangeSpec := { name := "leaseHeld", fn := fun _ => fun
  | [d1, d2] => { results := [.lit (.bool false)], args := [d1, d2] }
  | _ => none }
def LeaseHeldWrongFalsely : Prop := leaseHeldRow.holds Try.pinned (OpenSpec.ofChange leaseHeldWrong)

/-- 'spoorlaw08.CrumbReach': WHATEVER THE INPUT: true; the input reads as it did. -/
def crumbReachSpec : ChangeSpec := { name := "crumbReach", fn := fun _ => fun
  | [d1, d2, d3, d4] => { results := [.lit (.bool true)], args := [d1, d2, d3, d4] }
  | _ => none }
def crumbReachRow : OpenClaim := { program := "ytcdjeblcmgghhaa", sum := "325f11ad5abad69204a76ea1f71fc458ff6908224928bfbe06aa49fb7d16f566", func := "spoor/spoorlaw08.CrumbReach", spec := "crumbReach", inPlace := ["slices.overlaps[int]"], unfollowed := true, recurses := true, apart := false }
def CrumbReachSaid : Prop := crumbReachRow.holds Try.pinned (OpenSpec.ofChange crumbReachSpec)

/-- ITS FALSE NEIGHBOUR: 'it returns false'. Refute it at one input. -/
def crumbReachWrong : ChangeSpec := { name := "crumbReach", fn := fun _ => fun
  | [d1, d2, d3, d4] => { results := [.lit (.bool false)], args := [d1, d2, d3, d4] }
  | _ => none }
def CrumbReachWrongFalsely : Prop := crumbReachRow.holds Try.pinned (OpenSpec.ofChange crumbReachWrong)

/-- 'spoorlaw08.CrumbPlays': WHATEVER THE INPUT: true; the input reads as it did. -/
def crumbPlaysSpec : ChangeSpec := { name := "crumbPlays", fn := fun _ => fun
  | [d1, d2] => { results := [.lit (.bool true)], args := [d1, d2] }
  | _ => none }
def crumbPlaysRow : OpenClaim := { program := "ytcdjeblcmgghhaa", sum := "325f11ad5abad69204a76ea1f71fc458ff6908224928bfbe06aa49fb7d16f566", func := "spoor/spoorlaw08.CrumbPlays", spec := "crumbPlays", inPlace := ["slices.overlaps[int]"], unfollowed := true, recurses := true, apart := false }
def CrumbPlaysSaid : Prop := crumbPlaysRow.holds Try.pinned (OpenSpec.ofChange crumbPlaysSpec)

/-- ITS FALSE NEIGHBOUR: 'it returns false'. Refute it at one input. -/
def crumbPlaysWrong : ChangeSpec := { name := "crumbPlays", fn := fun _ => fun
  | [d1, d2] => { results := [.lit (.bool false)], args := [d1, d2] }
  | _ => none }
def CrumbPlaysWrongFalsely : Prop := crumbPlaysRow.holds Try.pinned (OpenSpec.ofChange crumbPlaysWrong)

/-- 'spoorlaw08.CrumbNil': WHATEVER THE INPUT: true; the input reads as it did. -/
def crumbNilSpec : ChangeSpec := { name := "crumbNil", fn := fun _ => fun
  | [d1, d2] => { results := [.lit (.bool true)], args := [d1, d2] }
  | _ => none }
def crumbNilRow : OpenClaim := { program := "ytcdjeblcmgghhaa", sum := "325f11ad5abad69204a76ea1f71fc458ff6908224928bfbe06aa49fb7d16f566", func := "spoor/spoorlaw08.CrumbNil", spec := "crumbNil", inPlace := ["slices.overlaps[int]"], unfollowed := true, recurses := true, apart := false }
def CrumbNilSaid : Prop := crumbNilRow.holds Try.pinned (OpenSpec.ofChange crumbNilSpec)

/-- ITS FALSE NEIGHBOUR: 'it returns false'. Refute it at one input. -/
def crumbNilWrong : ChangeSpec := { name := "crumbNil", fn := fun _ => fun
  | [d1, d2] => { results := [.lit (.bool false)], args := [d1, d2] }
  | _ => none }
def CrumbNilWrongFalsely : Prop := crumbNilRow.holds Try.pinned (OpenSpec.ofChange crumbNilWrong)

/-- 'spoorlaw08.CrumbKeeps': WHATEVER THE INPUT: true; the input reads as it did. -/
def crumbKeepsSpec : ChangeSpec := { name := "crumbKeeps", fn := fun _ => fun
  | [d1, d2, d3] => { results := [.lit (.bool true)], args := [d1, d2, d3] }
  | _ => none }
def crumbKeepsRow : OpenClaim := { program := "ytcdjeblcmgghhaa", sum := "325f11ad5abad69204a76ea1f71fc458ff6908224928bfbe06aa49fb7d16f566", func := "spoor/spoorlaw08.CrumbKeeps", spec := "crumbKeeps", inPlace := ["slices.overlaps[int]"], unfollowed := true, recurses := true, apart := false }
def CrumbKeepsSaid : Prop := crumbKeepsRow.holds Try.pinned (OpenSpec.ofChange crumbKeepsSpec)

/-- ITS FALSE NEIGHBOUR: 'it returns false'. Refute it at one input. -/
def crumbKeepsWrong : ChangeSpec := { name := "crumbKeeps", fn := fun _ => fun
  | [d1, d2, d3] => { results := [.lit (.bool false)], args := [d1, d2, d3] }
  | _ => none }
def CrumbKeepsWrongFalsely : Prop := crumbKeepsRow.holds Try.pinned (OpenSpec.ofChange crumbKeepsWrong)

/- THE SECOND FORM. 'bulk': how many values and letters a reading holds, each counted each time it is reached (what is shared counts as often as it is met; a slice's spare places count too). A statement '..UptoSaid' is the law's where the arguments, and the package variables that the reading takes, are together of bulk at most 1048576: NARROWER than '..Said'. Prove '..Said' where nothing that the law and all that it calls make is longer than what came in: it says more and counts as full. Else prove '..UptoSaid'. A law counts once. -/
mutual
def uptoBulk {H : Type} : DataW H → Nat
  | .lit (.string bytes) => bytes.length + 1
  | .lit _ => 1
  | .nil => 1
  | .ptr d => uptoBulk d + 1
  | .slice elems spare => uptoBulkAll elems + uptoBulkAll spare + 1
  | .agg parts => uptoBulkAll parts + 1
  | .iface _ d => uptoBulk d + 1
  | .map entries => uptoBulkEntries entries + 1
  | .held _ => 1
def uptoBulkAll {H : Type} : List (DataW H) → Nat
  | [] => 0
  | d :: r => uptoBulk d + uptoBulkAll r
def uptoBulkEntries {H : Type} : List (Lit × DataW H) → Nat
  | [] => 0
  | x :: r => uptoBulkEntry x + uptoBulkEntries r
def uptoBulkEntry {H : Type} : Lit × DataW H → Nat
  | (.string bytes, d) => bytes.length + uptoBulk d + 1
  | (_, d) => uptoBulk d + 1
 end
def uptoSmall : (H : Type) → List (DataW H) → Bool := fun _ ds => decide (uptoBulkAll ds ≤ 1048576)
def OpenSpec.upto (s : _root_.Go.ChangeSpec) : _root_.Go.OpenSpec := { _root_.Go.OpenSpec.ofChange s with cond := some uptoSmall }

/-- 'spoorlaw17.AssemblePlays', WHERE WHAT IT READS IS OF BULK AT MOST 1048576: true; the input reads as it did. -/
def assemblePlaysUptoRow : OpenClaim := { program := "ytcdjeblcmgghhaa", sum := "325f11ad5abad69204a76ea1f71fc458ff6908224928bfbe06aa49fb7d16f566", func := "spoor/spoorlaw17.AssemblePlays", spec := "assemblePlays", unfollowed := true, recurses := true, apart := false, narrowed := true }
def AssemblePlaysUptoSaid : Prop := assemblePlaysUptoRow.holds Try.pinned (OpenSpec.upto assemblePlaysSpec)

/-- 'spoorlaw17.AssembleAny', WHERE WHAT IT READS IS OF BULK AT MOST 1048576: true; the input reads as it did. -/
def assembleAnyUptoRow : OpenClaim := { program := "ytcdjeblcmgghhaa", sum := "325f11ad5abad69204a76ea1f71fc458ff6908224928bfbe06aa49fb7d16f566", func := "spoor/spoorlaw17.AssembleAny", spec := "assembleAny", unfollowed := true, recurses := true, apart := false, narrowed := true }
def AssembleAnyUptoSaid : Prop := assembleAnyUptoRow.holds Try.pinned (OpenSpec.upto assembleAnySpec)

/-- 'spoorlaw17.AssembleNil', WHERE WHAT IT READS IS OF BULK AT MOST 1048576: true; the input reads as it did. -/
def assembleNilUptoRow : OpenClaim := { program := "ytcdjeblcmgghhaa", sum := "325f11ad5abad69204a76ea1f71fc458ff6908224928bfbe06aa49fb7d16f566", func := "spoor/spoorlaw17.AssembleNil", spec := "assembleNil", unfollowed := true, recurses := true, apart := false, narrowed := true }
def AssembleNilUptoSaid : Prop := assembleNilUptoRow.holds Try.pinned (OpenSpec.upto assembleNilSpec)

/-- 'spoorlaw11.LeasePlays', WHERE WHAT IT READS IS OF BULK AT MOST 1048576: true; the input reads as it did. -/
def leasePlaysUptoRow : OpenClaim := { program := "ytcdjeblcmgghhaa", sum := "325f11ad5abad69204a76ea1f71fc458ff6908224928bfbe06aa49fb7d16f566", func := "spoor/spoorlaw11.LeasePlays", spec := "leasePlays", unfollowed := true, recurses := true, apart := false, narrowed := true }
def LeasePlaysUptoSaid : Prop := leasePlaysUptoRow.holds Try.pinned (OpenSpec.upto leasePlaysSpec)

/-- 'spoorlaw11.LeaseTime', WHERE WHAT IT READS IS OF BULK AT MOST 1048576: true; the input reads as it did. -/
def leaseTimeUptoRow : OpenClaim := { program := "ytcdjeblcmgghhaa", sum := "325f11ad5abad69204a76ea1f71fc458ff6908224928bfbe06aa49fb7d16f566", func := "spoor/spoorlaw11.LeaseTime", spec := "leaseTime", unfollowed := true, recurses := true, apart := false, narrowed := true }
def LeaseTimeUptoSaid : Prop := leaseTimeUptoRow.holds Try.pinned (OpenSpec.upto leaseTimeSpec)

/-- 'spoorlaw11.LeaseHeld', WHERE WHAT IT READS IS OF BULK AT MOST 1048576: true; the input reads as it did. -/
def leaseHeldUptoRow : OpenClaim := { program := "ytcdjeblcmgghhaa", sum := "325f11ad5abad69204a76ea1f71fc458ff6908224928bfbe06aa49fb7d16f566", func := "spoor/spoorlaw11.LeaseHeld", spec := "leaseHeld", unfollowed := true, recurses := true, apart := false, narrowed := true }
def LeaseHeldUptoSaid : Prop := leaseHeldUptoRow.holds Try.pinned (OpenSpec.upto leaseHeldSpec)

/-- 'spoorlaw08.CrumbReach', WHERE WHAT IT READS IS OF BULK AT MOST 1048576: true; the input reads as it did. -/
def crumbReachUptoRow : OpenClaim := { program := "ytcdjeblcmgghhaa", sum := "325f11ad5abad69204a76ea1f71fc458ff6908224928bfbe06aa49fb7d16f566", func := "spoor/spoorlaw08.CrumbReach", spec := "crumbReach", inPlace := ["slices.overlaps[int]"], unfollowed := true, recurses := true, apart := false, narrowed := true }
def CrumbReachUptoSaid : Prop := crumbReachUptoRow.holds Try.pinned (OpenSpec.upto crumbReachSpec)

/-- 'spoorlaw08.CrumbPlays', WHERE WHAT IT READS IS OF BULK AT MOST 1048576: true; the input reads as it did. -/
def crumbPlaysUptoRow : OpenClaim := { program := "ytcdjeblcmgghhaa", sum := "325f11ad5abad69204a76ea1f71fc458ff6908224928bfbe06aa49fb7d16f566", func := "spoor/spoorlaw08.CrumbPlays", spec := "crumbPlays", inPlace := ["slices.overlaps[int]"], unfollowed := true, recurses := true, apart := false, narrowed := true }
def CrumbPlaysUptoSaid : Prop := crumbPlaysUptoRow.holds Try.pinned (OpenSpec.upto crumbPlaysSpec)

/-- 'spoorlaw08.CrumbNil', WHERE WHAT IT READS IS OF BULK AT MOST 1048576: true; the input reads as it did. -/
def crumbNilUptoRow : OpenClaim := { program := "ytcdjeblcmgghhaa", sum := "325f11ad5abad69204a76ea1f71fc458ff6908224928bfbe06aa49fb7d16f566", func := "spoor/spoorlaw08.CrumbNil", spec := "crumbNil", inPlace := ["slices.overlaps[int]"], unfollowed := true, recurses := true, apart := false, narrowed := true }
def CrumbNilUptoSaid : Prop := crumbNilUptoRow.holds Try.pinned (OpenSpec.upto crumbNilSpec)

/-- 'spoorlaw08.CrumbKeeps', WHERE WHAT IT READS IS OF BULK AT MOST 1048576: true; the input reads as it did. -/
def crumbKeepsUptoRow : OpenClaim := { program := "ytcdjeblcmgghhaa", sum := "325f11ad5abad69204a76ea1f71fc458ff6908224928bfbe06aa49fb7d16f566", func := "spoor/spoorlaw08.CrumbKeeps", spec := "crumbKeeps", inPlace := ["slices.overlaps[int]"], unfollowed := true, recurses := true, apart := false, narrowed := true }
def CrumbKeepsUptoSaid : Prop := crumbKeepsUptoRow.holds Try.pinned (OpenSpec.upto crumbKeepsSpec)

end Rows
end Go.Proofs.Ytcdjeblcmgghhaa
