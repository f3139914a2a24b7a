/-
  No cell of these rows narrows 'for every input' (looked for: loops, veiled, ifaces, maps, wideKeys, modest, calm, conditions, laid).
  DERIVED. THE GIVEN ROWS OF THIS SEAT. 9 by the template 'for every input the law returns true; each argument reads behind the call as it read before'; 0 by the template 'total and deterministic' (their statements: YtabkdmcmfecokaaTotals.lean).
  GIVEN WITH THE SEED: the statements are not yours to turn. If you find one false, say at which input.
  Laid BY PROGRAM, IN A SANDBOX (cutbox-rows.mjs): the forced cells as the released guide's own fill.sh prints them over the translation e96be0988aa558be… (all of the seat's roots in one cut). By AI agents, Wed Nov 11 2026. No macro, syntax, notation, axiom, sorry.
-/
import Derived.Test.YtabkdmcmfecokaaChecked
import GoSem.Claim
import GoSem.ClaimJoined
import GoSem.ClaimMapViews
import Derived.JoinedTies
import Derived.KernelRfl
namespace Go.Proofs.Ytabkdmcmfecokaa
/- THE CELL 'sum', in the pinned program and in every row, IS THE sha256 OF THE DUMP (.gsa) THAT YtabkdmcmfecokaaProg.lean LOADS. Nothing in Lean hashes anything: it is a label: what it is worth is what the hold of that sum in a sandbox is worth. -/
noncomputable def Try.pinned : Pinned := { name := "ytabkdmcmfecokaa", sum := "e96be0988aa558bec1ae19add9ffd2c55ad5176dd9c4068ecd505c99fd08fb9a", checked := Try.checked }
namespace Rows
def none {H : Type} : Left H := { results := [], args := [] }

/-- 'umpirelaw09.OpenSeen': WHATEVER THE INPUT: true; the input reads as it did. -/
def openSeenSpec : ChangeSpec := { name := "openSeen", fn := fun _ => fun
  | [d1, d2, d3] => { results := [.lit (.bool true)], args := [d1, d2, d3] }
  | _ => none }
def openSeenRow : OpenClaim := { program := "ytabkdmcmfecokaa", sum := "e96be0988aa558bec1ae19add9ffd2c55ad5176dd9c4068ecd505c99fd08fb9a", func := "umpire/umpirelaw09.OpenSeen", spec := "openSeen", unfollowed := true, recurses := true, apart := false }
def OpenSeenSaid : Prop := openSeenRow.holds Try.pinned (OpenSpec.ofChange openSeenSpec)

/-- ITS FALSE NEIGHBOUR: 'it returns false'. Refute it at one input. -/
def openSeenWrong : ChangeSpec := { name := "openSeen", fn := fun _ => fun
  | [d1, d2, d3] => { results := [.lit (.bool false)], args := [d1, d2, d3] }
  | _ => none }
def OpenSeenWrongFalsely : Prop := openSeenRow.holds Try.pinned (OpenSpec.ofChange openSeenWrong)

/-- 'umpirelaw09.OpenFull': WHATEVER THE INPUT: true; the input reads as it did. -/
def openFullSpec : ChangeSpec := { name := "openFull", fn := fun _ => fun
  | [d] => { results := [.lit (.bool true)], args := [d] }
  | _ => none }
def openFullRow : OpenClaim := { program := "ytabkdmcmfecokaa", sum := "e96be0988aa558bec1ae19add9ffd2c55ad5176dd9c4068ecd505c99fd08fb9a", func := "umpire/umpirelaw09.OpenFull", spec := "openFull", unfollowed := true, recurses := true, apart := false }
def OpenFullSaid : Prop := openFullRow.holds Try.pinned (OpenSpec.ofChange openFullSpec)

/-- ITS FALSE NEIGHBOUR: 'it returns false'. Refute it at one input. -/
def openFullWrong : ChangeSpec := { name := "openFull", fn := fun _ => fun
  | [d] => { results := [.lit (.bool false)], args := [d] }
  | _ => none }
def OpenFullWrongFalsely : Prop := openFullRow.holds Try.pinned (OpenSpec.ofChange openFullWrong)

/-- 'umpirelaw09.OpenSteps': WHATEVER THE INPUT: true; the input reads as it did. -/
def openStepsSpec : ChangeSpec := { name := "openSteps", fn := fun _ => fun
  | [d1, d2, d3] => { results := [.lit (.bool true)], args := [d1, d2, d3] }
  | _ => none }
def openStepsRow : OpenClaim := { program := "ytabkdmcmfecokaa", sum := "e96be0988aa558bec1ae19add9ffd2c55ad5176dd9c4068ecd505c99fd08fb9a", func := "umpire/umpirelaw09.OpenSteps", spec := "openSteps", unfollowed := true, recurses := true, apart := false }
def OpenStepsSaid : Prop := openStepsRow.holds Try.pinned (OpenSpec.ofChange openStepsSpec)

/-- ITS FALSE NEIGHBOUR: 'it returns false'. Refute it at one input. -/
def openStepsWrong : ChangeSpec := { name := "openSteps", fn := fun _ => fun
  | [d1, d2, d3] => { results := [.lit (.bool false)], args := [d1, d2, d3] }
  | _ => none }
def OpenStepsWrongFalsely : Prop := openStepsRow.holds Try.pinned (OpenSpec.ofChange openStepsWrong)

/-- 'umpirelaw09.OpenOnly': WHATEVER THE INPUT: true; the input reads as it did. -/
def openOnlySpec : ChangeSpec := { name := "openOnly", fn := fun _ => fun
  | [d1, d2] => { results := [.lit (.bool true)], args := [d1, d2] }
  | _ => none }
def openOnlyRow : OpenClaim := { program := "ytabkdmcmfecokaa", sum := "e96be0988aa558bec1ae19add9ffd2c55ad5176dd9c4068ecd505c99fd08fb9a", func := "umpire/umpirelaw09.OpenOnly", spec := "openOnly", unfollowed := true, recurses := true, apart := false }
def OpenOnlySaid : Prop := openOnlyRow.holds Try.pinned (OpenSpec.ofChange openOnlySpec)

/-- ITS FALSE NEIGHBOUR: 'it returns false'. Refute it at one input. -/
def openOnlyWrong : ChangeSpec := { name := "openOnly", fn := fun _ => fun
  | [d1, d2] => { results := [.lit (.bool false)], args := [d1, d2] }
  | _ => none }
def OpenOnlyWrongFalsely : Prop := openOnlyRow.holds Try.pinned (OpenSpec.ofChange openOnlyWrong)

/-- 'umpirelaw12.ReadTwo': WHATEVER THE INPUT: true; the input reads as it did. -/
def readTwoSpec : ChangeSpec := { name := "readTwo", fn := fun _ => fun
  | [d1, d2] => { results := [.lit (.bool true)], args := [d1, d2] }
  | _ => none }
def readTwoRow : OpenClaim := { program := "ytabkdmcmfecokaa", sum := "e96be0988aa558bec1ae19add9ffd2c55ad5176dd9c4068ecd505c99fd08fb9a", func := "umpire/umpirelaw12.ReadTwo", spec := "readTwo", unfollowed := true, recurses := true, apart := false }
def ReadTwoSaid : Prop := readTwoRow.holds Try.pinned (OpenSpec.ofChange readTwoSpec)

/-- ITS FALSE NEIGHBOUR: 'it returns false'. Refute it at one input. -/
def readTwoWrong : ChangeSpec := { name := "readTwo", fn := fun _ => fun
  | [d1, d2] => { results := [.lit (.bool false)], args := [d1, d2] }
  | _ => none }
def ReadTwoWrongFalsely : Prop := readTwoRow.holds Try.pinned (OpenSpec.ofChange readTwoWrong)

/-- 'umpirelaw14.CommitTwo': WHATEVER THE INPUT: true; the input reads as it did. -/
def commitTwoSpec : ChangeSpec := { name := "commitTwo", fn := fun _ => fun
  | [d1, d2, d3] => { results := [.lit (.bool true)], args := [d1, d2, d3] }
  | _ => none }
def commitTwoRow : OpenClaim := { program := "ytabkdmcmfecokaa", sum := "e96be0988aa558bec1ae19add9ffd2c55ad5176dd9c4068ecd505c99fd08fb9a", func := "umpire/umpirelaw14.CommitTwo", spec := "commitTwo", unfollowed := true, recurses := true, apart := false }
def CommitTwoSaid : Prop := commitTwoRow.holds Try.pinned (OpenSpec.ofChange commitTwoSpec)

/-- ITS FALSE NEIGHBOUR: 'it returns false'. Refute it at one input. -/
def commitTwoWrong : ChangeSpec := { name := "commitTwo", fn := fun _ => fun
  | [d1, d2, d3] => { results := [.lit (.bool false)], args := [d1, d2, d3] }
  | _ => none }
def CommitTwoWrongFalsely : Prop := commitTwoRow.holds Try.pinned (OpenSpec.ofChange commitTwoWrong)

/-- 'umpirelaw14.CommitSides': WHATEVER THE INPUT: true; the input reads as it did. -/
def commitSidesSpec : ChangeSpec := { name := "commitSides", fn := fun _ => fun
  | [d1, d2] => { results := [.lit (.bool true)], args := [d1, d2] }
  | _ => none }
def commitSidesRow : OpenClaim := { program := "ytabkdmcmfecokaa", sum := "e96be0988aa558bec1ae19add9ffd2c55ad5176dd9c4068ecd505c99fd08fb9a", func := "umpire/umpirelaw14.CommitSides", spec := "commitSides", unfollowed := true, recurses := true, apart := false }
def CommitSidesSaid : Prop := commitSidesRow.holds Try.pinned (OpenSpec.ofChange commitSidesSpec)

/-- ITS FALSE NEIGHBOUR: 'it returns false'. Refute it at one input. -/
def commitSidesWrong : ChangeSpec := { name := "commitSides", fn := fun _ => fun
  | [d1, d2] => { results := [.lit (.bool false)], args := [d1, d2] }
  | _ => none }
def CommitSidesWrongFalsely : Prop := commitSidesRow.holds Try.pinned (OpenSpec.ofChange commitSidesWrong)

/-- 'umpirelaw14.CommitFull': WHATEVER THE INPUT: true; the input reads as it did. -/
def commitFullSpec : ChangeSpec := { name := "commitFull", fn := fun _ => fun
  | [d1, d2, d3] => { results := [.lit (.bool true)], args := [d1, d2, d3] }
  | _ => none }
def commitFullRow : OpenClaim := { program := "ytabkdmcmfecokaa", sum := "e96be0988aa558bec1ae19add9ffd2c55ad5176dd9c4068ecd505c99fd08fb9a", func := "umpire/umpirelaw14.CommitFull", spec := "commitFull", unfollowed := true, recurses := true, apart := false }
def CommitFullSaid : Prop := commitFullRow.holds Try.pinned (OpenSpec.ofChange commitFullSpec)

/-- ITS FALSE NEIGHBOUR: 'it returns false'. Refute it at one input. -/
def commitFullWrong : ChangeSpec := { name := "commitFull", fn := fun _ => fun
  | [d1, d2, d3] => { results := [.lit (.bool false)], args := [d1, d2, d3] }
  | _ => none }
def CommitFullWrongFalsely : Prop := commitFullRow.holds Try.pinned (OpenSpec.ofChange commitFullWrong)

/-- 'umpirelaw14.CommitOnce': WHATEVER THE INPUT: true; the input reads as it did. -/
def commitOnceSpec : ChangeSpec := { name := "commitOnce", fn := fun _ => fun
  | [d1, d2, d3] => { results := [.lit (.bool true)], args := [d1, d2, d3] }
  | _ => none }
def commitOnceRow : OpenClaim := { program := "ytabkdmcmfecokaa", sum := "e96be0988aa558bec1ae19add9ffd2c55ad5176dd9c4068ecd505c99fd08fb9a", func := "umpire/umpirelaw14.CommitOnce", spec := "commitOnce", unfollowed := true, recurses := true, apart := false }
def CommitOnceSaid : Prop := commitOnceRow.holds Try.pinned (OpenSpec.ofChange commitOnceSpec)

/-- ITS FALSE NEIGHBOUR: 'it returns false'. Refute it at one input. -/
def commitOnceWrong : ChangeSpec := { name := "commitOnce", fn := fun _ => fun
  | [d1, d2, d3] => { results := [.lit (.bool false)], args := [d1, d2, d3] }
  | _ => none }
def CommitOnceWrongFalsely : Prop := commitOnceRow.holds Try.pinned (OpenSpec.ofChange commitOnceWrong)

/- THE SECOND FORM. 'bulk': how many values and letters a reading holds, each counted each time it is reached (what is shared counts as often as it is met; a slice's spare places count too). A statement '..UptoSaid' is the law's where the arguments, and the package variables that the reading takes, are together of bulk at most 1048576: NARROWER than '..Said'. Prove '..Said' where nothing that the law and all that it calls make is longer than what came in: it says more and counts as full. Else prove '..UptoSaid'. A law counts once. -/
mutual
def uptoBulk {H : Type} : DataW H → Nat
  | .lit (.string bytes) => bytes.length + 1
  | .lit _ => 1
  | .nil => 1
  | .ptr d => uptoBulk d + 1
  | .slice elems spare => uptoBulkAll elems + uptoBulkAll spare + 1
  | .agg parts => uptoBulkAll parts + 1
  | .iface _ d => uptoBulk d + 1
  | .map entries => uptoBulkEntries entries + 1
  | .held _ => 1
def uptoBulkAll {H : Type} : List (DataW H) → Nat
  | [] => 0
  | d :: r => uptoBulk d + uptoBulkAll r
def uptoBulkEntries {H : Type} : List (Lit × DataW H) → Nat
  | [] => 0
  | x :: r => uptoBulkEntry x + uptoBulkEntries r
def uptoBulkEntry {H : Type} : Lit × DataW H → Nat
  | (.string bytes, d) => bytes.length + uptoBulk d + 1
  | (_, d) => uptoBulk d + 1
 end
def uptoSmall : (H : Type) → List (DataW H) → Bool := fun _ ds => decide (uptoBulkAll ds ≤ 1048576)
def OpenSpec.upto (s : _root_.Go.ChangeSpec) : _root_.Go.OpenSpec := { _root_.Go.OpenSpec.ofChange s with cond := some uptoSmall }

/-- 'umpirelaw09.OpenSeen', WHERE WHAT IT READS IS OF BULK AT MOST 1048576: true; the input reads as it did. -/
def openSeenUptoRow : OpenClaim := { program := "ytabkdmcmfecokaa", sum := "e96be0988aa558bec1ae19add9ffd2c55ad5176dd9c4068ecd505c99fd08fb9a", func := "umpire/umpirelaw09.OpenSeen", spec := "openSeen", unfollowed := true, recurses := true, apart := false, narrowed := true }
def OpenSeenUptoSaid : Prop := openSeenUptoRow.holds Try.pinned (OpenSpec.upto openSeenSpec)

/-- 'umpirelaw09.OpenFull', WHERE WHAT IT READS IS OF BULK AT MOST 1048576: true; the input reads as it did. -/
def openFullUptoRow : OpenClaim := { program := "ytabkdmcmfecokaa", sum := "e96be0988aa558bec1ae19add9ffd2c55ad5176dd9c4068ecd505c99fd08fb9a", func := "umpire/umpirelaw09.OpenFull", spec := "openFull", unfollowed := true, recurses := true, apart := false, narrowed := true }
def OpenFullUptoSaid : Prop := openFullUptoRow.holds Try.pinned (OpenSpec.upto openFullSpec)

/-- 'umpirelaw09.OpenSteps', WHERE WHAT IT READS IS OF BULK AT MOST 1048576: true; the input reads as it did. -/
def openStepsUptoRow : OpenClaim := { program := "ytabkdmcmfecokaa", sum := "e96be0988aa558bec1ae19add9ffd2c55ad5176dd9c4068ecd505c99fd08fb9a", func := "umpire/umpirelaw09.OpenSteps", spec := "openSteps", unfollowed := true, recurses := true, apart := false, narrowed := true }
def OpenStepsUptoSaid : Prop := openStepsUptoRow.holds Try.pinned (OpenSpec.upto openStepsSpec)

/-- 'umpirelaw09.OpenOnly', WHERE WHAT IT READS IS OF BULK AT MOST 1048576: true; the input reads as it did. -/
def openOnlyUptoRow : OpenClaim := { program := "ytabkdmcmfecokaa", sum := "e96be0988aa558bec1ae19add9ffd2c55ad5176dd9c4068ecd505c99fd08fb9a", func := "umpire/umpirelaw09.OpenOnly", spec := "openOnly", unfollowed := true, recurses := true, apart := false, narrowed := true }
def OpenOnlyUptoSaid : Prop := openOnlyUptoRow.holds Try.pinned (OpenSpec.upto openOnlySpec)

/-- 'umpirelaw12.ReadTwo', WHERE WHAT IT READS IS OF BULK AT MOST 1048576: true; the input reads as it did. -/
def readTwoUptoRow : OpenClaim := { program := "ytabkdmcmfecokaa", sum := "e96be0988aa558bec1ae19add9ffd2c55ad5176dd9c4068ecd505c99fd08fb9a", func := "umpire/umpirelaw12.ReadTwo", spec := "readTwo", unfollowed := true, recurses := true, apart := false, narrowed := true }
def ReadTwoUptoSaid : Prop := readTwoUptoRow.holds Try.pinned (OpenSpec.upto readTwoSpec)

/-- 'umpirelaw14.CommitTwo', WHERE WHAT IT READS IS OF BULK AT MOST 1048576: true; the input reads as it did. -/
def commitTwoUptoRow : OpenClaim := { program := "ytabkdmcmfecokaa", sum := "e96be0988aa558bec1ae19add9ffd2c55ad5176dd9c4068ecd505c99fd08fb9a", func := "umpire/umpirelaw14.CommitTwo", spec := "commitTwo", unfollowed := true, recurses := true, apart := false, narrowed := true }
def CommitTwoUptoSaid : Prop := commitTwoUptoRow.holds Try.pinned (OpenSpec.upto commitTwoSpec)

/-- 'umpirelaw14.CommitSides', WHERE WHAT IT READS IS OF BULK AT MOST 1048576: true; the input reads as it did. -/
def commitSidesUptoRow : OpenClaim := { program := "ytabkdmcmfecokaa", sum := "e96be0988aa558bec1ae19add9ffd2c55ad5176dd9c4068ecd505c99fd08fb9a", func := "umpire/umpirelaw14.CommitSides", spec := "commitSides", unfollowed := true, recurses := true, apart := false, narrowed := true }
def CommitSidesUptoSaid : Prop := commitSidesUptoRow.holds Try.pinned (OpenSpec.upto commitSidesSpec)

/-- 'umpirelaw14.CommitFull', WHERE WHAT IT READS IS OF BULK AT MOST 1048576: true; the input reads as it did. -/
def commitFullUptoRow : OpenClaim := { program := "ytabkdmcmfecokaa", sum := "e96be0988aa558bec1ae19add9ffd2c55ad5176dd9c4068ecd505c99fd08fb9a", func := "umpire/umpirelaw14.CommitFull", spec := "commitFull", unfollowed := true, recurses := true, apart := false, narrowed := true }
def CommitFullUptoSaid : Prop := commitFullUptoRow.holds Try.pinned (OpenSpec.upto commitFullSpec)

/-- 'umpirelaw14.CommitOnce', WHERE WHAT IT READS IS OF BULK AT MOST 1048576: true; the input reads as it did. -/
def commitOnceUptoRow : OpenClaim := { program := "ytabkdmcmfecokaa", sum := "e96be0988aa558bec1ae19add9ffd2c55ad5176dd9c4068ecd505c99fd08fb9a", func := "umpire/umpirelaw14.CommitOnce", spec := "commitOnce", unfollowed := true, recurses := true, apart := false, narrowed := true }
def CommitOnceUptoSaid : Prop := commitOnceUptoRow.holds Try.pinned (OpenSpec.upto commitOnceSpec)

end Rows
end Go.Proofs.Ytabkdmcmfecokaa
