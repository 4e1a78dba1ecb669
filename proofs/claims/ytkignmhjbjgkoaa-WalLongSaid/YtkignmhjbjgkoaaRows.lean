/-
  No cell of these rows narrows 'for every input' (looked for: loops, veiled, ifaces, maps, wideKeys, modest, calm, conditions, laid).
  DERIVED. THE GIVEN ROWS OF THIS SEAT. 14 by the template 'for every input the law returns true; each argument reads behind the call as it read before'; 0 by the template 'total and deterministic' (their statements: YtkignmhjbjgkoaaTotals.lean).
  GIVEN WITH THE SEED: the statements are not yours to turn. If you find one false, say at which input.
  Laid BY PROGRAM, IN A SANDBOX (cutbox-rows.mjs): the forced cells as the released guide's own fill.sh prints them over the translation 1deba9a4242f00ab… (all of the seat's roots in one cut). By AI agents, Wed Nov 11 2026. No macro, syntax, notation, axiom, sorry.
-/
import Derived.Test.YtkignmhjbjgkoaaChecked
import GoSem.Claim
import GoSem.ClaimJoined
import GoSem.ClaimMapViews
import Derived.JoinedTies
import Derived.KernelRfl
namespace Go.Proofs.Ytkignmhjbjgkoaa
/- THE CELL 'sum', in the pinned program and in every row, IS THE sha256 OF THE DUMP (.gsa) THAT YtkignmhjbjgkoaaProg.lean LOADS. Nothing in Lean hashes anything: it is a label: what it is worth is what the hold of that sum in a sandbox is worth. -/
noncomputable def Try.pinned : Pinned := { name := "ytkignmhjbjgkoaa", sum := "1deba9a4242f00abdd499f993faf18362a817162ff45f9f445cf498f9a31a6ed", checked := Try.checked }
namespace Rows
def none {H : Type} : Left H := { results := [], args := [] }

/-- 'lookoutlaw23.WalFrames': WHATEVER THE INPUT: true; the input reads as it did. -/
def walFramesSpec : ChangeSpec := { name := "walFrames", fn := fun _ => fun
  | [d1, d2] => { results := [.lit (.bool true)], args := [d1, d2] }
  | _ => none }
def walFramesRow : OpenClaim := { program := "ytkignmhjbjgkoaa", sum := "1deba9a4242f00abdd499f993faf18362a817162ff45f9f445cf498f9a31a6ed", func := "lookout/lookoutlaw23.WalFrames", spec := "walFrames", unfollowed := true, recurses := true, apart := false }
def WalFramesSaid : Prop := walFramesRow.holds Try.pinned (OpenSpec.ofChange walFramesSpec)

/-- ITS FALSE NEIGHBOUR: 'it returns false'. Refute it at one input. -/
def walFramesWrong : ChangeSpec := { name := "walFrames", fn := fun _ => fun
  | [d1, d2] => { results := [.lit (.bool false)], args := [d1, d2] }
  | _ => none }
def WalFramesWrongFalsely : Prop := walFramesRow.holds Try.pinned (OpenSpec.ofChange walFramesWrong)

/-- 'lookoutlaw23.WalScan': WHATEVER THE INPUT: true; the input reads as it did. -/
def walScanSpec : ChangeSpec := { name := "walScan", fn := fun _ => fun
  | [d1, d2, d3] => { results := [.lit (.bool true)], args := [d1, d2, d3] }
  | _ => none }
def walScanRow : OpenClaim := { program := "ytkignmhjbjgkoaa", sum := "1deba9a4242f00abdd499f993faf18362a817162ff45f9f445cf498f9a31a6ed", func := "lookout/lookoutlaw23.WalScan", spec := "walScan", unfollowed := true, recurses := true, apart := false }
def WalScanSaid : Prop := walScanRow.holds Try.pinned (OpenSpec.ofChange walScanSpec)

/-- ITS FALSE NEIGHBOUR: 'it returns false'. Refute it at one input. -/
def walScanWrong : ChangeSpec := { name := "walScan", fn := fun _ => fun
  | [d1, d2, d3] => { results := [.lit (.bool false)], args := [d1, d2, d3] }
  | _ => none }
def WalScanWrongFalsely : Prop := walScanRow.holds Try.pinned (OpenSpec.ofChange walScanWrong)

/-- 'lookoutlaw23.WalDamage': WHATEVER THE INPUT: true; the input reads as it did. -/
def walDamageSpec : ChangeSpec := { name := "walDamage", fn := fun _ => fun
  | [d1, d2, d3, d4] => { results := [.lit (.bool true)], args := [d1, d2, d3, d4] }
  | _ => none }
def walDamageRow : OpenClaim := { program := "ytkignmhjbjgkoaa", sum := "1deba9a4242f00abdd499f993faf18362a817162ff45f9f445cf498f9a31a6ed", func := "lookout/lookoutlaw23.WalDamage", spec := "walDamage", unfollowed := true, recurses := true, apart := false }
def WalDamageSaid : Prop := walDamageRow.holds Try.pinned (OpenSpec.ofChange walDamageSpec)

/-- ITS FALSE NEIGHBOUR: 'it returns false'. Refute it at one input. -/
def walDamageWrong : ChangeSpec := { name := "walDamage", fn := fun _ => fun
  | [d1, d2, d3, d4] => { results := [.lit (.bool false)], args := [d1, d2, d3, d4] }
  | _ => none }
def WalDamageWrongFalsely : Prop := walDamageRow.holds Try.pinned (OpenSpec.ofChange walDamageWrong)

/-- 'lookoutlaw23.WalAppend': WHATEVER THE INPUT: true; the input reads as it did. -/
def walAppendSpec : ChangeSpec := { name := "walAppend", fn := fun _ => fun
  | [d1, d2] => { results := [.lit (.bool true)], args := [d1, d2] }
  | _ => none }
def walAppendRow : OpenClaim := { program := "ytkignmhjbjgkoaa", sum := "1deba9a4242f00abdd499f993faf18362a817162ff45f9f445cf498f9a31a6ed", func := "lookout/lookoutlaw23.WalAppend", spec := "walAppend", inPlace := ["internal/abi.NoEscape"], unfollowed := true, recurses := true, apart := false }
def WalAppendSaid : Prop := walAppendRow.holds Try.pinned (OpenSpec.ofChange walAppendSpec)

/-- ITS FALSE NEIGHBOUR: 'it returns false'. Refute it at one input. -/
def walAppendWrong : ChangeSpec := { name := "walAppend", fn := fun _ => fun
  | [d1, d2] => { results := [.lit (.bool false)], args := [d1, d2] }
  | _ => none }
def WalAppendWrongFalsely : Prop := walAppendRow.holds Try.pinned (OpenSpec.ofChange walAppendWrong)

/-- 'lookoutlaw22.DiskReads': WHATEVER THE INPUT: true; the input reads as it did. -/
def diskReadsSpec : ChangeSpec := { name := "diskReads", fn := fun _ => fun
  | [d1, d2, d3] => { results := [.lit (.bool true)], args := [d1, d2, d3] }
  | _ => none }
def diskReadsRow : OpenClaim := { program := "ytkignmhjbjgkoaa", sum := "1deba9a4242f00abdd499f993faf18362a817162ff45f9f445cf498f9a31a6ed", func := "lookout/lookoutlaw22.DiskReads", spec := "diskReads", unfollowed := true, recurses := true, apart := false }
def DiskReadsSaid : Prop := diskReadsRow.holds Try.pinned (OpenSpec.ofChange diskReadsSpec)

/-- ITS FALSE NEIGHBOUR: 'it returns false'. Refute it at one input. -/
def diskReadsWrong : ChangeSpec := { name := "diskReads", fn := fun _ => fun
  | [d1, d2, d3] => { results := [.lit (.bool false)], args := [d1, d2, d3] }
  | _ => none }
def DiskReadsWrongFalsely : Prop := diskReadsRow.holds Try.pinned (OpenSpec.ofChange diskReadsWrong)

/-- 'lookoutlaw22.DiskDurable': WHATEVER THE INPUT: true; the input reads as it did. -/
def diskDurableSpec : ChangeSpec := { name := "diskDurable", fn := fun _ => fun
  | [d1, d2] => { results := [.lit (.bool true)], args := [d1, d2] }
  | _ => none }
def diskDurableRow : OpenClaim := { program := "ytkignmhjbjgkoaa", sum := "1deba9a4242f00abdd499f993faf18362a817162ff45f9f445cf498f9a31a6ed", func := "lookout/lookoutlaw22.DiskDurable", spec := "diskDurable", unfollowed := true, recurses := true, apart := false }
def DiskDurableSaid : Prop := diskDurableRow.holds Try.pinned (OpenSpec.ofChange diskDurableSpec)

/-- ITS FALSE NEIGHBOUR: 'it returns false'. Refute it at one input. -/
def diskDurableWrong : ChangeSpec := { name := "diskDurable", fn := fun _ => fun
  | [d1, d2] => { results := [.lit (.bool false)], args := [d1, d2] }
  | _ => none }
def DiskDurableWrongFalsely : Prop := diskDurableRow.holds Try.pinned (OpenSpec.ofChange diskDurableWrong)

/-- 'lookoutlaw22.DiskLoss': WHATEVER THE INPUT: true; the input reads as it did. -/
def diskLossSpec : ChangeSpec := { name := "diskLoss", fn := fun _ => fun
  | [d1, d2] => { results := [.lit (.bool true)], args := [d1, d2] }
  | _ => none }
def diskLossRow : OpenClaim := { program := "ytkignmhjbjgkoaa", sum := "1deba9a4242f00abdd499f993faf18362a817162ff45f9f445cf498f9a31a6ed", func := "lookout/lookoutlaw22.DiskLoss", spec := "diskLoss", unfollowed := true, recurses := true, apart := false }
def DiskLossSaid : Prop := diskLossRow.holds Try.pinned (OpenSpec.ofChange diskLossSpec)

/-- ITS FALSE NEIGHBOUR: 'it returns false'. Refute it at one input. -/
def diskLossWrong : ChangeSpec := { name := "diskLoss", fn := fun _ => fun
  | [d1, d2] => { results := [.lit (.bool false)], args := [d1, d2] }
  | _ => none }
def DiskLossWrongFalsely : Prop := diskLossRow.holds Try.pinned (OpenSpec.ofChange diskLossWrong)

/-- 'lookoutlaw22.DiskReplaces': WHATEVER THE INPUT: true; the input reads as it did. -/
def diskReplacesSpec : ChangeSpec := { name := "diskReplaces", fn := fun _ => fun
  | [d1, d2, d3, d4] => { results := [.lit (.bool true)], args := [d1, d2, d3, d4] }
  | _ => none }
def diskReplacesRow : OpenClaim := { program := "ytkignmhjbjgkoaa", sum := "1deba9a4242f00abdd499f993faf18362a817162ff45f9f445cf498f9a31a6ed", func := "lookout/lookoutlaw22.DiskReplaces", spec := "diskReplaces", unfollowed := true, recurses := true, apart := false }
def DiskReplacesSaid : Prop := diskReplacesRow.holds Try.pinned (OpenSpec.ofChange diskReplacesSpec)

/-- ITS FALSE NEIGHBOUR: 'it returns false'. Refute it at one input. -/
def diskReplacesWrong : ChangeSpec := { name := "diskReplaces", fn := fun _ => fun
  | [d1, d2, d3, d4] => { results := [.lit (.bool false)], args := [d1, d2, d3, d4] }
  | _ => none }
def DiskReplacesWrongFalsely : Prop := diskReplacesRow.holds Try.pinned (OpenSpec.ofChange diskReplacesWrong)

/-- 'lookoutlaw22.DiskChanges': WHATEVER THE INPUT: true; the input reads as it did. -/
def diskChangesSpec : ChangeSpec := { name := "diskChanges", fn := fun _ => fun
  | [d1, d2] => { results := [.lit (.bool true)], args := [d1, d2] }
  | _ => none }
def diskChangesRow : OpenClaim := { program := "ytkignmhjbjgkoaa", sum := "1deba9a4242f00abdd499f993faf18362a817162ff45f9f445cf498f9a31a6ed", func := "lookout/lookoutlaw22.DiskChanges", spec := "diskChanges", unfollowed := true, recurses := true, apart := false }
def DiskChangesSaid : Prop := diskChangesRow.holds Try.pinned (OpenSpec.ofChange diskChangesSpec)

/-- ITS FALSE NEIGHBOUR: 'it returns false'. Refute it at one input. -/
def diskChangesWrong : ChangeSpec := { name := "diskChanges", fn := fun _ => fun
  | [d1, d2] => { results := [.lit (.bool false)], args := [d1, d2] }
  | _ => none }
def DiskChangesWrongFalsely : Prop := diskChangesRow.holds Try.pinned (OpenSpec.ofChange diskChangesWrong)

/-- 'lookoutlaw22.DiskRun': WHATEVER THE INPUT: true; the input reads as it did. -/
def diskRunSpec : ChangeSpec := { name := "diskRun", fn := fun _ => fun
  | [d] => { results := [.lit (.bool true)], args := [d] }
  | _ => none }
def diskRunRow : OpenClaim := { program := "ytkignmhjbjgkoaa", sum := "1deba9a4242f00abdd499f993faf18362a817162ff45f9f445cf498f9a31a6ed", func := "lookout/lookoutlaw22.DiskRun", spec := "diskRun", unfollowed := true, recurses := true, apart := false }
def DiskRunSaid : Prop := diskRunRow.holds Try.pinned (OpenSpec.ofChange diskRunSpec)

/-- ITS FALSE NEIGHBOUR: 'it returns false'. Refute it at one input. -/
def diskRunWrong : ChangeSpec := { name := "diskRun", fn := fun _ => fun
  | [d] => { results := [.lit (.bool false)], args := [d] }
  | _ => none }
def DiskRunWrongFalsely : Prop := diskRunRow.holds Try.pinned (OpenSpec.ofChange diskRunWrong)

/-- 'lookoutlaw22.DiskFiles': WHATEVER THE INPUT: true; the input reads as it did. -/
def diskFilesSpec : ChangeSpec := { name := "diskFiles", fn := fun _ => fun
  | [d1, d2] => { results := [.lit (.bool true)], args := [d1, d2] }
  | _ => none }
def diskFilesRow : OpenClaim := { program := "ytkignmhjbjgkoaa", sum := "1deba9a4242f00abdd499f993faf18362a817162ff45f9f445cf498f9a31a6ed", func := "lookout/lookoutlaw22.DiskFiles", spec := "diskFiles", unfollowed := true, recurses := true, apart := false }
def DiskFilesSaid : Prop := diskFilesRow.holds Try.pinned (OpenSpec.ofChange diskFilesSpec)

/-- ITS FALSE NEIGHBOUR: 'it returns false'. Refute it at one input. -/
def diskFilesWrong : ChangeSpec := { name := "diskFiles", fn := fun _ => fun
  | [d1, d2] => { results := [.lit (.bool false)], args := [d1, d2] }
  | _ => none }
def DiskFilesWrongFalsely : Prop := diskFilesRow.holds Try.pinned (OpenSpec.ofChange diskFilesWrong)

/-- 'lookoutlaw22.DiskPower': WHATEVER THE INPUT: true; the input reads as it did. -/
def diskPowerSpec : ChangeSpec := { name := "diskPower", fn := fun _ => fun
  | [d1, d2] => { results := [.lit (.bool true)], args := [d1, d2] }
  | _ => none }
def diskPowerRow : OpenClaim := { program := "ytkignmhjbjgkoaa", sum := "1deba9a4242f00abdd499f993faf18362a817162ff45f9f445cf498f9a31a6ed", func := "lookout/lookoutlaw22.DiskPower", spec := "diskPower", unfollowed := true, recurses := true, apart := false }
def DiskPowerSaid : Prop := diskPowerRow.holds Try.pinned (OpenSpec.ofChange diskPowerSpec)

/-- ITS FALSE NEIGHBOUR: 'it returns false'. Refute it at one input. -/
def diskPowerWrong : ChangeSpec := { name := "diskPower", fn := fun _ => fun
  | [d1, d2] => { results := [.lit (.bool false)], args := [d1, d2] }
  | _ => none }
def DiskPowerWrongFalsely : Prop := diskPowerRow.holds Try.pinned (OpenSpec.ofChange diskPowerWrong)

/-- 'lookoutlaw22.DiskValid': WHATEVER THE INPUT: true; the input reads as it did. -/
def diskValidSpec : ChangeSpec := { name := "diskValid", fn := fun _ => fun
  | [d1, d2, d3, d4] => { results := [.lit (.bool true)], args := [d1, d2, d3, d4] }
  | _ => none }
def diskValidRow : OpenClaim := { program := "ytkignmhjbjgkoaa", sum := "1deba9a4242f00abdd499f993faf18362a817162ff45f9f445cf498f9a31a6ed", func := "lookout/lookoutlaw22.DiskValid", spec := "diskValid", unfollowed := true, recurses := true, apart := false }
def DiskValidSaid : Prop := diskValidRow.holds Try.pinned (OpenSpec.ofChange diskValidSpec)

/-- ITS FALSE NEIGHBOUR: 'it returns false'. Refute it at one input. -/
def diskValidWrong : ChangeSpec := { name := "diskValid", fn := fun _ => fun
  | [d1, d2, d3, d4] => { results := [.lit (.bool false)], args := [d1, d2, d3, d4] }
  | _ => none }
def DiskValidWrongFalsely : Prop := diskValidRow.holds Try.pinned (OpenSpec.ofChange diskValidWrong)

/-- 'lookoutlaw23.WalLong': WHATEVER THE INPUT: true; the input reads as it did. -/
def walLongSpec : ChangeSpec := { name := "walLong", fn := fun _ => fun
  | [d1, d2, d3] => { results := [.lit (.bool true)], args := [d1, d2, d3] }
  | _ => none }
def walLongRow : OpenClaim := { program := "ytkignmhjbjgkoaa", sum := "1deba9a4242f00abdd499f993faf18362a817162ff45f9f445cf498f9a31a6ed", func := "lookout/lookoutlaw23.WalLong", spec := "walLong", inPlace := ["internal/abi.NoEscape"], unfollowed := true, recurses := true, apart := false }
def WalLongSaid : Prop := walLongRow.holds Try.pinned (OpenSpec.ofChange walLongSpec)

/-- ITS FALSE NEIGHBOUR: 'it returns false'. Refute it at one input. -/
def walLongWrong : ChangeSpec := { name := "walLong", fn := fun _ => fun
  | [d1, d2, d3] => { results := [.lit (.bool false)], args := [d1, d2, d3] }
  | _ => none }
def WalLongWrongFalsely : Prop := walLongRow.holds Try.pinned (OpenSpec.ofChange walLongWrong)

/- THE SECOND FORM. 'bulk': how many values and letters a reading holds, each counted each time it is reached (what is shared counts as often as it is met; a slice's spare places count too). A statement '..UptoSaid' is the law's where the arguments, and the package variables that the reading takes, are together of bulk at most 1048576: NARROWER than '..Said'. Prove '..Said' where nothing that the law and all that it calls make is longer than what came in: it says more and counts as full. Else prove '..UptoSaid'. A law counts once. -/
mutual
def uptoBulk {H : Type} : DataW H → Nat
  | .lit (.string bytes) => bytes.length + 1
  | .lit _ => 1
  | .nil => 1
  | .ptr d => uptoBulk d + 1
  | .slice elems spare => uptoBulkAll elems + uptoBulkAll spare + 1
  | .agg parts => uptoBulkAll parts + 1
  | .iface _ d => uptoBulk d + 1
  | .map entries => uptoBulkEntries entries + 1
  | .held _ => 1
def uptoBulkAll {H : Type} : List (DataW H) → Nat
  | [] => 0
  | d :: r => uptoBulk d + uptoBulkAll r
def uptoBulkEntries {H : Type} : List (Lit × DataW H) → Nat
  | [] => 0
  | x :: r => uptoBulkEntry x + uptoBulkEntries r
def uptoBulkEntry {H : Type} : Lit × DataW H → Nat
  | (.string bytes, d) => bytes.length + uptoBulk d + 1
  | (_, d) => uptoBulk d + 1
 end
def uptoSmall : (H : Type) → List (DataW H) → Bool := fun _ ds => decide (uptoBulkAll ds ≤ 1048576)
def OpenSpec.upto (s : _root_.Go.ChangeSpec) : _root_.Go.OpenSpec := { _root_.Go.OpenSpec.ofChange s with cond := some uptoSmall }

/-- 'lookoutlaw23.WalFrames', WHERE WHAT IT READS IS OF BULK AT MOST 1048576: true; the input reads as it did. -/
def walFramesUptoRow : OpenClaim := { program := "ytkignmhjbjgkoaa", sum := "1deba9a4242f00abdd499f993faf18362a817162ff45f9f445cf498f9a31a6ed", func := "lookout/lookoutlaw23.WalFrames", spec := "walFrames", unfollowed := true, recurses := true, apart := false, narrowed := true }
def WalFramesUptoSaid : Prop := walFramesUptoRow.holds Try.pinned (OpenSpec.upto walFramesSpec)

/-- 'lookoutlaw23.WalScan', WHERE WHAT IT READS IS OF BULK AT MOST 1048576: true; the input reads as it did. -/
def walScanUptoRow : OpenClaim := { program := "ytkignmhjbjgkoaa", sum := "1deba9a4242f00abdd499f993faf18362a817162ff45f9f445cf498f9a31a6ed", func := "lookout/lookoutlaw23.WalScan", spec := "walScan", unfollowed := true, recurses := true, apart := false, narrowed := true }
def WalScanUptoSaid : Prop := walScanUptoRow.holds Try.pinned (OpenSpec.upto walScanSpec)

/-- 'lookoutlaw23.WalDamage', WHERE WHAT IT READS IS OF BULK AT MOST 1048576: true; the input reads as it did. -/
def walDamageUptoRow : OpenClaim := { program := "ytkignmhjbjgkoaa", sum := "1deba9a4242f00abdd499f993faf18362a817162ff45f9f445cf498f9a31a6ed", func := "lookout/lookoutlaw23.WalDamage", spec := "walDamage", unfollowed := true, recurses := true, apart := false, narrowed := true }
def WalDamageUptoSaid : Prop := walDamageUptoRow.holds Try.pinned (OpenSpec.upto walDamageSpec)

/-- 'lookoutlaw23.WalAppend', WHERE WHAT IT READS IS OF BULK AT MOST 1048576: true; the input reads as it did. -/
def walAppendUptoRow : OpenClaim := { program := "ytkignmhjbjgkoaa", sum := "1deba9a4242f00abdd499f993faf18362a817162ff45f9f445cf498f9a31a6ed", func := "lookout/lookoutlaw23.WalAppend", spec := "walAppend", inPlace := ["internal/abi.NoEscape"], unfollowed := true, recurses := true, apart := false, narrowed := true }
def WalAppendUptoSaid : Prop := walAppendUptoRow.holds Try.pinned (OpenSpec.upto walAppendSpec)

/-- 'lookoutlaw22.DiskReads', WHERE WHAT IT READS IS OF BULK AT MOST 1048576: true; the input reads as it did. -/
def diskReadsUptoRow : OpenClaim := { program := "ytkignmhjbjgkoaa", sum := "1deba9a4242f00abdd499f993faf18362a817162ff45f9f445cf498f9a31a6ed", func := "lookout/lookoutlaw22.DiskReads", spec := "diskReads", unfollowed := true, recurses := true, apart := false, narrowed := true }
def DiskReadsUptoSaid : Prop := diskReadsUptoRow.holds Try.pinned (OpenSpec.upto diskReadsSpec)

/-- 'lookoutlaw22.DiskDurable', WHERE WHAT IT READS IS OF BULK AT MOST 1048576: true; the input reads as it did. -/
def diskDurableUptoRow : OpenClaim := { program := "ytkignmhjbjgkoaa", sum := "1deba9a4242f00abdd499f993faf18362a817162ff45f9f445cf498f9a31a6ed", func := "lookout/lookoutlaw22.DiskDurable", spec := "diskDurable", unfollowed := true, recurses := true, apart := false, narrowed := true }
def DiskDurableUptoSaid : Prop := diskDurableUptoRow.holds Try.pinned (OpenSpec.upto diskDurableSpec)

/-- 'lookoutlaw22.DiskLoss', WHERE WHAT IT READS IS OF BULK AT MOST 1048576: true; the input reads as it did. -/
def diskLossUptoRow : OpenClaim := { program := "ytkignmhjbjgkoaa", sum := "1deba9a4242f00abdd499f993faf18362a817162ff45f9f445cf498f9a31a6ed", func := "lookout/lookoutlaw22.DiskLoss", spec := "diskLoss", unfollowed := true, recurses := true, apart := false, narrowed := true }
def DiskLossUptoSaid : Prop := diskLossUptoRow.holds Try.pinned (OpenSpec.upto diskLossSpec)

/-- 'lookoutlaw22.DiskReplaces', WHERE WHAT IT READS IS OF BULK AT MOST 1048576: true; the input reads as it did. -/
def diskReplacesUptoRow : OpenClaim := { program := "ytkignmhjbjgkoaa", sum := "1deba9a4242f00abdd499f993faf18362a817162ff45f9f445cf498f9a31a6ed", func := "lookout/lookoutlaw22.DiskReplaces", spec := "diskReplaces", unfollowed := true, recurses := true, apart := false, narrowed := true }
def DiskReplacesUptoSaid : Prop := diskReplacesUptoRow.holds Try.pinned (OpenSpec.upto diskReplacesSpec)

/-- 'lookoutlaw22.DiskChanges', WHERE WHAT IT READS IS OF BULK AT MOST 1048576: true; the input reads as it did. -/
def diskChangesUptoRow : OpenClaim := { program := "ytkignmhjbjgkoaa", sum := "1deba9a4242f00abdd499f993faf18362a817162ff45f9f445cf498f9a31a6ed", func := "lookout/lookoutlaw22.DiskChanges", spec := "diskChanges", unfollowed := true, recurses := true, apart := false, narrowed := true }
def DiskChangesUptoSaid : Prop := diskChangesUptoRow.holds Try.pinned (OpenSpec.upto diskChangesSpec)

/-- 'lookoutlaw22.DiskRun', WHERE WHAT IT READS IS OF BULK AT MOST 1048576: true; the input reads as it did. -/
def diskRunUptoRow : OpenClaim := { program := "ytkignmhjbjgkoaa", sum := "1deba9a4242f00abdd499f993faf18362a817162ff45f9f445cf498f9a31a6ed", func := "lookout/lookoutlaw22.DiskRun", spec := "diskRun", unfollowed := true, recurses := true, apart := false, narrowed := true }
def DiskRunUptoSaid : Prop := diskRunUptoRow.holds Try.pinned (OpenSpec.upto diskRunSpec)

/-- 'lookoutlaw22.DiskFiles', WHERE WHAT IT READS IS OF BULK AT MOST 1048576: true; the input reads as it did. -/
def diskFilesUptoRow : OpenClaim := { program := "ytkignmhjbjgkoaa", sum := "1deba9a4242f00abdd499f993faf18362a817162ff45f9f445cf498f9a31a6ed", func := "lookout/lookoutlaw22.DiskFiles", spec := "diskFiles", unfollowed := true, recurses := true, apart := false, narrowed := true }
def DiskFilesUptoSaid : Prop := diskFilesUptoRow.holds Try.pinned (OpenSpec.upto diskFilesSpec)

/-- 'lookoutlaw22.DiskPower', WHERE WHAT IT READS IS OF BULK AT MOST 1048576: true; the input reads as it did. -/
def diskPowerUptoRow : OpenClaim := { program := "ytkignmhjbjgkoaa", sum := "1deba9a4242f00abdd499f993faf18362a817162ff45f9f445cf498f9a31a6ed", func := "lookout/lookoutlaw22.DiskPower", spec := "diskPower", unfollowed := true, recurses := true, apart := false, narrowed := true }
def DiskPowerUptoSaid : Prop := diskPowerUptoRow.holds Try.pinned (OpenSpec.upto diskPowerSpec)

/-- 'lookoutlaw22.DiskValid', WHERE WHAT IT READS IS OF BULK AT MOST 1048576: true; the input reads as it did. -/
def diskValidUptoRow : OpenClaim := { program := "ytkignmhjbjgkoaa", sum := "1deba9a4242f00abdd499f993faf18362a817162ff45f9f445cf498f9a31a6ed", func := "lookout/lookoutlaw22.DiskValid", spec := "diskValid", unfollowed := true, recurses := true, apart := false, narrowed := true }
def DiskValidUptoSaid : Prop := diskValidUptoRow.holds Try.pinned (OpenSpec.upto diskValidSpec)

/-- 'lookoutlaw23.WalLong', WHERE WHAT IT READS IS OF BULK AT MOST 1048576: true; the input reads as it did. -/
def walLongUptoRow : OpenClaim := { program := "ytkignmhjbjgkoaa", sum := "1deba9a4242f00abdd499f993faf18362a817162ff45f9f445cf498f9a31a6ed", func := "lookout/lookoutlaw23.WalLong", spec := "walLong", inPlace := ["internal/abi.NoEscape"], unfollowed := true, recurses := true, apart := false, narrowed := true }
def WalLongUptoSaid : Prop := walLongUptoRow.holds Try.pinned (OpenSpec.upto walLongSpec)

end Rows
end Go.Proofs.Ytkignmhjbjgkoaa
