/-
  No cell of these rows narrows 'for every input' (looked for: loops, veiled, ifaces, maps, wideKeys, modest, calm, conditions, laid).
  DERIVED. THE GIVEN ROWS OF THIS SEAT. 2 by the template 'for every input the law returns true; each argument reads behind the call as it read before'; 0 by the template 'total and deterministic' (their statements: YtkignmhjbjgkoaaGreatTotals.lean).
  GIVEN WITH THE SEED: the statements are not yours to turn. If you find one false, say at which input.
  Laid BY PROGRAM, IN A SANDBOX (cutbox-rows.mjs): the forced cells as the released guide's own fill.sh prints them over the translation 03e127559a87f17a… (all of the seat's roots in one cut). By AI agents, Wed Nov 11 2026. No macro, syntax, notation, axiom, sorry.
-/
import Derived.Test.YtkignmhjbjgkoaaGreatChecked
import GoSem.Claim
import GoSem.ClaimJoined
import GoSem.ClaimMapViews
import Derived.JoinedTies
import Derived.KernelRfl
namespace Go.Proofs.YtkignmhjbjgkoaaGreat
/- THE CELL 'sum', in the pinned program and in every row, IS THE sha256 OF THE DUMP (.gsa) THAT YtkignmhjbjgkoaaGreatProg.lean LOADS. Nothing in Lean hashes anything: it is a label: what it is worth is what the hold of that sum in a sandbox is worth. -/
noncomputable def Tryz.pinned : Pinned := { name := "ytkignmhjbjgkoaagreat", sum := "03e127559a87f17a583c38f9068f286e5c3d518f4586358cf2510f145a714ab5", checked := Tryz.checked }
namespace Rows
def none {H : Type} : Left H := { results := [], args := [] }

/-- 'lookoutlaw23.WalOpen': WHATEVER THE INPUT: true; the input reads as it did. -/
def walOpenSpec : ChangeSpec := { name := "walOpen", fn := fun _ => fun
  | [d1, d2] => { results := [.lit (.bool true)], args := [d1, d2] }
  | _ => none }
def walOpenRow : OpenClaim := { program := "ytkignmhjbjgkoaagreat", sum := "03e127559a87f17a583c38f9068f286e5c3d518f4586358cf2510f145a714ab5", func := "lookout/lookoutlaw23.WalOpen", spec := "walOpen", unfollowed := true, recurses := true, apart := false }
def WalOpenSaid : Prop := walOpenRow.holds Tryz.pinned (OpenSpec.ofChange walOpenSpec)

/-- ITS FALSE NEIGHBOUR: 'it returns false'. Refute it at one input. -/
def walOpenWrong : ChangeSpec := { name := "walOpen", fn := fun _ => fun
  | [d1, d2] => { results := [.lit (.bool false)], args := [d1, d2] }
  | _ => none }
def WalOpenWrongFalsely : Prop := walOpenRow.holds Tryz.pinned (OpenSpec.ofChange walOpenWrong)

/-- 'lookoutlaw23.WalRun': WHATEVER THE INPUT: true; the input reads as it did. -/
def walRunSpec : ChangeSpec := { name := "walRun", fn := fun _ => fun
  | [d1, d2] => { results := [.lit (.bool true)], args := [d1, d2] }
  | _ => none }
def walRunRow : OpenClaim := { program := "ytkignmhjbjgkoaagreat", sum := "03e127559a87f17a583c38f9068f286e5c3d518f4586358cf2510f145a714ab5", func := "lookout/lookoutlaw23.WalRun", spec := "walRun", inPlace := ["internal/abi.NoEscape"], unfollowed := true, recurses := true, apart := false }
def WalRunSaid : Prop := walRunRow.holds Tryz.pinned (OpenSpec.ofChange walRunSpec)

/-- ITS FALSE NEIGHBOUR: 'it returns false'. Refute it at one input. -/
def walRunWrong : ChangeSpec := { name := "walRun", fn := fun _ => fun
  | [d1, d2] => { results := [.lit (.bool false)], args := [d1, d2] }
  | _ => none }
def WalRunWrongFalsely : Prop := walRunRow.holds Tryz.pinned (OpenSpec.ofChange walRunWrong)

/- THE SECOND FORM. 'bulk': how many values and letters a reading holds, each counted each time it is reached (what is shared counts as often as it is met; a slice's spare places count too). A statement '..UptoSaid' is the law's where the arguments, and the package variables that the reading takes, are together of bulk at most 1048576: NARROWER than '..Said'. Prove '..Said' where nothing that the law and all that it calls make is longer than what came in: it says more and counts as full. Else prove '..UptoSaid'. A law counts once. -/
mutual
def uptoBulk {H : Type} : DataW H → Nat
  | .lit (.string bytes) => bytes.length + 1
  | .lit _ => 1
  | .nil => 1
  | .ptr d => uptoBulk d + 1
  | .slice elems spare => uptoBulkAll elems + uptoBulkAll spare + 1
  | .agg parts => uptoBulkAll parts + 1
  | .iface _ d => uptoBulk d + 1
  | .map entries => uptoBulkEntries entries + 1
  | .held _ => 1
def uptoBulkAll {H : Type} : List (DataW H) → Nat
  | [] => 0
  | d :: r => uptoBulk d + uptoBulkAll r
def uptoBulkEntries {H : Type} : List (Lit × DataW H) → Nat
  | [] => 0
  | x :: r => uptoBulkEntry x + uptoBulkEntries r
def uptoBulkEntry {H : Type} : Lit × DataW H → Nat
  | (.string bytes, d) => bytes.length + uptoBulk d + 1
  | (_, d) => uptoBulk d + 1
 end
def uptoSmall : (H : Type) → List (DataW H) → Bool := fun _ ds => decide (uptoBulkAll ds ≤ 1048576)
def OpenSpec.upto (s : _root_.Go.ChangeSpec) : _root_.Go.OpenSpec := { _root_.Go.OpenSpec.ofChange s with cond := some uptoSmall }

/-- 'lookoutlaw23.WalOpen', WHERE WHAT IT READS IS OF BULK AT MOST 1048576: true; the input reads as it did. -/
def walOpenUptoRow : OpenClaim := { program := "ytkignmhjbjgkoaagreat", sum := "03e127559a87f17a583c38f9068f286e5c3d518f4586358cf2510f145a714ab5", func := "lookout/lookoutlaw23.WalOpen", spec := "walOpen", unfollowed := true, recurses := true, apart := false, narrowed := true }
def WalOpenUptoSaid : Prop := walOpenUptoRow.holds Tryz.pinned (OpenSpec.upto walOpenSpec)

/-- 'lookoutlaw23.WalRun', WHERE WHAT IT READS IS OF BULK AT MOST 1048576: true; the input reads as it did. -/
def walRunUptoRow : OpenClaim := { program := "ytkignmhjbjgkoaagreat", sum := "03e127559a87f17a583c38f9068f286e5c3d518f4586358cf2510f145a714ab5", func := "lookout/lookoutlaw23.WalRun", spec := "walRun", inPlace := ["internal/abi.NoEscape"], unfollowed := true, recurses := true, apart := false, narrowed := true }
def WalRunUptoSaid : Prop := walRunUptoRow.holds Tryz.pinned (OpenSpec.upto walRunSpec)

end Rows
end Go.Proofs.YtkignmhjbjgkoaaGreat
