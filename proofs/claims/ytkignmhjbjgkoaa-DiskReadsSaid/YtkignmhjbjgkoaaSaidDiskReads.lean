/- Proved: for every disk, name and list of picks the law DiskReads (P22.1: Check, List, Read and Crash answer as the reference does) returns true; there is no condition. -/
import Derived.Test.YtkignmhjbjgkoaaRowDiskReads
import Derived.Test.YtkignmhjbjgkoaaExt
import Derived.Test.YtkignmhjbjgkoaaSp7
namespace Go.Proofs.Ytkignmhjbjgkoaa
theorem diskReads_said : Rows.DiskReadsSaid := diskReads_over gOk (fun x0 x1 x2 _ _ _ => diskReads_law x0 x1 x2)
#print axioms diskReads_said
end Go.Proofs.Ytkignmhjbjgkoaa
