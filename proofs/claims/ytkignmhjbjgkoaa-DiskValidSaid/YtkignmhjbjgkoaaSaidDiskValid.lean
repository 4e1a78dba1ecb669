/- Proved: what succeeds leaves a valid disk, and losing power twice is losing it once. -/
import Derived.Test.YtkignmhjbjgkoaaRowDiskValid
import Derived.Test.YtkignmhjbjgkoaaExt
import Derived.Test.YtkignmhjbjgkoaaSp12
namespace Go.Proofs.Ytkignmhjbjgkoaa
theorem diskValid_said : Rows.DiskValidSaid := diskValid_over gOk (fun x0 x1 x2 x3 h _ _ _ => diskValid_law x0 x1 x2 x3 h)
#print axioms diskValid_said
end Go.Proofs.Ytkignmhjbjgkoaa
