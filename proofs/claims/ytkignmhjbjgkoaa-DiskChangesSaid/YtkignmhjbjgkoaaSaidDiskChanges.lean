/- Proved: for every disk and act, what the program's operations return is what the reference returns. -/
import Derived.Test.YtkignmhjbjgkoaaRowDiskChanges
import Derived.Test.YtkignmhjbjgkoaaExt
import Derived.Test.YtkignmhjbjgkoaaSp10
namespace Go.Proofs.Ytkignmhjbjgkoaa
theorem diskChanges_said : Rows.DiskChangesSaid := diskChanges_over gOk (fun x0 x1 h _ => diskChanges_law x0 x1 h)
#print axioms diskChanges_said
end Go.Proofs.Ytkignmhjbjgkoaa
