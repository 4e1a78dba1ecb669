/- Proved: a new disk, after any operations, is the reference's. -/
import Derived.Test.YtkignmhjbjgkoaaRowDiskRun
import Derived.Test.YtkignmhjbjgkoaaExt
import Derived.Test.YtkignmhjbjgkoaaSp10
namespace Go.Proofs.Ytkignmhjbjgkoaa
theorem diskRun_said : Rows.DiskRunSaid := diskRun_over gOk (fun x0 _ => diskRun_law x0)
#print axioms diskRun_said
end Go.Proofs.Ytkignmhjbjgkoaa
