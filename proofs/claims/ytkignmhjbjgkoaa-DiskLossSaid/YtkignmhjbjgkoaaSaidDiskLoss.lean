/- Proved: after a loss of power each file holds at least the synchronized bytes of an inode, and is a beginning of its data. -/
import Derived.Test.YtkignmhjbjgkoaaRowDiskLoss
import Derived.Test.YtkignmhjbjgkoaaExt
import Derived.Test.YtkignmhjbjgkoaaSp13
namespace Go.Proofs.Ytkignmhjbjgkoaa
theorem diskLoss_said : Rows.DiskLossSaid := diskLoss_over gOk (fun x0 x1 h _ => diskLoss_law x0 x1)
#print axioms diskLoss_said
end Go.Proofs.Ytkignmhjbjgkoaa
