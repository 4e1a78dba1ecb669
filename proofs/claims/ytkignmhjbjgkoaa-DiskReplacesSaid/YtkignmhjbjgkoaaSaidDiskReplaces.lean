/- Proved: a synchronized file that was renamed to another name is there after a loss of power, with its data or a beginning of the old ones. -/
import Derived.Test.YtkignmhjbjgkoaaRowDiskReplaces
import Derived.Test.YtkignmhjbjgkoaaExt
import Derived.Test.YtkignmhjbjgkoaaSp12
namespace Go.Proofs.Ytkignmhjbjgkoaa
theorem diskReplaces_said : Rows.DiskReplacesSaid := diskReplaces_over gOk (fun x0 x1 x2 x3 h _ _ _ => diskReplaces_law x0 x1 x2 x3 h)
#print axioms diskReplaces_said
end Go.Proofs.Ytkignmhjbjgkoaa
