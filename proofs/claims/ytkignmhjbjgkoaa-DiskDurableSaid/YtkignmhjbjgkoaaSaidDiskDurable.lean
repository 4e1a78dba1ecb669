/- Proved: after all files and the directory were synchronized, a loss of power changes nothing that can be read. -/
import Derived.Test.YtkignmhjbjgkoaaRowDiskDurable
import Derived.Test.YtkignmhjbjgkoaaExt
import Derived.Test.YtkignmhjbjgkoaaSp14
namespace Go.Proofs.Ytkignmhjbjgkoaa
theorem diskDurable_said : Rows.DiskDurableSaid := diskDurable_over gOk (fun x0 x1 h _ => diskDurable_law x0 x1 h)
#print axioms diskDurable_said
end Go.Proofs.Ytkignmhjbjgkoaa
