/- Proved: for every disk and list of acts the law DiskPower (P22.6) returns true; there is no condition. -/
import Derived.Test.YtkignmhjbjgkoaaRowDiskPower
import Derived.Test.YtkignmhjbjgkoaaExt
import Derived.Test.YtkignmhjbjgkoaaSp9
namespace Go.Proofs.Ytkignmhjbjgkoaa
theorem diskPower_said : Rows.DiskPowerSaid := diskPower_over gOk (fun x0 x1 h _ => diskPower_law x0 x1 h)
#print axioms diskPower_said
end Go.Proofs.Ytkignmhjbjgkoaa
