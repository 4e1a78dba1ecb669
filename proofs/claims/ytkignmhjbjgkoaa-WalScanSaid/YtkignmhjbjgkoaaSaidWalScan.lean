/- Proved: what stands in frames is read. -/
import Derived.Test.YtkignmhjbjgkoaaRowWalScan
import Derived.Test.YtkignmhjbjgkoaaExtNo
import Derived.Test.YtkignmhjbjgkoaaSq4
namespace Go.Proofs.Ytkignmhjbjgkoaa
theorem walScan_said : Rows.WalScanSaid := walScan_over gOk (fun p0 p1 p2 _ _ h => walScan_law p0 p1 p2 (u16 h))
end Go.Proofs.Ytkignmhjbjgkoaa
