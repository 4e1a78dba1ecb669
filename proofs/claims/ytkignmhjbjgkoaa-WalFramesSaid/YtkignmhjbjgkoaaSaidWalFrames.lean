/- Proved: Frame and Scan are the reference's. -/
import Derived.Test.YtkignmhjbjgkoaaRowWalFrames
import Derived.Test.YtkignmhjbjgkoaaExtNo
import Derived.Test.YtkignmhjbjgkoaaSq4
namespace Go.Proofs.Ytkignmhjbjgkoaa
theorem walFrames_said : Rows.WalFramesSaid := walFrames_over gOk (fun r b _ _ => walFrames_law r b)
end Go.Proofs.Ytkignmhjbjgkoaa
