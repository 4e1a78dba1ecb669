/- Proved: Append and Check are the reference's. -/
import Derived.Test.YtkignmhjbjgkoaaRowWalAppend
import Derived.Test.YtkignmhjbjgkoaaExtB
import Derived.Test.YtkignmhjbjgkoaaSq7
namespace Go.Proofs.Ytkignmhjbjgkoaa
theorem walAppend_said : Rows.WalAppendSaid := walAppend_over gOk (fun w l h h2 => walAppend_law w l h.1 h.2.2.2.1.1 h2.1)
end Go.Proofs.Ytkignmhjbjgkoaa
