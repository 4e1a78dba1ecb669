/- Proved: Create and Open are the reference's. -/
import Derived.Test.YtkignmhjbjgkoaaGreatRowWalOpen
import Derived.Test.YtkignmhjbjgkoaaGreatExt
import Derived.Test.YtkignmhjbjgkoaaGreatSz1
namespace Go.Proofs.YtkignmhjbjgkoaaGreat
theorem walOpen_said : Rows.WalOpenSaid := walOpen_over gOk (fun d name h _ => walOpen_law d name h)
end Go.Proofs.YtkignmhjbjgkoaaGreat
