/- Proved: each operation that succeeds changes the files as the chapter says, and no other file. -/
import Derived.Test.YtkignmhjbjgkoaaRowDiskFiles
import Derived.Test.YtkignmhjbjgkoaaExt
import Derived.Test.YtkignmhjbjgkoaaSp15
namespace Go.Proofs.Ytkignmhjbjgkoaa
theorem diskFiles_said : Rows.DiskFilesSaid := diskFiles_over gOk (fun x0 x1 h _ => diskFiles_law x0 x1 h)
#print axioms diskFiles_said
end Go.Proofs.Ytkignmhjbjgkoaa
