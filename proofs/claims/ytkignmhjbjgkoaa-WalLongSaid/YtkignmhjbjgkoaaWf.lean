/- PRINTED: what is known of handed values. -/
import Derived.Test.YtkignmhjbjgkoaaAmW
import Derived.Test.YtkignmhjbjgkoaaTy
set_option linter.unusedVariables false
set_option maxRecDepth 100000
set_option maxHeartbeats 0
namespace Go.Proofs.Ytkignmhjbjgkoaa
open Go Go.AM
def wfGInode (x : GInode) : Prop := wfStr x.Data ∧ (wfInt .i64) x.Synced ∧ True
def wfGDirEntry (x : GDirEntry) : Prop := wfStr x.Name ∧ (wfInt .i64) x.Inode ∧ True
def wfGDirOp (x : GDirOp) : Prop := (wfInt .i64) x.Kind ∧ wfStr x.Name ∧ wfStr x.To ∧ (wfInt .i64) x.Inode ∧ True
def wfGDisk (x : GDisk) : Prop := (wfL wfGInode) x.Inodes ∧ (wfL wfGDirEntry) x.Durable ∧ (wfL wfGDirOp) x.Pending ∧ (wfInt .i64) x.Left ∧ True
def wfGWal (x : GWal) : Prop := wfGDisk x.Disk ∧ wfStr x.Name ∧ (wfInt .i64) x.Size ∧ (wfL wfStr) x.Records ∧ True
end Go.Proofs.Ytkignmhjbjgkoaa
