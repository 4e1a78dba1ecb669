/- PRINTED: what is known of handed values. -/
import Derived.Test.YtkignmhjbjgkoaaGreatAmW
import Derived.Test.YtkignmhjbjgkoaaGreatTy
set_option linter.unusedVariables false
set_option maxRecDepth 100000
set_option maxHeartbeats 0
namespace Go.Proofs.YtkignmhjbjgkoaaGreat
open Go Go.AM
def wfGlookoutlaw23_Act (x : Glookoutlaw23_Act) : Prop := (wfInt .i64) x.Kind ∧ (wfL wfStr) x.Records ∧ (wfInt .u8) x.N ∧ (wfL (wfInt .i64)) x.Picks ∧ True
def wfGInode (x : GInode) : Prop := wfStr x.Data ∧ (wfInt .i64) x.Synced ∧ True
def wfGDirEntry (x : GDirEntry) : Prop := wfStr x.Name ∧ (wfInt .i64) x.Inode ∧ True
def wfGDirOp (x : GDirOp) : Prop := (wfInt .i64) x.Kind ∧ wfStr x.Name ∧ wfStr x.To ∧ (wfInt .i64) x.Inode ∧ True
def wfGDisk (x : GDisk) : Prop := (wfL wfGInode) x.Inodes ∧ (wfL wfGDirEntry) x.Durable ∧ (wfL wfGDirOp) x.Pending ∧ (wfInt .i64) x.Left ∧ True
end Go.Proofs.YtkignmhjbjgkoaaGreat
