/- PRINTED: what is known of handed values. -/
import Derived.Test.YtomalcfghdaghaaGreatDoorAmW
import Derived.Test.YtomalcfghdaghaaGreatDoorTy
set_option linter.unusedVariables false
set_option maxRecDepth 100000
set_option maxHeartbeats 0
namespace Go.Proofs.YtomalcfghdaghaaGreatDoor
open Go Go.AM
def wfGLabel (x : GLabel) : Prop := wfStr x.Name ∧ wfStr x.Value ∧ True
def wfG35 (x : G35) : Prop := (wfInt .u32) x.E0 ∧ (wfInt .u32) x.E1 ∧ (wfInt .u32) x.E2 ∧ (wfInt .u32) x.E3 ∧ (wfInt .u32) x.E4 ∧ (wfInt .u32) x.E5 ∧ (wfInt .u32) x.E6 ∧ (wfInt .u32) x.E7 ∧ True
def wfGZone (x : GZone) : Prop := (wfInt .i64) x.Count ∧ (wfInt .i64) x.MinTime ∧ (wfInt .i64) x.MaxTime ∧ (wfInt .i64) x.MinValue ∧ (wfInt .i64) x.MaxValue ∧ wfG35 x.Bloom ∧ True
def wfGChunk (x : GChunk) : Prop := (wfInt .i64) x.Signal ∧ (wfL wfGLabel) x.Labels ∧ wfGZone x.Zone ∧ wfStr x.Data ∧ True
def wfGBlock (x : GBlock) : Prop := (wfInt .i64) x.Id ∧ (wfInt .i64) x.Width ∧ (wfInt .i64) x.From ∧ (wfL wfGChunk) x.Chunks ∧ True
end Go.Proofs.YtomalcfghdaghaaGreatDoor
