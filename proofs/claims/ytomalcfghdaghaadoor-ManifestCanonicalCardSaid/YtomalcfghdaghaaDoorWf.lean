/- PRINTED: what is known of handed values. -/
import Derived.Test.YtomalcfghdaghaaDoorAmW
import Derived.Test.YtomalcfghdaghaaDoorTy
set_option linter.unusedVariables false
set_option maxRecDepth 100000
set_option maxHeartbeats 0
namespace Go.Proofs.YtomalcfghdaghaaDoor
open Go Go.AM
def wfGBlockRef (x : GBlockRef) : Prop := (wfInt .i64) x.Id ∧ (wfInt .i64) x.Width ∧ wfStr x.File ∧ (wfInt .i64) x.MinTime ∧ (wfInt .i64) x.MaxTime ∧ (wfInt .i64) x.Size ∧ True
def wfGManifest (x : GManifest) : Prop := (wfInt .i64) x.Version ∧ (wfInt .i64) x.Next ∧ (wfInt .i64) x.RawFrom ∧ wfStr x.Log ∧ (wfL wfGBlockRef) x.Blocks ∧ True
end Go.Proofs.YtomalcfghdaghaaDoor
