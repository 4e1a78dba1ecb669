/- PRINTED: what is known of handed values. -/
import Derived.Test.YtkkinfbipndfdaaAmW
import Derived.Test.YtkkinfbipndfdaaTy
set_option linter.unusedVariables false
set_option maxRecDepth 100000
set_option maxHeartbeats 0
namespace Go.Proofs.Ytkkinfbipndfdaa
open Go Go.AM
def wfG23 (x : G23) : Prop := (wfInt .u8) x.E0 ∧ (wfInt .u8) x.E1 ∧ (wfInt .u8) x.E2 ∧ (wfInt .u8) x.E3 ∧ True
end Go.Proofs.Ytkkinfbipndfdaa
