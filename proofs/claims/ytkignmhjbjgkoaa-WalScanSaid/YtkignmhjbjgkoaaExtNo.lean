/- The machine's program is the given one; no contract from outside. -/
import Derived.Test.YtkignmhjbjgkoaaPg
import Derived.Test.YtkignmhjbjgkoaaAmW
set_option linter.unusedVariables false
set_option maxRecDepth 100000
namespace Go.Proofs.Ytkignmhjbjgkoaa
open Go Go.AM
theorem u16 {x : Int} (h : wfInt .u16 x) : 0 ≤ x ∧ x < 65536 := by
  unfold wfInt Lit.wf at h
  simp [Go.IntKind.min, Go.IntKind.max, IntKind.bits, IntKind.signed] at h
  omega
theorem u8 {x : Int} (h : wfInt .u8 x) : 0 ≤ x ∧ x < 256 := by
  unfold wfInt Lit.wf at h
  simp [Go.IntKind.min, Go.IntKind.max, IntKind.bits, IntKind.signed] at h
  omega
theorem gOk : ProgOk Try.checked.prog G := by
  refine ⟨tOk, fun f fn h => ?_, fun f args H r H' h => h.elim, fun f args H r H' h => h.elim, Checked.mixed _, of_decide_eq_true (by kernel_rfl)⟩
  have h : fnOf f = some fn := h
  unfold fnOf at h
  split at h
  · split at h
    · rename_i F hF
      cases hn : F.name == "runtime.NumGoroutine" with
      | true => rw [hn] at h; cases h
      | false => rw [hn] at h; exact funOf_ok hF hn h
    · cases h
  · cases h
end Go.Proofs.Ytkignmhjbjgkoaa
