/- Proved: after any acts, a log that is opened again has at least the records that were appended with OK, in order, behind them at most a beginning of what was to be appended when power was lost, and another file is unchanged. -/
import Derived.Test.YtkignmhjbjgkoaaGreatRowWalRun
import Derived.Test.YtkignmhjbjgkoaaGreatExtSB
import Derived.Test.YtkignmhjbjgkoaaGreatSr4
namespace Go.Proofs.YtkignmhjbjgkoaaGreat
theorem wf_u8 {x : Int} (h : AM.wfInt .u8 x) : 0 ≤ x ∧ x < 256 := by
  simp only [AM.wfInt, Lit.wf, Bool.and_eq_true, decide_eq_true_eq] at h
  have e1 : IntKind.u8.min = 0 := rfl
  have e2 : IntKind.u8.max = 255 := rfl
  omega
theorem walRun_said : Rows.WalRunSaid := walRun_over gOk (fun p q h h2 => walRun_law p q h.1 (fun a ha => wf_u8 (h.2 a ha).2.2.1))
end Go.Proofs.YtkignmhjbjgkoaaGreat
