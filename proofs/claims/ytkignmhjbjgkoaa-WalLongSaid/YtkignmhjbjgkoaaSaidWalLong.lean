/- Proved: a record of the greatest length can be appended, a longer one is ErrLimit, and records that do not fit into the file are ErrFull. -/
import Derived.Test.YtkignmhjbjgkoaaRowWalLong
import Derived.Test.YtkignmhjbjgkoaaExtSB
import Derived.Test.YtkignmhjbjgkoaaSq9
namespace Go.Proofs.Ytkignmhjbjgkoaa
theorem wf_u8 {x : Int} (h : AM.wfInt .u8 x) : 0 ≤ x ∧ x < 256 := by
  simp only [AM.wfInt, Lit.wf, Bool.and_eq_true, decide_eq_true_eq] at h
  have e1 : IntKind.u8.min = 0 := rfl
  have e2 : IntKind.u8.max = 255 := rfl
  omega
theorem walLong_said : Rows.WalLongSaid := walLong_over gOk (fun c p1 p2 h h1 h2 => walLong_law c p1 p2 (wf_u8 h) (wf_u8 h1) (wf_u8 h2))
end Go.Proofs.Ytkignmhjbjgkoaa
