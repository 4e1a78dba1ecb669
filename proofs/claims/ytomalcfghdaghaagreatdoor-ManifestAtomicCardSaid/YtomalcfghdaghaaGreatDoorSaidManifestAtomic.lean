/- The statement: the row, then the tied card. -/
import Derived.Test.YtomalcfghdaghaaGreatDoorRowManifestAtomic
import Derived.Test.YtomalcfghdaghaaGreatDoorMa5
import Derived.Test.YtomalcfghdaghaaGreatDoorCards
import Derived.Test.YtomalcfghdaghaaGreatDoorTie
import Derived.SevenTiedAt
set_option linter.unusedVariables false
set_option maxRecDepth 100000
namespace Go.Proofs.YtomalcfghdaghaaGreatDoor
open Go
theorem manifestAtomic_row : Rows.ManifestAtomicSaid := manifestAtomic_over fun x0 x1 x2 x3 x4 _ _ _ h3 _ => atomic_law x0 x1 x2 x3 x4 (u8 h3)
/-- The tied card of the law. -/
theorem manifestAtomic_said : Rows.ManifestAtomicCardSaid :=
  Claim7.holds_tied_plain_at .later [] [.data, .data, .data, .data, .sentinel, .sentinel, .pinned] true (true, "35c9529dc64c79442c32323de7020e63673be234291b34fe85b2e35be53da279") true
    manifestAtomic_row (fun _ h => by cases h) (by kernel_rfl) (fun _ h => by cases h) manifestAtomic_row_tie rfl ⟨rfl, rfl⟩ (by kernel_rfl) rfl
    (fun f fn hf hfn => by
      obtain rfl : f = 6 := (Option.some.inj ((show Tryz.prog.funcNamed "lookout/lookoutlaw24.ManifestAtomic" = some 6 by kernel_rfl).symm.trans hf)).symm
      obtain rfl : fn = Tryz.f6 := (Option.some.inj (Tryz.func6.symm.trans hfn)).symm
      refine ⟨by kernel_rfl, fun j t ht => ?_⟩
      have hall : (Tryz.f6.params.all fun t => !Tryz.prog.wantsStandIn t) = true := by kernel_rfl
      have := Array.all_eq_true_iff_forall_mem.1 hall t (Array.mem_of_getElem? ht)
      have h2 : Tryz.prog.wantsStandIn t = false := by simpa using this
      exact h2)
    (by kernel_rfl)
end Go.Proofs.YtomalcfghdaghaaGreatDoor
