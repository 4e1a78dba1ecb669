/- The statement: the row, then the tied card. -/
import Derived.Test.YtomalcfghdaghaaDoorRowManifestCanonical
import Derived.Test.YtomalcfghdaghaaDoorMn8
import Derived.Test.YtomalcfghdaghaaDoorCards
import Derived.Test.YtomalcfghdaghaaDoorTie
import Derived.SevenTiedAt
set_option linter.unusedVariables false
set_option maxRecDepth 100000
namespace Go.Proofs.YtomalcfghdaghaaDoor
open Go
theorem manifestCanonical_row : Rows.ManifestCanonicalSaid := manifestCanonical_over fun x0 x1 h0 _ => canonical_law x0 x1 h0
/-- The tied card of the law. -/
theorem manifestCanonical_said : Rows.ManifestCanonicalCardSaid :=
  Claim7.holds_tied_plain_at .later [] [.data, .data, .data, .data, .sentinel, .sentinel, .pinned] true (true, "be9338b7d6576616a66e246de25ea92bf9a90279c87ffa6ff2e37203bd688166") true
    manifestCanonical_row (fun _ h => by cases h) (by kernel_rfl) (fun _ h => by cases h) manifestCanonical_row_tie rfl ⟨rfl, rfl⟩ (by kernel_rfl) rfl
    (fun f fn hf hfn => by
      obtain rfl : f = 4 := (Option.some.inj ((show Tryd.prog.funcNamed "lookout/lookoutlaw24.ManifestCanonical" = some 4 by kernel_rfl).symm.trans hf)).symm
      obtain rfl : fn = Tryd.f4 := (Option.some.inj (Tryd.func4.symm.trans hfn)).symm
      refine ⟨by kernel_rfl, fun j t ht => ?_⟩
      have hall : (Tryd.f4.params.all fun t => !Tryd.prog.wantsStandIn t) = true := by kernel_rfl
      have := Array.all_eq_true_iff_forall_mem.1 hall t (Array.mem_of_getElem? ht)
      have h2 : Tryd.prog.wantsStandIn t = false := by simpa using this
      exact h2)
    (by kernel_rfl)
end Go.Proofs.YtomalcfghdaghaaDoor
