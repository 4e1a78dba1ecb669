/- The statement: the row, then the tied card. -/
import Derived.Test.YtomalcfghdaghaaDoorRowManifestEncode
import Derived.Test.YtomalcfghdaghaaDoorMn8
import Derived.Test.YtomalcfghdaghaaDoorCards
import Derived.Test.YtomalcfghdaghaaDoorTie
import Derived.SevenTiedAt
set_option linter.unusedVariables false
set_option maxRecDepth 100000
namespace Go.Proofs.YtomalcfghdaghaaDoor
open Go
theorem manifestEncode_row : Rows.ManifestEncodeSaid := manifestEncode_over fun x0 x1 h0 _ => encode_law x0 x1 h0
/-- The tied card of the law. -/
theorem manifestEncode_said : Rows.ManifestEncodeCardSaid :=
  Claim7.holds_tied_plain_at .later [] [.data, .data, .data, .data, .sentinel, .sentinel, .pinned] true (true, "be9338b7d6576616a66e246de25ea92bf9a90279c87ffa6ff2e37203bd688166") true
    manifestEncode_row (fun _ h => by cases h) (by kernel_rfl) (fun _ h => by cases h) manifestEncode_row_tie rfl ⟨rfl, rfl⟩ (by kernel_rfl) rfl
    (fun f fn hf hfn => by
      obtain rfl : f = 3 := (Option.some.inj ((show Tryd.prog.funcNamed "lookout/lookoutlaw24.ManifestEncode" = some 3 by kernel_rfl).symm.trans hf)).symm
      obtain rfl : fn = Tryd.f3 := (Option.some.inj (Tryd.func3.symm.trans hfn)).symm
      refine ⟨by kernel_rfl, fun j t ht => ?_⟩
      have hall : (Tryd.f3.params.all fun t => !Tryd.prog.wantsStandIn t) = true := by kernel_rfl
      have := Array.all_eq_true_iff_forall_mem.1 hall t (Array.mem_of_getElem? ht)
      have h2 : Tryd.prog.wantsStandIn t = false := by simpa using this
      exact h2)
    (by kernel_rfl)
end Go.Proofs.YtomalcfghdaghaaDoor
