/- The statement: the row, then the tied card. -/
import Derived.Test.YtomalcfghdaghaaGreatDoorRowManifestGarbage
import Derived.Test.YtomalcfghdaghaaGreatDoorMg2
import Derived.Test.YtomalcfghdaghaaGreatDoorCards
import Derived.Test.YtomalcfghdaghaaGreatDoorTie
import Derived.SevenTiedAt
set_option linter.unusedVariables false
set_option maxRecDepth 100000
namespace Go.Proofs.YtomalcfghdaghaaGreatDoor
open Go
theorem manifestGarbage_row:Rows.ManifestGarbageSaid:=manifestGarbage_over fun x0 x1 h0 h1=>garbage_law x0 x1 h0 h1
theorem manifestGarbage_said:Rows.ManifestGarbageCardSaid:=
 Claim7.holds_tied_plain_at .later [] [.data, .data, .data, .data, .sentinel, .sentinel, .pinned] true (true, "35c9529dc64c79442c32323de7020e63673be234291b34fe85b2e35be53da279") true
  manifestGarbage_row (fun _ h=>by cases h) (by kernel_rfl) (fun _ h=>by cases h) manifestGarbage_row_tie rfl ⟨rfl,rfl⟩ (by kernel_rfl) rfl
  (fun f fn hf hfn=>by
   obtain rfl : f = 5 := (Option.some.inj ((show Tryz.prog.funcNamed "lookout/lookoutlaw24.ManifestGarbage" = some 5 by kernel_rfl).symm.trans hf)).symm
   obtain rfl:fn=Tryz.f5:=(Option.some.inj (Tryz.func5.symm.trans hfn)).symm
   refine ⟨by kernel_rfl,fun j t ht=>?_⟩
   have hall:(Tryz.f5.params.all fun t=>!Tryz.prog.wantsStandIn t)=true:=by kernel_rfl
   have:=Array.all_eq_true_iff_forall_mem.1 hall t (Array.mem_of_getElem? ht)
   have h2:Tryz.prog.wantsStandIn t=false:=by simpa using this
   exact h2)
  (by kernel_rfl)
end Go.Proofs.YtomalcfghdaghaaGreatDoor
