/- The statement: the row, then the tied card. -/
import Derived.Test.YtomalcfghdaghaaGreatDoorRowManifestSave
import Derived.Test.YtomalcfghdaghaaGreatDoorMs1
import Derived.Test.YtomalcfghdaghaaGreatDoorCards
import Derived.Test.YtomalcfghdaghaaGreatDoorTie
import Derived.SevenTiedAt
set_option linter.unusedVariables false
set_option maxRecDepth 100000
namespace Go.Proofs.YtomalcfghdaghaaGreatDoor
open Go
theorem manifestSave_row:Rows.ManifestSaveSaid:=manifestSave_over fun x0 x1 h0 h1=>save_law x0 x1 h0 h1
theorem manifestSave_said:Rows.ManifestSaveCardSaid:=
 Claim7.holds_tied_plain_at .later [] [.data, .data, .data, .data, .sentinel, .sentinel, .pinned] true (true, "35c9529dc64c79442c32323de7020e63673be234291b34fe85b2e35be53da279") true
  manifestSave_row (fun _ h=>by cases h) (by kernel_rfl) (fun _ h=>by cases h) manifestSave_row_tie rfl ⟨rfl,rfl⟩ (by kernel_rfl) rfl
  (fun f fn hf hfn=>by
   obtain rfl : f = 8 := (Option.some.inj ((show Tryz.prog.funcNamed "lookout/lookoutlaw24.ManifestSave" = some 8 by kernel_rfl).symm.trans hf)).symm
   obtain rfl:fn=Tryz.f8:=(Option.some.inj (Tryz.func8.symm.trans hfn)).symm
   refine ⟨by kernel_rfl,fun j t ht=>?_⟩
   have hall:(Tryz.f8.params.all fun t=>!Tryz.prog.wantsStandIn t)=true:=by kernel_rfl
   have:=Array.all_eq_true_iff_forall_mem.1 hall t (Array.mem_of_getElem? ht)
   have h2:Tryz.prog.wantsStandIn t=false:=by simpa using this
   exact h2)
  (by kernel_rfl)
end Go.Proofs.YtomalcfghdaghaaGreatDoor
