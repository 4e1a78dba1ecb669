/-
  DERIVED. GIVEN WITH THE SEED: THE CARDS: each row of YtomalcfghdaghaaGreatDoorRows.lean that lists a variable, with what it lists TIED to the program's text (the seventh form; the later family's looks); each row that meets fmt, with fmt's text TOLD by the authors' own Lean function (tested against real Go, not proved from fmt's source: count such statements apart). THE CARD IS WHAT COUNTS. Prove the row's statement (the work); the ties are given (YtomalcfghdaghaaGreatDoorTie.lean); close each card by the builder's one call (the guide's Derived/Test/ToyasCard.lean, 'card_holds'). Laid BY PROGRAM, IN A SANDBOX (cutbox-door.mjs). By AI agents, Wed Nov 11 2026. No macro, syntax, notation, axiom, sorry.
-/
import Derived.Test.YtomalcfghdaghaaGreatDoorRows
import GoSem.ClaimSeven
namespace Go.Proofs.YtomalcfghdaghaaGreatDoor
namespace Rows

/-- THE TIED CARD OF 'lookoutlaw24.ManifestRef'. -/
def manifestRefCard : Claim7 := { stood := { row := manifestRefRow, standIns := [], harness := (true, "35c9529dc64c79442c32323de7020e63673be234291b34fe85b2e35be53da279"), looks := true }, kinds := [], alts := [], laidByText := true, laidKinds := [.data, .data, .data, .data, .sentinel, .sentinel, .pinned], laidTests := true, laidLooks := .later }
def ManifestRefCardSaid : Prop := Claim7.holds Tryz.pinned (.plain (OpenSpec.ofChange manifestRefSpec)) manifestRefCard

/-- THE TIED CARD OF 'lookoutlaw24.ManifestDescribes'. -/
def manifestDescribesCard : Claim7 := { stood := { row := manifestDescribesRow, standIns := [], harness := (true, "35c9529dc64c79442c32323de7020e63673be234291b34fe85b2e35be53da279"), looks := true }, kinds := [], alts := [], laidByText := true, laidKinds := [.data, .data, .data, .data, .sentinel, .sentinel, .pinned], laidTests := true, laidLooks := .later }
def ManifestDescribesCardSaid : Prop := Claim7.holds Tryz.pinned (.plain (OpenSpec.ofChange manifestDescribesSpec)) manifestDescribesCard

/-- THE TIED CARD OF 'lookoutlaw24.ManifestGarbage'. -/
def manifestGarbageCard : Claim7 := { stood := { row := manifestGarbageRow, standIns := [], harness := (true, "35c9529dc64c79442c32323de7020e63673be234291b34fe85b2e35be53da279"), looks := true }, kinds := [], alts := [], laidByText := true, laidKinds := [.data, .data, .data, .data, .sentinel, .sentinel, .pinned], laidTests := true, laidLooks := .later }
def ManifestGarbageCardSaid : Prop := Claim7.holds Tryz.pinned (.plain (OpenSpec.ofChange manifestGarbageSpec)) manifestGarbageCard

/-- THE TIED CARD OF 'lookoutlaw24.ManifestAtomic'. -/
def manifestAtomicCard : Claim7 := { stood := { row := manifestAtomicRow, standIns := [], harness := (true, "35c9529dc64c79442c32323de7020e63673be234291b34fe85b2e35be53da279"), looks := true }, kinds := [], alts := [], laidByText := true, laidKinds := [.data, .data, .data, .data, .sentinel, .sentinel, .pinned], laidTests := true, laidLooks := .later }
def ManifestAtomicCardSaid : Prop := Claim7.holds Tryz.pinned (.plain (OpenSpec.ofChange manifestAtomicSpec)) manifestAtomicCard

/-- THE TIED CARD OF 'lookoutlaw24.ManifestAgain'. -/
def manifestAgainCard : Claim7 := { stood := { row := manifestAgainRow, standIns := [], harness := (true, "35c9529dc64c79442c32323de7020e63673be234291b34fe85b2e35be53da279"), looks := true }, kinds := [], alts := [], laidByText := true, laidKinds := [.data, .data, .data, .data, .sentinel, .sentinel, .pinned], laidTests := true, laidLooks := .later }
def ManifestAgainCardSaid : Prop := Claim7.holds Tryz.pinned (.plain (OpenSpec.ofChange manifestAgainSpec)) manifestAgainCard

/-- THE TIED CARD OF 'lookoutlaw24.ManifestSave'. -/
def manifestSaveCard : Claim7 := { stood := { row := manifestSaveRow, standIns := [], harness := (true, "35c9529dc64c79442c32323de7020e63673be234291b34fe85b2e35be53da279"), looks := true }, kinds := [], alts := [], laidByText := true, laidKinds := [.data, .data, .data, .data, .sentinel, .sentinel, .pinned], laidTests := true, laidLooks := .later }
def ManifestSaveCardSaid : Prop := Claim7.holds Tryz.pinned (.plain (OpenSpec.ofChange manifestSaveSpec)) manifestSaveCard

/-- THE SECOND FORM's CARD OF 'lookoutlaw24.ManifestRef'. -/
def manifestRefUptoCard : Claim7 := { stood := { row := manifestRefUptoRow, standIns := [], harness := (true, "35c9529dc64c79442c32323de7020e63673be234291b34fe85b2e35be53da279"), looks := true }, kinds := [], alts := [], laidByText := true, laidKinds := [.data, .data, .data, .data, .sentinel, .sentinel, .pinned], laidTests := true, laidLooks := .later }
def ManifestRefUptoCardSaid : Prop := Claim7.holds Tryz.pinned (.plain (OpenSpec.upto manifestRefSpec)) manifestRefUptoCard

/-- THE SECOND FORM's CARD OF 'lookoutlaw24.ManifestDescribes'. -/
def manifestDescribesUptoCard : Claim7 := { stood := { row := manifestDescribesUptoRow, standIns := [], harness := (true, "35c9529dc64c79442c32323de7020e63673be234291b34fe85b2e35be53da279"), looks := true }, kinds := [], alts := [], laidByText := true, laidKinds := [.data, .data, .data, .data, .sentinel, .sentinel, .pinned], laidTests := true, laidLooks := .later }
def ManifestDescribesUptoCardSaid : Prop := Claim7.holds Tryz.pinned (.plain (OpenSpec.upto manifestDescribesSpec)) manifestDescribesUptoCard

/-- THE SECOND FORM's CARD OF 'lookoutlaw24.ManifestGarbage'. -/
def manifestGarbageUptoCard : Claim7 := { stood := { row := manifestGarbageUptoRow, standIns := [], harness := (true, "35c9529dc64c79442c32323de7020e63673be234291b34fe85b2e35be53da279"), looks := true }, kinds := [], alts := [], laidByText := true, laidKinds := [.data, .data, .data, .data, .sentinel, .sentinel, .pinned], laidTests := true, laidLooks := .later }
def ManifestGarbageUptoCardSaid : Prop := Claim7.holds Tryz.pinned (.plain (OpenSpec.upto manifestGarbageSpec)) manifestGarbageUptoCard

/-- THE SECOND FORM's CARD OF 'lookoutlaw24.ManifestAtomic'. -/
def manifestAtomicUptoCard : Claim7 := { stood := { row := manifestAtomicUptoRow, standIns := [], harness := (true, "35c9529dc64c79442c32323de7020e63673be234291b34fe85b2e35be53da279"), looks := true }, kinds := [], alts := [], laidByText := true, laidKinds := [.data, .data, .data, .data, .sentinel, .sentinel, .pinned], laidTests := true, laidLooks := .later }
def ManifestAtomicUptoCardSaid : Prop := Claim7.holds Tryz.pinned (.plain (OpenSpec.upto manifestAtomicSpec)) manifestAtomicUptoCard

/-- THE SECOND FORM's CARD OF 'lookoutlaw24.ManifestAgain'. -/
def manifestAgainUptoCard : Claim7 := { stood := { row := manifestAgainUptoRow, standIns := [], harness := (true, "35c9529dc64c79442c32323de7020e63673be234291b34fe85b2e35be53da279"), looks := true }, kinds := [], alts := [], laidByText := true, laidKinds := [.data, .data, .data, .data, .sentinel, .sentinel, .pinned], laidTests := true, laidLooks := .later }
def ManifestAgainUptoCardSaid : Prop := Claim7.holds Tryz.pinned (.plain (OpenSpec.upto manifestAgainSpec)) manifestAgainUptoCard

/-- THE SECOND FORM's CARD OF 'lookoutlaw24.ManifestSave'. -/
def manifestSaveUptoCard : Claim7 := { stood := { row := manifestSaveUptoRow, standIns := [], harness := (true, "35c9529dc64c79442c32323de7020e63673be234291b34fe85b2e35be53da279"), looks := true }, kinds := [], alts := [], laidByText := true, laidKinds := [.data, .data, .data, .data, .sentinel, .sentinel, .pinned], laidTests := true, laidLooks := .later }
def ManifestSaveUptoCardSaid : Prop := Claim7.holds Tryz.pinned (.plain (OpenSpec.upto manifestSaveSpec)) manifestSaveUptoCard
end Rows
end Go.Proofs.YtomalcfghdaghaaGreatDoor
