/-
  DERIVED. GIVEN WITH THE SEED: THE CARDS: each row of YtomalcfghdaghaaDoorRows.lean that lists a variable, with what it lists TIED to the program's text (the seventh form; the later family's looks); each row that meets fmt, with fmt's text TOLD by the authors' own Lean function (tested against real Go, not proved from fmt's source: count such statements apart). THE CARD IS WHAT COUNTS. Prove the row's statement (the work); the ties are given (YtomalcfghdaghaaDoorTie.lean); close each card by the builder's one call (the guide's Derived/Test/ToyasCard.lean, 'card_holds'). Laid BY PROGRAM, IN A SANDBOX (cutbox-door.mjs). By AI agents, Wed Nov 11 2026. No macro, syntax, notation, axiom, sorry.
-/
import Derived.Test.YtomalcfghdaghaaDoorRows
import GoSem.ClaimSeven
namespace Go.Proofs.YtomalcfghdaghaaDoor
namespace Rows

/-- THE TIED CARD OF 'lookoutlaw24.ManifestEncode'. -/
def manifestEncodeCard : Claim7 := { stood := { row := manifestEncodeRow, standIns := [], harness := (true, "be9338b7d6576616a66e246de25ea92bf9a90279c87ffa6ff2e37203bd688166"), looks := true }, kinds := [], alts := [], laidByText := true, laidKinds := [.data, .data, .data, .data, .sentinel, .sentinel, .pinned], laidTests := true, laidLooks := .later }
def ManifestEncodeCardSaid : Prop := Claim7.holds Tryd.pinned (.plain (OpenSpec.ofChange manifestEncodeSpec)) manifestEncodeCard

/-- THE TIED CARD OF 'lookoutlaw24.ManifestCanonical'. -/
def manifestCanonicalCard : Claim7 := { stood := { row := manifestCanonicalRow, standIns := [], harness := (true, "be9338b7d6576616a66e246de25ea92bf9a90279c87ffa6ff2e37203bd688166"), looks := true }, kinds := [], alts := [], laidByText := true, laidKinds := [.data, .data, .data, .data, .sentinel, .sentinel, .pinned], laidTests := true, laidLooks := .later }
def ManifestCanonicalCardSaid : Prop := Claim7.holds Tryd.pinned (.plain (OpenSpec.ofChange manifestCanonicalSpec)) manifestCanonicalCard

/-- THE SECOND FORM's CARD OF 'lookoutlaw24.ManifestEncode'. -/
def manifestEncodeUptoCard : Claim7 := { stood := { row := manifestEncodeUptoRow, standIns := [], harness := (true, "be9338b7d6576616a66e246de25ea92bf9a90279c87ffa6ff2e37203bd688166"), looks := true }, kinds := [], alts := [], laidByText := true, laidKinds := [.data, .data, .data, .data, .sentinel, .sentinel, .pinned], laidTests := true, laidLooks := .later }
def ManifestEncodeUptoCardSaid : Prop := Claim7.holds Tryd.pinned (.plain (OpenSpec.upto manifestEncodeSpec)) manifestEncodeUptoCard

/-- THE SECOND FORM's CARD OF 'lookoutlaw24.ManifestCanonical'. -/
def manifestCanonicalUptoCard : Claim7 := { stood := { row := manifestCanonicalUptoRow, standIns := [], harness := (true, "be9338b7d6576616a66e246de25ea92bf9a90279c87ffa6ff2e37203bd688166"), looks := true }, kinds := [], alts := [], laidByText := true, laidKinds := [.data, .data, .data, .data, .sentinel, .sentinel, .pinned], laidTests := true, laidLooks := .later }
def ManifestCanonicalUptoCardSaid : Prop := Claim7.holds Tryd.pinned (.plain (OpenSpec.upto manifestCanonicalSpec)) manifestCanonicalUptoCard
end Rows
end Go.Proofs.YtomalcfghdaghaaDoor
