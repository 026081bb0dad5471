/-
  DERIVED. GIVEN WITH THE SEED: THE CARDS: each row of YthpbkbbmedpecaaDoorRows.lean that lists a variable, with what it lists TIED to the program's text (the seventh form; the later family's looks); each row that meets fmt, with fmt's text TOLD by the authors' own Lean function (tested against real Go, not proved from fmt's source: count such statements apart). THE CARD IS WHAT COUNTS. Prove the row's statement (the work); the ties are given (YthpbkbbmedpecaaDoorTie.lean); close each card by the builder's one call (the guide's Derived/Test/ToyasCard.lean, 'card_holds'). Laid BY PROGRAM, IN A SANDBOX (cutbox-door.mjs). By AI agents, Wed Nov 11 2026. No macro, syntax, notation, axiom, sorry.
-/
import Derived.Test.YthpbkbbmedpecaaDoorRows
import GoSem.ClaimSeven
namespace Go.Proofs.YthpbkbbmedpecaaDoor
namespace Rows

/-- THE TIED CARD OF 'steeplejacklaw05.TapeTexts'. -/
def tapeTextsCard : Claim7 := { stood := { row := tapeTextsRow, standIns := [], harness := (true, "bdc4426780ffda7785a6099c8f529eaf1c0fc04a500934b8f3f403741ebd1bf5"), looks := true }, kinds := [], alts := [], laidByText := true, laidKinds := [.data, .data, .data, .data, .sentinel, .sentinel, .pinned], laidTests := true, laidLooks := .later }
def TapeTextsCardSaid : Prop := Claim7.holds Tryd.pinned (.plain (OpenSpec.ofChange tapeTextsSpec)) tapeTextsCard

/-- THE SECOND FORM's CARD OF 'steeplejacklaw05.TapeTexts'. -/
def tapeTextsUptoCard : Claim7 := { stood := { row := tapeTextsUptoRow, standIns := [], harness := (true, "bdc4426780ffda7785a6099c8f529eaf1c0fc04a500934b8f3f403741ebd1bf5"), looks := true }, kinds := [], alts := [], laidByText := true, laidKinds := [.data, .data, .data, .data, .sentinel, .sentinel, .pinned], laidTests := true, laidLooks := .later }
def TapeTextsUptoCardSaid : Prop := Claim7.holds Tryd.pinned (.plain (OpenSpec.upto tapeTextsSpec)) tapeTextsUptoCard
end Rows
end Go.Proofs.YthpbkbbmedpecaaDoor
