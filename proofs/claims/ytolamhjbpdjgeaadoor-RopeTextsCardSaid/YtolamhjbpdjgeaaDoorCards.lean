/-
  DERIVED. GIVEN WITH THE SEED: THE CARDS: each row of YtolamhjbpdjgeaaDoorRows.lean that lists a variable, with what it lists TIED to the program's text (the seventh form; the later family's looks); each row that meets fmt, with fmt's text TOLD by the authors' own Lean function (tested against real Go, not proved from fmt's source: count such statements apart). THE CARD IS WHAT COUNTS. Prove the row's statement (the work); the ties are given (YtolamhjbpdjgeaaDoorTie.lean); close each card by the builder's one call (the guide's Derived/Test/ToyasCard.lean, 'card_holds'). Laid BY PROGRAM, IN A SANDBOX (cutbox-door.mjs). By AI agents, Wed Nov 11 2026. No macro, syntax, notation, axiom, sorry.
-/
import Derived.Test.YtolamhjbpdjgeaaDoorRows
import GoSem.ClaimSeven
namespace Go.Proofs.YtolamhjbpdjgeaaDoor
namespace Rows

/-- THE TIED CARD OF 'steeplejacklaw04.RopeTexts'. -/
def ropeTextsCard : Claim7 := { stood := { row := ropeTextsRow, standIns := [], harness := (true, "bb5c87e74e0072928c2d4cb4dbfe5148d319fd5055f31c1df375a6d008b39d7b"), looks := true }, kinds := [], alts := [], laidByText := true, laidKinds := [.data, .data, .data, .sentinel, .sentinel], laidTests := true, laidLooks := .later }
def RopeTextsCardSaid : Prop := Claim7.holds Tryd.pinned (.plain (OpenSpec.ofChange ropeTextsSpec)) ropeTextsCard

/-- THE SECOND FORM's CARD OF 'steeplejacklaw04.RopeTexts'. -/
def ropeTextsUptoCard : Claim7 := { stood := { row := ropeTextsUptoRow, standIns := [], harness := (true, "bb5c87e74e0072928c2d4cb4dbfe5148d319fd5055f31c1df375a6d008b39d7b"), looks := true }, kinds := [], alts := [], laidByText := true, laidKinds := [.data, .data, .data, .sentinel, .sentinel], laidTests := true, laidLooks := .later }
def RopeTextsUptoCardSaid : Prop := Claim7.holds Tryd.pinned (.plain (OpenSpec.upto ropeTextsSpec)) ropeTextsUptoCard
end Rows
end Go.Proofs.YtolamhjbpdjgeaaDoor
