/-
  DERIVED. GIVEN WITH THE SEED: THE CARDS: each row of YtmionebfepkolaaGreatDoorRows.lean that lists a variable, with what it lists TIED to the program's text (the seventh form; the later family's looks); each row that meets fmt, with fmt's text TOLD by the authors' own Lean function (tested against real Go, not proved from fmt's source: count such statements apart). THE CARD IS WHAT COUNTS. Prove the row's statement (the work); the ties are given (YtmionebfepkolaaGreatDoorTie.lean); close each card by the builder's one call (the guide's Derived/Test/ToyasCard.lean, 'card_holds'). Laid BY PROGRAM, IN A SANDBOX (cutbox-door.mjs). By AI agents, Wed Nov 11 2026. No macro, syntax, notation, axiom, sorry.
-/
import Derived.Test.YtmionebfepkolaaGreatDoorRows
import GoSem.ClaimSeven
namespace Go.Proofs.YtmionebfepkolaaGreatDoor
namespace Rows

/-- THE TIED CARD OF 'steeplejacklaw09.JobTexts'. -/
def jobTextsCard : Claim7 := { stood := { row := jobTextsRow, standIns := [], harness := (true, "67f1664cdfb0315c8c24ca4077c91c1378a66df6e28fef52427e5ad7bc2dc579"), looks := true }, kinds := [], alts := [], laidByText := true, laidKinds := [.data, .data, .data, .data, .sentinel, .sentinel, .pinned], laidTests := true, laidLooks := .later }
def JobTextsCardSaid : Prop := Claim7.holds Tryz.pinned (.plain (OpenSpec.ofChange jobTextsSpec)) jobTextsCard

/-- THE SECOND FORM's CARD OF 'steeplejacklaw09.JobTexts'. -/
def jobTextsUptoCard : Claim7 := { stood := { row := jobTextsUptoRow, standIns := [], harness := (true, "67f1664cdfb0315c8c24ca4077c91c1378a66df6e28fef52427e5ad7bc2dc579"), looks := true }, kinds := [], alts := [], laidByText := true, laidKinds := [.data, .data, .data, .data, .sentinel, .sentinel, .pinned], laidTests := true, laidLooks := .later }
def JobTextsUptoCardSaid : Prop := Claim7.holds Tryz.pinned (.plain (OpenSpec.upto jobTextsSpec)) jobTextsUptoCard
end Rows
end Go.Proofs.YtmionebfepkolaaGreatDoor
