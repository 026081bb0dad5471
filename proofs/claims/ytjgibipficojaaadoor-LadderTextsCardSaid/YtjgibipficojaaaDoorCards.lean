/-
  DERIVED. GIVEN WITH THE SEED: THE CARDS: each row of YtjgibipficojaaaDoorRows.lean that lists a variable, with what it lists TIED to the program's text (the seventh form; the later family's looks); each row that meets fmt, with fmt's text TOLD by the authors' own Lean function (tested against real Go, not proved from fmt's source: count such statements apart). THE CARD IS WHAT COUNTS. Prove the row's statement (the work); the ties are given (YtjgibipficojaaaDoorTie.lean); close each card by the builder's one call (the guide's Derived/Test/ToyasCard.lean, 'card_holds'). Laid BY PROGRAM, IN A SANDBOX (cutbox-door.mjs). By AI agents, Wed Nov 11 2026. No macro, syntax, notation, axiom, sorry.
-/
import Derived.Test.YtjgibipficojaaaDoorRows
import GoSem.ClaimSeven
namespace Go.Proofs.YtjgibipficojaaaDoor
namespace Rows

/-- THE TIED CARD OF 'steeplejacklaw03.LadderTexts'. -/
def ladderTextsCard : Claim7 := { stood := { row := ladderTextsRow, standIns := [], harness := (true, "34a0d170039aa7f2e0dbf71baafcce7dfdcb1ddd03459d99556493da40493e34"), looks := false }, kinds := [], alts := [], laidByText := true, laidKinds := [.data, .data, .data], laidTests := true, laidLooks := .later }
def LadderTextsCardSaid : Prop := Claim7.holds Tryd.pinned (.plain (OpenSpec.ofChange ladderTextsSpec)) ladderTextsCard

/-- THE SECOND FORM's CARD OF 'steeplejacklaw03.LadderTexts'. -/
def ladderTextsUptoCard : Claim7 := { stood := { row := ladderTextsUptoRow, standIns := [], harness := (true, "34a0d170039aa7f2e0dbf71baafcce7dfdcb1ddd03459d99556493da40493e34"), looks := false }, kinds := [], alts := [], laidByText := true, laidKinds := [.data, .data, .data], laidTests := true, laidLooks := .later }
def LadderTextsUptoCardSaid : Prop := Claim7.holds Tryd.pinned (.plain (OpenSpec.upto ladderTextsSpec)) ladderTextsUptoCard
end Rows
end Go.Proofs.YtjgibipficojaaaDoor
