/-
  DERIVED. GIVEN WITH THE SEED: THE CARDS: each row of YthimmaffoehfaaaDoorRows.lean that lists a variable, with what it lists TIED to the program's text (the seventh form; the later family's looks); each row that meets fmt, with fmt's text TOLD by the authors' own Lean function (tested against real Go, not proved from fmt's source: count such statements apart). THE CARD IS WHAT COUNTS. Prove the row's statement (the work); the ties are given (YthimmaffoehfaaaDoorTie.lean); close each card by the builder's one call (the guide's Derived/Test/ToyasCard.lean, 'card_holds'). Laid BY PROGRAM, IN A SANDBOX (cutbox-door.mjs). By AI agents, Wed Nov 11 2026. No macro, syntax, notation, axiom, sorry.
-/
import Derived.Test.YthimmaffoehfaaaDoorRows
import GoSem.ClaimSeven
namespace Go.Proofs.YthimmaffoehfaaaDoor
namespace Rows

/-- THE TIED CARD OF 'supercargolaw34.UndertakeNames'. -/
def undertakeNamesCard : Claim7 := { stood := { row := undertakeNamesRow, standIns := [], harness := (true, "944a970414d6634a201879a1ee99dc2e1de856229f09e6b69687aca953389f17"), looks := false }, kinds := [], alts := [], laidByText := true, laidKinds := [.data], laidTests := true, laidLooks := .later }
def UndertakeNamesCardSaid : Prop := Claim7.holds Tryd.pinned (.plain (OpenSpec.ofChange undertakeNamesSpec)) undertakeNamesCard

/-- THE SECOND FORM's CARD OF 'supercargolaw34.UndertakeNames'. -/
def undertakeNamesUptoCard : Claim7 := { stood := { row := undertakeNamesUptoRow, standIns := [], harness := (true, "944a970414d6634a201879a1ee99dc2e1de856229f09e6b69687aca953389f17"), looks := false }, kinds := [], alts := [], laidByText := true, laidKinds := [.data], laidTests := true, laidLooks := .later }
def UndertakeNamesUptoCardSaid : Prop := Claim7.holds Tryd.pinned (.plain (OpenSpec.upto undertakeNamesSpec)) undertakeNamesUptoCard
end Rows
end Go.Proofs.YthimmaffoehfaaaDoor
