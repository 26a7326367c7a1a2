/-
  DERIVED. GIVEN WITH THE SEED: THE CARDS: each row of YtnhbbfbllkefcaaDoorRows.lean that lists a variable, with what it lists TIED to the program's text (the seventh form; the later family's looks); each row that meets fmt, with fmt's text TOLD by the authors' own Lean function (tested against real Go, not proved from fmt's source: count such statements apart). THE CARD IS WHAT COUNTS. Prove the row's statement (the work); the ties are given (YtnhbbfbllkefcaaDoorTie.lean); close each card by the builder's one call (the guide's Derived/Test/ToyasCard.lean, 'card_holds'). Laid BY PROGRAM, IN A SANDBOX (cutbox-door.mjs). By AI agents, Wed Nov 11 2026. No macro, syntax, notation, axiom, sorry.
-/
import Derived.Test.YtnhbbfbllkefcaaDoorRows
import GoSem.ClaimSeven
namespace Go.Proofs.YtnhbbfbllkefcaaDoor
namespace Rows

/-- THE TIED CARD OF 'supercargolaw11.GoodsApart'. -/
def goodsApartCard : Claim7 := { stood := { row := goodsApartRow, standIns := [], harness := (true, "73a4dd3e122389d8bdf4df5e8717f172ff047d81a30278772a6cafbc5196b53e"), looks := false }, kinds := [], alts := [], laidByText := true, laidKinds := [.widerDeep], laidTests := true, laidLooks := .later }
def GoodsApartCardSaid : Prop := Claim7.holds Tryd.pinned (.plain (OpenSpec.ofChange goodsApartSpec)) goodsApartCard

/-- THE TIED CARD OF 'supercargolaw11.GoodsWeighed'. -/
def goodsWeighedCard : Claim7 := { stood := { row := goodsWeighedRow, standIns := [], harness := (true, "73a4dd3e122389d8bdf4df5e8717f172ff047d81a30278772a6cafbc5196b53e"), looks := false }, kinds := [], alts := [], laidByText := true, laidKinds := [.widerDeep], laidTests := true, laidLooks := .later }
def GoodsWeighedCardSaid : Prop := Claim7.holds Tryd.pinned (.plain (OpenSpec.ofChange goodsWeighedSpec)) goodsWeighedCard

/-- THE TIED CARD OF 'supercargolaw11.GoodsTables'. -/
def goodsTablesCard : Claim7 := { stood := { row := goodsTablesRow, standIns := [], harness := (true, "73a4dd3e122389d8bdf4df5e8717f172ff047d81a30278772a6cafbc5196b53e"), looks := false }, kinds := [], alts := [], laidByText := true, laidKinds := [.widerDeep], laidTests := true, laidLooks := .later }
def GoodsTablesCardSaid : Prop := Claim7.holds Tryd.pinned (.plain (OpenSpec.ofChange goodsTablesSpec)) goodsTablesCard

/-- THE TIED CARD OF 'supercargolaw11.GoodsParts'. -/
def goodsPartsCard : Claim7 := { stood := { row := goodsPartsRow, standIns := [], harness := (true, "73a4dd3e122389d8bdf4df5e8717f172ff047d81a30278772a6cafbc5196b53e"), looks := false }, kinds := [], alts := [], laidByText := true, laidKinds := [.widerDeep], laidTests := true, laidLooks := .later }
def GoodsPartsCardSaid : Prop := Claim7.holds Tryd.pinned (.plain (OpenSpec.ofChange goodsPartsSpec)) goodsPartsCard

/-- THE SECOND FORM's CARD OF 'supercargolaw11.GoodsApart'. -/
def goodsApartUptoCard : Claim7 := { stood := { row := goodsApartUptoRow, standIns := [], harness := (true, "73a4dd3e122389d8bdf4df5e8717f172ff047d81a30278772a6cafbc5196b53e"), looks := false }, kinds := [], alts := [], laidByText := true, laidKinds := [.widerDeep], laidTests := true, laidLooks := .later }
def GoodsApartUptoCardSaid : Prop := Claim7.holds Tryd.pinned (.plain (OpenSpec.upto goodsApartSpec)) goodsApartUptoCard

/-- THE SECOND FORM's CARD OF 'supercargolaw11.GoodsWeighed'. -/
def goodsWeighedUptoCard : Claim7 := { stood := { row := goodsWeighedUptoRow, standIns := [], harness := (true, "73a4dd3e122389d8bdf4df5e8717f172ff047d81a30278772a6cafbc5196b53e"), looks := false }, kinds := [], alts := [], laidByText := true, laidKinds := [.widerDeep], laidTests := true, laidLooks := .later }
def GoodsWeighedUptoCardSaid : Prop := Claim7.holds Tryd.pinned (.plain (OpenSpec.upto goodsWeighedSpec)) goodsWeighedUptoCard

/-- THE SECOND FORM's CARD OF 'supercargolaw11.GoodsTables'. -/
def goodsTablesUptoCard : Claim7 := { stood := { row := goodsTablesUptoRow, standIns := [], harness := (true, "73a4dd3e122389d8bdf4df5e8717f172ff047d81a30278772a6cafbc5196b53e"), looks := false }, kinds := [], alts := [], laidByText := true, laidKinds := [.widerDeep], laidTests := true, laidLooks := .later }
def GoodsTablesUptoCardSaid : Prop := Claim7.holds Tryd.pinned (.plain (OpenSpec.upto goodsTablesSpec)) goodsTablesUptoCard

/-- THE SECOND FORM's CARD OF 'supercargolaw11.GoodsParts'. -/
def goodsPartsUptoCard : Claim7 := { stood := { row := goodsPartsUptoRow, standIns := [], harness := (true, "73a4dd3e122389d8bdf4df5e8717f172ff047d81a30278772a6cafbc5196b53e"), looks := false }, kinds := [], alts := [], laidByText := true, laidKinds := [.widerDeep], laidTests := true, laidLooks := .later }
def GoodsPartsUptoCardSaid : Prop := Claim7.holds Tryd.pinned (.plain (OpenSpec.upto goodsPartsSpec)) goodsPartsUptoCard
end Rows
end Go.Proofs.YtnhbbfbllkefcaaDoor
