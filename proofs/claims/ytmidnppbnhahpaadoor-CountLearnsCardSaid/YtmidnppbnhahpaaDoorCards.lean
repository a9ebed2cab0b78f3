/-
  DERIVED. GIVEN WITH THE SEED: THE CARDS: each row of YtmidnppbnhahpaaDoorRows.lean that lists a variable, with what it lists TIED to the program's text (the seventh form; the later family's looks); each row that meets fmt, with fmt's text TOLD by the authors' own Lean function (tested against real Go, not proved from fmt's source: count such statements apart). THE CARD IS WHAT COUNTS. Prove the row's statement (the work); the ties are given (YtmidnppbnhahpaaDoorTie.lean); close each card by the builder's one call (the guide's Derived/Test/ToyasCard.lean, 'card_holds'). Laid BY PROGRAM, IN A SANDBOX (cutbox-door.mjs). By AI agents, Wed Nov 11 2026. No macro, syntax, notation, axiom, sorry.
-/
import Derived.Test.YtmidnppbnhahpaaDoorRows
import GoSem.ClaimSeven
namespace Go.Proofs.YtmidnppbnhahpaaDoor
namespace Rows

/-- THE TIED CARD OF 'erratalaw06.CountLearns'. -/
def countLearnsCard : Claim7 := { stood := { row := countLearnsRow, standIns := [], harness := (true, "44a4108cf2c66576c534f78d36365011fa719cf8cdd7fc82b0df7e3d0d0555d3"), looks := false }, kinds := [], alts := [], laidByText := true, laidKinds := [.data, .pinned], laidTests := true, laidLooks := .later }
def CountLearnsCardSaid : Prop := Claim7.holds Tryd.pinned (.plain (OpenSpec.ofChange countLearnsSpec)) countLearnsCard

/-- THE TIED CARD OF 'erratalaw12.PriceBehind'. -/
def priceBehindCard : Claim7 := { stood := { row := priceBehindRow, standIns := [], harness := (true, "44a4108cf2c66576c534f78d36365011fa719cf8cdd7fc82b0df7e3d0d0555d3"), looks := false }, kinds := [], alts := [], laidByText := true, laidKinds := [.data, .pinned], laidTests := true, laidLooks := .later }
def PriceBehindCardSaid : Prop := Claim7.holds Tryd.pinned (.plain (OpenSpec.ofChange priceBehindSpec)) priceBehindCard

/-- THE TIED CARD OF 'erratalaw12.PricePrices'. -/
def pricePricesCard : Claim7 := { stood := { row := pricePricesRow, standIns := [], harness := (true, "44a4108cf2c66576c534f78d36365011fa719cf8cdd7fc82b0df7e3d0d0555d3"), looks := false }, kinds := [], alts := [], laidByText := true, laidKinds := [.data, .pinned], laidTests := true, laidLooks := .later }
def PricePricesCardSaid : Prop := Claim7.holds Tryd.pinned (.plain (OpenSpec.ofChange pricePricesSpec)) pricePricesCard

/-- THE TIED CARD OF 'erratalaw12.PriceWithin'. -/
def priceWithinCard : Claim7 := { stood := { row := priceWithinRow, standIns := [], harness := (true, "44a4108cf2c66576c534f78d36365011fa719cf8cdd7fc82b0df7e3d0d0555d3"), looks := false }, kinds := [], alts := [], laidByText := true, laidKinds := [.data, .pinned], laidTests := true, laidLooks := .later }
def PriceWithinCardSaid : Prop := Claim7.holds Tryd.pinned (.plain (OpenSpec.ofChange priceWithinSpec)) priceWithinCard

/-- THE TIED CARD OF 'erratalaw12.PriceParts'. -/
def pricePartsCard : Claim7 := { stood := { row := pricePartsRow, standIns := [], harness := (true, "44a4108cf2c66576c534f78d36365011fa719cf8cdd7fc82b0df7e3d0d0555d3"), looks := false }, kinds := [], alts := [], laidByText := true, laidKinds := [.data, .pinned], laidTests := true, laidLooks := .later }
def PricePartsCardSaid : Prop := Claim7.holds Tryd.pinned (.plain (OpenSpec.ofChange pricePartsSpec)) pricePartsCard

/-- THE TIED CARD OF 'erratalaw12.PriceSame'. -/
def priceSameCard : Claim7 := { stood := { row := priceSameRow, standIns := [], harness := (true, "44a4108cf2c66576c534f78d36365011fa719cf8cdd7fc82b0df7e3d0d0555d3"), looks := false }, kinds := [], alts := [], laidByText := true, laidKinds := [.data, .pinned], laidTests := true, laidLooks := .later }
def PriceSameCardSaid : Prop := Claim7.holds Tryd.pinned (.plain (OpenSpec.ofChange priceSameSpec)) priceSameCard

/-- THE TIED CARD OF 'erratalaw12.PriceSums'. -/
def priceSumsCard : Claim7 := { stood := { row := priceSumsRow, standIns := [], harness := (true, "44a4108cf2c66576c534f78d36365011fa719cf8cdd7fc82b0df7e3d0d0555d3"), looks := false }, kinds := [], alts := [], laidByText := true, laidKinds := [.data, .pinned], laidTests := true, laidLooks := .later }
def PriceSumsCardSaid : Prop := Claim7.holds Tryd.pinned (.plain (OpenSpec.ofChange priceSumsSpec)) priceSumsCard

/-- THE TIED CARD OF 'erratalaw12.PriceMore'. -/
def priceMoreCard : Claim7 := { stood := { row := priceMoreRow, standIns := [], harness := (true, "44a4108cf2c66576c534f78d36365011fa719cf8cdd7fc82b0df7e3d0d0555d3"), looks := false }, kinds := [], alts := [], laidByText := true, laidKinds := [.data, .pinned], laidTests := true, laidLooks := .later }
def PriceMoreCardSaid : Prop := Claim7.holds Tryd.pinned (.plain (OpenSpec.ofChange priceMoreSpec)) priceMoreCard

/-- THE SECOND FORM's CARD OF 'erratalaw06.CountLearns'. -/
def countLearnsUptoCard : Claim7 := { stood := { row := countLearnsUptoRow, standIns := [], harness := (true, "44a4108cf2c66576c534f78d36365011fa719cf8cdd7fc82b0df7e3d0d0555d3"), looks := false }, kinds := [], alts := [], laidByText := true, laidKinds := [.data, .pinned], laidTests := true, laidLooks := .later }
def CountLearnsUptoCardSaid : Prop := Claim7.holds Tryd.pinned (.plain (OpenSpec.upto countLearnsSpec)) countLearnsUptoCard

/-- THE SECOND FORM's CARD OF 'erratalaw12.PriceBehind'. -/
def priceBehindUptoCard : Claim7 := { stood := { row := priceBehindUptoRow, standIns := [], harness := (true, "44a4108cf2c66576c534f78d36365011fa719cf8cdd7fc82b0df7e3d0d0555d3"), looks := false }, kinds := [], alts := [], laidByText := true, laidKinds := [.data, .pinned], laidTests := true, laidLooks := .later }
def PriceBehindUptoCardSaid : Prop := Claim7.holds Tryd.pinned (.plain (OpenSpec.upto priceBehindSpec)) priceBehindUptoCard

/-- THE SECOND FORM's CARD OF 'erratalaw12.PricePrices'. -/
def pricePricesUptoCard : Claim7 := { stood := { row := pricePricesUptoRow, standIns := [], harness := (true, "44a4108cf2c66576c534f78d36365011fa719cf8cdd7fc82b0df7e3d0d0555d3"), looks := false }, kinds := [], alts := [], laidByText := true, laidKinds := [.data, .pinned], laidTests := true, laidLooks := .later }
def PricePricesUptoCardSaid : Prop := Claim7.holds Tryd.pinned (.plain (OpenSpec.upto pricePricesSpec)) pricePricesUptoCard

/-- THE SECOND FORM's CARD OF 'erratalaw12.PriceWithin'. -/
def priceWithinUptoCard : Claim7 := { stood := { row := priceWithinUptoRow, standIns := [], harness := (true, "44a4108cf2c66576c534f78d36365011fa719cf8cdd7fc82b0df7e3d0d0555d3"), looks := false }, kinds := [], alts := [], laidByText := true, laidKinds := [.data, .pinned], laidTests := true, laidLooks := .later }
def PriceWithinUptoCardSaid : Prop := Claim7.holds Tryd.pinned (.plain (OpenSpec.upto priceWithinSpec)) priceWithinUptoCard

/-- THE SECOND FORM's CARD OF 'erratalaw12.PriceParts'. -/
def pricePartsUptoCard : Claim7 := { stood := { row := pricePartsUptoRow, standIns := [], harness := (true, "44a4108cf2c66576c534f78d36365011fa719cf8cdd7fc82b0df7e3d0d0555d3"), looks := false }, kinds := [], alts := [], laidByText := true, laidKinds := [.data, .pinned], laidTests := true, laidLooks := .later }
def PricePartsUptoCardSaid : Prop := Claim7.holds Tryd.pinned (.plain (OpenSpec.upto pricePartsSpec)) pricePartsUptoCard

/-- THE SECOND FORM's CARD OF 'erratalaw12.PriceSame'. -/
def priceSameUptoCard : Claim7 := { stood := { row := priceSameUptoRow, standIns := [], harness := (true, "44a4108cf2c66576c534f78d36365011fa719cf8cdd7fc82b0df7e3d0d0555d3"), looks := false }, kinds := [], alts := [], laidByText := true, laidKinds := [.data, .pinned], laidTests := true, laidLooks := .later }
def PriceSameUptoCardSaid : Prop := Claim7.holds Tryd.pinned (.plain (OpenSpec.upto priceSameSpec)) priceSameUptoCard

/-- THE SECOND FORM's CARD OF 'erratalaw12.PriceSums'. -/
def priceSumsUptoCard : Claim7 := { stood := { row := priceSumsUptoRow, standIns := [], harness := (true, "44a4108cf2c66576c534f78d36365011fa719cf8cdd7fc82b0df7e3d0d0555d3"), looks := false }, kinds := [], alts := [], laidByText := true, laidKinds := [.data, .pinned], laidTests := true, laidLooks := .later }
def PriceSumsUptoCardSaid : Prop := Claim7.holds Tryd.pinned (.plain (OpenSpec.upto priceSumsSpec)) priceSumsUptoCard

/-- THE SECOND FORM's CARD OF 'erratalaw12.PriceMore'. -/
def priceMoreUptoCard : Claim7 := { stood := { row := priceMoreUptoRow, standIns := [], harness := (true, "44a4108cf2c66576c534f78d36365011fa719cf8cdd7fc82b0df7e3d0d0555d3"), looks := false }, kinds := [], alts := [], laidByText := true, laidKinds := [.data, .pinned], laidTests := true, laidLooks := .later }
def PriceMoreUptoCardSaid : Prop := Claim7.holds Tryd.pinned (.plain (OpenSpec.upto priceMoreSpec)) priceMoreUptoCard
end Rows
end Go.Proofs.YtmidnppbnhahpaaDoor
