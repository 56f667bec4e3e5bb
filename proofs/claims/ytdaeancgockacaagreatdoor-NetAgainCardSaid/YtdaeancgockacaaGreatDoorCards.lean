/-
  DERIVED. GIVEN WITH THE SEED: THE CARDS: each row of YtdaeancgockacaaGreatDoorRows.lean that lists a variable, with what it lists TIED to the program's text (the seventh form; the later family's looks); each row that meets fmt, with fmt's text TOLD by the authors' own Lean function (tested against real Go, not proved from fmt's source: count such statements apart). THE CARD IS WHAT COUNTS. Prove the row's statement (the work); the ties are given (YtdaeancgockacaaGreatDoorTie.lean); close each card by the builder's one call (the guide's Derived/Test/ToyasCard.lean, 'card_holds'). Laid BY PROGRAM, IN A SANDBOX (cutbox-door.mjs). By AI agents, Wed Nov 11 2026. No macro, syntax, notation, axiom, sorry.
-/
import Derived.Test.YtdaeancgockacaaGreatDoorRows
import GoSem.ClaimSeven
namespace Go.Proofs.YtdaeancgockacaaGreatDoor
namespace Rows

/-- THE TIED CARD OF 'shuntlaw08.NetChecks'. -/
def netChecksCard : Claim7 := { stood := { row := netChecksRow, standIns := [], harness := (true, "fe423721b29cd4d41d0adcf5f601c4ae281f8d322f5c0f7049f21837f7155d3f"), looks := true }, kinds := [], alts := [], laidByText := true, laidKinds := [.data, .data, .data, .data, .sentinel, .sentinel, .pinned, .pinned], laidTests := true, laidLooks := .later }
def NetChecksCardSaid : Prop := Claim7.holds Tryz.pinned (.plain (OpenSpec.ofChange netChecksSpec)) netChecksCard

/-- THE TIED CARD OF 'shuntlaw08.NetBack'. -/
def netBackCard : Claim7 := { stood := { row := netBackRow, standIns := [], harness := (true, "fe423721b29cd4d41d0adcf5f601c4ae281f8d322f5c0f7049f21837f7155d3f"), looks := true }, kinds := [], alts := [], laidByText := true, laidKinds := [.data, .data, .data, .data, .sentinel, .sentinel, .pinned, .pinned], laidTests := true, laidLooks := .later }
def NetBackCardSaid : Prop := Claim7.holds Tryz.pinned (.plain (OpenSpec.ofChange netBackSpec)) netBackCard

/-- THE TIED CARD OF 'shuntlaw08.NetAgain'. -/
def netAgainCard : Claim7 := { stood := { row := netAgainRow, standIns := [], harness := (true, "fe423721b29cd4d41d0adcf5f601c4ae281f8d322f5c0f7049f21837f7155d3f"), looks := true }, kinds := [], alts := [], laidByText := true, laidKinds := [.data, .data, .data, .data, .sentinel, .sentinel, .pinned, .pinned], laidTests := true, laidLooks := .later }
def NetAgainCardSaid : Prop := Claim7.holds Tryz.pinned (.plain (OpenSpec.ofChange netAgainSpec)) netAgainCard

/-- THE TIED CARD OF 'shuntlaw08.NetGrows'. -/
def netGrowsCard : Claim7 := { stood := { row := netGrowsRow, standIns := [], harness := (true, "fe423721b29cd4d41d0adcf5f601c4ae281f8d322f5c0f7049f21837f7155d3f"), looks := true }, kinds := [], alts := [], laidByText := true, laidKinds := [.data, .data, .data, .data, .sentinel, .sentinel, .pinned, .pinned], laidTests := true, laidLooks := .later }
def NetGrowsCardSaid : Prop := Claim7.holds Tryz.pinned (.plain (OpenSpec.ofChange netGrowsSpec)) netGrowsCard

/-- THE TIED CARD OF 'shuntlaw08.NetPlaces'. -/
def netPlacesCard : Claim7 := { stood := { row := netPlacesRow, standIns := [], harness := (true, "fe423721b29cd4d41d0adcf5f601c4ae281f8d322f5c0f7049f21837f7155d3f"), looks := true }, kinds := [], alts := [], laidByText := true, laidKinds := [.data, .data, .data, .data, .sentinel, .sentinel, .pinned, .pinned], laidTests := true, laidLooks := .later }
def NetPlacesCardSaid : Prop := Claim7.holds Tryz.pinned (.plain (OpenSpec.ofChange netPlacesSpec)) netPlacesCard

/-- THE SECOND FORM's CARD OF 'shuntlaw08.NetChecks'. -/
def netChecksUptoCard : Claim7 := { stood := { row := netChecksUptoRow, standIns := [], harness := (true, "fe423721b29cd4d41d0adcf5f601c4ae281f8d322f5c0f7049f21837f7155d3f"), looks := true }, kinds := [], alts := [], laidByText := true, laidKinds := [.data, .data, .data, .data, .sentinel, .sentinel, .pinned, .pinned], laidTests := true, laidLooks := .later }
def NetChecksUptoCardSaid : Prop := Claim7.holds Tryz.pinned (.plain (OpenSpec.upto netChecksSpec)) netChecksUptoCard

/-- THE SECOND FORM's CARD OF 'shuntlaw08.NetBack'. -/
def netBackUptoCard : Claim7 := { stood := { row := netBackUptoRow, standIns := [], harness := (true, "fe423721b29cd4d41d0adcf5f601c4ae281f8d322f5c0f7049f21837f7155d3f"), looks := true }, kinds := [], alts := [], laidByText := true, laidKinds := [.data, .data, .data, .data, .sentinel, .sentinel, .pinned, .pinned], laidTests := true, laidLooks := .later }
def NetBackUptoCardSaid : Prop := Claim7.holds Tryz.pinned (.plain (OpenSpec.upto netBackSpec)) netBackUptoCard

/-- THE SECOND FORM's CARD OF 'shuntlaw08.NetAgain'. -/
def netAgainUptoCard : Claim7 := { stood := { row := netAgainUptoRow, standIns := [], harness := (true, "fe423721b29cd4d41d0adcf5f601c4ae281f8d322f5c0f7049f21837f7155d3f"), looks := true }, kinds := [], alts := [], laidByText := true, laidKinds := [.data, .data, .data, .data, .sentinel, .sentinel, .pinned, .pinned], laidTests := true, laidLooks := .later }
def NetAgainUptoCardSaid : Prop := Claim7.holds Tryz.pinned (.plain (OpenSpec.upto netAgainSpec)) netAgainUptoCard

/-- THE SECOND FORM's CARD OF 'shuntlaw08.NetGrows'. -/
def netGrowsUptoCard : Claim7 := { stood := { row := netGrowsUptoRow, standIns := [], harness := (true, "fe423721b29cd4d41d0adcf5f601c4ae281f8d322f5c0f7049f21837f7155d3f"), looks := true }, kinds := [], alts := [], laidByText := true, laidKinds := [.data, .data, .data, .data, .sentinel, .sentinel, .pinned, .pinned], laidTests := true, laidLooks := .later }
def NetGrowsUptoCardSaid : Prop := Claim7.holds Tryz.pinned (.plain (OpenSpec.upto netGrowsSpec)) netGrowsUptoCard

/-- THE SECOND FORM's CARD OF 'shuntlaw08.NetPlaces'. -/
def netPlacesUptoCard : Claim7 := { stood := { row := netPlacesUptoRow, standIns := [], harness := (true, "fe423721b29cd4d41d0adcf5f601c4ae281f8d322f5c0f7049f21837f7155d3f"), looks := true }, kinds := [], alts := [], laidByText := true, laidKinds := [.data, .data, .data, .data, .sentinel, .sentinel, .pinned, .pinned], laidTests := true, laidLooks := .later }
def NetPlacesUptoCardSaid : Prop := Claim7.holds Tryz.pinned (.plain (OpenSpec.upto netPlacesSpec)) netPlacesUptoCard
end Rows
end Go.Proofs.YtdaeancgockacaaGreatDoor
