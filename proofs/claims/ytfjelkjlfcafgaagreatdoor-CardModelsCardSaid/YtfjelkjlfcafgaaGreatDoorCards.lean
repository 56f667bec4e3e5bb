/-
  DERIVED. GIVEN WITH THE SEED: THE CARDS: each row of YtfjelkjlfcafgaaGreatDoorRows.lean that lists a variable, with what it lists TIED to the program's text (the seventh form; the later family's looks); each row that meets fmt, with fmt's text TOLD by the authors' own Lean function (tested against real Go, not proved from fmt's source: count such statements apart). THE CARD IS WHAT COUNTS. Prove the row's statement (the work); the ties are given (YtfjelkjlfcafgaaGreatDoorTie.lean); close each card by the builder's one call (the guide's Derived/Test/ToyasCard.lean, 'card_holds'). Laid BY PROGRAM, IN A SANDBOX (cutbox-door.mjs). By AI agents, Wed Nov 11 2026. No macro, syntax, notation, axiom, sorry.
-/
import Derived.Test.YtfjelkjlfcafgaaGreatDoorRows
import GoSem.ClaimSeven
namespace Go.Proofs.YtfjelkjlfcafgaaGreatDoor
namespace Rows

/-- THE TIED CARD OF 'shuntlaw03.NumReads'. -/
def numReadsCard : Claim7 := { stood := { row := numReadsRow, standIns := [], harness := (true, "f9bde861738675d048609ffe96ef65c3c868fc074a8dc75e8b039ee321dfc464"), looks := true }, kinds := [], alts := [], laidByText := true, laidKinds := [.data, .data, .data, .data, .sentinel, .sentinel, .pinned], laidTests := true, laidLooks := .later }
def NumReadsCardSaid : Prop := Claim7.holds Tryz.pinned (.plain (OpenSpec.ofChange numReadsSpec)) numReadsCard

/-- THE TIED CARD OF 'shuntlaw03.NumBack'. -/
def numBackCard : Claim7 := { stood := { row := numBackRow, standIns := [], harness := (true, "f9bde861738675d048609ffe96ef65c3c868fc074a8dc75e8b039ee321dfc464"), looks := true }, kinds := [], alts := [], laidByText := true, laidKinds := [.data, .data, .data, .data, .sentinel, .sentinel, .pinned], laidTests := true, laidLooks := .later }
def NumBackCardSaid : Prop := Claim7.holds Tryz.pinned (.plain (OpenSpec.ofChange numBackSpec)) numBackCard

/-- THE TIED CARD OF 'shuntlaw03.NumShift'. -/
def numShiftCard : Claim7 := { stood := { row := numShiftRow, standIns := [], harness := (true, "f9bde861738675d048609ffe96ef65c3c868fc074a8dc75e8b039ee321dfc464"), looks := true }, kinds := [], alts := [], laidByText := true, laidKinds := [.data, .data, .data, .data, .sentinel, .sentinel, .pinned], laidTests := true, laidLooks := .later }
def NumShiftCardSaid : Prop := Claim7.holds Tryz.pinned (.plain (OpenSpec.ofChange numShiftSpec)) numShiftCard

/-- THE TIED CARD OF 'shuntlaw03.NumCalls'. -/
def numCallsCard : Claim7 := { stood := { row := numCallsRow, standIns := [], harness := (true, "f9bde861738675d048609ffe96ef65c3c868fc074a8dc75e8b039ee321dfc464"), looks := true }, kinds := [], alts := [], laidByText := true, laidKinds := [.data, .data, .data, .data, .sentinel, .sentinel, .pinned], laidTests := true, laidLooks := .later }
def NumCallsCardSaid : Prop := Claim7.holds Tryz.pinned (.plain (OpenSpec.ofChange numCallsSpec)) numCallsCard

/-- THE TIED CARD OF 'shuntlaw03.NumOrder'. -/
def numOrderCard : Claim7 := { stood := { row := numOrderRow, standIns := [], harness := (true, "f9bde861738675d048609ffe96ef65c3c868fc074a8dc75e8b039ee321dfc464"), looks := true }, kinds := [], alts := [], laidByText := true, laidKinds := [.data, .data, .data, .data, .sentinel, .sentinel, .pinned], laidTests := true, laidLooks := .later }
def NumOrderCardSaid : Prop := Claim7.holds Tryz.pinned (.plain (OpenSpec.ofChange numOrderSpec)) numOrderCard

/-- THE TIED CARD OF 'shuntlaw07.CardWrites'. -/
def cardWritesCard : Claim7 := { stood := { row := cardWritesRow, standIns := [], harness := (true, "f9bde861738675d048609ffe96ef65c3c868fc074a8dc75e8b039ee321dfc464"), looks := true }, kinds := [], alts := [], laidByText := true, laidKinds := [.data, .data, .data, .data, .sentinel, .sentinel, .pinned], laidTests := true, laidLooks := .later }
def CardWritesCardSaid : Prop := Claim7.holds Tryz.pinned (.plain (OpenSpec.ofChange cardWritesSpec)) cardWritesCard

/-- THE TIED CARD OF 'shuntlaw07.CardBack'. -/
def cardBackCard : Claim7 := { stood := { row := cardBackRow, standIns := [], harness := (true, "f9bde861738675d048609ffe96ef65c3c868fc074a8dc75e8b039ee321dfc464"), looks := true }, kinds := [], alts := [], laidByText := true, laidKinds := [.data, .data, .data, .data, .sentinel, .sentinel, .pinned], laidTests := true, laidLooks := .later }
def CardBackCardSaid : Prop := Claim7.holds Tryz.pinned (.plain (OpenSpec.ofChange cardBackSpec)) cardBackCard

/-- THE TIED CARD OF 'shuntlaw07.CardPlain'. -/
def cardPlainCard : Claim7 := { stood := { row := cardPlainRow, standIns := [], harness := (true, "f9bde861738675d048609ffe96ef65c3c868fc074a8dc75e8b039ee321dfc464"), looks := true }, kinds := [], alts := [], laidByText := true, laidKinds := [.data, .data, .data, .data, .sentinel, .sentinel, .pinned], laidTests := true, laidLooks := .later }
def CardPlainCardSaid : Prop := Claim7.holds Tryz.pinned (.plain (OpenSpec.ofChange cardPlainSpec)) cardPlainCard

/-- THE TIED CARD OF 'shuntlaw07.CardModels'. -/
def cardModelsCard : Claim7 := { stood := { row := cardModelsRow, standIns := [], harness := (true, "f9bde861738675d048609ffe96ef65c3c868fc074a8dc75e8b039ee321dfc464"), looks := true }, kinds := [], alts := [], laidByText := true, laidKinds := [.data, .data, .data, .data, .sentinel, .sentinel, .pinned], laidTests := true, laidLooks := .later }
def CardModelsCardSaid : Prop := Claim7.holds Tryz.pinned (.plain (OpenSpec.ofChange cardModelsSpec)) cardModelsCard

/-- THE TIED CARD OF 'shuntlaw07.CardModelBack'. -/
def cardModelBackCard : Claim7 := { stood := { row := cardModelBackRow, standIns := [], harness := (true, "f9bde861738675d048609ffe96ef65c3c868fc074a8dc75e8b039ee321dfc464"), looks := true }, kinds := [], alts := [], laidByText := true, laidKinds := [.data, .data, .data, .data, .sentinel, .sentinel, .pinned], laidTests := true, laidLooks := .later }
def CardModelBackCardSaid : Prop := Claim7.holds Tryz.pinned (.plain (OpenSpec.ofChange cardModelBackSpec)) cardModelBackCard

/-- THE SECOND FORM's CARD OF 'shuntlaw03.NumReads'. -/
def numReadsUptoCard : Claim7 := { stood := { row := numReadsUptoRow, standIns := [], harness := (true, "f9bde861738675d048609ffe96ef65c3c868fc074a8dc75e8b039ee321dfc464"), looks := true }, kinds := [], alts := [], laidByText := true, laidKinds := [.data, .data, .data, .data, .sentinel, .sentinel, .pinned], laidTests := true, laidLooks := .later }
def NumReadsUptoCardSaid : Prop := Claim7.holds Tryz.pinned (.plain (OpenSpec.upto numReadsSpec)) numReadsUptoCard

/-- THE SECOND FORM's CARD OF 'shuntlaw03.NumBack'. -/
def numBackUptoCard : Claim7 := { stood := { row := numBackUptoRow, standIns := [], harness := (true, "f9bde861738675d048609ffe96ef65c3c868fc074a8dc75e8b039ee321dfc464"), looks := true }, kinds := [], alts := [], laidByText := true, laidKinds := [.data, .data, .data, .data, .sentinel, .sentinel, .pinned], laidTests := true, laidLooks := .later }
def NumBackUptoCardSaid : Prop := Claim7.holds Tryz.pinned (.plain (OpenSpec.upto numBackSpec)) numBackUptoCard

/-- THE SECOND FORM's CARD OF 'shuntlaw03.NumShift'. -/
def numShiftUptoCard : Claim7 := { stood := { row := numShiftUptoRow, standIns := [], harness := (true, "f9bde861738675d048609ffe96ef65c3c868fc074a8dc75e8b039ee321dfc464"), looks := true }, kinds := [], alts := [], laidByText := true, laidKinds := [.data, .data, .data, .data, .sentinel, .sentinel, .pinned], laidTests := true, laidLooks := .later }
def NumShiftUptoCardSaid : Prop := Claim7.holds Tryz.pinned (.plain (OpenSpec.upto numShiftSpec)) numShiftUptoCard

/-- THE SECOND FORM's CARD OF 'shuntlaw03.NumCalls'. -/
def numCallsUptoCard : Claim7 := { stood := { row := numCallsUptoRow, standIns := [], harness := (true, "f9bde861738675d048609ffe96ef65c3c868fc074a8dc75e8b039ee321dfc464"), looks := true }, kinds := [], alts := [], laidByText := true, laidKinds := [.data, .data, .data, .data, .sentinel, .sentinel, .pinned], laidTests := true, laidLooks := .later }
def NumCallsUptoCardSaid : Prop := Claim7.holds Tryz.pinned (.plain (OpenSpec.upto numCallsSpec)) numCallsUptoCard

/-- THE SECOND FORM's CARD OF 'shuntlaw03.NumOrder'. -/
def numOrderUptoCard : Claim7 := { stood := { row := numOrderUptoRow, standIns := [], harness := (true, "f9bde861738675d048609ffe96ef65c3c868fc074a8dc75e8b039ee321dfc464"), looks := true }, kinds := [], alts := [], laidByText := true, laidKinds := [.data, .data, .data, .data, .sentinel, .sentinel, .pinned], laidTests := true, laidLooks := .later }
def NumOrderUptoCardSaid : Prop := Claim7.holds Tryz.pinned (.plain (OpenSpec.upto numOrderSpec)) numOrderUptoCard

/-- THE SECOND FORM's CARD OF 'shuntlaw07.CardWrites'. -/
def cardWritesUptoCard : Claim7 := { stood := { row := cardWritesUptoRow, standIns := [], harness := (true, "f9bde861738675d048609ffe96ef65c3c868fc074a8dc75e8b039ee321dfc464"), looks := true }, kinds := [], alts := [], laidByText := true, laidKinds := [.data, .data, .data, .data, .sentinel, .sentinel, .pinned], laidTests := true, laidLooks := .later }
def CardWritesUptoCardSaid : Prop := Claim7.holds Tryz.pinned (.plain (OpenSpec.upto cardWritesSpec)) cardWritesUptoCard

/-- THE SECOND FORM's CARD OF 'shuntlaw07.CardBack'. -/
def cardBackUptoCard : Claim7 := { stood := { row := cardBackUptoRow, standIns := [], harness := (true, "f9bde861738675d048609ffe96ef65c3c868fc074a8dc75e8b039ee321dfc464"), looks := true }, kinds := [], alts := [], laidByText := true, laidKinds := [.data, .data, .data, .data, .sentinel, .sentinel, .pinned], laidTests := true, laidLooks := .later }
def CardBackUptoCardSaid : Prop := Claim7.holds Tryz.pinned (.plain (OpenSpec.upto cardBackSpec)) cardBackUptoCard

/-- THE SECOND FORM's CARD OF 'shuntlaw07.CardPlain'. -/
def cardPlainUptoCard : Claim7 := { stood := { row := cardPlainUptoRow, standIns := [], harness := (true, "f9bde861738675d048609ffe96ef65c3c868fc074a8dc75e8b039ee321dfc464"), looks := true }, kinds := [], alts := [], laidByText := true, laidKinds := [.data, .data, .data, .data, .sentinel, .sentinel, .pinned], laidTests := true, laidLooks := .later }
def CardPlainUptoCardSaid : Prop := Claim7.holds Tryz.pinned (.plain (OpenSpec.upto cardPlainSpec)) cardPlainUptoCard

/-- THE SECOND FORM's CARD OF 'shuntlaw07.CardModels'. -/
def cardModelsUptoCard : Claim7 := { stood := { row := cardModelsUptoRow, standIns := [], harness := (true, "f9bde861738675d048609ffe96ef65c3c868fc074a8dc75e8b039ee321dfc464"), looks := true }, kinds := [], alts := [], laidByText := true, laidKinds := [.data, .data, .data, .data, .sentinel, .sentinel, .pinned], laidTests := true, laidLooks := .later }
def CardModelsUptoCardSaid : Prop := Claim7.holds Tryz.pinned (.plain (OpenSpec.upto cardModelsSpec)) cardModelsUptoCard

/-- THE SECOND FORM's CARD OF 'shuntlaw07.CardModelBack'. -/
def cardModelBackUptoCard : Claim7 := { stood := { row := cardModelBackUptoRow, standIns := [], harness := (true, "f9bde861738675d048609ffe96ef65c3c868fc074a8dc75e8b039ee321dfc464"), looks := true }, kinds := [], alts := [], laidByText := true, laidKinds := [.data, .data, .data, .data, .sentinel, .sentinel, .pinned], laidTests := true, laidLooks := .later }
def CardModelBackUptoCardSaid : Prop := Claim7.holds Tryz.pinned (.plain (OpenSpec.upto cardModelBackSpec)) cardModelBackUptoCard
end Rows
end Go.Proofs.YtfjelkjlfcafgaaGreatDoor
