/-
  DERIVED. GIVEN WITH THE SEED: THE CARDS: each row of YtppmamcoehhopaaDoorRows.lean that lists a variable, with what it lists TIED to the program's text (the seventh form; the later family's looks); each row that meets fmt, with fmt's text TOLD by the authors' own Lean function (tested against real Go, not proved from fmt's source: count such statements apart). THE CARD IS WHAT COUNTS. Prove the row's statement (the work); the ties are given (YtppmamcoehhopaaDoorTie.lean); close each card by the builder's one call (the guide's Derived/Test/ToyasCard.lean, 'card_holds'). Laid BY PROGRAM, IN A SANDBOX (cutbox-door.mjs). By AI agents, Wed Nov 11 2026. No macro, syntax, notation, axiom, sorry.
-/
import Derived.Test.YtppmamcoehhopaaDoorRows
import GoSem.ClaimSeven
namespace Go.Proofs.YtppmamcoehhopaaDoor
namespace Rows

/-- THE TIED CARD OF 'shuntlaw06.LexReads'. -/
def lexReadsCard : Claim7 := { stood := { row := lexReadsRow, standIns := [], harness := (true, "052e4dbd3c5719a090c2b3914d5157b70c1d0ea186b895a452242d1e6b48490f"), looks := false }, kinds := [], alts := [], laidByText := true, laidKinds := [.data, .pinned, .pinned], laidTests := true, laidLooks := .later }
def LexReadsCardSaid : Prop := Claim7.holds Tryd.pinned (.plain (OpenSpec.ofChange lexReadsSpec)) lexReadsCard

/-- THE TIED CARD OF 'shuntlaw06.LexWords'. -/
def lexWordsCard : Claim7 := { stood := { row := lexWordsRow, standIns := [], harness := (true, "052e4dbd3c5719a090c2b3914d5157b70c1d0ea186b895a452242d1e6b48490f"), looks := false }, kinds := [], alts := [], laidByText := true, laidKinds := [.data, .pinned, .pinned], laidTests := true, laidLooks := .later }
def LexWordsCardSaid : Prop := Claim7.holds Tryd.pinned (.plain (OpenSpec.ofChange lexWordsSpec)) lexWordsCard

/-- THE TIED CARD OF 'shuntlaw06.LexRemarks'. -/
def lexRemarksCard : Claim7 := { stood := { row := lexRemarksRow, standIns := [], harness := (true, "052e4dbd3c5719a090c2b3914d5157b70c1d0ea186b895a452242d1e6b48490f"), looks := false }, kinds := [], alts := [], laidByText := true, laidKinds := [.data, .pinned, .pinned], laidTests := true, laidLooks := .later }
def LexRemarksCardSaid : Prop := Claim7.holds Tryd.pinned (.plain (OpenSpec.ofChange lexRemarksSpec)) lexRemarksCard

/-- THE TIED CARD OF 'shuntlaw06.LexCase'. -/
def lexCaseCard : Claim7 := { stood := { row := lexCaseRow, standIns := [], harness := (true, "052e4dbd3c5719a090c2b3914d5157b70c1d0ea186b895a452242d1e6b48490f"), looks := false }, kinds := [], alts := [], laidByText := true, laidKinds := [.data, .pinned, .pinned], laidTests := true, laidLooks := .later }
def LexCaseCardSaid : Prop := Claim7.holds Tryd.pinned (.plain (OpenSpec.ofChange lexCaseSpec)) lexCaseCard

/-- THE TIED CARD OF 'shuntlaw06.LexJoined'. -/
def lexJoinedCard : Claim7 := { stood := { row := lexJoinedRow, standIns := [], harness := (true, "052e4dbd3c5719a090c2b3914d5157b70c1d0ea186b895a452242d1e6b48490f"), looks := false }, kinds := [], alts := [], laidByText := true, laidKinds := [.data, .pinned, .pinned], laidTests := true, laidLooks := .later }
def LexJoinedCardSaid : Prop := Claim7.holds Tryd.pinned (.plain (OpenSpec.ofChange lexJoinedSpec)) lexJoinedCard

/-- THE SECOND FORM's CARD OF 'shuntlaw06.LexReads'. -/
def lexReadsUptoCard : Claim7 := { stood := { row := lexReadsUptoRow, standIns := [], harness := (true, "052e4dbd3c5719a090c2b3914d5157b70c1d0ea186b895a452242d1e6b48490f"), looks := false }, kinds := [], alts := [], laidByText := true, laidKinds := [.data, .pinned, .pinned], laidTests := true, laidLooks := .later }
def LexReadsUptoCardSaid : Prop := Claim7.holds Tryd.pinned (.plain (OpenSpec.upto lexReadsSpec)) lexReadsUptoCard

/-- THE SECOND FORM's CARD OF 'shuntlaw06.LexWords'. -/
def lexWordsUptoCard : Claim7 := { stood := { row := lexWordsUptoRow, standIns := [], harness := (true, "052e4dbd3c5719a090c2b3914d5157b70c1d0ea186b895a452242d1e6b48490f"), looks := false }, kinds := [], alts := [], laidByText := true, laidKinds := [.data, .pinned, .pinned], laidTests := true, laidLooks := .later }
def LexWordsUptoCardSaid : Prop := Claim7.holds Tryd.pinned (.plain (OpenSpec.upto lexWordsSpec)) lexWordsUptoCard

/-- THE SECOND FORM's CARD OF 'shuntlaw06.LexRemarks'. -/
def lexRemarksUptoCard : Claim7 := { stood := { row := lexRemarksUptoRow, standIns := [], harness := (true, "052e4dbd3c5719a090c2b3914d5157b70c1d0ea186b895a452242d1e6b48490f"), looks := false }, kinds := [], alts := [], laidByText := true, laidKinds := [.data, .pinned, .pinned], laidTests := true, laidLooks := .later }
def LexRemarksUptoCardSaid : Prop := Claim7.holds Tryd.pinned (.plain (OpenSpec.upto lexRemarksSpec)) lexRemarksUptoCard

/-- THE SECOND FORM's CARD OF 'shuntlaw06.LexCase'. -/
def lexCaseUptoCard : Claim7 := { stood := { row := lexCaseUptoRow, standIns := [], harness := (true, "052e4dbd3c5719a090c2b3914d5157b70c1d0ea186b895a452242d1e6b48490f"), looks := false }, kinds := [], alts := [], laidByText := true, laidKinds := [.data, .pinned, .pinned], laidTests := true, laidLooks := .later }
def LexCaseUptoCardSaid : Prop := Claim7.holds Tryd.pinned (.plain (OpenSpec.upto lexCaseSpec)) lexCaseUptoCard

/-- THE SECOND FORM's CARD OF 'shuntlaw06.LexJoined'. -/
def lexJoinedUptoCard : Claim7 := { stood := { row := lexJoinedUptoRow, standIns := [], harness := (true, "052e4dbd3c5719a090c2b3914d5157b70c1d0ea186b895a452242d1e6b48490f"), looks := false }, kinds := [], alts := [], laidByText := true, laidKinds := [.data, .pinned, .pinned], laidTests := true, laidLooks := .later }
def LexJoinedUptoCardSaid : Prop := Claim7.holds Tryd.pinned (.plain (OpenSpec.upto lexJoinedSpec)) lexJoinedUptoCard
end Rows
end Go.Proofs.YtppmamcoehhopaaDoor
