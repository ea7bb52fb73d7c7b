/-
  DERIVED. GIVEN WITH THE SEED: THE CARDS: each row of YtlflalecmhgmjaaGreatDoorRows.lean that lists a variable, with what it lists TIED to the program's text (the seventh form; the later family's looks); each row that meets fmt, with fmt's text TOLD by the authors' own Lean function (tested against real Go, not proved from fmt's source: count such statements apart). THE CARD IS WHAT COUNTS. Prove the row's statement (the work); the ties are given (YtlflalecmhgmjaaGreatDoorTie.lean); close each card by the builder's one call (the guide's Derived/Test/ToyasCard.lean, 'card_holds'). Laid BY PROGRAM, IN A SANDBOX (cutbox-door.mjs). By AI agents, Wed Nov 11 2026. No macro, syntax, notation, axiom, sorry.
-/
import Derived.Test.YtlflalecmhgmjaaGreatDoorRows
import GoSem.ClaimSeven
namespace Go.Proofs.YtlflalecmhgmjaaGreatDoor
namespace Rows

/-- THE TIED CARD OF 'tracerylaw31.GraphmlBack'. -/
def graphmlBackCard : Claim7 := { stood := { row := graphmlBackRow, standIns := [], harness := (true, "d922b2127d093973f6e6fbd7a9555f957fa87eb9f160689ab833719c0eaf783b"), looks := true }, kinds := [], alts := [], laidByText := true, laidKinds := [.data, .data, .widerDeep, .widerDeep, .data, .data, .data, .data, .data, .data, .sentinel, .sentinel, .pinned, .pinned, .pinned], laidTests := true, laidLooks := .later }
def GraphmlBackCardSaid : Prop := Claim7.holds Tryz.pinned (.plain (OpenSpec.ofChange graphmlBackSpec)) graphmlBackCard

/-- THE TIED CARD OF 'tracerylaw31.GraphmlAgain'. -/
def graphmlAgainCard : Claim7 := { stood := { row := graphmlAgainRow, standIns := [], harness := (true, "d922b2127d093973f6e6fbd7a9555f957fa87eb9f160689ab833719c0eaf783b"), looks := true }, kinds := [], alts := [], laidByText := true, laidKinds := [.data, .data, .widerDeep, .widerDeep, .data, .data, .data, .data, .data, .data, .sentinel, .sentinel, .pinned, .pinned, .pinned], laidTests := true, laidLooks := .later }
def GraphmlAgainCardSaid : Prop := Claim7.holds Tryz.pinned (.plain (OpenSpec.ofChange graphmlAgainSpec)) graphmlAgainCard

/-- THE TIED CARD OF 'tracerylaw30.GmlWrites'. -/
def gmlWritesCard : Claim7 := { stood := { row := gmlWritesRow, standIns := [], harness := (true, "d922b2127d093973f6e6fbd7a9555f957fa87eb9f160689ab833719c0eaf783b"), looks := true }, kinds := [], alts := [], laidByText := true, laidKinds := [.data, .data, .widerDeep, .widerDeep, .data, .data, .data, .data, .data, .data, .sentinel, .sentinel, .pinned, .pinned, .pinned], laidTests := true, laidLooks := .later }
def GmlWritesCardSaid : Prop := Claim7.holds Tryz.pinned (.plain (OpenSpec.ofChange gmlWritesSpec)) gmlWritesCard

/-- THE TIED CARD OF 'tracerylaw30.GmlReads'. -/
def gmlReadsCard : Claim7 := { stood := { row := gmlReadsRow, standIns := [], harness := (true, "d922b2127d093973f6e6fbd7a9555f957fa87eb9f160689ab833719c0eaf783b"), looks := true }, kinds := [], alts := [], laidByText := true, laidKinds := [.data, .data, .widerDeep, .widerDeep, .data, .data, .data, .data, .data, .data, .sentinel, .sentinel, .pinned, .pinned, .pinned], laidTests := true, laidLooks := .later }
def GmlReadsCardSaid : Prop := Claim7.holds Tryz.pinned (.plain (OpenSpec.ofChange gmlReadsSpec)) gmlReadsCard

/-- THE TIED CARD OF 'tracerylaw30.GmlBack'. -/
def gmlBackCard : Claim7 := { stood := { row := gmlBackRow, standIns := [], harness := (true, "d922b2127d093973f6e6fbd7a9555f957fa87eb9f160689ab833719c0eaf783b"), looks := true }, kinds := [], alts := [], laidByText := true, laidKinds := [.data, .data, .widerDeep, .widerDeep, .data, .data, .data, .data, .data, .data, .sentinel, .sentinel, .pinned, .pinned, .pinned], laidTests := true, laidLooks := .later }
def GmlBackCardSaid : Prop := Claim7.holds Tryz.pinned (.plain (OpenSpec.ofChange gmlBackSpec)) gmlBackCard

/-- THE TIED CARD OF 'tracerylaw30.GmlAgain'. -/
def gmlAgainCard : Claim7 := { stood := { row := gmlAgainRow, standIns := [], harness := (true, "d922b2127d093973f6e6fbd7a9555f957fa87eb9f160689ab833719c0eaf783b"), looks := true }, kinds := [], alts := [], laidByText := true, laidKinds := [.data, .data, .widerDeep, .widerDeep, .data, .data, .data, .data, .data, .data, .sentinel, .sentinel, .pinned, .pinned, .pinned], laidTests := true, laidLooks := .later }
def GmlAgainCardSaid : Prop := Claim7.holds Tryz.pinned (.plain (OpenSpec.ofChange gmlAgainSpec)) gmlAgainCard

/-- THE TIED CARD OF 'tracerylaw30.GmlBlanks'. -/
def gmlBlanksCard : Claim7 := { stood := { row := gmlBlanksRow, standIns := [], harness := (true, "d922b2127d093973f6e6fbd7a9555f957fa87eb9f160689ab833719c0eaf783b"), looks := true }, kinds := [], alts := [], laidByText := true, laidKinds := [.data, .data, .widerDeep, .widerDeep, .data, .data, .data, .data, .data, .data, .sentinel, .sentinel, .pinned, .pinned, .pinned], laidTests := true, laidLooks := .later }
def GmlBlanksCardSaid : Prop := Claim7.holds Tryz.pinned (.plain (OpenSpec.ofChange gmlBlanksSpec)) gmlBlanksCard

/-- THE TIED CARD OF 'tracerylaw30.GmlLabels'. -/
def gmlLabelsCard : Claim7 := { stood := { row := gmlLabelsRow, standIns := [], harness := (true, "d922b2127d093973f6e6fbd7a9555f957fa87eb9f160689ab833719c0eaf783b"), looks := true }, kinds := [], alts := [], laidByText := true, laidKinds := [.data, .data, .widerDeep, .widerDeep, .data, .data, .data, .data, .data, .data, .sentinel, .sentinel, .pinned, .pinned, .pinned], laidTests := true, laidLooks := .later }
def GmlLabelsCardSaid : Prop := Claim7.holds Tryz.pinned (.plain (OpenSpec.ofChange gmlLabelsSpec)) gmlLabelsCard

/-- THE TIED CARD OF 'tracerylaw30.GmlEdgesFirst'. -/
def gmlEdgesFirstCard : Claim7 := { stood := { row := gmlEdgesFirstRow, standIns := [], harness := (true, "d922b2127d093973f6e6fbd7a9555f957fa87eb9f160689ab833719c0eaf783b"), looks := true }, kinds := [], alts := [], laidByText := true, laidKinds := [.data, .data, .widerDeep, .widerDeep, .data, .data, .data, .data, .data, .data, .sentinel, .sentinel, .pinned, .pinned, .pinned], laidTests := true, laidLooks := .later }
def GmlEdgesFirstCardSaid : Prop := Claim7.holds Tryz.pinned (.plain (OpenSpec.ofChange gmlEdgesFirstSpec)) gmlEdgesFirstCard

/-- THE TIED CARD OF 'tracerylaw31.GraphmlWrites'. -/
def graphmlWritesCard : Claim7 := { stood := { row := graphmlWritesRow, standIns := [], harness := (true, "d922b2127d093973f6e6fbd7a9555f957fa87eb9f160689ab833719c0eaf783b"), looks := true }, kinds := [], alts := [], laidByText := true, laidKinds := [.data, .data, .widerDeep, .widerDeep, .data, .data, .data, .data, .data, .data, .sentinel, .sentinel, .pinned, .pinned, .pinned], laidTests := true, laidLooks := .later }
def GraphmlWritesCardSaid : Prop := Claim7.holds Tryz.pinned (.plain (OpenSpec.ofChange graphmlWritesSpec)) graphmlWritesCard

/-- THE TIED CARD OF 'tracerylaw31.GraphmlReads'. -/
def graphmlReadsCard : Claim7 := { stood := { row := graphmlReadsRow, standIns := [], harness := (true, "d922b2127d093973f6e6fbd7a9555f957fa87eb9f160689ab833719c0eaf783b"), looks := true }, kinds := [], alts := [], laidByText := true, laidKinds := [.data, .data, .widerDeep, .widerDeep, .data, .data, .data, .data, .data, .data, .sentinel, .sentinel, .pinned, .pinned, .pinned], laidTests := true, laidLooks := .later }
def GraphmlReadsCardSaid : Prop := Claim7.holds Tryz.pinned (.plain (OpenSpec.ofChange graphmlReadsSpec)) graphmlReadsCard

/-- THE TIED CARD OF 'tracerylaw31.GraphmlNotes'. -/
def graphmlNotesCard : Claim7 := { stood := { row := graphmlNotesRow, standIns := [], harness := (true, "d922b2127d093973f6e6fbd7a9555f957fa87eb9f160689ab833719c0eaf783b"), looks := true }, kinds := [], alts := [], laidByText := true, laidKinds := [.data, .data, .widerDeep, .widerDeep, .data, .data, .data, .data, .data, .data, .sentinel, .sentinel, .pinned, .pinned, .pinned], laidTests := true, laidLooks := .later }
def GraphmlNotesCardSaid : Prop := Claim7.holds Tryz.pinned (.plain (OpenSpec.ofChange graphmlNotesSpec)) graphmlNotesCard

/-- THE TIED CARD OF 'tracerylaw31.GraphmlNames'. -/
def graphmlNamesCard : Claim7 := { stood := { row := graphmlNamesRow, standIns := [], harness := (true, "d922b2127d093973f6e6fbd7a9555f957fa87eb9f160689ab833719c0eaf783b"), looks := true }, kinds := [], alts := [], laidByText := true, laidKinds := [.data, .data, .widerDeep, .widerDeep, .data, .data, .data, .data, .data, .data, .sentinel, .sentinel, .pinned, .pinned, .pinned], laidTests := true, laidLooks := .later }
def GraphmlNamesCardSaid : Prop := Claim7.holds Tryz.pinned (.plain (OpenSpec.ofChange graphmlNamesSpec)) graphmlNamesCard

/-- THE SECOND FORM's CARD OF 'tracerylaw31.GraphmlBack'. -/
def graphmlBackUptoCard : Claim7 := { stood := { row := graphmlBackUptoRow, standIns := [], harness := (true, "d922b2127d093973f6e6fbd7a9555f957fa87eb9f160689ab833719c0eaf783b"), looks := true }, kinds := [], alts := [], laidByText := true, laidKinds := [.data, .data, .widerDeep, .widerDeep, .data, .data, .data, .data, .data, .data, .sentinel, .sentinel, .pinned, .pinned, .pinned], laidTests := true, laidLooks := .later }
def GraphmlBackUptoCardSaid : Prop := Claim7.holds Tryz.pinned (.plain (OpenSpec.upto graphmlBackSpec)) graphmlBackUptoCard

/-- THE SECOND FORM's CARD OF 'tracerylaw31.GraphmlAgain'. -/
def graphmlAgainUptoCard : Claim7 := { stood := { row := graphmlAgainUptoRow, standIns := [], harness := (true, "d922b2127d093973f6e6fbd7a9555f957fa87eb9f160689ab833719c0eaf783b"), looks := true }, kinds := [], alts := [], laidByText := true, laidKinds := [.data, .data, .widerDeep, .widerDeep, .data, .data, .data, .data, .data, .data, .sentinel, .sentinel, .pinned, .pinned, .pinned], laidTests := true, laidLooks := .later }
def GraphmlAgainUptoCardSaid : Prop := Claim7.holds Tryz.pinned (.plain (OpenSpec.upto graphmlAgainSpec)) graphmlAgainUptoCard

/-- THE SECOND FORM's CARD OF 'tracerylaw30.GmlWrites'. -/
def gmlWritesUptoCard : Claim7 := { stood := { row := gmlWritesUptoRow, standIns := [], harness := (true, "d922b2127d093973f6e6fbd7a9555f957fa87eb9f160689ab833719c0eaf783b"), looks := true }, kinds := [], alts := [], laidByText := true, laidKinds := [.data, .data, .widerDeep, .widerDeep, .data, .data, .data, .data, .data, .data, .sentinel, .sentinel, .pinned, .pinned, .pinned], laidTests := true, laidLooks := .later }
def GmlWritesUptoCardSaid : Prop := Claim7.holds Tryz.pinned (.plain (OpenSpec.upto gmlWritesSpec)) gmlWritesUptoCard

/-- THE SECOND FORM's CARD OF 'tracerylaw30.GmlReads'. -/
def gmlReadsUptoCard : Claim7 := { stood := { row := gmlReadsUptoRow, standIns := [], harness := (true, "d922b2127d093973f6e6fbd7a9555f957fa87eb9f160689ab833719c0eaf783b"), looks := true }, kinds := [], alts := [], laidByText := true, laidKinds := [.data, .data, .widerDeep, .widerDeep, .data, .data, .data, .data, .data, .data, .sentinel, .sentinel, .pinned, .pinned, .pinned], laidTests := true, laidLooks := .later }
def GmlReadsUptoCardSaid : Prop := Claim7.holds Tryz.pinned (.plain (OpenSpec.upto gmlReadsSpec)) gmlReadsUptoCard

/-- THE SECOND FORM's CARD OF 'tracerylaw30.GmlBack'. -/
def gmlBackUptoCard : Claim7 := { stood := { row := gmlBackUptoRow, standIns := [], harness := (true, "d922b2127d093973f6e6fbd7a9555f957fa87eb9f160689ab833719c0eaf783b"), looks := true }, kinds := [], alts := [], laidByText := true, laidKinds := [.data, .data, .widerDeep, .widerDeep, .data, .data, .data, .data, .data, .data, .sentinel, .sentinel, .pinned, .pinned, .pinned], laidTests := true, laidLooks := .later }
def GmlBackUptoCardSaid : Prop := Claim7.holds Tryz.pinned (.plain (OpenSpec.upto gmlBackSpec)) gmlBackUptoCard

/-- THE SECOND FORM's CARD OF 'tracerylaw30.GmlAgain'. -/
def gmlAgainUptoCard : Claim7 := { stood := { row := gmlAgainUptoRow, standIns := [], harness := (true, "d922b2127d093973f6e6fbd7a9555f957fa87eb9f160689ab833719c0eaf783b"), looks := true }, kinds := [], alts := [], laidByText := true, laidKinds := [.data, .data, .widerDeep, .widerDeep, .data, .data, .data, .data, .data, .data, .sentinel, .sentinel, .pinned, .pinned, .pinned], laidTests := true, laidLooks := .later }
def GmlAgainUptoCardSaid : Prop := Claim7.holds Tryz.pinned (.plain (OpenSpec.upto gmlAgainSpec)) gmlAgainUptoCard

/-- THE SECOND FORM's CARD OF 'tracerylaw30.GmlBlanks'. -/
def gmlBlanksUptoCard : Claim7 := { stood := { row := gmlBlanksUptoRow, standIns := [], harness := (true, "d922b2127d093973f6e6fbd7a9555f957fa87eb9f160689ab833719c0eaf783b"), looks := true }, kinds := [], alts := [], laidByText := true, laidKinds := [.data, .data, .widerDeep, .widerDeep, .data, .data, .data, .data, .data, .data, .sentinel, .sentinel, .pinned, .pinned, .pinned], laidTests := true, laidLooks := .later }
def GmlBlanksUptoCardSaid : Prop := Claim7.holds Tryz.pinned (.plain (OpenSpec.upto gmlBlanksSpec)) gmlBlanksUptoCard

/-- THE SECOND FORM's CARD OF 'tracerylaw30.GmlLabels'. -/
def gmlLabelsUptoCard : Claim7 := { stood := { row := gmlLabelsUptoRow, standIns := [], harness := (true, "d922b2127d093973f6e6fbd7a9555f957fa87eb9f160689ab833719c0eaf783b"), looks := true }, kinds := [], alts := [], laidByText := true, laidKinds := [.data, .data, .widerDeep, .widerDeep, .data, .data, .data, .data, .data, .data, .sentinel, .sentinel, .pinned, .pinned, .pinned], laidTests := true, laidLooks := .later }
def GmlLabelsUptoCardSaid : Prop := Claim7.holds Tryz.pinned (.plain (OpenSpec.upto gmlLabelsSpec)) gmlLabelsUptoCard

/-- THE SECOND FORM's CARD OF 'tracerylaw30.GmlEdgesFirst'. -/
def gmlEdgesFirstUptoCard : Claim7 := { stood := { row := gmlEdgesFirstUptoRow, standIns := [], harness := (true, "d922b2127d093973f6e6fbd7a9555f957fa87eb9f160689ab833719c0eaf783b"), looks := true }, kinds := [], alts := [], laidByText := true, laidKinds := [.data, .data, .widerDeep, .widerDeep, .data, .data, .data, .data, .data, .data, .sentinel, .sentinel, .pinned, .pinned, .pinned], laidTests := true, laidLooks := .later }
def GmlEdgesFirstUptoCardSaid : Prop := Claim7.holds Tryz.pinned (.plain (OpenSpec.upto gmlEdgesFirstSpec)) gmlEdgesFirstUptoCard

/-- THE SECOND FORM's CARD OF 'tracerylaw31.GraphmlWrites'. -/
def graphmlWritesUptoCard : Claim7 := { stood := { row := graphmlWritesUptoRow, standIns := [], harness := (true, "d922b2127d093973f6e6fbd7a9555f957fa87eb9f160689ab833719c0eaf783b"), looks := true }, kinds := [], alts := [], laidByText := true, laidKinds := [.data, .data, .widerDeep, .widerDeep, .data, .data, .data, .data, .data, .data, .sentinel, .sentinel, .pinned, .pinned, .pinned], laidTests := true, laidLooks := .later }
def GraphmlWritesUptoCardSaid : Prop := Claim7.holds Tryz.pinned (.plain (OpenSpec.upto graphmlWritesSpec)) graphmlWritesUptoCard

/-- THE SECOND FORM's CARD OF 'tracerylaw31.GraphmlReads'. -/
def graphmlReadsUptoCard : Claim7 := { stood := { row := graphmlReadsUptoRow, standIns := [], harness := (true, "d922b2127d093973f6e6fbd7a9555f957fa87eb9f160689ab833719c0eaf783b"), looks := true }, kinds := [], alts := [], laidByText := true, laidKinds := [.data, .data, .widerDeep, .widerDeep, .data, .data, .data, .data, .data, .data, .sentinel, .sentinel, .pinned, .pinned, .pinned], laidTests := true, laidLooks := .later }
def GraphmlReadsUptoCardSaid : Prop := Claim7.holds Tryz.pinned (.plain (OpenSpec.upto graphmlReadsSpec)) graphmlReadsUptoCard

/-- THE SECOND FORM's CARD OF 'tracerylaw31.GraphmlNotes'. -/
def graphmlNotesUptoCard : Claim7 := { stood := { row := graphmlNotesUptoRow, standIns := [], harness := (true, "d922b2127d093973f6e6fbd7a9555f957fa87eb9f160689ab833719c0eaf783b"), looks := true }, kinds := [], alts := [], laidByText := true, laidKinds := [.data, .data, .widerDeep, .widerDeep, .data, .data, .data, .data, .data, .data, .sentinel, .sentinel, .pinned, .pinned, .pinned], laidTests := true, laidLooks := .later }
def GraphmlNotesUptoCardSaid : Prop := Claim7.holds Tryz.pinned (.plain (OpenSpec.upto graphmlNotesSpec)) graphmlNotesUptoCard

/-- THE SECOND FORM's CARD OF 'tracerylaw31.GraphmlNames'. -/
def graphmlNamesUptoCard : Claim7 := { stood := { row := graphmlNamesUptoRow, standIns := [], harness := (true, "d922b2127d093973f6e6fbd7a9555f957fa87eb9f160689ab833719c0eaf783b"), looks := true }, kinds := [], alts := [], laidByText := true, laidKinds := [.data, .data, .widerDeep, .widerDeep, .data, .data, .data, .data, .data, .data, .sentinel, .sentinel, .pinned, .pinned, .pinned], laidTests := true, laidLooks := .later }
def GraphmlNamesUptoCardSaid : Prop := Claim7.holds Tryz.pinned (.plain (OpenSpec.upto graphmlNamesSpec)) graphmlNamesUptoCard
end Rows
end Go.Proofs.YtlflalecmhgmjaaGreatDoor
