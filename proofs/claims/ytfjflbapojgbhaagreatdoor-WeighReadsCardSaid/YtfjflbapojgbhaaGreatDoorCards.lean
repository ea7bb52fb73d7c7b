/-
  DERIVED. GIVEN WITH THE SEED: THE CARDS: each row of YtfjflbapojgbhaaGreatDoorRows.lean that lists a variable, with what it lists TIED to the program's text (the seventh form; the later family's looks); each row that meets fmt, with fmt's text TOLD by the authors' own Lean function (tested against real Go, not proved from fmt's source: count such statements apart). THE CARD IS WHAT COUNTS. Prove the row's statement (the work); the ties are given (YtfjflbapojgbhaaGreatDoorTie.lean); close each card by the builder's one call (the guide's Derived/Test/ToyasCard.lean, 'card_holds'). Laid BY PROGRAM, IN A SANDBOX (cutbox-door.mjs). By AI agents, Wed Nov 11 2026. No macro, syntax, notation, axiom, sorry.
-/
import Derived.Test.YtfjflbapojgbhaaGreatDoorRows
import GoSem.ClaimSeven
namespace Go.Proofs.YtfjflbapojgbhaaGreatDoor
namespace Rows

/-- THE TIED CARD OF 'tracerylaw1.WeighReads'. -/
def weighReadsCard : Claim7 := { stood := { row := weighReadsRow, standIns := [], harness := (true, "9475a1fc84b0de83fe2518ab31dd53ff3abef4abbd43678ff833d2e423a284c2"), looks := true }, kinds := [], alts := [], laidByText := true, laidKinds := [.data, .data, .widerDeep, .widerDeep, .data, .data, .data, .data, .data, .sentinel, .sentinel, .pinned, .pinned], laidTests := true, laidLooks := .later }
def WeighReadsCardSaid : Prop := Claim7.holds Tryz.pinned (.plain (OpenSpec.ofChange weighReadsSpec)) weighReadsCard

/-- THE TIED CARD OF 'tracerylaw1.WeighWhole'. -/
def weighWholeCard : Claim7 := { stood := { row := weighWholeRow, standIns := [], harness := (true, "9475a1fc84b0de83fe2518ab31dd53ff3abef4abbd43678ff833d2e423a284c2"), looks := true }, kinds := [], alts := [], laidByText := true, laidKinds := [.data, .data, .widerDeep, .widerDeep, .data, .data, .data, .data, .data, .sentinel, .sentinel, .pinned, .pinned], laidTests := true, laidLooks := .later }
def WeighWholeCardSaid : Prop := Claim7.holds Tryz.pinned (.plain (OpenSpec.ofChange weighWholeSpec)) weighWholeCard

/-- THE TIED CARD OF 'tracerylaw1.WeighOrder'. -/
def weighOrderCard : Claim7 := { stood := { row := weighOrderRow, standIns := [], harness := (true, "9475a1fc84b0de83fe2518ab31dd53ff3abef4abbd43678ff833d2e423a284c2"), looks := true }, kinds := [], alts := [], laidByText := true, laidKinds := [.data, .data, .widerDeep, .widerDeep, .data, .data, .data, .data, .data, .sentinel, .sentinel, .pinned, .pinned], laidTests := true, laidLooks := .later }
def WeighOrderCardSaid : Prop := Claim7.holds Tryz.pinned (.plain (OpenSpec.ofChange weighOrderSpec)) weighOrderCard

/-- THE TIED CARD OF 'tracerylaw1.WeighBack'. -/
def weighBackCard : Claim7 := { stood := { row := weighBackRow, standIns := [], harness := (true, "9475a1fc84b0de83fe2518ab31dd53ff3abef4abbd43678ff833d2e423a284c2"), looks := true }, kinds := [], alts := [], laidByText := true, laidKinds := [.data, .data, .widerDeep, .widerDeep, .data, .data, .data, .data, .data, .sentinel, .sentinel, .pinned, .pinned], laidTests := true, laidLooks := .later }
def WeighBackCardSaid : Prop := Claim7.holds Tryz.pinned (.plain (OpenSpec.ofChange weighBackSpec)) weighBackCard

/-- THE TIED CARD OF 'tracerylaw1.WeighAll'. -/
def weighAllCard : Claim7 := { stood := { row := weighAllRow, standIns := [], harness := (true, "9475a1fc84b0de83fe2518ab31dd53ff3abef4abbd43678ff833d2e423a284c2"), looks := true }, kinds := [], alts := [], laidByText := true, laidKinds := [.data, .data, .widerDeep, .widerDeep, .data, .data, .data, .data, .data, .sentinel, .sentinel, .pinned, .pinned], laidTests := true, laidLooks := .later }
def WeighAllCardSaid : Prop := Claim7.holds Tryz.pinned (.plain (OpenSpec.ofChange weighAllSpec)) weighAllCard

/-- THE TIED CARD OF 'tracerylaw1.WeighSums'. -/
def weighSumsCard : Claim7 := { stood := { row := weighSumsRow, standIns := [], harness := (true, "9475a1fc84b0de83fe2518ab31dd53ff3abef4abbd43678ff833d2e423a284c2"), looks := true }, kinds := [], alts := [], laidByText := true, laidKinds := [.data, .data, .widerDeep, .widerDeep, .data, .data, .data, .data, .data, .sentinel, .sentinel, .pinned, .pinned], laidTests := true, laidLooks := .later }
def WeighSumsCardSaid : Prop := Claim7.holds Tryz.pinned (.plain (OpenSpec.ofChange weighSumsSpec)) weighSumsCard

/-- THE SECOND FORM's CARD OF 'tracerylaw1.WeighReads'. -/
def weighReadsUptoCard : Claim7 := { stood := { row := weighReadsUptoRow, standIns := [], harness := (true, "9475a1fc84b0de83fe2518ab31dd53ff3abef4abbd43678ff833d2e423a284c2"), looks := true }, kinds := [], alts := [], laidByText := true, laidKinds := [.data, .data, .widerDeep, .widerDeep, .data, .data, .data, .data, .data, .sentinel, .sentinel, .pinned, .pinned], laidTests := true, laidLooks := .later }
def WeighReadsUptoCardSaid : Prop := Claim7.holds Tryz.pinned (.plain (OpenSpec.upto weighReadsSpec)) weighReadsUptoCard

/-- THE SECOND FORM's CARD OF 'tracerylaw1.WeighWhole'. -/
def weighWholeUptoCard : Claim7 := { stood := { row := weighWholeUptoRow, standIns := [], harness := (true, "9475a1fc84b0de83fe2518ab31dd53ff3abef4abbd43678ff833d2e423a284c2"), looks := true }, kinds := [], alts := [], laidByText := true, laidKinds := [.data, .data, .widerDeep, .widerDeep, .data, .data, .data, .data, .data, .sentinel, .sentinel, .pinned, .pinned], laidTests := true, laidLooks := .later }
def WeighWholeUptoCardSaid : Prop := Claim7.holds Tryz.pinned (.plain (OpenSpec.upto weighWholeSpec)) weighWholeUptoCard

/-- THE SECOND FORM's CARD OF 'tracerylaw1.WeighOrder'. -/
def weighOrderUptoCard : Claim7 := { stood := { row := weighOrderUptoRow, standIns := [], harness := (true, "9475a1fc84b0de83fe2518ab31dd53ff3abef4abbd43678ff833d2e423a284c2"), looks := true }, kinds := [], alts := [], laidByText := true, laidKinds := [.data, .data, .widerDeep, .widerDeep, .data, .data, .data, .data, .data, .sentinel, .sentinel, .pinned, .pinned], laidTests := true, laidLooks := .later }
def WeighOrderUptoCardSaid : Prop := Claim7.holds Tryz.pinned (.plain (OpenSpec.upto weighOrderSpec)) weighOrderUptoCard

/-- THE SECOND FORM's CARD OF 'tracerylaw1.WeighBack'. -/
def weighBackUptoCard : Claim7 := { stood := { row := weighBackUptoRow, standIns := [], harness := (true, "9475a1fc84b0de83fe2518ab31dd53ff3abef4abbd43678ff833d2e423a284c2"), looks := true }, kinds := [], alts := [], laidByText := true, laidKinds := [.data, .data, .widerDeep, .widerDeep, .data, .data, .data, .data, .data, .sentinel, .sentinel, .pinned, .pinned], laidTests := true, laidLooks := .later }
def WeighBackUptoCardSaid : Prop := Claim7.holds Tryz.pinned (.plain (OpenSpec.upto weighBackSpec)) weighBackUptoCard

/-- THE SECOND FORM's CARD OF 'tracerylaw1.WeighAll'. -/
def weighAllUptoCard : Claim7 := { stood := { row := weighAllUptoRow, standIns := [], harness := (true, "9475a1fc84b0de83fe2518ab31dd53ff3abef4abbd43678ff833d2e423a284c2"), looks := true }, kinds := [], alts := [], laidByText := true, laidKinds := [.data, .data, .widerDeep, .widerDeep, .data, .data, .data, .data, .data, .sentinel, .sentinel, .pinned, .pinned], laidTests := true, laidLooks := .later }
def WeighAllUptoCardSaid : Prop := Claim7.holds Tryz.pinned (.plain (OpenSpec.upto weighAllSpec)) weighAllUptoCard

/-- THE SECOND FORM's CARD OF 'tracerylaw1.WeighSums'. -/
def weighSumsUptoCard : Claim7 := { stood := { row := weighSumsUptoRow, standIns := [], harness := (true, "9475a1fc84b0de83fe2518ab31dd53ff3abef4abbd43678ff833d2e423a284c2"), looks := true }, kinds := [], alts := [], laidByText := true, laidKinds := [.data, .data, .widerDeep, .widerDeep, .data, .data, .data, .data, .data, .sentinel, .sentinel, .pinned, .pinned], laidTests := true, laidLooks := .later }
def WeighSumsUptoCardSaid : Prop := Claim7.holds Tryz.pinned (.plain (OpenSpec.upto weighSumsSpec)) weighSumsUptoCard
end Rows
end Go.Proofs.YtfjflbapojgbhaaGreatDoor
