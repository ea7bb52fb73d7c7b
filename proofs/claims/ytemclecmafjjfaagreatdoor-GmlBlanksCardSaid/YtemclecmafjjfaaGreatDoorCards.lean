/-
  DERIVED. GIVEN WITH THE SEED: THE CARDS: each row of YtemclecmafjjfaaGreatDoorRows.lean that lists a variable, with what it lists TIED to the program's text (the seventh form; the later family's looks); each row that meets fmt, with fmt's text TOLD by the authors' own Lean function (tested against real Go, not proved from fmt's source: count such statements apart). THE CARD IS WHAT COUNTS. Prove the row's statement (the work); the ties are given (YtemclecmafjjfaaGreatDoorTie.lean); close each card by the builder's one call (the guide's Derived/Test/ToyasCard.lean, 'card_holds'). Laid BY PROGRAM, IN A SANDBOX (cutbox-door.mjs). By AI agents, Wed Nov 11 2026. No macro, syntax, notation, axiom, sorry.
-/
import Derived.Test.YtemclecmafjjfaaGreatDoorRows
import GoSem.ClaimSeven
namespace Go.Proofs.YtemclecmafjjfaaGreatDoor
namespace Rows

/-- THE TIED CARD OF 'tracerylaw30.GmlBack'. -/
def gmlBackCard : Claim7 := { stood := { row := gmlBackRow, standIns := [], harness := (true, "28fa3ce493b9e7033f3d521e5950e8ab21fefd709d40817d7b93e5768c22cff1"), looks := true }, kinds := [], alts := [], laidByText := true, laidKinds := [.data, .data, .widerDeep, .widerDeep, .data, .data, .data, .data, .data, .data, .sentinel, .sentinel, .pinned, .pinned, .pinned], laidTests := true, laidLooks := .later }
def GmlBackCardSaid : Prop := Claim7.holds Tryz.pinned (.plain (OpenSpec.ofChange gmlBackSpec)) gmlBackCard

/-- THE TIED CARD OF 'tracerylaw30.GmlBlanks'. -/
def gmlBlanksCard : Claim7 := { stood := { row := gmlBlanksRow, standIns := [], harness := (true, "28fa3ce493b9e7033f3d521e5950e8ab21fefd709d40817d7b93e5768c22cff1"), looks := true }, kinds := [], alts := [], laidByText := true, laidKinds := [.data, .data, .widerDeep, .widerDeep, .data, .data, .data, .data, .data, .data, .sentinel, .sentinel, .pinned, .pinned, .pinned], laidTests := true, laidLooks := .later }
def GmlBlanksCardSaid : Prop := Claim7.holds Tryz.pinned (.plain (OpenSpec.ofChange gmlBlanksSpec)) gmlBlanksCard

/-- THE SECOND FORM's CARD OF 'tracerylaw30.GmlBack'. -/
def gmlBackUptoCard : Claim7 := { stood := { row := gmlBackUptoRow, standIns := [], harness := (true, "28fa3ce493b9e7033f3d521e5950e8ab21fefd709d40817d7b93e5768c22cff1"), looks := true }, kinds := [], alts := [], laidByText := true, laidKinds := [.data, .data, .widerDeep, .widerDeep, .data, .data, .data, .data, .data, .data, .sentinel, .sentinel, .pinned, .pinned, .pinned], laidTests := true, laidLooks := .later }
def GmlBackUptoCardSaid : Prop := Claim7.holds Tryz.pinned (.plain (OpenSpec.upto gmlBackSpec)) gmlBackUptoCard

/-- THE SECOND FORM's CARD OF 'tracerylaw30.GmlBlanks'. -/
def gmlBlanksUptoCard : Claim7 := { stood := { row := gmlBlanksUptoRow, standIns := [], harness := (true, "28fa3ce493b9e7033f3d521e5950e8ab21fefd709d40817d7b93e5768c22cff1"), looks := true }, kinds := [], alts := [], laidByText := true, laidKinds := [.data, .data, .widerDeep, .widerDeep, .data, .data, .data, .data, .data, .data, .sentinel, .sentinel, .pinned, .pinned, .pinned], laidTests := true, laidLooks := .later }
def GmlBlanksUptoCardSaid : Prop := Claim7.holds Tryz.pinned (.plain (OpenSpec.upto gmlBlanksSpec)) gmlBlanksUptoCard
end Rows
end Go.Proofs.YtemclecmafjjfaaGreatDoor
