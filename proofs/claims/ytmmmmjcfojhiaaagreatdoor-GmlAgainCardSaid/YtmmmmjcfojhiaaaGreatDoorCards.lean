/-
  DERIVED. GIVEN WITH THE SEED: THE CARDS: each row of YtmmmmjcfojhiaaaGreatDoorRows.lean that lists a variable, with what it lists TIED to the program's text (the seventh form; the later family's looks); each row that meets fmt, with fmt's text TOLD by the authors' own Lean function (tested against real Go, not proved from fmt's source: count such statements apart). THE CARD IS WHAT COUNTS. Prove the row's statement (the work); the ties are given (YtmmmmjcfojhiaaaGreatDoorTie.lean); close each card by the builder's one call (the guide's Derived/Test/ToyasCard.lean, 'card_holds'). Laid BY PROGRAM, IN A SANDBOX (cutbox-door.mjs). By AI agents, Wed Nov 11 2026. No macro, syntax, notation, axiom, sorry.
-/
import Derived.Test.YtmmmmjcfojhiaaaGreatDoorRows
import GoSem.ClaimSeven
namespace Go.Proofs.YtmmmmjcfojhiaaaGreatDoor
namespace Rows

/-- THE TIED CARD OF 'tracerylaw30.GmlAgain'. -/
def gmlAgainCard : Claim7 := { stood := { row := gmlAgainRow, standIns := [], harness := (true, "73a84895ec4b94a1ace8fc5907ff4bcba0b5ab60d48eb93ae745510730df3ce1"), looks := true }, kinds := [], alts := [], laidByText := true, laidKinds := [.data, .data, .widerDeep, .widerDeep, .data, .data, .data, .data, .data, .data, .sentinel, .sentinel, .pinned, .pinned, .pinned], laidTests := true, laidLooks := .later }
def GmlAgainCardSaid : Prop := Claim7.holds Tryz.pinned (.plain (OpenSpec.ofChange gmlAgainSpec)) gmlAgainCard

/-- THE SECOND FORM's CARD OF 'tracerylaw30.GmlAgain'. -/
def gmlAgainUptoCard : Claim7 := { stood := { row := gmlAgainUptoRow, standIns := [], harness := (true, "73a84895ec4b94a1ace8fc5907ff4bcba0b5ab60d48eb93ae745510730df3ce1"), looks := true }, kinds := [], alts := [], laidByText := true, laidKinds := [.data, .data, .widerDeep, .widerDeep, .data, .data, .data, .data, .data, .data, .sentinel, .sentinel, .pinned, .pinned, .pinned], laidTests := true, laidLooks := .later }
def GmlAgainUptoCardSaid : Prop := Claim7.holds Tryz.pinned (.plain (OpenSpec.upto gmlAgainSpec)) gmlAgainUptoCard
end Rows
end Go.Proofs.YtmmmmjcfojhiaaaGreatDoor
