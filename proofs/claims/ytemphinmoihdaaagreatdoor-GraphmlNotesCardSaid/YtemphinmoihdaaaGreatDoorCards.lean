/-
  DERIVED. GIVEN WITH THE SEED: THE CARDS: each row of YtemphinmoihdaaaGreatDoorRows.lean that lists a variable, with what it lists TIED to the program's text (the seventh form; the later family's looks); each row that meets fmt, with fmt's text TOLD by the authors' own Lean function (tested against real Go, not proved from fmt's source: count such statements apart). THE CARD IS WHAT COUNTS. Prove the row's statement (the work); the ties are given (YtemphinmoihdaaaGreatDoorTie.lean); close each card by the builder's one call (the guide's Derived/Test/ToyasCard.lean, 'card_holds'). Laid BY PROGRAM, IN A SANDBOX (cutbox-door.mjs). By AI agents, Wed Nov 11 2026. No macro, syntax, notation, axiom, sorry.
-/
import Derived.Test.YtemphinmoihdaaaGreatDoorRows
import GoSem.ClaimSeven
namespace Go.Proofs.YtemphinmoihdaaaGreatDoor
namespace Rows

/-- THE TIED CARD OF 'tracerylaw31.GraphmlNotes'. -/
def graphmlNotesCard : Claim7 := { stood := { row := graphmlNotesRow, standIns := [], harness := (true, "753aadc652e37551047e3cf4acc47d3a78a53fda585d543ec6a038da4590a6d3"), looks := true }, kinds := [], alts := [], laidByText := true, laidKinds := [.data, .data, .widerDeep, .widerDeep, .data, .data, .data, .data, .data, .data, .sentinel, .sentinel, .pinned, .pinned, .pinned], laidTests := true, laidLooks := .later }
def GraphmlNotesCardSaid : Prop := Claim7.holds Tryz.pinned (.plain (OpenSpec.ofChange graphmlNotesSpec)) graphmlNotesCard

/-- THE SECOND FORM's CARD OF 'tracerylaw31.GraphmlNotes'. -/
def graphmlNotesUptoCard : Claim7 := { stood := { row := graphmlNotesUptoRow, standIns := [], harness := (true, "753aadc652e37551047e3cf4acc47d3a78a53fda585d543ec6a038da4590a6d3"), looks := true }, kinds := [], alts := [], laidByText := true, laidKinds := [.data, .data, .widerDeep, .widerDeep, .data, .data, .data, .data, .data, .data, .sentinel, .sentinel, .pinned, .pinned, .pinned], laidTests := true, laidLooks := .later }
def GraphmlNotesUptoCardSaid : Prop := Claim7.holds Tryz.pinned (.plain (OpenSpec.upto graphmlNotesSpec)) graphmlNotesUptoCard
end Rows
end Go.Proofs.YtemphinmoihdaaaGreatDoor
