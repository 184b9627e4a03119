/-
  DERIVED. GIVEN WITH THE SEED: THE CARDS: each row of YtcfledjilpdddaeGreatDoorRows.lean that lists a variable, with what it lists TIED to the program's text (the seventh form; the later family's looks); each row that meets fmt, with fmt's text TOLD by the authors' own Lean function (tested against real Go, not proved from fmt's source: count such statements apart). THE CARD IS WHAT COUNTS. Prove the row's statement (the work); the ties are given (YtcfledjilpdddaeGreatDoorTie.lean); close each card by the builder's one call (the guide's Derived/Test/ToyasCard.lean, 'card_holds'). Laid BY PROGRAM, IN A SANDBOX (cutbox-door.mjs). By AI agents, Wed Nov 11 2026. No macro, syntax, notation, axiom, sorry.
-/
import Derived.Test.YtcfledjilpdddaeGreatDoorRows
import GoSem.ClaimSeven
namespace Go.Proofs.YtcfledjilpdddaeGreatDoor
namespace Rows

/-- THE TIED CARD OF 'plumboblaw18.LinearKnown'. -/
def linearKnownCard : Claim7 := { stood := { row := linearKnownRow, standIns := [], harness := (true, "14ac034d7e0ebee99639bed058d40256bb3262b9117626478000d3b49e4d2993"), looks := false }, kinds := [], alts := [], laidByText := true, laidKinds := [.data, .data, .data, .data, .pinned, .pinned, .pinned, .pinned, .pinned, .pinned], laidTests := true, laidLooks := .later }
def LinearKnownCardSaid : Prop := Claim7.holds Tryz.pinned (.plain (OpenSpec.ofChange linearKnownSpec)) linearKnownCard

/-- THE SECOND FORM's CARD OF 'plumboblaw18.LinearKnown'. -/
def linearKnownUptoCard : Claim7 := { stood := { row := linearKnownUptoRow, standIns := [], harness := (true, "14ac034d7e0ebee99639bed058d40256bb3262b9117626478000d3b49e4d2993"), looks := false }, kinds := [], alts := [], laidByText := true, laidKinds := [.data, .data, .data, .data, .pinned, .pinned, .pinned, .pinned, .pinned, .pinned], laidTests := true, laidLooks := .later }
def LinearKnownUptoCardSaid : Prop := Claim7.holds Tryz.pinned (.plain (OpenSpec.upto linearKnownSpec)) linearKnownUptoCard
end Rows
end Go.Proofs.YtcfledjilpdddaeGreatDoor
