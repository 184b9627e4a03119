/-
  DERIVED. GIVEN WITH THE SEED: THE CARDS: each row of YtcfledjilpdddadGreatDoorRows.lean that lists a variable, with what it lists TIED to the program's text (the seventh form; the later family's looks); each row that meets fmt, with fmt's text TOLD by the authors' own Lean function (tested against real Go, not proved from fmt's source: count such statements apart). THE CARD IS WHAT COUNTS. Prove the row's statement (the work); the ties are given (YtcfledjilpdddadGreatDoorTie.lean); close each card by the builder's one call (the guide's Derived/Test/ToyasCard.lean, 'card_holds'). Laid BY PROGRAM, IN A SANDBOX (cutbox-door.mjs). By AI agents, Wed Nov 11 2026. No macro, syntax, notation, axiom, sorry.
-/
import Derived.Test.YtcfledjilpdddadGreatDoorRows
import GoSem.ClaimSeven
namespace Go.Proofs.YtcfledjilpdddadGreatDoor
namespace Rows

/-- THE TIED CARD OF 'plumboblaw17.AllocKnown'. -/
def allocKnownCard : Claim7 := { stood := { row := allocKnownRow, standIns := [], harness := (true, "524ae641af94bca7e5ac3484844b3e794f73b8ffee2ea036e221fae142f692c3"), looks := false }, kinds := [], alts := [], laidByText := true, laidKinds := [.data], laidTests := true, laidLooks := .later }
def AllocKnownCardSaid : Prop := Claim7.holds Tryz.pinned (.plain (OpenSpec.ofChange allocKnownSpec)) allocKnownCard

/-- THE SECOND FORM's CARD OF 'plumboblaw17.AllocKnown'. -/
def allocKnownUptoCard : Claim7 := { stood := { row := allocKnownUptoRow, standIns := [], harness := (true, "524ae641af94bca7e5ac3484844b3e794f73b8ffee2ea036e221fae142f692c3"), looks := false }, kinds := [], alts := [], laidByText := true, laidKinds := [.data], laidTests := true, laidLooks := .later }
def AllocKnownUptoCardSaid : Prop := Claim7.holds Tryz.pinned (.plain (OpenSpec.upto allocKnownSpec)) allocKnownUptoCard
end Rows
end Go.Proofs.YtcfledjilpdddadGreatDoor
