/-
  DERIVED. GIVEN WITH THE SEED: THE CARDS: each row of YtcfledjilpdddacDoorRows.lean that lists a variable, with what it lists TIED to the program's text (the seventh form; the later family's looks); each row that meets fmt, with fmt's text TOLD by the authors' own Lean function (tested against real Go, not proved from fmt's source: count such statements apart). THE CARD IS WHAT COUNTS. Prove the row's statement (the work); the ties are given (YtcfledjilpdddacDoorTie.lean); close each card by the builder's one call (the guide's Derived/Test/ToyasCard.lean, 'card_holds'). Laid BY PROGRAM, IN A SANDBOX (cutbox-door.mjs). By AI agents, Wed Nov 11 2026. No macro, syntax, notation, axiom, sorry.
-/
import Derived.Test.YtcfledjilpdddacDoorRows
import GoSem.ClaimSeven
namespace Go.Proofs.YtcfledjilpdddacDoor
namespace Rows

/-- THE TIED CARD OF 'plumboblaw12.RtlKnown'. -/
def rtlKnownCard : Claim7 := { stood := { row := rtlKnownRow, standIns := [], harness := (true, "0b2c0b9ad54b40c9b9c4bb7d79bdb561175a4c6f5eb581c47448abfc079ea4ab"), looks := false }, kinds := [], alts := [], laidByText := true, laidKinds := [.data, .data, .data, .data, .pinned, .pinned, .pinned, .pinned, .pinned, .pinned], laidTests := true, laidLooks := .later }
def RtlKnownCardSaid : Prop := Claim7.holds Tryd.pinned (.plain (OpenSpec.ofChange rtlKnownSpec)) rtlKnownCard

/-- THE SECOND FORM's CARD OF 'plumboblaw12.RtlKnown'. -/
def rtlKnownUptoCard : Claim7 := { stood := { row := rtlKnownUptoRow, standIns := [], harness := (true, "0b2c0b9ad54b40c9b9c4bb7d79bdb561175a4c6f5eb581c47448abfc079ea4ab"), looks := false }, kinds := [], alts := [], laidByText := true, laidKinds := [.data, .data, .data, .data, .pinned, .pinned, .pinned, .pinned, .pinned, .pinned], laidTests := true, laidLooks := .later }
def RtlKnownUptoCardSaid : Prop := Claim7.holds Tryd.pinned (.plain (OpenSpec.upto rtlKnownSpec)) rtlKnownUptoCard
end Rows
end Go.Proofs.YtcfledjilpdddacDoor
