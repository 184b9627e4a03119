/-
  DERIVED. GIVEN WITH THE SEED: THE CARDS: each row of YtcfledjilpdddabDoorRows.lean that lists a variable, with what it lists TIED to the program's text (the seventh form; the later family's looks); each row that meets fmt, with fmt's text TOLD by the authors' own Lean function (tested against real Go, not proved from fmt's source: count such statements apart). THE CARD IS WHAT COUNTS. Prove the row's statement (the work); the ties are given (YtcfledjilpdddabDoorTie.lean); close each card by the builder's one call (the guide's Derived/Test/ToyasCard.lean, 'card_holds'). Laid BY PROGRAM, IN A SANDBOX (cutbox-door.mjs). By AI agents, Wed Nov 11 2026. No macro, syntax, notation, axiom, sorry.
-/
import Derived.Test.YtcfledjilpdddabDoorRows
import GoSem.ClaimSeven
namespace Go.Proofs.YtcfledjilpdddabDoor
namespace Rows

/-- THE TIED CARD OF 'plumboblaw14.FlowKnown'. -/
def flowKnownCard : Claim7 := { stood := { row := flowKnownRow, standIns := [], harness := (true, "60fe017587852de8e3ba1119f9df566c8e59d5264c7b2ba0d35e0a17209f85f4"), looks := false }, kinds := [], alts := [], laidByText := true, laidKinds := [.data], laidTests := true, laidLooks := .later }
def FlowKnownCardSaid : Prop := Claim7.holds Tryd.pinned (.plain (OpenSpec.ofChange flowKnownSpec)) flowKnownCard

/-- THE SECOND FORM's CARD OF 'plumboblaw14.FlowKnown'. -/
def flowKnownUptoCard : Claim7 := { stood := { row := flowKnownUptoRow, standIns := [], harness := (true, "60fe017587852de8e3ba1119f9df566c8e59d5264c7b2ba0d35e0a17209f85f4"), looks := false }, kinds := [], alts := [], laidByText := true, laidKinds := [.data], laidTests := true, laidLooks := .later }
def FlowKnownUptoCardSaid : Prop := Claim7.holds Tryd.pinned (.plain (OpenSpec.upto flowKnownSpec)) flowKnownUptoCard
end Rows
end Go.Proofs.YtcfledjilpdddabDoor
