/-
  DERIVED. GIVEN WITH THE SEED: THE CARDS: each row of YtikgepmgdhkngaaGreatDoorRows.lean that lists a variable, with what it lists TIED to the program's text (the seventh form; the later family's looks); each row that meets fmt, with fmt's text TOLD by the authors' own Lean function (tested against real Go, not proved from fmt's source: count such statements apart). THE CARD IS WHAT COUNTS. Prove the row's statement (the work); the ties are given (YtikgepmgdhkngaaGreatDoorTie.lean); close each card by the builder's one call (the guide's Derived/Test/ToyasCard.lean, 'card_holds'). Laid BY PROGRAM, IN A SANDBOX (cutbox-door.mjs). By AI agents, Wed Nov 11 2026. No macro, syntax, notation, axiom, sorry.
-/
import Derived.Test.YtikgepmgdhkngaaGreatDoorRows
import GoSem.ClaimSeven
namespace Go.Proofs.YtikgepmgdhkngaaGreatDoor
namespace Rows

/-- THE TIED CARD OF 'plumboblaw12.RtlGood'. -/
def rtlGoodCard : Claim7 := { stood := { row := rtlGoodRow, standIns := [], harness := (true, "6dfbeb82e5c5f8753cb8a0116dfe57fe6c80262e564763926169a2264b1a8d58"), looks := false }, kinds := [], alts := [], laidByText := true, laidKinds := [.data, .data, .data, .data, .pinned, .pinned, .pinned, .pinned, .pinned, .pinned], laidTests := true, laidLooks := .later }
def RtlGoodCardSaid : Prop := Claim7.holds Tryz.pinned (.plain (OpenSpec.ofChange rtlGoodSpec)) rtlGoodCard

/-- THE SECOND FORM's CARD OF 'plumboblaw12.RtlGood'. -/
def rtlGoodUptoCard : Claim7 := { stood := { row := rtlGoodUptoRow, standIns := [], harness := (true, "6dfbeb82e5c5f8753cb8a0116dfe57fe6c80262e564763926169a2264b1a8d58"), looks := false }, kinds := [], alts := [], laidByText := true, laidKinds := [.data, .data, .data, .data, .pinned, .pinned, .pinned, .pinned, .pinned, .pinned], laidTests := true, laidLooks := .later }
def RtlGoodUptoCardSaid : Prop := Claim7.holds Tryz.pinned (.plain (OpenSpec.upto rtlGoodSpec)) rtlGoodUptoCard
end Rows
end Go.Proofs.YtikgepmgdhkngaaGreatDoor
