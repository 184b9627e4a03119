/-
  DERIVED. GIVEN WITH THE SEED: THE CARDS: each row of YtfhacoddmpbgnaaDoorRows.lean that lists a variable, with what it lists TIED to the program's text (the seventh form; the later family's looks); each row that meets fmt, with fmt's text TOLD by the authors' own Lean function (tested against real Go, not proved from fmt's source: count such statements apart). THE CARD IS WHAT COUNTS. Prove the row's statement (the work); the ties are given (YtfhacoddmpbgnaaDoorTie.lean); close each card by the builder's one call (the guide's Derived/Test/ToyasCard.lean, 'card_holds'). Laid BY PROGRAM, IN A SANDBOX (cutbox-door.mjs). By AI agents, Wed Nov 11 2026. No macro, syntax, notation, axiom, sorry.
-/
import Derived.Test.YtfhacoddmpbgnaaDoorRows
import GoSem.ClaimSeven
namespace Go.Proofs.YtfhacoddmpbgnaaDoor
namespace Rows

/-- THE TIED CARD OF 'plumboblaw12.RtlMore'. -/
def rtlMoreCard : Claim7 := { stood := { row := rtlMoreRow, standIns := [], harness := (true, "0be1902661342523b6f9f08ba615f6e6721d73a41d7ceb5a76e7959dc0cc99ec"), looks := false }, kinds := [], alts := [], laidByText := true, laidKinds := [.data, .data, .data, .data, .pinned, .pinned, .pinned, .pinned, .pinned, .pinned], laidTests := true, laidLooks := .later }
def RtlMoreCardSaid : Prop := Claim7.holds Tryd.pinned (.plain (OpenSpec.ofChange rtlMoreSpec)) rtlMoreCard

/-- THE SECOND FORM's CARD OF 'plumboblaw12.RtlMore'. -/
def rtlMoreUptoCard : Claim7 := { stood := { row := rtlMoreUptoRow, standIns := [], harness := (true, "0be1902661342523b6f9f08ba615f6e6721d73a41d7ceb5a76e7959dc0cc99ec"), looks := false }, kinds := [], alts := [], laidByText := true, laidKinds := [.data, .data, .data, .data, .pinned, .pinned, .pinned, .pinned, .pinned, .pinned], laidTests := true, laidLooks := .later }
def RtlMoreUptoCardSaid : Prop := Claim7.holds Tryd.pinned (.plain (OpenSpec.upto rtlMoreSpec)) rtlMoreUptoCard
end Rows
end Go.Proofs.YtfhacoddmpbgnaaDoor
