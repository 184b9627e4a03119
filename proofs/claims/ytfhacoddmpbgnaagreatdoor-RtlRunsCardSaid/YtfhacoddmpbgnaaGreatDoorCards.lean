/-
  DERIVED. GIVEN WITH THE SEED: THE CARDS: each row of YtfhacoddmpbgnaaGreatDoorRows.lean that lists a variable, with what it lists TIED to the program's text (the seventh form; the later family's looks); each row that meets fmt, with fmt's text TOLD by the authors' own Lean function (tested against real Go, not proved from fmt's source: count such statements apart). THE CARD IS WHAT COUNTS. Prove the row's statement (the work); the ties are given (YtfhacoddmpbgnaaGreatDoorTie.lean); close each card by the builder's one call (the guide's Derived/Test/ToyasCard.lean, 'card_holds'). Laid BY PROGRAM, IN A SANDBOX (cutbox-door.mjs). By AI agents, Wed Nov 11 2026. No macro, syntax, notation, axiom, sorry.
-/
import Derived.Test.YtfhacoddmpbgnaaGreatDoorRows
import GoSem.ClaimSeven
namespace Go.Proofs.YtfhacoddmpbgnaaGreatDoor
namespace Rows

/-- THE TIED CARD OF 'plumboblaw12.RtlRuns'. -/
def rtlRunsCard : Claim7 := { stood := { row := rtlRunsRow, standIns := [], harness := (true, "de8435c2d5810ec5085006ab68366218263f089eba8efdfb7f0701dfaf1f36de"), looks := false }, kinds := [], alts := [], laidByText := true, laidKinds := [.data, .data, .data, .data, .pinned, .pinned, .pinned, .pinned, .pinned, .pinned], laidTests := true, laidLooks := .later }
def RtlRunsCardSaid : Prop := Claim7.holds Tryz.pinned (.plain (OpenSpec.ofChange rtlRunsSpec)) rtlRunsCard

/-- THE TIED CARD OF 'plumboblaw12.RtlTold'. -/
def rtlToldCard : Claim7 := { stood := { row := rtlToldRow, standIns := [], harness := (true, "de8435c2d5810ec5085006ab68366218263f089eba8efdfb7f0701dfaf1f36de"), looks := false }, kinds := [], alts := [], laidByText := true, laidKinds := [.data, .data, .data, .data, .pinned, .pinned, .pinned, .pinned, .pinned, .pinned], laidTests := true, laidLooks := .later }
def RtlToldCardSaid : Prop := Claim7.holds Tryz.pinned (.plain (OpenSpec.ofChange rtlToldSpec)) rtlToldCard

/-- THE TIED CARD OF 'plumboblaw12.RtlNumbers'. -/
def rtlNumbersCard : Claim7 := { stood := { row := rtlNumbersRow, standIns := [], harness := (true, "de8435c2d5810ec5085006ab68366218263f089eba8efdfb7f0701dfaf1f36de"), looks := false }, kinds := [], alts := [], laidByText := true, laidKinds := [.data, .data, .data, .data, .pinned, .pinned, .pinned, .pinned, .pinned, .pinned], laidTests := true, laidLooks := .later }
def RtlNumbersCardSaid : Prop := Claim7.holds Tryz.pinned (.plain (OpenSpec.ofChange rtlNumbersSpec)) rtlNumbersCard

/-- THE SECOND FORM's CARD OF 'plumboblaw12.RtlRuns'. -/
def rtlRunsUptoCard : Claim7 := { stood := { row := rtlRunsUptoRow, standIns := [], harness := (true, "de8435c2d5810ec5085006ab68366218263f089eba8efdfb7f0701dfaf1f36de"), looks := false }, kinds := [], alts := [], laidByText := true, laidKinds := [.data, .data, .data, .data, .pinned, .pinned, .pinned, .pinned, .pinned, .pinned], laidTests := true, laidLooks := .later }
def RtlRunsUptoCardSaid : Prop := Claim7.holds Tryz.pinned (.plain (OpenSpec.upto rtlRunsSpec)) rtlRunsUptoCard

/-- THE SECOND FORM's CARD OF 'plumboblaw12.RtlTold'. -/
def rtlToldUptoCard : Claim7 := { stood := { row := rtlToldUptoRow, standIns := [], harness := (true, "de8435c2d5810ec5085006ab68366218263f089eba8efdfb7f0701dfaf1f36de"), looks := false }, kinds := [], alts := [], laidByText := true, laidKinds := [.data, .data, .data, .data, .pinned, .pinned, .pinned, .pinned, .pinned, .pinned], laidTests := true, laidLooks := .later }
def RtlToldUptoCardSaid : Prop := Claim7.holds Tryz.pinned (.plain (OpenSpec.upto rtlToldSpec)) rtlToldUptoCard

/-- THE SECOND FORM's CARD OF 'plumboblaw12.RtlNumbers'. -/
def rtlNumbersUptoCard : Claim7 := { stood := { row := rtlNumbersUptoRow, standIns := [], harness := (true, "de8435c2d5810ec5085006ab68366218263f089eba8efdfb7f0701dfaf1f36de"), looks := false }, kinds := [], alts := [], laidByText := true, laidKinds := [.data, .data, .data, .data, .pinned, .pinned, .pinned, .pinned, .pinned, .pinned], laidTests := true, laidLooks := .later }
def RtlNumbersUptoCardSaid : Prop := Claim7.holds Tryz.pinned (.plain (OpenSpec.upto rtlNumbersSpec)) rtlNumbersUptoCard
end Rows
end Go.Proofs.YtfhacoddmpbgnaaGreatDoor
