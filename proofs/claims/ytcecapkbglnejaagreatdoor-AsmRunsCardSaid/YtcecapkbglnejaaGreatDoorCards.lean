/-
  DERIVED. GIVEN WITH THE SEED: THE CARDS: each row of YtcecapkbglnejaaGreatDoorRows.lean that lists a variable, with what it lists TIED to the program's text (the seventh form; the later family's looks); each row that meets fmt, with fmt's text TOLD by the authors' own Lean function (tested against real Go, not proved from fmt's source: count such statements apart). THE CARD IS WHAT COUNTS. Prove the row's statement (the work); the ties are given (YtcecapkbglnejaaGreatDoorTie.lean); close each card by the builder's one call (the guide's Derived/Test/ToyasCard.lean, 'card_holds'). Laid BY PROGRAM, IN A SANDBOX (cutbox-door.mjs). By AI agents, Wed Nov 11 2026. No macro, syntax, notation, axiom, sorry.
-/
import Derived.Test.YtcecapkbglnejaaGreatDoorRows
import GoSem.ClaimSeven
namespace Go.Proofs.YtcecapkbglnejaaGreatDoor
namespace Rows

/-- THE TIED CARD OF 'plumboblaw20.AsmRuns'. -/
def asmRunsCard : Claim7 := { stood := { row := asmRunsRow, standIns := [], harness := (true, "52bb32af4f445025eedad37b3fb244a6f1b1c7268874f1024f480f3a32037b50"), looks := false }, kinds := [], alts := [], laidByText := true, laidKinds := [.data, .data, .data, .data, .pinned, .pinned, .pinned, .pinned, .pinned, .pinned], laidTests := true, laidLooks := .later }
def AsmRunsCardSaid : Prop := Claim7.holds Tryz.pinned (.plain (OpenSpec.ofChange asmRunsSpec)) asmRunsCard

/-- THE TIED CARD OF 'plumboblaw20.AsmLimits'. -/
def asmLimitsCard : Claim7 := { stood := { row := asmLimitsRow, standIns := [], harness := (true, "52bb32af4f445025eedad37b3fb244a6f1b1c7268874f1024f480f3a32037b50"), looks := false }, kinds := [], alts := [], laidByText := true, laidKinds := [.data, .data, .data, .data, .pinned, .pinned, .pinned, .pinned, .pinned, .pinned], laidTests := true, laidLooks := .later }
def AsmLimitsCardSaid : Prop := Claim7.holds Tryz.pinned (.plain (OpenSpec.ofChange asmLimitsSpec)) asmLimitsCard

/-- THE TIED CARD OF 'plumboblaw20.AsmLabels'. -/
def asmLabelsCard : Claim7 := { stood := { row := asmLabelsRow, standIns := [], harness := (true, "52bb32af4f445025eedad37b3fb244a6f1b1c7268874f1024f480f3a32037b50"), looks := false }, kinds := [], alts := [], laidByText := true, laidKinds := [.data, .data, .data, .data, .pinned, .pinned, .pinned, .pinned, .pinned, .pinned], laidTests := true, laidLooks := .later }
def AsmLabelsCardSaid : Prop := Claim7.holds Tryz.pinned (.plain (OpenSpec.ofChange asmLabelsSpec)) asmLabelsCard

/-- THE SECOND FORM's CARD OF 'plumboblaw20.AsmRuns'. -/
def asmRunsUptoCard : Claim7 := { stood := { row := asmRunsUptoRow, standIns := [], harness := (true, "52bb32af4f445025eedad37b3fb244a6f1b1c7268874f1024f480f3a32037b50"), looks := false }, kinds := [], alts := [], laidByText := true, laidKinds := [.data, .data, .data, .data, .pinned, .pinned, .pinned, .pinned, .pinned, .pinned], laidTests := true, laidLooks := .later }
def AsmRunsUptoCardSaid : Prop := Claim7.holds Tryz.pinned (.plain (OpenSpec.upto asmRunsSpec)) asmRunsUptoCard

/-- THE SECOND FORM's CARD OF 'plumboblaw20.AsmLimits'. -/
def asmLimitsUptoCard : Claim7 := { stood := { row := asmLimitsUptoRow, standIns := [], harness := (true, "52bb32af4f445025eedad37b3fb244a6f1b1c7268874f1024f480f3a32037b50"), looks := false }, kinds := [], alts := [], laidByText := true, laidKinds := [.data, .data, .data, .data, .pinned, .pinned, .pinned, .pinned, .pinned, .pinned], laidTests := true, laidLooks := .later }
def AsmLimitsUptoCardSaid : Prop := Claim7.holds Tryz.pinned (.plain (OpenSpec.upto asmLimitsSpec)) asmLimitsUptoCard

/-- THE SECOND FORM's CARD OF 'plumboblaw20.AsmLabels'. -/
def asmLabelsUptoCard : Claim7 := { stood := { row := asmLabelsUptoRow, standIns := [], harness := (true, "52bb32af4f445025eedad37b3fb244a6f1b1c7268874f1024f480f3a32037b50"), looks := false }, kinds := [], alts := [], laidByText := true, laidKinds := [.data, .data, .data, .data, .pinned, .pinned, .pinned, .pinned, .pinned, .pinned], laidTests := true, laidLooks := .later }
def AsmLabelsUptoCardSaid : Prop := Claim7.holds Tryz.pinned (.plain (OpenSpec.upto asmLabelsSpec)) asmLabelsUptoCard
end Rows
end Go.Proofs.YtcecapkbglnejaaGreatDoor
