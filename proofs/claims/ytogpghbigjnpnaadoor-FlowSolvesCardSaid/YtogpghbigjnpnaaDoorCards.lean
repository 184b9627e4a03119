/-
  DERIVED. GIVEN WITH THE SEED: THE CARDS: each row of YtogpghbigjnpnaaDoorRows.lean that lists a variable, with what it lists TIED to the program's text (the seventh form; the later family's looks); each row that meets fmt, with fmt's text TOLD by the authors' own Lean function (tested against real Go, not proved from fmt's source: count such statements apart). THE CARD IS WHAT COUNTS. Prove the row's statement (the work); the ties are given (YtogpghbigjnpnaaDoorTie.lean); close each card by the builder's one call (the guide's Derived/Test/ToyasCard.lean, 'card_holds'). Laid BY PROGRAM, IN A SANDBOX (cutbox-door.mjs). By AI agents, Wed Nov 11 2026. No macro, syntax, notation, axiom, sorry.
-/
import Derived.Test.YtogpghbigjnpnaaDoorRows
import GoSem.ClaimSeven
namespace Go.Proofs.YtogpghbigjnpnaaDoor
namespace Rows

/-- THE TIED CARD OF 'plumboblaw14.FlowSolves'. -/
def flowSolvesCard : Claim7 := { stood := { row := flowSolvesRow, standIns := [], harness := (true, "4d0cbe210b1bc6fb4c1a64e48cbb01e739d4cbdcd0051d2c28faa0831b83c68d"), looks := false }, kinds := [], alts := [], laidByText := true, laidKinds := [.data], laidTests := true, laidLooks := .later }
def FlowSolvesCardSaid : Prop := Claim7.holds Tryd.pinned (.plain (OpenSpec.ofChange flowSolvesSpec)) flowSolvesCard

/-- THE TIED CARD OF 'plumboblaw14.FlowGrows'. -/
def flowGrowsCard : Claim7 := { stood := { row := flowGrowsRow, standIns := [], harness := (true, "4d0cbe210b1bc6fb4c1a64e48cbb01e739d4cbdcd0051d2c28faa0831b83c68d"), looks := false }, kinds := [], alts := [], laidByText := true, laidKinds := [.data], laidTests := true, laidLooks := .later }
def FlowGrowsCardSaid : Prop := Claim7.holds Tryd.pinned (.plain (OpenSpec.ofChange flowGrowsSpec)) flowGrowsCard

/-- THE SECOND FORM's CARD OF 'plumboblaw14.FlowSolves'. -/
def flowSolvesUptoCard : Claim7 := { stood := { row := flowSolvesUptoRow, standIns := [], harness := (true, "4d0cbe210b1bc6fb4c1a64e48cbb01e739d4cbdcd0051d2c28faa0831b83c68d"), looks := false }, kinds := [], alts := [], laidByText := true, laidKinds := [.data], laidTests := true, laidLooks := .later }
def FlowSolvesUptoCardSaid : Prop := Claim7.holds Tryd.pinned (.plain (OpenSpec.upto flowSolvesSpec)) flowSolvesUptoCard

/-- THE SECOND FORM's CARD OF 'plumboblaw14.FlowGrows'. -/
def flowGrowsUptoCard : Claim7 := { stood := { row := flowGrowsUptoRow, standIns := [], harness := (true, "4d0cbe210b1bc6fb4c1a64e48cbb01e739d4cbdcd0051d2c28faa0831b83c68d"), looks := false }, kinds := [], alts := [], laidByText := true, laidKinds := [.data], laidTests := true, laidLooks := .later }
def FlowGrowsUptoCardSaid : Prop := Claim7.holds Tryd.pinned (.plain (OpenSpec.upto flowGrowsSpec)) flowGrowsUptoCard
end Rows
end Go.Proofs.YtogpghbigjnpnaaDoor
