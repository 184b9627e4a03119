/-
  DERIVED. GIVEN WITH THE SEED: THE CARDS: each row of YtcecapkbglnejaaDoorRows.lean that lists a variable, with what it lists TIED to the program's text (the seventh form; the later family's looks); each row that meets fmt, with fmt's text TOLD by the authors' own Lean function (tested against real Go, not proved from fmt's source: count such statements apart). THE CARD IS WHAT COUNTS. Prove the row's statement (the work); the ties are given (YtcecapkbglnejaaDoorTie.lean); close each card by the builder's one call (the guide's Derived/Test/ToyasCard.lean, 'card_holds'). Laid BY PROGRAM, IN A SANDBOX (cutbox-door.mjs). By AI agents, Wed Nov 11 2026. No macro, syntax, notation, axiom, sorry.
-/
import Derived.Test.YtcecapkbglnejaaDoorRows
import GoSem.ClaimSeven
namespace Go.Proofs.YtcecapkbglnejaaDoor
namespace Rows

/-- THE TIED CARD OF 'plumboblaw20.AsmTold'. -/
def asmToldCard : Claim7 := { stood := { row := asmToldRow, standIns := [], harness := (true, "bac568231921cbcb5a0314b65711fc8aa0344187b436dc2c76ae79ff3b52e270"), looks := false }, kinds := [], alts := [], laidByText := true, laidKinds := [.data, .data, .data, .data, .pinned, .pinned, .pinned, .pinned, .pinned, .pinned], laidTests := true, laidLooks := .later }
def AsmToldCardSaid : Prop := Claim7.holds Tryd.pinned (.plain (OpenSpec.ofChange asmToldSpec)) asmToldCard

/-- THE TIED CARD OF 'plumboblaw20.AsmMore'. -/
def asmMoreCard : Claim7 := { stood := { row := asmMoreRow, standIns := [], harness := (true, "bac568231921cbcb5a0314b65711fc8aa0344187b436dc2c76ae79ff3b52e270"), looks := false }, kinds := [], alts := [], laidByText := true, laidKinds := [.data, .data, .data, .data, .pinned, .pinned, .pinned, .pinned, .pinned, .pinned], laidTests := true, laidLooks := .later }
def AsmMoreCardSaid : Prop := Claim7.holds Tryd.pinned (.plain (OpenSpec.ofChange asmMoreSpec)) asmMoreCard

/-- THE SECOND FORM's CARD OF 'plumboblaw20.AsmTold'. -/
def asmToldUptoCard : Claim7 := { stood := { row := asmToldUptoRow, standIns := [], harness := (true, "bac568231921cbcb5a0314b65711fc8aa0344187b436dc2c76ae79ff3b52e270"), looks := false }, kinds := [], alts := [], laidByText := true, laidKinds := [.data, .data, .data, .data, .pinned, .pinned, .pinned, .pinned, .pinned, .pinned], laidTests := true, laidLooks := .later }
def AsmToldUptoCardSaid : Prop := Claim7.holds Tryd.pinned (.plain (OpenSpec.upto asmToldSpec)) asmToldUptoCard

/-- THE SECOND FORM's CARD OF 'plumboblaw20.AsmMore'. -/
def asmMoreUptoCard : Claim7 := { stood := { row := asmMoreUptoRow, standIns := [], harness := (true, "bac568231921cbcb5a0314b65711fc8aa0344187b436dc2c76ae79ff3b52e270"), looks := false }, kinds := [], alts := [], laidByText := true, laidKinds := [.data, .data, .data, .data, .pinned, .pinned, .pinned, .pinned, .pinned, .pinned], laidTests := true, laidLooks := .later }
def AsmMoreUptoCardSaid : Prop := Claim7.holds Tryd.pinned (.plain (OpenSpec.upto asmMoreSpec)) asmMoreUptoCard
end Rows
end Go.Proofs.YtcecapkbglnejaaDoor
