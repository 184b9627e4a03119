/-
  No cell of these rows narrows 'for every input' (looked for: loops, veiled, ifaces, maps, wideKeys, modest, calm, conditions, laid).
  DERIVED. THE GIVEN ROWS OF THIS SEAT. 4 by the template 'for every input the law returns true; each argument reads behind the call as it read before'; 0 by the template 'total and deterministic' (their statements: YtpjjmindjodknaaGreatTotals.lean).
  GIVEN WITH THE SEED: the statements are not yours to turn. If you find one false, say at which input.
  Laid BY PROGRAM, IN A SANDBOX (cutbox-rows.mjs): the forced cells as the released guide's own fill.sh prints them over the translation 5bb1c8ba1c18d4b6… (all of the seat's roots in one cut). By AI agents, Wed Nov 11 2026. No macro, syntax, notation, axiom, sorry.
-/
import Derived.Test.YtpjjmindjodknaaGreatChecked
import GoSem.Claim
import GoSem.ClaimJoined
import GoSem.ClaimMapViews
import Derived.JoinedTies
import Derived.KernelRfl
namespace Go.Proofs.YtpjjmindjodknaaGreat
/- THE CELL 'sum', in the pinned program and in every row, IS THE sha256 OF THE DUMP (.gsa) THAT YtpjjmindjodknaaGreatProg.lean LOADS. Nothing in Lean hashes anything: it is a label: what it is worth is what the hold of that sum in a sandbox is worth. -/
noncomputable def Tryz.pinned : Pinned := { name := "ytpjjmindjodknaagreat", sum := "5bb1c8ba1c18d4b6f03eb3bc8d1bce259da43de7e1b6bdd12f7a5c039d6df9e5", checked := Tryz.checked }
namespace Rows
def none {H : Type} : Left H := { results := [], args := [] }

/-- 'plumboblaw22.EncBytes': WHATEVER THE INPUT: true; the input reads as it did. -/
def encBytesSpec : ChangeSpec := { name := "encBytes", fn := fun _ => fun
  | [d] => { results := [.lit (.bool true)], args := [d] }
  | _ => none }
def encBytesRow : OpenClaim := { program := "ytpjjmindjodknaagreat", sum := "5bb1c8ba1c18d4b6f03eb3bc8d1bce259da43de7e1b6bdd12f7a5c039d6df9e5", func := "plumbob/plumboblaw22.EncBytes", spec := "encBytes", unfollowed := true, recurses := true, apart := false }
def EncBytesSaid : Prop := encBytesRow.holds Tryz.pinned (OpenSpec.ofChange encBytesSpec)

/-- ITS FALSE NEIGHBOUR: 'it returns false'. Refute it at one input. -/
def encBytesWrong : ChangeSpec := { name := "encBytes", fn := fun _ => fun
  | [d] => { results := [.lit (.bool false)], args := [d] }
  | _ => none }
def EncBytesWrongFalsely : Prop := encBytesRow.holds Tryz.pinned (OpenSpec.ofChange encBytesWrong)

/-- 'plumboblaw22.EncDecodes': WHATEVER THE INPUT: true; the input reads as it did. -/
def encDecodesSpec : ChangeSpec := { name := "encDecodes", fn := fun _ => fun
  | [d1, d2, d3, d4] => { results := [.lit (.bool true)], args := [d1, d2, d3, d4] }
  | _ => none }
def encDecodesRow : OpenClaim := { program := "ytpjjmindjodknaagreat", sum := "5bb1c8ba1c18d4b6f03eb3bc8d1bce259da43de7e1b6bdd12f7a5c039d6df9e5", func := "plumbob/plumboblaw22.EncDecodes", spec := "encDecodes", unfollowed := true, recurses := true, apart := false }
def EncDecodesSaid : Prop := encDecodesRow.holds Tryz.pinned (OpenSpec.ofChange encDecodesSpec)

/-- ITS FALSE NEIGHBOUR: 'it returns false'. Refute it at one input. -/
def encDecodesWrong : ChangeSpec := { name := "encDecodes", fn := fun _ => fun
  | [d1, d2, d3, d4] => { results := [.lit (.bool false)], args := [d1, d2, d3, d4] }
  | _ => none }
def EncDecodesWrongFalsely : Prop := encDecodesRow.holds Tryz.pinned (OpenSpec.ofChange encDecodesWrong)

/-- 'plumboblaw22.EncOne': WHATEVER THE INPUT: true; the input reads as it did. -/
def encOneSpec : ChangeSpec := { name := "encOne", fn := fun _ => fun
  | [d1, d2] => { results := [.lit (.bool true)], args := [d1, d2] }
  | _ => none }
def encOneRow : OpenClaim := { program := "ytpjjmindjodknaagreat", sum := "5bb1c8ba1c18d4b6f03eb3bc8d1bce259da43de7e1b6bdd12f7a5c039d6df9e5", func := "plumbob/plumboblaw22.EncOne", spec := "encOne", unfollowed := true, recurses := true, apart := false }
def EncOneSaid : Prop := encOneRow.holds Tryz.pinned (OpenSpec.ofChange encOneSpec)

/-- ITS FALSE NEIGHBOUR: 'it returns false'. Refute it at one input. -/
def encOneWrong : ChangeSpec := { name := "encOne", fn := fun _ => fun
  | [d1, d2] => { results := [.lit (.bool false)], args := [d1, d2] }
  | _ => none }
def EncOneWrongFalsely : Prop := encOneRow.holds Tryz.pinned (OpenSpec.ofChange encOneWrong)

/-- 'plumboblaw22.EncTwice': WHATEVER THE INPUT: true; the input reads as it did. -/
def encTwiceSpec : ChangeSpec := { name := "encTwice", fn := fun _ => fun
  | [d] => { results := [.lit (.bool true)], args := [d] }
  | _ => none }
def encTwiceRow : OpenClaim := { program := "ytpjjmindjodknaagreat", sum := "5bb1c8ba1c18d4b6f03eb3bc8d1bce259da43de7e1b6bdd12f7a5c039d6df9e5", func := "plumbob/plumboblaw22.EncTwice", spec := "encTwice", unfollowed := true, recurses := true, apart := false }
def EncTwiceSaid : Prop := encTwiceRow.holds Tryz.pinned (OpenSpec.ofChange encTwiceSpec)

/-- ITS FALSE NEIGHBOUR: 'it returns false'. Refute it at one input. -/
def encTwiceWrong : ChangeSpec := { name := "encTwice", fn := fun _ => fun
  | [d] => { results := [.lit (.bool false)], args := [d] }
  | _ => none }
def EncTwiceWrongFalsely : Prop := encTwiceRow.holds Tryz.pinned (OpenSpec.ofChange encTwiceWrong)

/- THE SECOND FORM. 'bulk': how many values and letters a reading holds, each counted each time it is reached (what is shared counts as often as it is met; a slice's spare places count too). A statement '..UptoSaid' is the law's where the arguments, and the package variables that the reading takes, are together of bulk at most 1048576: NARROWER than '..Said'. Prove '..Said' where nothing that the law and all that it calls make is longer than what came in: it says more and counts as full. Else prove '..UptoSaid'. A law counts once. -/
mutual
def uptoBulk {H : Type} : DataW H → Nat
  | .lit (.string bytes) => bytes.length + 1
  | .lit _ => 1
  | .nil => 1
  | .ptr d => uptoBulk d + 1
  | .slice elems spare => uptoBulkAll elems + uptoBulkAll spare + 1
  | .agg parts => uptoBulkAll parts + 1
  | .iface _ d => uptoBulk d + 1
  | .map entries => uptoBulkEntries entries + 1
  | .held _ => 1
def uptoBulkAll {H : Type} : List (DataW H) → Nat
  | [] => 0
  | d :: r => uptoBulk d + uptoBulkAll r
def uptoBulkEntries {H : Type} : List (Lit × DataW H) → Nat
  | [] => 0
  | x :: r => uptoBulkEntry x + uptoBulkEntries r
def uptoBulkEntry {H : Type} : Lit × DataW H → Nat
  | (.string bytes, d) => bytes.length + uptoBulk d + 1
  | (_, d) => uptoBulk d + 1
 end
def uptoSmall : (H : Type) → List (DataW H) → Bool := fun _ ds => decide (uptoBulkAll ds ≤ 1048576)
def OpenSpec.upto (s : _root_.Go.ChangeSpec) : _root_.Go.OpenSpec := { _root_.Go.OpenSpec.ofChange s with cond := some uptoSmall }

/-- 'plumboblaw22.EncBytes', WHERE WHAT IT READS IS OF BULK AT MOST 1048576: true; the input reads as it did. -/
def encBytesUptoRow : OpenClaim := { program := "ytpjjmindjodknaagreat", sum := "5bb1c8ba1c18d4b6f03eb3bc8d1bce259da43de7e1b6bdd12f7a5c039d6df9e5", func := "plumbob/plumboblaw22.EncBytes", spec := "encBytes", unfollowed := true, recurses := true, apart := false, narrowed := true }
def EncBytesUptoSaid : Prop := encBytesUptoRow.holds Tryz.pinned (OpenSpec.upto encBytesSpec)

/-- 'plumboblaw22.EncDecodes', WHERE WHAT IT READS IS OF BULK AT MOST 1048576: true; the input reads as it did. -/
def encDecodesUptoRow : OpenClaim := { program := "ytpjjmindjodknaagreat", sum := "5bb1c8ba1c18d4b6f03eb3bc8d1bce259da43de7e1b6bdd12f7a5c039d6df9e5", func := "plumbob/plumboblaw22.EncDecodes", spec := "encDecodes", unfollowed := true, recurses := true, apart := false, narrowed := true }
def EncDecodesUptoSaid : Prop := encDecodesUptoRow.holds Tryz.pinned (OpenSpec.upto encDecodesSpec)

/-- 'plumboblaw22.EncOne', WHERE WHAT IT READS IS OF BULK AT MOST 1048576: true; the input reads as it did. -/
def encOneUptoRow : OpenClaim := { program := "ytpjjmindjodknaagreat", sum := "5bb1c8ba1c18d4b6f03eb3bc8d1bce259da43de7e1b6bdd12f7a5c039d6df9e5", func := "plumbob/plumboblaw22.EncOne", spec := "encOne", unfollowed := true, recurses := true, apart := false, narrowed := true }
def EncOneUptoSaid : Prop := encOneUptoRow.holds Tryz.pinned (OpenSpec.upto encOneSpec)

/-- 'plumboblaw22.EncTwice', WHERE WHAT IT READS IS OF BULK AT MOST 1048576: true; the input reads as it did. -/
def encTwiceUptoRow : OpenClaim := { program := "ytpjjmindjodknaagreat", sum := "5bb1c8ba1c18d4b6f03eb3bc8d1bce259da43de7e1b6bdd12f7a5c039d6df9e5", func := "plumbob/plumboblaw22.EncTwice", spec := "encTwice", unfollowed := true, recurses := true, apart := false, narrowed := true }
def EncTwiceUptoSaid : Prop := encTwiceUptoRow.holds Tryz.pinned (OpenSpec.upto encTwiceSpec)

end Rows
end Go.Proofs.YtpjjmindjodknaaGreat
