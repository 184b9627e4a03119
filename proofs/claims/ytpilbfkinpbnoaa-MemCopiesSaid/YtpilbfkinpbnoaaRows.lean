/-
  No cell of these rows narrows 'for every input' (looked for: loops, veiled, ifaces, maps, wideKeys, modest, calm, conditions, laid).
  DERIVED. THE GIVEN ROWS OF THIS SEAT. 4 by the template 'for every input the law returns true; each argument reads behind the call as it read before'; 0 by the template 'total and deterministic' (their statements: YtpilbfkinpbnoaaTotals.lean).
  GIVEN WITH THE SEED: the statements are not yours to turn. If you find one false, say at which input.
  Laid BY PROGRAM, IN A SANDBOX (cutbox-rows.mjs): the forced cells as the released guide's own fill.sh prints them over the translation 2b038e771f81b37a… (all of the seat's roots in one cut). By AI agents, Wed Nov 11 2026. No macro, syntax, notation, axiom, sorry.
-/
import Derived.Test.YtpilbfkinpbnoaaChecked
import GoSem.Claim
import GoSem.ClaimJoined
import GoSem.ClaimMapViews
import Derived.JoinedTies
import Derived.KernelRfl
namespace Go.Proofs.Ytpilbfkinpbnoaa
/- THE CELL 'sum', in the pinned program and in every row, IS THE sha256 OF THE DUMP (.gsa) THAT YtpilbfkinpbnoaaProg.lean LOADS. Nothing in Lean hashes anything: it is a label: what it is worth is what the hold of that sum in a sandbox is worth. -/
noncomputable def Try.pinned : Pinned := { name := "ytpilbfkinpbnoaa", sum := "2b038e771f81b37a04ca1437e9471d1f394dd9618fc863480490e8af7bef5cb7", checked := Try.checked }
namespace Rows
def none {H : Type} : Left H := { results := [], args := [] }

/-- 'plumboblaw2.MemApart': WHATEVER THE INPUT: true; the input reads as it did. -/
def memApartSpec : ChangeSpec := { name := "memApart", fn := fun _ => fun
  | [d1, d2, d3, d4, d5, d6, d7] => { results := [.lit (.bool true)], args := [d1, d2, d3, d4, d5, d6, d7] }
  | _ => none }
def memApartRow : OpenClaim := { program := "ytpilbfkinpbnoaa", sum := "2b038e771f81b37a04ca1437e9471d1f394dd9618fc863480490e8af7bef5cb7", func := "plumbob/plumboblaw2.MemApart", spec := "memApart", unfollowed := true, recurses := true, apart := false }
def MemApartSaid : Prop := memApartRow.holds Try.pinned (OpenSpec.ofChange memApartSpec)

/-- ITS FALSE NEIGHBOUR: 'it returns false'. Refute it at one input. -/
def memApartWrong : ChangeSpec := { name := "memApart", fn := fun _ => fun
  | [d1, d2, d3, d4, d5, d6, d7] => { results := [.lit (.bool false)], args := [d1, d2, d3, d4, d5, d6, d7] }
  | _ => none }
def MemApartWrongFalsely : Prop := memApartRow.holds Try.pinned (OpenSpec.ofChange memApartWrong)

/-- 'plumboblaw2.MemFreed': WHATEVER THE INPUT: true; the input reads as it did. -/
def memFreedSpec : ChangeSpec := { name := "memFreed", fn := fun _ => fun
  | [d1, d2, d3, d4, d5] => { results := [.lit (.bool true)], args := [d1, d2, d3, d4, d5] }
  | _ => none }
def memFreedRow : OpenClaim := { program := "ytpilbfkinpbnoaa", sum := "2b038e771f81b37a04ca1437e9471d1f394dd9618fc863480490e8af7bef5cb7", func := "plumbob/plumboblaw2.MemFreed", spec := "memFreed", unfollowed := true, recurses := true, apart := false }
def MemFreedSaid : Prop := memFreedRow.holds Try.pinned (OpenSpec.ofChange memFreedSpec)

/-- ITS FALSE NEIGHBOUR: 'it returns false'. Refute it at one input. -/
def memFreedWrong : ChangeSpec := { name := "memFreed", fn := fun _ => fun
  | [d1, d2, d3, d4, d5] => { results := [.lit (.bool false)], args := [d1, d2, d3, d4, d5] }
  | _ => none }
def MemFreedWrongFalsely : Prop := memFreedRow.holds Try.pinned (OpenSpec.ofChange memFreedWrong)

/-- 'plumboblaw2.MemBytes': WHATEVER THE INPUT: true; the input reads as it did. -/
def memBytesSpec : ChangeSpec := { name := "memBytes", fn := fun _ => fun
  | [d] => { results := [.lit (.bool true)], args := [d] }
  | _ => none }
def memBytesRow : OpenClaim := { program := "ytpilbfkinpbnoaa", sum := "2b038e771f81b37a04ca1437e9471d1f394dd9618fc863480490e8af7bef5cb7", func := "plumbob/plumboblaw2.MemBytes", spec := "memBytes", unfollowed := true, recurses := true, apart := false }
def MemBytesSaid : Prop := memBytesRow.holds Try.pinned (OpenSpec.ofChange memBytesSpec)

/-- ITS FALSE NEIGHBOUR: 'it returns false'. Refute it at one input. -/
def memBytesWrong : ChangeSpec := { name := "memBytes", fn := fun _ => fun
  | [d] => { results := [.lit (.bool false)], args := [d] }
  | _ => none }
def MemBytesWrongFalsely : Prop := memBytesRow.holds Try.pinned (OpenSpec.ofChange memBytesWrong)

/-- 'plumboblaw2.MemCopies': WHATEVER THE INPUT: true; the input reads as it did. -/
def memCopiesSpec : ChangeSpec := { name := "memCopies", fn := fun _ => fun
  | [d1, d2] => { results := [.lit (.bool true)], args := [d1, d2] }
  | _ => none }
def memCopiesRow : OpenClaim := { program := "ytpilbfkinpbnoaa", sum := "2b038e771f81b37a04ca1437e9471d1f394dd9618fc863480490e8af7bef5cb7", func := "plumbob/plumboblaw2.MemCopies", spec := "memCopies", unfollowed := true, recurses := true, apart := false }
def MemCopiesSaid : Prop := memCopiesRow.holds Try.pinned (OpenSpec.ofChange memCopiesSpec)

/-- ITS FALSE NEIGHBOUR: 'it returns false'. Refute it at one input. -/
def memCopiesWrong : ChangeSpec := { name := "memCopies", fn := fun _ => fun
  | [d1, d2] => { results := [.lit (.bool false)], args := [d1, d2] }
  | _ => none }
def MemCopiesWrongFalsely : Prop := memCopiesRow.holds Try.pinned (OpenSpec.ofChange memCopiesWrong)

/- THE SECOND FORM. 'bulk': how many values and letters a reading holds, each counted each time it is reached (what is shared counts as often as it is met; a slice's spare places count too). A statement '..UptoSaid' is the law's where the arguments, and the package variables that the reading takes, are together of bulk at most 1048576: NARROWER than '..Said'. Prove '..Said' where nothing that the law and all that it calls make is longer than what came in: it says more and counts as full. Else prove '..UptoSaid'. A law counts once. -/
mutual
def uptoBulk {H : Type} : DataW H → Nat
  | .lit (.string bytes) => bytes.length + 1
  | .lit _ => 1
  | .nil => 1
  | .ptr d => uptoBulk d + 1
  | .slice elems spare => uptoBulkAll elems + uptoBulkAll spare + 1
  | .agg parts => uptoBulkAll parts + 1
  | .iface _ d => uptoBulk d + 1
  | .map entries => uptoBulkEntries entries + 1
  | .held _ => 1
def uptoBulkAll {H : Type} : List (DataW H) → Nat
  | [] => 0
  | d :: r => uptoBulk d + uptoBulkAll r
def uptoBulkEntries {H : Type} : List (Lit × DataW H) → Nat
  | [] => 0
  | x :: r => uptoBulkEntry x + uptoBulkEntries r
def uptoBulkEntry {H : Type} : Lit × DataW H → Nat
  | (.string bytes, d) => bytes.length + uptoBulk d + 1
  | (_, d) => uptoBulk d + 1
 end
def uptoSmall : (H : Type) → List (DataW H) → Bool := fun _ ds => decide (uptoBulkAll ds ≤ 1048576)
def OpenSpec.upto (s : _root_.Go.ChangeSpec) : _root_.Go.OpenSpec := { _root_.Go.OpenSpec.ofChange s with cond := some uptoSmall }

/-- 'plumboblaw2.MemApart', WHERE WHAT IT READS IS OF BULK AT MOST 1048576: true; the input reads as it did. -/
def memApartUptoRow : OpenClaim := { program := "ytpilbfkinpbnoaa", sum := "2b038e771f81b37a04ca1437e9471d1f394dd9618fc863480490e8af7bef5cb7", func := "plumbob/plumboblaw2.MemApart", spec := "memApart", unfollowed := true, recurses := true, apart := false, narrowed := true }
def MemApartUptoSaid : Prop := memApartUptoRow.holds Try.pinned (OpenSpec.upto memApartSpec)

/-- 'plumboblaw2.MemFreed', WHERE WHAT IT READS IS OF BULK AT MOST 1048576: true; the input reads as it did. -/
def memFreedUptoRow : OpenClaim := { program := "ytpilbfkinpbnoaa", sum := "2b038e771f81b37a04ca1437e9471d1f394dd9618fc863480490e8af7bef5cb7", func := "plumbob/plumboblaw2.MemFreed", spec := "memFreed", unfollowed := true, recurses := true, apart := false, narrowed := true }
def MemFreedUptoSaid : Prop := memFreedUptoRow.holds Try.pinned (OpenSpec.upto memFreedSpec)

/-- 'plumboblaw2.MemBytes', WHERE WHAT IT READS IS OF BULK AT MOST 1048576: true; the input reads as it did. -/
def memBytesUptoRow : OpenClaim := { program := "ytpilbfkinpbnoaa", sum := "2b038e771f81b37a04ca1437e9471d1f394dd9618fc863480490e8af7bef5cb7", func := "plumbob/plumboblaw2.MemBytes", spec := "memBytes", unfollowed := true, recurses := true, apart := false, narrowed := true }
def MemBytesUptoSaid : Prop := memBytesUptoRow.holds Try.pinned (OpenSpec.upto memBytesSpec)

/-- 'plumboblaw2.MemCopies', WHERE WHAT IT READS IS OF BULK AT MOST 1048576: true; the input reads as it did. -/
def memCopiesUptoRow : OpenClaim := { program := "ytpilbfkinpbnoaa", sum := "2b038e771f81b37a04ca1437e9471d1f394dd9618fc863480490e8af7bef5cb7", func := "plumbob/plumboblaw2.MemCopies", spec := "memCopies", unfollowed := true, recurses := true, apart := false, narrowed := true }
def MemCopiesUptoSaid : Prop := memCopiesUptoRow.holds Try.pinned (OpenSpec.upto memCopiesSpec)

end Rows
end Go.Proofs.Ytpilbfkinpbnoaa
