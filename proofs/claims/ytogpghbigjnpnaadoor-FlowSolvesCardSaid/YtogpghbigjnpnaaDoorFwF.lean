/- -/
import Derived.Test.YtogpghbigjnpnaaDoorFwW
import Derived.Test.YtogpghbigjnpnaaDoorAiD
namespace Go.Fw
open Go.Ai Go.Proofs
set_option linter.unusedVariables false
theorem al_23 (b off : Nat) (h : AHeap) : aload Tryd.prog 23 (.pointer (some ⟨b, off, none⟩)) h = ld1 h b off := aload_one (by kernel_rfl) b off h
theorem al_28 (b off : Nat) (h : AHeap) : aload Tryd.prog 28 (.pointer (some ⟨b, off, none⟩)) h = ldn h b off 2 := aload_agg (by kernel_rfl) (by kernel_rfl) b off h
theorem al_3 (b off : Nat) (h : AHeap) : aload Tryd.prog 3 (.pointer (some ⟨b, off, none⟩)) h = ld1 h b off := aload_one (by kernel_rfl) b off h
theorem al_4 (b off : Nat) (h : AHeap) : aload Tryd.prog 4 (.pointer (some ⟨b, off, none⟩)) h = ld1 h b off := aload_one (by kernel_rfl) b off h
theorem ap_22 (r : TypeId) (v x : Value) (n : Nat) (new : List Value) (h : AHeap) (h1 : alenv x = some n) (h2 : firstc h n 2 x = some new) (h3 : new.all cellOk = true) (h4 : new.length = n * 2) : abuiltin Tryd.prog .append [22, 22] r [v, x] h = app2 h 28 2 16 n new v := append_of (e := 28) (e2 := 28) (by kernel_rfl) (by kernel_rfl) (by kernel_rfl) (by kernel_rfl) (by decide) h1 h2 h3 h4
theorem ap_23 (r : TypeId) (v x : Value) (n : Nat) (new : List Value) (h : AHeap) (h1 : alenv x = some n) (h2 : firstc h n 1 x = some new) (h3 : new.all cellOk = true) (h4 : new.length = n * 1) : abuiltin Tryd.prog .append [23, 23] r [v, x] h = app2 h 3 1 8 n new v := append_of (e := 3) (e2 := 3) (by kernel_rfl) (by kernel_rfl) (by kernel_rfl) (by kernel_rfl) (by decide) h1 h2 h3 h4
theorem as_23 (b off : Nat) (v : Option Addr) (vl vc : Nat) (h : AHeap) : astore Tryd.prog 23 (.pointer (some ⟨b, off, none⟩)) (.slice v vl vc) h = sto h b off [(.slice v vl vc)] := astore_one (by kernel_rfl) b off _ h rfl
theorem as_28 (b off : Nat) (l : List Value) (h : AHeap) (hv : l.length = 2) : astore Tryd.prog 28 (.pointer (some ⟨b, off, none⟩)) (.agg l.toArray) h = sto h b off l := astore_agg (by kernel_rfl) b off l h hv
theorem as_3 (b off : Nat) (v : Int) (h : AHeap) : astore Tryd.prog 3 (.pointer (some ⟨b, off, none⟩)) (.int .i64 v) h = sto h b off [(.int .i64 v)] := astore_one (by kernel_rfl) b off _ h rfl
theorem as_4 (b off : Nat) (v : Bool) (h : AHeap) : astore Tryd.prog 4 (.pointer (some ⟨b, off, none⟩)) (.bool v) h = sto h b off [(.bool v)] := astore_one (by kernel_rfl) b off _ h rfl
theorem az_28 : azero Tryd.prog 28 = some (.agg #[(.int .i64 0), (.int .i64 0)]) := keep (by kernel_rfl)
theorem bs_22_0_ (h : AHeap) : abuildSlice Tryd.prog 22 0 [] h = some (.slice (some ⟨h.next, 0, none⟩) 0 2, h.push (.cells [] 28)) := keep (by kernel_rfl)
theorem bs_22_1_0 (v00 : Int) (v01 : Int) (h : AHeap) : abuildSlice Tryd.prog 22 1 [(0, (.agg #[(.int .i64 v00), (.int .i64 v01)]))] h = some (.slice (some ⟨h.next, 0, none⟩) 1 3, h.push (.cells [(.int .i64 v00), (.int .i64 v01)] 28)) := keep (by kernel_rfl)
theorem bs_23_0_ (h : AHeap) : abuildSlice Tryd.prog 23 0 [] h = some (.slice (some ⟨h.next, 0, none⟩) 0 2, h.push (.cells [] 3)) := keep (by kernel_rfl)
theorem bs_23_1_0 (v0 : Int) (h : AHeap) : abuildSlice Tryd.prog 23 1 [(0, (.int .i64 v0))] h = some (.slice (some ⟨h.next, 0, none⟩) 1 3, h.push (.cells [(.int .i64 v0)] 3)) := keep (by kernel_rfl)
theorem co_28 : Program.cellsOf Tryd.prog 28 = 2 := keep (by kernel_rfl)
theorem co_3 : Program.cellsOf Tryd.prog 3 = 1 := keep (by kernel_rfl)
theorem cv_3_75 (n : Int) (h : AHeap) : aconv Tryd.prog 3 75 (.int .i64 n) h = some (.int .u64 (IntKind.wrap .u64 n), h) := keep (by kernel_rfl)
theorem eql0_23 (x y : Operand) : abin2 Tryd.prog .eql 23 x y (.slice none 0 0) (.slice none 0 0) = some (.bool true) := keep (by kernel_rfl)
theorem eql_23 (x y : Operand) (a : Addr) (n c : Nat) : abin2 Tryd.prog .eql 23 x y (.slice (some a) n c) (.slice none 0 0) = some (.bool false) := s_eq (e := 3) (by kernel_rfl) a n c
theorem ix_22 (b off len c : Nat) (k : IntKind) (i : Int) : aindex Tryd.prog 22 (.slice (some ⟨b, off, none⟩) len c) (.int k i) = if 0 ≤ i ∧ i < len then some (.pointer (some ⟨b, off + i.toNat * 2, none⟩)) else none := aindex_slice (e := 28) (by kernel_rfl) (by kernel_rfl)
theorem ix_23 (b off len c : Nat) (k : IntKind) (i : Int) : aindex Tryd.prog 23 (.slice (some ⟨b, off, none⟩) len c) (.int k i) = if 0 ≤ i ∧ i < len then some (.pointer (some ⟨b, off + i.toNat * 1, none⟩)) else none := aindex_slice (e := 3) (by kernel_rfl) (by kernel_rfl)
theorem ix_28 (b off : Nat) (k : IntKind) (i : Int) : aindex Tryd.prog 28 (.pointer (some ⟨b, off, none⟩)) (.int k i) = if 0 ≤ i ∧ i < 2 then some (.pointer (some ⟨b, off + i.toNat * 1, none⟩)) else none := aindex_array (e := 3) (len := 2) (by kernel_rfl) (by kernel_rfl)
theorem ix_31 (b off len c : Nat) (k : IntKind) (i : Int) : aindex Tryd.prog 31 (.slice (some ⟨b, off, none⟩) len c) (.int k i) = if 0 ≤ i ∧ i < len then some (.pointer (some ⟨b, off + i.toNat * 1, none⟩)) else none := aindex_slice (e := 23) (by kernel_rfl) (by kernel_rfl)
theorem ix_39 (b off len c : Nat) (k : IntKind) (i : Int) : aindex Tryd.prog 39 (.slice (some ⟨b, off, none⟩) len c) (.int k i) = if 0 ≤ i ∧ i < len then some (.pointer (some ⟨b, off + i.toNat * 1, none⟩)) else none := aindex_slice (e := 4) (by kernel_rfl) (by kernel_rfl)
theorem len_22 (r : TypeId) (a : Option Addr) (n c : Nat) (h : AHeap) : abuiltin Tryd.prog .len [22] r [.slice a n c] h = some (.int .i64 n, h) := keep (by kernel_rfl)
theorem len_23 (r : TypeId) (a : Option Addr) (n c : Nat) (h : AHeap) : abuiltin Tryd.prog .len [23] r [.slice a n c] h = some (.int .i64 n, h) := keep (by kernel_rfl)
theorem mk_23 (k k2 : IntKind) (l c : Int) (h : AHeap) (h0 : 0 ≤ l) (h1 : l ≤ c) (h2 : c < 2 ^ 31) : amake Tryd.prog 23 (.int k l) (.int k2 c) h = some (.slice (some ⟨h.next, 0, none⟩) l.toNat (c.toNat + 2), h.push (.cells (zcells [(.int .i64 0)] (c.toNat * 1)) 3)) := amake_of (e := 3) (z := (.int .i64 0)) (n := 1) (bytes := 8) (by kernel_rfl) (by kernel_rfl) (by kernel_rfl) rfl (by decide) (by decide) rfl h0 h1 h2
theorem mk_31 (k k2 : IntKind) (l c : Int) (h : AHeap) (h0 : 0 ≤ l) (h1 : l ≤ c) (h2 : c < 2 ^ 31) : amake Tryd.prog 31 (.int k l) (.int k2 c) h = some (.slice (some ⟨h.next, 0, none⟩) l.toNat (c.toNat + 2), h.push (.cells (zcells [(.slice none 0 0)] (c.toNat * 1)) 23)) := amake_of (e := 23) (z := (.slice none 0 0)) (n := 1) (bytes := 24) (by kernel_rfl) (by kernel_rfl) (by kernel_rfl) rfl (by decide) (by decide) rfl h0 h1 h2
theorem mk_39 (k k2 : IntKind) (l c : Int) (h : AHeap) (h0 : 0 ≤ l) (h1 : l ≤ c) (h2 : c < 2 ^ 31) : amake Tryd.prog 39 (.int k l) (.int k2 c) h = some (.slice (some ⟨h.next, 0, none⟩) l.toNat (c.toNat + 2), h.push (.cells (zcells [(.bool false)] (c.toNat * 1)) 4)) := amake_of (e := 4) (z := (.bool false)) (n := 1) (bytes := 1) (by kernel_rfl) (by kernel_rfl) (by kernel_rfl) rfl (by decide) (by decide) rfl h0 h1 h2
theorem sl0_23 (c : Nat) (lo hi : Option Value) (h : AHeap) : asl Tryd.prog 23 (.slice none 0 c) lo hi h = (abound hi 0 0).bind fun hh => (abound lo 0 hh).bind fun l => some (.slice none 0 0) := asl_nil (e := 3) (n := 1) (by kernel_rfl) (by kernel_rfl)
theorem sl_23 (b off len c : Nat) (lo hi : Option Value) (h : AHeap) : asl Tryd.prog 23 (.slice (some ⟨b, off, none⟩) len c) lo hi h = (abound hi len len).bind fun hh => (abound lo 0 hh).bind fun l => some (.slice (some ⟨b, off + l * 1, none⟩) (hh - l) (cond (wide Tryd.prog h b 1) (capsub c l) 0)) := asl_slice (e := 3) (by kernel_rfl) (by kernel_rfl)
end Go.Fw
