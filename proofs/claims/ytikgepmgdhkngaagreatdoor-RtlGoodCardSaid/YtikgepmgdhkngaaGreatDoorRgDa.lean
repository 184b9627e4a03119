/- -/
import Derived.Test.YtikgepmgdhkngaaGreatDoorRgW
import Derived.Test.YtikgepmgdhkngaaGreatDoorAiD
namespace Go.Rtl
open Go.Ai Go.Proofs
set_option linter.unusedVariables false
theorem al_2 (b off : Nat) (h : AHeap) : aload Tryz.prog 2 (.pointer (some ⟨b, off, none⟩)) h = ld1 h b off := aload_one (by kernel_rfl) b off h
theorem al_22 (b off : Nat) (h : AHeap) : aload Tryz.prog 22 (.pointer (some ⟨b, off, none⟩)) h = ld1 h b off := aload_one (by kernel_rfl) b off h
theorem al_23 (b off : Nat) (h : AHeap) : aload Tryz.prog 23 (.pointer (some ⟨b, off, none⟩)) h = ld1 h b off := aload_one (by kernel_rfl) b off h
theorem al_25 (b off : Nat) (h : AHeap) : aload Tryz.prog 25 (.pointer (some ⟨b, off, none⟩)) h = ldn h b off 3 := aload_agg (by kernel_rfl) (by kernel_rfl) b off h
theorem al_3 (b off : Nat) (h : AHeap) : aload Tryz.prog 3 (.pointer (some ⟨b, off, none⟩)) h = ld1 h b off := aload_one (by kernel_rfl) b off h
theorem al_4 (b off : Nat) (h : AHeap) : aload Tryz.prog 4 (.pointer (some ⟨b, off, none⟩)) h = ld1 h b off := aload_one (by kernel_rfl) b off h
theorem al_43 (b off : Nat) (h : AHeap) : aload Tryz.prog 43 (.pointer (some ⟨b, off, none⟩)) h = ldn h b off 9 := aload_agg (by kernel_rfl) (by kernel_rfl) b off h
theorem al_46 (b off : Nat) (h : AHeap) : aload Tryz.prog 46 (.pointer (some ⟨b, off, none⟩)) h = ld1 h b off := aload_one (by kernel_rfl) b off h
theorem al_48 (b off : Nat) (h : AHeap) : aload Tryz.prog 48 (.pointer (some ⟨b, off, none⟩)) h = ldn h b off 6 := aload_agg (by kernel_rfl) (by kernel_rfl) b off h
theorem al_9 (b off : Nat) (h : AHeap) : aload Tryz.prog 9 (.pointer (some ⟨b, off, none⟩)) h = ld1 h b off := aload_one (by kernel_rfl) b off h
theorem ap_22 (r : TypeId) (v x : Value) (n : Nat) (new : List Value) (h : AHeap) (h1 : alenv x = some n) (h2 : firstc h n 1 x = some new) (h3 : new.all cellOk = true) (h4 : new.length = n * 1) : abuiltin Tryz.prog .append [22, 22] r [v, x] h = app2 h 3 1 8 n new v := append_of (e := 3) (e2 := 3) (by kernel_rfl) (by kernel_rfl) (by kernel_rfl) (by kernel_rfl) (by decide) h1 h2 h3 h4
theorem ap_23 (r : TypeId) (v x : Value) (n : Nat) (new : List Value) (h : AHeap) (h1 : alenv x = some n) (h2 : firstc h n 6 x = some new) (h3 : new.all cellOk = true) (h4 : new.length = n * 6) : abuiltin Tryz.prog .append [23, 23] r [v, x] h = app2 h 48 6 88 n new v := append_of (e := 48) (e2 := 48) (by kernel_rfl) (by kernel_rfl) (by kernel_rfl) (by kernel_rfl) (by decide) h1 h2 h3 h4
theorem ap_46 (r : TypeId) (v x : Value) (n : Nat) (new : List Value) (h : AHeap) (h1 : alenv x = some n) (h2 : firstc h n 9 x = some new) (h3 : new.all cellOk = true) (h4 : new.length = n * 9) : abuiltin Tryz.prog .append [46, 46] r [v, x] h = app2 h 43 9 88 n new v := append_of (e := 43) (e2 := 43) (by kernel_rfl) (by kernel_rfl) (by kernel_rfl) (by kernel_rfl) (by decide) h1 h2 h3 h4
theorem as_22 (b off : Nat) (v : Option Addr) (vl vc : Nat) (h : AHeap) : astore Tryz.prog 22 (.pointer (some ⟨b, off, none⟩)) (.slice v vl vc) h = sto h b off [(.slice v vl vc)] := astore_one (by kernel_rfl) b off _ h rfl
theorem as_23 (b off : Nat) (v : Option Addr) (vl vc : Nat) (h : AHeap) : astore Tryz.prog 23 (.pointer (some ⟨b, off, none⟩)) (.slice v vl vc) h = sto h b off [(.slice v vl vc)] := astore_one (by kernel_rfl) b off _ h rfl
theorem as_25 (b off : Nat) (l : List Value) (h : AHeap) (hv : l.length = 3) : astore Tryz.prog 25 (.pointer (some ⟨b, off, none⟩)) (.agg l.toArray) h = sto h b off l := astore_agg (by kernel_rfl) b off l h hv
theorem as_4 (b off : Nat) (v : Bool) (h : AHeap) : astore Tryz.prog 4 (.pointer (some ⟨b, off, none⟩)) (.bool v) h = sto h b off [(.bool v)] := astore_one (by kernel_rfl) b off _ h rfl
theorem as_43 (b off : Nat) (l : List Value) (h : AHeap) (hv : l.length = 9) : astore Tryz.prog 43 (.pointer (some ⟨b, off, none⟩)) (.agg l.toArray) h = sto h b off l := astore_agg (by kernel_rfl) b off l h hv
theorem as_46 (b off : Nat) (v : Option Addr) (vl vc : Nat) (h : AHeap) : astore Tryz.prog 46 (.pointer (some ⟨b, off, none⟩)) (.slice v vl vc) h = sto h b off [(.slice v vl vc)] := astore_one (by kernel_rfl) b off _ h rfl
theorem as_48 (b off : Nat) (l : List Value) (h : AHeap) (hv : l.length = 6) : astore Tryz.prog 48 (.pointer (some ⟨b, off, none⟩)) (.agg l.toArray) h = sto h b off l := astore_agg (by kernel_rfl) b off l h hv
theorem az_25 : azero Tryz.prog 25 = some (.agg #[(.slice none 0 0), (.slice none 0 0), (.int .i64 0)]) := keep (by kernel_rfl)
theorem az_4 : azero Tryz.prog 4 = some (.bool false) := keep (by kernel_rfl)
theorem az_43 : azero Tryz.prog 43 = some (.agg #[(.int .i64 0), (.int .i64 0), (.int .i64 0), (.int .i64 0), (.int .i64 0), (.int .i64 0), (.slice none 0 0), (.int .i64 0), (.int .i64 0)]) := keep (by kernel_rfl)
theorem az_48 : azero Tryz.prog 48 = some (.agg #[(.string ⟨#[]⟩), (.slice none 0 0), (.int .i64 0), (.int .i64 0), (.int .i64 0), (.slice none 0 0)]) := keep (by kernel_rfl)
theorem bd_25_0_2 (v0 : Option Addr) (v0l v0c : Nat) (v2 : Int) : abuild Tryz.prog 25 [(0, (.slice v0 v0l v0c)), (2, (.int .i64 v2))] = some (.agg #[(.slice v0 v0l v0c), (.slice none 0 0), (.int .i64 v2)]) := keep (by kernel_rfl)
theorem bs_22_0_ (h : AHeap) : abuildSlice Tryz.prog 22 0 [] h = some (.slice (some ⟨h.next, 0, none⟩) 0 2, h.push (.cells [] 3)) := keep (by kernel_rfl)
theorem bs_22_1_0 (v0 : Int) (h : AHeap) : abuildSlice Tryz.prog 22 1 [(0, (.int .i64 v0))] h = some (.slice (some ⟨h.next, 0, none⟩) 1 3, h.push (.cells [(.int .i64 v0)] 3)) := keep (by kernel_rfl)
theorem bs_22_2_0_1 (v0 : Int) (v1 : Int) (h : AHeap) : abuildSlice Tryz.prog 22 2 [(0, (.int .i64 v0)), (1, (.int .i64 v1))] h = some (.slice (some ⟨h.next, 0, none⟩) 2 4, h.push (.cells [(.int .i64 v0), (.int .i64 v1)] 3)) := keep (by kernel_rfl)
theorem bs_23_1_0 (v00 : ByteArray) (v01 : Option Addr) (v01l v01c : Nat) (v02 : Int) (v03 : Int) (v04 : Int) (v05 : Option Addr) (v05l v05c : Nat) (h : AHeap) : abuildSlice Tryz.prog 23 1 [(0, (.agg #[(.string v00), (.slice v01 v01l v01c), (.int .i64 v02), (.int .i64 v03), (.int .i64 v04), (.slice v05 v05l v05c)]))] h = some (.slice (some ⟨h.next, 0, none⟩) 1 3, h.push (.cells [(.string v00), (.slice v01 v01l v01c), (.int .i64 v02), (.int .i64 v03), (.int .i64 v04), (.slice v05 v05l v05c)] 48)) := keep (by kernel_rfl)
theorem bs_46_0_ (h : AHeap) : abuildSlice Tryz.prog 46 0 [] h = some (.slice (some ⟨h.next, 0, none⟩) 0 2, h.push (.cells [] 43)) := keep (by kernel_rfl)
theorem co_3 : Program.cellsOf Tryz.prog 3 = 1 := keep (by kernel_rfl)
theorem co_43 : Program.cellsOf Tryz.prog 43 = 9 := keep (by kernel_rfl)
theorem co_48 : Program.cellsOf Tryz.prog 48 = 6 := keep (by kernel_rfl)
theorem eql_4 (x y : Operand) (a b : Bool) : abin2 Tryz.prog .eql 4 x y (.bool a) (.bool b) = some (.bool (a == b)) := keep (by kernel_rfl)
theorem fa_25_0 (b off : Nat) : afield Tryz.prog 25 (.pointer (some ⟨b, off, none⟩)) 0 = some (.pointer (some ⟨b, off, none⟩)) := keep (by kernel_rfl)
theorem fa_25_1 (b off : Nat) : afield Tryz.prog 25 (.pointer (some ⟨b, off, none⟩)) 1 = some (.pointer (some ⟨b, off + 1, none⟩)) := keep (by kernel_rfl)
theorem fa_25_2 (b off : Nat) : afield Tryz.prog 25 (.pointer (some ⟨b, off, none⟩)) 2 = some (.pointer (some ⟨b, off + 2, none⟩)) := keep (by kernel_rfl)
theorem fa_43_0 (b off : Nat) : afield Tryz.prog 43 (.pointer (some ⟨b, off, none⟩)) 0 = some (.pointer (some ⟨b, off, none⟩)) := keep (by kernel_rfl)
theorem fa_43_1 (b off : Nat) : afield Tryz.prog 43 (.pointer (some ⟨b, off, none⟩)) 1 = some (.pointer (some ⟨b, off + 1, none⟩)) := keep (by kernel_rfl)
theorem fa_43_2 (b off : Nat) : afield Tryz.prog 43 (.pointer (some ⟨b, off, none⟩)) 2 = some (.pointer (some ⟨b, off + 2, none⟩)) := keep (by kernel_rfl)
theorem fa_43_3 (b off : Nat) : afield Tryz.prog 43 (.pointer (some ⟨b, off, none⟩)) 3 = some (.pointer (some ⟨b, off + 3, none⟩)) := keep (by kernel_rfl)
theorem fa_43_4 (b off : Nat) : afield Tryz.prog 43 (.pointer (some ⟨b, off, none⟩)) 4 = some (.pointer (some ⟨b, off + 4, none⟩)) := keep (by kernel_rfl)
theorem fa_43_5 (b off : Nat) : afield Tryz.prog 43 (.pointer (some ⟨b, off, none⟩)) 5 = some (.pointer (some ⟨b, off + 5, none⟩)) := keep (by kernel_rfl)
theorem fa_43_6 (b off : Nat) : afield Tryz.prog 43 (.pointer (some ⟨b, off, none⟩)) 6 = some (.pointer (some ⟨b, off + 6, none⟩)) := keep (by kernel_rfl)
theorem fa_43_7 (b off : Nat) : afield Tryz.prog 43 (.pointer (some ⟨b, off, none⟩)) 7 = some (.pointer (some ⟨b, off + 7, none⟩)) := keep (by kernel_rfl)
theorem fa_43_8 (b off : Nat) : afield Tryz.prog 43 (.pointer (some ⟨b, off, none⟩)) 8 = some (.pointer (some ⟨b, off + 8, none⟩)) := keep (by kernel_rfl)
theorem fa_48_0 (b off : Nat) : afield Tryz.prog 48 (.pointer (some ⟨b, off, none⟩)) 0 = some (.pointer (some ⟨b, off, none⟩)) := keep (by kernel_rfl)
theorem fa_48_1 (b off : Nat) : afield Tryz.prog 48 (.pointer (some ⟨b, off, none⟩)) 1 = some (.pointer (some ⟨b, off + 1, none⟩)) := keep (by kernel_rfl)
theorem fa_48_2 (b off : Nat) : afield Tryz.prog 48 (.pointer (some ⟨b, off, none⟩)) 2 = some (.pointer (some ⟨b, off + 2, none⟩)) := keep (by kernel_rfl)
theorem fa_48_3 (b off : Nat) : afield Tryz.prog 48 (.pointer (some ⟨b, off, none⟩)) 3 = some (.pointer (some ⟨b, off + 3, none⟩)) := keep (by kernel_rfl)
theorem fa_48_4 (b off : Nat) : afield Tryz.prog 48 (.pointer (some ⟨b, off, none⟩)) 4 = some (.pointer (some ⟨b, off + 4, none⟩)) := keep (by kernel_rfl)
theorem fa_48_5 (b off : Nat) : afield Tryz.prog 48 (.pointer (some ⟨b, off, none⟩)) 5 = some (.pointer (some ⟨b, off + 5, none⟩)) := keep (by kernel_rfl)
theorem ix_22 (b off len c : Nat) (k : IntKind) (i : Int) : aindex Tryz.prog 22 (.slice (some ⟨b, off, none⟩) len c) (.int k i) = if 0 ≤ i ∧ i < len then some (.pointer (some ⟨b, off + i.toNat * 1, none⟩)) else none := aindex_slice (e := 3) (by kernel_rfl) (by kernel_rfl)
theorem ix_23 (b off len c : Nat) (k : IntKind) (i : Int) : aindex Tryz.prog 23 (.slice (some ⟨b, off, none⟩) len c) (.int k i) = if 0 ≤ i ∧ i < len then some (.pointer (some ⟨b, off + i.toNat * 6, none⟩)) else none := aindex_slice (e := 48) (by kernel_rfl) (by kernel_rfl)
theorem ix_46 (b off len c : Nat) (k : IntKind) (i : Int) : aindex Tryz.prog 46 (.slice (some ⟨b, off, none⟩) len c) (.int k i) = if 0 ≤ i ∧ i < len then some (.pointer (some ⟨b, off + i.toNat * 9, none⟩)) else none := aindex_slice (e := 43) (by kernel_rfl) (by kernel_rfl)
theorem ix_70 (b off len c : Nat) (k : IntKind) (i : Int) : aindex Tryz.prog 70 (.slice (some ⟨b, off, none⟩) len c) (.int k i) = if 0 ≤ i ∧ i < len then some (.pointer (some ⟨b, off + i.toNat * 1, none⟩)) else none := aindex_slice (e := 4) (by kernel_rfl) (by kernel_rfl)
theorem len_22 (r : TypeId) (a : Option Addr) (n c : Nat) (h : AHeap) : abuiltin Tryz.prog .len [22] r [.slice a n c] h = some (.int .i64 n, h) := keep (by kernel_rfl)
theorem len_23 (r : TypeId) (a : Option Addr) (n c : Nat) (h : AHeap) : abuiltin Tryz.prog .len [23] r [.slice a n c] h = some (.int .i64 n, h) := keep (by kernel_rfl)
theorem len_46 (r : TypeId) (a : Option Addr) (n c : Nat) (h : AHeap) : abuiltin Tryz.prog .len [46] r [.slice a n c] h = some (.int .i64 n, h) := keep (by kernel_rfl)
theorem mk_70 (k k2 : IntKind) (l c : Int) (h : AHeap) (h0 : 0 ≤ l) (h1 : l ≤ c) (h2 : c < 2 ^ 31) : amake Tryz.prog 70 (.int k l) (.int k2 c) h = some (.slice (some ⟨h.next, 0, none⟩) l.toNat (c.toNat + 2), h.push (.cells (zcells [(.bool false)] (c.toNat * 1)) 4)) := amake_of (e := 4) (z := (.bool false)) (n := 1) (bytes := 1) (by kernel_rfl) (by kernel_rfl) (by kernel_rfl) rfl (by decide) (by decide) rfl h0 h1 h2
theorem neq_9 (x y : Operand) (a b : ByteArray) : abin2 Tryz.prog .neq 9 x y (.string a) (.string b) = some (.bool (!(a.toList == b.toList))) := keep (by kernel_rfl)
end Go.Rtl
namespace Go.Rtl
open Go.Ai Go.Proofs
set_option linter.unusedVariables false
set_option linter.unusedSimpArgs false
set_option maxRecDepth 10000
def isB (b : Bool) (v : Value) (_ : AHeap) : Prop := v = .bool b
def isI (n : Int) (v : Value) (_ : AHeap) : Prop := v = .int .i64 n
theorem quiet_b {f : FuncId} {args : List Value} {h : AHeap} {b : Bool} (d : DC Tryz.prog f args h.lock (isB b)) : Quiet Tryz.prog f args h (.bool b) := Quiet.of rfl d
theorem quiet_i {f : FuncId} {args : List Value} {h : AHeap} {n : Int} (d : DC Tryz.prog f args h.lock (isI n)) : Quiet Tryz.prog f args h (.int .i64 n) := Quiet.of rfl d
def withinB (n m : Int) : Bool := decide (0 ≤ n) && decide (n < m)
theorem within_q (n m : Int) (h : AHeap) : Quiet Tryz.prog 15 [.int .i64 n, .int .i64 m] h (.bool (withinB n m)) := by
  apply quiet_b
  apply X_within_ok
  unfold X_within withinB
  by_cases h0 : 0 ≤ n
  · simp -implicitDefEqProofs only [EE, cond_true, cond_false, nth, ↓nw, Value.cells, ↓BK, setMany, if_true, if_false, Nat.reduceAdd, Nat.reduceLeDiff, Nat.reduceMul, Nat.reduceMod, Nat.reduceDiv, Nat.reduceSub, Nat.reduceEqDiff, Int.reduceEq, Int.reduceLT, Int.reduceLE, Int.reduceAdd, Int.reduceSub, Int.reduceMul, Int.reduceNeg, Int.reduceToNat, ne_eq, sto, ldn, ld1, beq_self_eq_true, X_within_1, h0]
    simp [isB, h0]
  · simp -implicitDefEqProofs only [EE, cond_true, cond_false, nth, ↓nw, Value.cells, ↓BK, setMany, if_true, if_false, Nat.reduceAdd, Nat.reduceLeDiff, Nat.reduceMul, Nat.reduceMod, Nat.reduceDiv, Nat.reduceSub, Nat.reduceEqDiff, Int.reduceEq, Int.reduceLT, Int.reduceLE, Int.reduceAdd, Int.reduceSub, Int.reduceMul, Int.reduceNeg, Int.reduceToNat, ne_eq, sto, ldn, ld1, beq_self_eq_true, X_within_1, h0]
    simp [isB, h0]
def operB (n : Int) : Bool := decide (11 ≤ n) && decide (n ≤ 26)
theorem oper_q (n : Int) (h : AHeap) : Quiet Tryz.prog 47 [.int .i64 n] h (.bool (operB n)) := by
  apply quiet_b
  apply X_operation_ok
  unfold X_operation operB
  by_cases h0 : 11 ≤ n
  · simp -implicitDefEqProofs only [EE, cond_true, cond_false, nth, ↓nw, Value.cells, ↓BK, setMany, if_true, if_false, Nat.reduceAdd, Nat.reduceLeDiff, Nat.reduceMul, Nat.reduceMod, Nat.reduceDiv, Nat.reduceSub, Nat.reduceEqDiff, Int.reduceEq, Int.reduceLT, Int.reduceLE, Int.reduceAdd, Int.reduceSub, Int.reduceMul, Int.reduceNeg, Int.reduceToNat, ne_eq, sto, ldn, ld1, beq_self_eq_true, X_operation_1, h0]
    simp [isB, h0]
  · simp -implicitDefEqProofs only [EE, cond_true, cond_false, nth, ↓nw, Value.cells, ↓BK, setMany, if_true, if_false, Nat.reduceAdd, Nat.reduceLeDiff, Nat.reduceMul, Nat.reduceMod, Nat.reduceDiv, Nat.reduceSub, Nat.reduceEqDiff, Int.reduceEq, Int.reduceLT, Int.reduceLE, Int.reduceAdd, Int.reduceSub, Int.reduceMul, Int.reduceNeg, Int.reduceToNat, ne_eq, sto, ldn, ld1, beq_self_eq_true, X_operation_1, h0]
    simp [isB, h0]
def chunkB (n : Int) : Bool := decide (n = 1) || (decide (n = 4) || decide (n = 8))
theorem chunk_q (n : Int) (h : AHeap) : Quiet Tryz.prog 49 [.int .i64 n] h (.bool (chunkB n)) := by
  apply quiet_b
  apply X_chunk_ok
  unfold X_chunk chunkB
  by_cases h1 : n = 1
  · subst h1; simp -implicitDefEqProofs only [EE, cond_true, cond_false, nth, ↓nw, Value.cells, ↓BK, setMany, if_true, if_false, Nat.reduceAdd, Nat.reduceLeDiff, Nat.reduceMul, Nat.reduceMod, Nat.reduceDiv, Nat.reduceSub, Nat.reduceEqDiff, Int.reduceEq, Int.reduceLT, Int.reduceLE, Int.reduceAdd, Int.reduceSub, Int.reduceMul, Int.reduceNeg, Int.reduceToNat, ne_eq, sto, ldn, ld1, beq_self_eq_true, X_chunk_1, X_chunk_2]; rfl
  by_cases h4 : n = 4
  · subst h4; simp -implicitDefEqProofs only [EE, cond_true, cond_false, nth, ↓nw, Value.cells, ↓BK, setMany, if_true, if_false, Nat.reduceAdd, Nat.reduceLeDiff, Nat.reduceMul, Nat.reduceMod, Nat.reduceDiv, Nat.reduceSub, Nat.reduceEqDiff, Int.reduceEq, Int.reduceLT, Int.reduceLE, Int.reduceAdd, Int.reduceSub, Int.reduceMul, Int.reduceNeg, Int.reduceToNat, ne_eq, sto, ldn, ld1, beq_self_eq_true, X_chunk_1, X_chunk_2]; rfl
  simp -implicitDefEqProofs only [EE, cond_true, cond_false, nth, ↓nw, Value.cells, ↓BK, setMany, if_true, if_false, Nat.reduceAdd, Nat.reduceLeDiff, Nat.reduceMul, Nat.reduceMod, Nat.reduceDiv, Nat.reduceSub, Nat.reduceEqDiff, Int.reduceEq, Int.reduceLT, Int.reduceLE, Int.reduceAdd, Int.reduceSub, Int.reduceMul, Int.reduceNeg, Int.reduceToNat, ne_eq, sto, ldn, ld1, beq_self_eq_true, X_chunk_1, X_chunk_2, h1, h4]
  simp [isB, h1, h4]
/-- A comparison turned round, if it is one. -/
def flipB (n : Int) : Bool := decide (21 ≤ n) && decide (n ≤ 26)
theorem flip_ok (n : Int) (h : AHeap) : DC Tryz.prog 48 [.int .i64 n] h (fun v h1 => (∃ a, v = .tuple #[.int .i64 a, .bool (flipB n)]) ∧ h1 = h) := by
  apply X_Flip_ok
  unfold X_Flip
  by_cases h1 : n = 21
  · subst h1; simp -implicitDefEqProofs only [EE, cond_true, cond_false, nth, ↓nw, Value.cells, ↓BK, setMany, if_true, if_false, Nat.reduceAdd, Nat.reduceLeDiff, Nat.reduceMul, Nat.reduceMod, Nat.reduceDiv, Nat.reduceSub, Nat.reduceEqDiff, Int.reduceEq, Int.reduceLT, Int.reduceLE, Int.reduceAdd, Int.reduceSub, Int.reduceMul, Int.reduceNeg, Int.reduceToNat, ne_eq, sto, ldn, ld1, beq_self_eq_true, X_Flip_1, X_Flip_2, X_Flip_3, X_Flip_4, X_Flip_5, X_Flip_6]; exact ⟨_, rfl⟩
  by_cases h2 : n = 22
  · subst h2; simp -implicitDefEqProofs only [EE, cond_true, cond_false, nth, ↓nw, Value.cells, ↓BK, setMany, if_true, if_false, Nat.reduceAdd, Nat.reduceLeDiff, Nat.reduceMul, Nat.reduceMod, Nat.reduceDiv, Nat.reduceSub, Nat.reduceEqDiff, Int.reduceEq, Int.reduceLT, Int.reduceLE, Int.reduceAdd, Int.reduceSub, Int.reduceMul, Int.reduceNeg, Int.reduceToNat, ne_eq, sto, ldn, ld1, beq_self_eq_true, X_Flip_1, X_Flip_2, X_Flip_3, X_Flip_4, X_Flip_5, X_Flip_6]; exact ⟨_, rfl⟩
  by_cases h3 : n = 23
  · subst h3; simp -implicitDefEqProofs only [EE, cond_true, cond_false, nth, ↓nw, Value.cells, ↓BK, setMany, if_true, if_false, Nat.reduceAdd, Nat.reduceLeDiff, Nat.reduceMul, Nat.reduceMod, Nat.reduceDiv, Nat.reduceSub, Nat.reduceEqDiff, Int.reduceEq, Int.reduceLT, Int.reduceLE, Int.reduceAdd, Int.reduceSub, Int.reduceMul, Int.reduceNeg, Int.reduceToNat, ne_eq, sto, ldn, ld1, beq_self_eq_true, X_Flip_1, X_Flip_2, X_Flip_3, X_Flip_4, X_Flip_5, X_Flip_6]; exact ⟨_, rfl⟩
  by_cases h4 : n = 24
  · subst h4; simp -implicitDefEqProofs only [EE, cond_true, cond_false, nth, ↓nw, Value.cells, ↓BK, setMany, if_true, if_false, Nat.reduceAdd, Nat.reduceLeDiff, Nat.reduceMul, Nat.reduceMod, Nat.reduceDiv, Nat.reduceSub, Nat.reduceEqDiff, Int.reduceEq, Int.reduceLT, Int.reduceLE, Int.reduceAdd, Int.reduceSub, Int.reduceMul, Int.reduceNeg, Int.reduceToNat, ne_eq, sto, ldn, ld1, beq_self_eq_true, X_Flip_1, X_Flip_2, X_Flip_3, X_Flip_4, X_Flip_5, X_Flip_6]; exact ⟨_, rfl⟩
  by_cases h5 : n = 25
  · subst h5; simp -implicitDefEqProofs only [EE, cond_true, cond_false, nth, ↓nw, Value.cells, ↓BK, setMany, if_true, if_false, Nat.reduceAdd, Nat.reduceLeDiff, Nat.reduceMul, Nat.reduceMod, Nat.reduceDiv, Nat.reduceSub, Nat.reduceEqDiff, Int.reduceEq, Int.reduceLT, Int.reduceLE, Int.reduceAdd, Int.reduceSub, Int.reduceMul, Int.reduceNeg, Int.reduceToNat, ne_eq, sto, ldn, ld1, beq_self_eq_true, X_Flip_1, X_Flip_2, X_Flip_3, X_Flip_4, X_Flip_5, X_Flip_6]; exact ⟨_, rfl⟩
  by_cases h6 : n = 26
  · subst h6; simp -implicitDefEqProofs only [EE, cond_true, cond_false, nth, ↓nw, Value.cells, ↓BK, setMany, if_true, if_false, Nat.reduceAdd, Nat.reduceLeDiff, Nat.reduceMul, Nat.reduceMod, Nat.reduceDiv, Nat.reduceSub, Nat.reduceEqDiff, Int.reduceEq, Int.reduceLT, Int.reduceLE, Int.reduceAdd, Int.reduceSub, Int.reduceMul, Int.reduceNeg, Int.reduceToNat, ne_eq, sto, ldn, ld1, beq_self_eq_true, X_Flip_1, X_Flip_2, X_Flip_3, X_Flip_4, X_Flip_5, X_Flip_6]; exact ⟨_, rfl⟩
  have e : flipB n = false := by
    unfold flipB
    by_cases a : 21 ≤ n
    · have : ¬ n ≤ 26 := by omega
      simp [this]
    · simp [a]
  simp -implicitDefEqProofs only [EE, cond_true, cond_false, nth, ↓nw, Value.cells, ↓BK, setMany, if_true, if_false, Nat.reduceAdd, Nat.reduceLeDiff, Nat.reduceMul, Nat.reduceMod, Nat.reduceDiv, Nat.reduceSub, Nat.reduceEqDiff, Int.reduceEq, Int.reduceLT, Int.reduceLE, Int.reduceAdd, Int.reduceSub, Int.reduceMul, Int.reduceNeg, Int.reduceToNat, ne_eq, sto, ldn, ld1, beq_self_eq_true, X_Flip_1, X_Flip_2, X_Flip_3, X_Flip_4, X_Flip_5, X_Flip_6, h1, h2, h3, h4, h5, h6]
  rw [e]
  exact ⟨_, rfl⟩
/-- What was there is as it was. -/
structure Old (h h' : AHeap) : Prop where
  next : h.next ≤ h'.next
  ro : h'.ro = h.ro
  get : ∀ b, b < h.next → h'.get b = h.get b
theorem Old.refl (h : AHeap) : Old h h := ⟨Nat.le_refl _, rfl, fun _ _ => rfl⟩
theorem Old.trans {a b c : AHeap} (x : Old a b) (y : Old b c) : Old a c := ⟨Nat.le_trans x.next y.next, y.ro.trans x.ro, fun i hi => (y.get i (Nat.lt_of_lt_of_le hi x.next)).trans (x.get i hi)⟩
theorem Old.push (h : AHeap) (o : AObj) : Old h (h.push o) := ⟨Nat.le_succ _, rfl, fun b hb => get_push_lt hb⟩
theorem Old.set {h h' : AHeap} (x : Old h h') {b : Nat} (hb : h.next ≤ b) (o : Option AObj) : Old h (h'.set b o) := ⟨x.next, x.ro, fun c hc => (get_set_ne (by omega)).trans (x.get c hc)⟩
end Go.Rtl
namespace Go.Rtl
open Go.Ai Go.Proofs
set_option linter.unusedVariables false
set_option linter.unusedSimpArgs false
set_option maxRecDepth 10000
def in64 (n : Int) : Prop := -9223372036854775808 ≤ n ∧ n < 9223372036854775808
/-- An instruction; av: the slice of its arguments. -/
structure Ins where
  op : Int
  sub : Int
  a : Int
  b : Int
  d : Int
  k : Int
  av : Value
  args : List Int
  s : Int
  t : Int
/-- A slice of numbers. -/
def SliceI (h : AHeap) (sv : Value) (zs : List Int) : Prop := (sv = .slice none 0 0 ∧ zs = []) ∨ ∃ b off cp, sv = .slice (some ⟨b, off, none⟩) zs.length cp ∧ (zs ≠ [] → ∃ c t, b < h.next ∧ h.get b = some (.cells c t) ∧ ∀ (i : Nat) z, zs[i]? = some z → c[off + i]? = some (.int .i64 z))
section
variable {h h' : AHeap} {sv : Value} {zs : List Int}
theorem SliceI.nob (S : SliceI h sv zs) : isBot sv = false := by
  rcases S with ⟨rfl, _⟩ | ⟨b, off, cp, rfl, _⟩ <;> rfl
theorem SliceI.cok (S : SliceI h sv zs) : cellOk sv = true := by
  rcases S with ⟨rfl, _⟩ | ⟨b, off, cp, rfl, _⟩ <;> rfl
theorem SliceI.old (S : SliceI h sv zs) (e : Old h h') : SliceI h' sv zs := by
  rcases S with a | ⟨b, off, cp, rfl, hc⟩
  · exact .inl a
  · refine .inr ⟨b, off, cp, rfl, fun hz => ?_⟩
    obtain ⟨c, t, hb, hg, hat⟩ := hc hz
    exact ⟨c, t, Nat.lt_of_lt_of_le hb e.next, by rw [e.get b hb]; exact hg, hat⟩
theorem SliceI.lock (S : SliceI h sv zs) : SliceI h.lock sv zs := by
  rcases S with a | ⟨b, off, cp, rfl, hc⟩
  · exact .inl a
  · refine .inr ⟨b, off, cp, rfl, fun hz => ?_⟩
    obtain ⟨c, t, hb, hg, hat⟩ := hc hz
    exact ⟨c, t, hb, by rw [get_lock]; exact hg, hat⟩
theorem SliceI.len (S : SliceI h sv zs) (h' : AHeap) : abuiltin Tryz.prog .len [22] 3 [sv] h' = some (.int .i64 zs.length, h') := by
  rcases S with ⟨rfl, rfl⟩ | ⟨b, off, cp, rfl, _⟩
  · simp only [al_22, al_3, fa_43_0, fa_43_2, fa_43_3, fa_43_6, ix_22, len_22, X_Uses1_1, X_Uses1_2, X_Uses1_3, X_Uses1_4, X_Uses1_5, X_Uses1_6, X_Uses1_7, X_Uses1_8, X_Uses1_9, X_Uses1_10, X_Uses1_11, X_Uses1_12, X_Uses1_13, X_Uses1_14, X_Uses1_15, X_Uses1_16, X_Uses1_17, X_Uses1_18, X_Uses1_19, X_Uses1_20, List.length_nil]
  · simp only [al_22, al_3, fa_43_0, fa_43_2, fa_43_3, fa_43_6, ix_22, len_22, X_Uses1_1, X_Uses1_2, X_Uses1_3, X_Uses1_4, X_Uses1_5, X_Uses1_6, X_Uses1_7, X_Uses1_8, X_Uses1_9, X_Uses1_10, X_Uses1_11, X_Uses1_12, X_Uses1_13, X_Uses1_14, X_Uses1_15, X_Uses1_16, X_Uses1_17, X_Uses1_18, X_Uses1_19, X_Uses1_20]
theorem SliceI.at (S : SliceI h sv zs) {i : Nat} {z : Int} (hz : zs[i]? = some z) : ∃ b o c t, aindex Tryz.prog 22 sv (.int .i64 i) = some (.pointer (some ⟨b, o, none⟩)) ∧ b < h.next ∧ h.get b = some (.cells c t) ∧ c[o]? = some (.int .i64 z) := by
  rcases S with ⟨rfl, rfl⟩ | ⟨b, off, cp, rfl, hc⟩
  · cases hz
  · have hlt : i < zs.length := by
      rcases Nat.lt_or_ge i zs.length with a | a
      · exact a
      · rw [List.getElem?_eq_none a] at hz; cases hz
    obtain ⟨c, t, hb, hg, hat⟩ := hc (by intro e; subst e; cases hz)
    have h1 : 0 ≤ (i : Int) ∧ (i : Int) < (zs.length : Int) := by omega
    exact ⟨b, off + i, c, t, by simp -implicitDefEqProofs only [EE, cond_true, cond_false, nth, ↓nw, Value.cells, ↓BK, setMany, if_true, if_false, Nat.reduceAdd, Nat.reduceLeDiff, Nat.reduceMul, Nat.reduceMod, Nat.reduceDiv, Nat.reduceSub, Nat.reduceEqDiff, Int.reduceEq, Int.reduceLT, Int.reduceLE, Int.reduceAdd, Int.reduceSub, Int.reduceMul, Int.reduceNeg, Int.reduceToNat, ne_eq, sto, ldn, ld1, beq_self_eq_true, al_22, al_3, fa_43_0, fa_43_2, fa_43_3, fa_43_6, ix_22, len_22, X_Uses1_1, X_Uses1_2, X_Uses1_3, X_Uses1_4, X_Uses1_5, X_Uses1_6, X_Uses1_7, X_Uses1_8, X_Uses1_9, X_Uses1_10, X_Uses1_11, X_Uses1_12, X_Uses1_13, X_Uses1_14, X_Uses1_15, X_Uses1_16, X_Uses1_17, X_Uses1_18, X_Uses1_19, X_Uses1_20, h1, Int.toNat_natCast, Nat.mul_one], hb, hg, hat i z hz⟩
end
abbrev Ins.val (x : Ins) : Value := .agg #[.int .i64 x.op, .int .i64 x.sub, .int .i64 x.a, .int .i64 x.b, .int .i64 x.d, .int .i64 x.k, x.av, .int .i64 x.s, .int .i64 x.t]
/-- Does an instruction of this kind write its D? -/
def wr (op : Int) : Bool := decide (op = 2) || (decide (op = 3) || (decide (op = 4) || (decide (op = 5) || (decide (op = 6) || (decide (op = 8) || (decide (op = 9) || (decide (op = 10) || decide (op = 13))))))))
def writesI (x : Ins) : Int := if wr x.op = true then x.d else -1
theorem wr_no {op : Int} (h2 : ¬ op = 2) (h3 : ¬ op = 3) (h4 : ¬ op = 4) (h5 : ¬ op = 5) (h6 : ¬ op = 6) (h8 : ¬ op = 8) (h9 : ¬ op = 9) (h10 : ¬ op = 10) (h13 : ¬ op = 13) : wr op = false := by
  simp [wr, h2, h3, h4, h5, h6, h8, h9, h10, h13]
theorem writes_q (x : Ins) (hn : isBot x.av = false) (h : AHeap) : Quiet Tryz.prog 51 [x.val] h (.int .i64 (writesI x)) := by
  apply quiet_i
  apply X_Writes_ok
  unfold X_Writes writesI
  obtain ⟨op, sub, a, b, d, k, av, args, s, t⟩ := x
  simp only at hn
  by_cases h2 : op = 2
  · subst h2; simp -implicitDefEqProofs only [EE, cond_true, cond_false, nth, ↓nw, Value.cells, ↓BK, setMany, if_true, if_false, Nat.reduceAdd, Nat.reduceLeDiff, Nat.reduceMul, Nat.reduceMod, Nat.reduceDiv, Nat.reduceSub, Nat.reduceEqDiff, Int.reduceEq, Int.reduceLT, Int.reduceLE, Int.reduceAdd, Int.reduceSub, Int.reduceMul, Int.reduceNeg, Int.reduceToNat, ne_eq, sto, ldn, ld1, beq_self_eq_true, al_3, fa_43_0, fa_43_4, X_Writes_1, X_Writes_2, X_Writes_3, X_Writes_4, X_Writes_5, X_Writes_6, X_Writes_7, X_Writes_8, X_Writes_9, hn]; rfl
  by_cases h3 : op = 3
  · subst h3; simp -implicitDefEqProofs only [EE, cond_true, cond_false, nth, ↓nw, Value.cells, ↓BK, setMany, if_true, if_false, Nat.reduceAdd, Nat.reduceLeDiff, Nat.reduceMul, Nat.reduceMod, Nat.reduceDiv, Nat.reduceSub, Nat.reduceEqDiff, Int.reduceEq, Int.reduceLT, Int.reduceLE, Int.reduceAdd, Int.reduceSub, Int.reduceMul, Int.reduceNeg, Int.reduceToNat, ne_eq, sto, ldn, ld1, beq_self_eq_true, al_3, fa_43_0, fa_43_4, X_Writes_1, X_Writes_2, X_Writes_3, X_Writes_4, X_Writes_5, X_Writes_6, X_Writes_7, X_Writes_8, X_Writes_9, hn]; rfl
  by_cases h4 : op = 4
  · subst h4; simp -implicitDefEqProofs only [EE, cond_true, cond_false, nth, ↓nw, Value.cells, ↓BK, setMany, if_true, if_false, Nat.reduceAdd, Nat.reduceLeDiff, Nat.reduceMul, Nat.reduceMod, Nat.reduceDiv, Nat.reduceSub, Nat.reduceEqDiff, Int.reduceEq, Int.reduceLT, Int.reduceLE, Int.reduceAdd, Int.reduceSub, Int.reduceMul, Int.reduceNeg, Int.reduceToNat, ne_eq, sto, ldn, ld1, beq_self_eq_true, al_3, fa_43_0, fa_43_4, X_Writes_1, X_Writes_2, X_Writes_3, X_Writes_4, X_Writes_5, X_Writes_6, X_Writes_7, X_Writes_8, X_Writes_9, hn]; rfl
  by_cases h5 : op = 5
  · subst h5; simp -implicitDefEqProofs only [EE, cond_true, cond_false, nth, ↓nw, Value.cells, ↓BK, setMany, if_true, if_false, Nat.reduceAdd, Nat.reduceLeDiff, Nat.reduceMul, Nat.reduceMod, Nat.reduceDiv, Nat.reduceSub, Nat.reduceEqDiff, Int.reduceEq, Int.reduceLT, Int.reduceLE, Int.reduceAdd, Int.reduceSub, Int.reduceMul, Int.reduceNeg, Int.reduceToNat, ne_eq, sto, ldn, ld1, beq_self_eq_true, al_3, fa_43_0, fa_43_4, X_Writes_1, X_Writes_2, X_Writes_3, X_Writes_4, X_Writes_5, X_Writes_6, X_Writes_7, X_Writes_8, X_Writes_9, hn]; rfl
  by_cases h6 : op = 6
  · subst h6; simp -implicitDefEqProofs only [EE, cond_true, cond_false, nth, ↓nw, Value.cells, ↓BK, setMany, if_true, if_false, Nat.reduceAdd, Nat.reduceLeDiff, Nat.reduceMul, Nat.reduceMod, Nat.reduceDiv, Nat.reduceSub, Nat.reduceEqDiff, Int.reduceEq, Int.reduceLT, Int.reduceLE, Int.reduceAdd, Int.reduceSub, Int.reduceMul, Int.reduceNeg, Int.reduceToNat, ne_eq, sto, ldn, ld1, beq_self_eq_true, al_3, fa_43_0, fa_43_4, X_Writes_1, X_Writes_2, X_Writes_3, X_Writes_4, X_Writes_5, X_Writes_6, X_Writes_7, X_Writes_8, X_Writes_9, hn]; rfl
  by_cases h8 : op = 8
  · subst h8; simp -implicitDefEqProofs only [EE, cond_true, cond_false, nth, ↓nw, Value.cells, ↓BK, setMany, if_true, if_false, Nat.reduceAdd, Nat.reduceLeDiff, Nat.reduceMul, Nat.reduceMod, Nat.reduceDiv, Nat.reduceSub, Nat.reduceEqDiff, Int.reduceEq, Int.reduceLT, Int.reduceLE, Int.reduceAdd, Int.reduceSub, Int.reduceMul, Int.reduceNeg, Int.reduceToNat, ne_eq, sto, ldn, ld1, beq_self_eq_true, al_3, fa_43_0, fa_43_4, X_Writes_1, X_Writes_2, X_Writes_3, X_Writes_4, X_Writes_5, X_Writes_6, X_Writes_7, X_Writes_8, X_Writes_9, hn]; rfl
  by_cases h9 : op = 9
  · subst h9; simp -implicitDefEqProofs only [EE, cond_true, cond_false, nth, ↓nw, Value.cells, ↓BK, setMany, if_true, if_false, Nat.reduceAdd, Nat.reduceLeDiff, Nat.reduceMul, Nat.reduceMod, Nat.reduceDiv, Nat.reduceSub, Nat.reduceEqDiff, Int.reduceEq, Int.reduceLT, Int.reduceLE, Int.reduceAdd, Int.reduceSub, Int.reduceMul, Int.reduceNeg, Int.reduceToNat, ne_eq, sto, ldn, ld1, beq_self_eq_true, al_3, fa_43_0, fa_43_4, X_Writes_1, X_Writes_2, X_Writes_3, X_Writes_4, X_Writes_5, X_Writes_6, X_Writes_7, X_Writes_8, X_Writes_9, hn]; rfl
  by_cases h10 : op = 10
  · subst h10; simp -implicitDefEqProofs only [EE, cond_true, cond_false, nth, ↓nw, Value.cells, ↓BK, setMany, if_true, if_false, Nat.reduceAdd, Nat.reduceLeDiff, Nat.reduceMul, Nat.reduceMod, Nat.reduceDiv, Nat.reduceSub, Nat.reduceEqDiff, Int.reduceEq, Int.reduceLT, Int.reduceLE, Int.reduceAdd, Int.reduceSub, Int.reduceMul, Int.reduceNeg, Int.reduceToNat, ne_eq, sto, ldn, ld1, beq_self_eq_true, al_3, fa_43_0, fa_43_4, X_Writes_1, X_Writes_2, X_Writes_3, X_Writes_4, X_Writes_5, X_Writes_6, X_Writes_7, X_Writes_8, X_Writes_9, hn]; rfl
  by_cases h13 : op = 13
  · subst h13; simp -implicitDefEqProofs only [EE, cond_true, cond_false, nth, ↓nw, Value.cells, ↓BK, setMany, if_true, if_false, Nat.reduceAdd, Nat.reduceLeDiff, Nat.reduceMul, Nat.reduceMod, Nat.reduceDiv, Nat.reduceSub, Nat.reduceEqDiff, Int.reduceEq, Int.reduceLT, Int.reduceLE, Int.reduceAdd, Int.reduceSub, Int.reduceMul, Int.reduceNeg, Int.reduceToNat, ne_eq, sto, ldn, ld1, beq_self_eq_true, al_3, fa_43_0, fa_43_4, X_Writes_1, X_Writes_2, X_Writes_3, X_Writes_4, X_Writes_5, X_Writes_6, X_Writes_7, X_Writes_8, X_Writes_9, hn]; rfl
  have e := wr_no h2 h3 h4 h5 h6 h8 h9 h10 h13
  simp -implicitDefEqProofs only [EE, cond_true, cond_false, nth, ↓nw, Value.cells, ↓BK, setMany, if_true, if_false, Nat.reduceAdd, Nat.reduceLeDiff, Nat.reduceMul, Nat.reduceMod, Nat.reduceDiv, Nat.reduceSub, Nat.reduceEqDiff, Int.reduceEq, Int.reduceLT, Int.reduceLE, Int.reduceAdd, Int.reduceSub, Int.reduceMul, Int.reduceNeg, Int.reduceToNat, ne_eq, sto, ldn, ld1, beq_self_eq_true, al_3, fa_43_0, fa_43_4, X_Writes_1, X_Writes_2, X_Writes_3, X_Writes_4, X_Writes_5, X_Writes_6, X_Writes_7, X_Writes_8, X_Writes_9, hn, h2, h3, h4, h5, h6, h8, h9, h10, h13]
  simp [isI, e]
theorem defines_q (x : Ins) (hn : isBot x.av = false) (h : AHeap) : Quiet Tryz.prog 71 [x.val] h (.int .i64 (writesI x)) := by
  apply quiet_i
  apply X_Defines_ok
  unfold X_Defines writesI
  obtain ⟨op, sub, a, b, d, k, av, args, s, t⟩ := x
  simp only at hn
  by_cases h2 : op = 2
  · subst h2; simp -implicitDefEqProofs only [EE, cond_true, cond_false, nth, ↓nw, Value.cells, ↓BK, setMany, if_true, if_false, Nat.reduceAdd, Nat.reduceLeDiff, Nat.reduceMul, Nat.reduceMod, Nat.reduceDiv, Nat.reduceSub, Nat.reduceEqDiff, Int.reduceEq, Int.reduceLT, Int.reduceLE, Int.reduceAdd, Int.reduceSub, Int.reduceMul, Int.reduceNeg, Int.reduceToNat, ne_eq, sto, ldn, ld1, beq_self_eq_true, al_3, fa_43_0, fa_43_4, X_Defines_1, X_Defines_2, X_Defines_3, X_Defines_4, X_Defines_5, X_Defines_6, X_Defines_7, X_Defines_8, X_Defines_9, hn]; rfl
  by_cases h3 : op = 3
  · subst h3; simp -implicitDefEqProofs only [EE, cond_true, cond_false, nth, ↓nw, Value.cells, ↓BK, setMany, if_true, if_false, Nat.reduceAdd, Nat.reduceLeDiff, Nat.reduceMul, Nat.reduceMod, Nat.reduceDiv, Nat.reduceSub, Nat.reduceEqDiff, Int.reduceEq, Int.reduceLT, Int.reduceLE, Int.reduceAdd, Int.reduceSub, Int.reduceMul, Int.reduceNeg, Int.reduceToNat, ne_eq, sto, ldn, ld1, beq_self_eq_true, al_3, fa_43_0, fa_43_4, X_Defines_1, X_Defines_2, X_Defines_3, X_Defines_4, X_Defines_5, X_Defines_6, X_Defines_7, X_Defines_8, X_Defines_9, hn]; rfl
  by_cases h4 : op = 4
  · subst h4; simp -implicitDefEqProofs only [EE, cond_true, cond_false, nth, ↓nw, Value.cells, ↓BK, setMany, if_true, if_false, Nat.reduceAdd, Nat.reduceLeDiff, Nat.reduceMul, Nat.reduceMod, Nat.reduceDiv, Nat.reduceSub, Nat.reduceEqDiff, Int.reduceEq, Int.reduceLT, Int.reduceLE, Int.reduceAdd, Int.reduceSub, Int.reduceMul, Int.reduceNeg, Int.reduceToNat, ne_eq, sto, ldn, ld1, beq_self_eq_true, al_3, fa_43_0, fa_43_4, X_Defines_1, X_Defines_2, X_Defines_3, X_Defines_4, X_Defines_5, X_Defines_6, X_Defines_7, X_Defines_8, X_Defines_9, hn]; rfl
  by_cases h5 : op = 5
  · subst h5; simp -implicitDefEqProofs only [EE, cond_true, cond_false, nth, ↓nw, Value.cells, ↓BK, setMany, if_true, if_false, Nat.reduceAdd, Nat.reduceLeDiff, Nat.reduceMul, Nat.reduceMod, Nat.reduceDiv, Nat.reduceSub, Nat.reduceEqDiff, Int.reduceEq, Int.reduceLT, Int.reduceLE, Int.reduceAdd, Int.reduceSub, Int.reduceMul, Int.reduceNeg, Int.reduceToNat, ne_eq, sto, ldn, ld1, beq_self_eq_true, al_3, fa_43_0, fa_43_4, X_Defines_1, X_Defines_2, X_Defines_3, X_Defines_4, X_Defines_5, X_Defines_6, X_Defines_7, X_Defines_8, X_Defines_9, hn]; rfl
  by_cases h6 : op = 6
  · subst h6; simp -implicitDefEqProofs only [EE, cond_true, cond_false, nth, ↓nw, Value.cells, ↓BK, setMany, if_true, if_false, Nat.reduceAdd, Nat.reduceLeDiff, Nat.reduceMul, Nat.reduceMod, Nat.reduceDiv, Nat.reduceSub, Nat.reduceEqDiff, Int.reduceEq, Int.reduceLT, Int.reduceLE, Int.reduceAdd, Int.reduceSub, Int.reduceMul, Int.reduceNeg, Int.reduceToNat, ne_eq, sto, ldn, ld1, beq_self_eq_true, al_3, fa_43_0, fa_43_4, X_Defines_1, X_Defines_2, X_Defines_3, X_Defines_4, X_Defines_5, X_Defines_6, X_Defines_7, X_Defines_8, X_Defines_9, hn]; rfl
  by_cases h8 : op = 8
  · subst h8; simp -implicitDefEqProofs only [EE, cond_true, cond_false, nth, ↓nw, Value.cells, ↓BK, setMany, if_true, if_false, Nat.reduceAdd, Nat.reduceLeDiff, Nat.reduceMul, Nat.reduceMod, Nat.reduceDiv, Nat.reduceSub, Nat.reduceEqDiff, Int.reduceEq, Int.reduceLT, Int.reduceLE, Int.reduceAdd, Int.reduceSub, Int.reduceMul, Int.reduceNeg, Int.reduceToNat, ne_eq, sto, ldn, ld1, beq_self_eq_true, al_3, fa_43_0, fa_43_4, X_Defines_1, X_Defines_2, X_Defines_3, X_Defines_4, X_Defines_5, X_Defines_6, X_Defines_7, X_Defines_8, X_Defines_9, hn]; rfl
  by_cases h9 : op = 9
  · subst h9; simp -implicitDefEqProofs only [EE, cond_true, cond_false, nth, ↓nw, Value.cells, ↓BK, setMany, if_true, if_false, Nat.reduceAdd, Nat.reduceLeDiff, Nat.reduceMul, Nat.reduceMod, Nat.reduceDiv, Nat.reduceSub, Nat.reduceEqDiff, Int.reduceEq, Int.reduceLT, Int.reduceLE, Int.reduceAdd, Int.reduceSub, Int.reduceMul, Int.reduceNeg, Int.reduceToNat, ne_eq, sto, ldn, ld1, beq_self_eq_true, al_3, fa_43_0, fa_43_4, X_Defines_1, X_Defines_2, X_Defines_3, X_Defines_4, X_Defines_5, X_Defines_6, X_Defines_7, X_Defines_8, X_Defines_9, hn]; rfl
  by_cases h10 : op = 10
  · subst h10; simp -implicitDefEqProofs only [EE, cond_true, cond_false, nth, ↓nw, Value.cells, ↓BK, setMany, if_true, if_false, Nat.reduceAdd, Nat.reduceLeDiff, Nat.reduceMul, Nat.reduceMod, Nat.reduceDiv, Nat.reduceSub, Nat.reduceEqDiff, Int.reduceEq, Int.reduceLT, Int.reduceLE, Int.reduceAdd, Int.reduceSub, Int.reduceMul, Int.reduceNeg, Int.reduceToNat, ne_eq, sto, ldn, ld1, beq_self_eq_true, al_3, fa_43_0, fa_43_4, X_Defines_1, X_Defines_2, X_Defines_3, X_Defines_4, X_Defines_5, X_Defines_6, X_Defines_7, X_Defines_8, X_Defines_9, hn]; rfl
  by_cases h13 : op = 13
  · subst h13; simp -implicitDefEqProofs only [EE, cond_true, cond_false, nth, ↓nw, Value.cells, ↓BK, setMany, if_true, if_false, Nat.reduceAdd, Nat.reduceLeDiff, Nat.reduceMul, Nat.reduceMod, Nat.reduceDiv, Nat.reduceSub, Nat.reduceEqDiff, Int.reduceEq, Int.reduceLT, Int.reduceLE, Int.reduceAdd, Int.reduceSub, Int.reduceMul, Int.reduceNeg, Int.reduceToNat, ne_eq, sto, ldn, ld1, beq_self_eq_true, al_3, fa_43_0, fa_43_4, X_Defines_1, X_Defines_2, X_Defines_3, X_Defines_4, X_Defines_5, X_Defines_6, X_Defines_7, X_Defines_8, X_Defines_9, hn]; rfl
  have e := wr_no h2 h3 h4 h5 h6 h8 h9 h10 h13
  simp -implicitDefEqProofs only [EE, cond_true, cond_false, nth, ↓nw, Value.cells, ↓BK, setMany, if_true, if_false, Nat.reduceAdd, Nat.reduceLeDiff, Nat.reduceMul, Nat.reduceMod, Nat.reduceDiv, Nat.reduceSub, Nat.reduceEqDiff, Int.reduceEq, Int.reduceLT, Int.reduceLE, Int.reduceAdd, Int.reduceSub, Int.reduceMul, Int.reduceNeg, Int.reduceToNat, ne_eq, sto, ldn, ld1, beq_self_eq_true, al_3, fa_43_0, fa_43_4, X_Defines_1, X_Defines_2, X_Defines_3, X_Defines_4, X_Defines_5, X_Defines_6, X_Defines_7, X_Defines_8, X_Defines_9, hn, h2, h3, h4, h5, h6, h8, h9, h10, h13]
  simp [isI, e]
/-- Must A, B, D be there? -/
def needA (op : Int) : Bool := decide (op = 3) || (decide (op = 4) || (decide (op = 5) || (decide (op = 6) || (decide (op = 7) || (decide (op = 11) || decide (op = 14))))))
def needB (op : Int) : Bool := decide (op = 7)
def needD (op : Int) : Bool := decide (op = 2) || (decide (op = 3) || (decide (op = 4) || (decide (op = 5) || (decide (op = 6) || (decide (op = 8) || (decide (op = 9) || decide (op = 13)))))))
theorem rv_three {u v w : Value} {h : AHeap} {R : Value → AHeap → Prop} (ha : isBot u = false) (hb : isBot v = false) (hc : isBot w = false) : rv [u, v, w] h R = R (.tuple #[u, v, w]) h := by
  apply propext; simp only [rv, nobot, ha, hb, hc, cond_false, aresult, true_and]
theorem needs_ok (x : Ins) (hn : isBot x.av = false) (h : AHeap) : DC Tryz.prog 50 [x.val] h (fun v h1 => v = .tuple #[.bool (needA x.op), .bool (needB x.op), .bool (needD x.op)] ∧ Old h h1) := by
  apply X_needs_ok
  unfold X_needs
  obtain ⟨op, sub, a, b, d, k, av, args, s, t⟩ := x
  simp only at hn ⊢
  have old : ∀ o, Old h (h.push o) := fun o => Old.push h o
  by_cases h2 : op = 2
  · subst h2; simp -implicitDefEqProofs only [EE, cond_true, cond_false, nth, ↓nw, Value.cells, ↓BK, setMany, if_true, if_false, Nat.reduceAdd, Nat.reduceLeDiff, Nat.reduceMul, Nat.reduceMod, Nat.reduceDiv, Nat.reduceSub, Nat.reduceEqDiff, Int.reduceEq, Int.reduceLT, Int.reduceLE, Int.reduceAdd, Int.reduceSub, Int.reduceMul, Int.reduceNeg, Int.reduceToNat, ne_eq, sto, ldn, ld1, beq_self_eq_true, al_3, fa_43_0, X_needs_1, X_needs_2, X_needs_3, X_needs_4, X_needs_5, X_needs_6, X_needs_7, X_needs_8, X_needs_9, X_needs_10, X_needs_11, rv_three, hn]; exact ⟨rfl, old _⟩
  by_cases h3 : op = 3
  · subst h3; simp -implicitDefEqProofs only [EE, cond_true, cond_false, nth, ↓nw, Value.cells, ↓BK, setMany, if_true, if_false, Nat.reduceAdd, Nat.reduceLeDiff, Nat.reduceMul, Nat.reduceMod, Nat.reduceDiv, Nat.reduceSub, Nat.reduceEqDiff, Int.reduceEq, Int.reduceLT, Int.reduceLE, Int.reduceAdd, Int.reduceSub, Int.reduceMul, Int.reduceNeg, Int.reduceToNat, ne_eq, sto, ldn, ld1, beq_self_eq_true, al_3, fa_43_0, X_needs_1, X_needs_2, X_needs_3, X_needs_4, X_needs_5, X_needs_6, X_needs_7, X_needs_8, X_needs_9, X_needs_10, X_needs_11, rv_three, hn]; exact ⟨rfl, old _⟩
  by_cases h4 : op = 4
  · subst h4; simp -implicitDefEqProofs only [EE, cond_true, cond_false, nth, ↓nw, Value.cells, ↓BK, setMany, if_true, if_false, Nat.reduceAdd, Nat.reduceLeDiff, Nat.reduceMul, Nat.reduceMod, Nat.reduceDiv, Nat.reduceSub, Nat.reduceEqDiff, Int.reduceEq, Int.reduceLT, Int.reduceLE, Int.reduceAdd, Int.reduceSub, Int.reduceMul, Int.reduceNeg, Int.reduceToNat, ne_eq, sto, ldn, ld1, beq_self_eq_true, al_3, fa_43_0, X_needs_1, X_needs_2, X_needs_3, X_needs_4, X_needs_5, X_needs_6, X_needs_7, X_needs_8, X_needs_9, X_needs_10, X_needs_11, rv_three, hn]; exact ⟨rfl, old _⟩
  by_cases h5 : op = 5
  · subst h5; simp -implicitDefEqProofs only [EE, cond_true, cond_false, nth, ↓nw, Value.cells, ↓BK, setMany, if_true, if_false, Nat.reduceAdd, Nat.reduceLeDiff, Nat.reduceMul, Nat.reduceMod, Nat.reduceDiv, Nat.reduceSub, Nat.reduceEqDiff, Int.reduceEq, Int.reduceLT, Int.reduceLE, Int.reduceAdd, Int.reduceSub, Int.reduceMul, Int.reduceNeg, Int.reduceToNat, ne_eq, sto, ldn, ld1, beq_self_eq_true, al_3, fa_43_0, X_needs_1, X_needs_2, X_needs_3, X_needs_4, X_needs_5, X_needs_6, X_needs_7, X_needs_8, X_needs_9, X_needs_10, X_needs_11, rv_three, hn]; exact ⟨rfl, old _⟩
  by_cases h6 : op = 6
  · subst h6; simp -implicitDefEqProofs only [EE, cond_true, cond_false, nth, ↓nw, Value.cells, ↓BK, setMany, if_true, if_false, Nat.reduceAdd, Nat.reduceLeDiff, Nat.reduceMul, Nat.reduceMod, Nat.reduceDiv, Nat.reduceSub, Nat.reduceEqDiff, Int.reduceEq, Int.reduceLT, Int.reduceLE, Int.reduceAdd, Int.reduceSub, Int.reduceMul, Int.reduceNeg, Int.reduceToNat, ne_eq, sto, ldn, ld1, beq_self_eq_true, al_3, fa_43_0, X_needs_1, X_needs_2, X_needs_3, X_needs_4, X_needs_5, X_needs_6, X_needs_7, X_needs_8, X_needs_9, X_needs_10, X_needs_11, rv_three, hn]; exact ⟨rfl, old _⟩
  by_cases h7 : op = 7
  · subst h7; simp -implicitDefEqProofs only [EE, cond_true, cond_false, nth, ↓nw, Value.cells, ↓BK, setMany, if_true, if_false, Nat.reduceAdd, Nat.reduceLeDiff, Nat.reduceMul, Nat.reduceMod, Nat.reduceDiv, Nat.reduceSub, Nat.reduceEqDiff, Int.reduceEq, Int.reduceLT, Int.reduceLE, Int.reduceAdd, Int.reduceSub, Int.reduceMul, Int.reduceNeg, Int.reduceToNat, ne_eq, sto, ldn, ld1, beq_self_eq_true, al_3, fa_43_0, X_needs_1, X_needs_2, X_needs_3, X_needs_4, X_needs_5, X_needs_6, X_needs_7, X_needs_8, X_needs_9, X_needs_10, X_needs_11, rv_three, hn]; exact ⟨rfl, old _⟩
  by_cases h8 : op = 8
  · subst h8; simp -implicitDefEqProofs only [EE, cond_true, cond_false, nth, ↓nw, Value.cells, ↓BK, setMany, if_true, if_false, Nat.reduceAdd, Nat.reduceLeDiff, Nat.reduceMul, Nat.reduceMod, Nat.reduceDiv, Nat.reduceSub, Nat.reduceEqDiff, Int.reduceEq, Int.reduceLT, Int.reduceLE, Int.reduceAdd, Int.reduceSub, Int.reduceMul, Int.reduceNeg, Int.reduceToNat, ne_eq, sto, ldn, ld1, beq_self_eq_true, al_3, fa_43_0, X_needs_1, X_needs_2, X_needs_3, X_needs_4, X_needs_5, X_needs_6, X_needs_7, X_needs_8, X_needs_9, X_needs_10, X_needs_11, rv_three, hn]; exact ⟨rfl, old _⟩
  by_cases h9 : op = 9
  · subst h9; simp -implicitDefEqProofs only [EE, cond_true, cond_false, nth, ↓nw, Value.cells, ↓BK, setMany, if_true, if_false, Nat.reduceAdd, Nat.reduceLeDiff, Nat.reduceMul, Nat.reduceMod, Nat.reduceDiv, Nat.reduceSub, Nat.reduceEqDiff, Int.reduceEq, Int.reduceLT, Int.reduceLE, Int.reduceAdd, Int.reduceSub, Int.reduceMul, Int.reduceNeg, Int.reduceToNat, ne_eq, sto, ldn, ld1, beq_self_eq_true, al_3, fa_43_0, X_needs_1, X_needs_2, X_needs_3, X_needs_4, X_needs_5, X_needs_6, X_needs_7, X_needs_8, X_needs_9, X_needs_10, X_needs_11, rv_three, hn]; exact ⟨rfl, old _⟩
  by_cases h11 : op = 11
  · subst h11; simp -implicitDefEqProofs only [EE, cond_true, cond_false, nth, ↓nw, Value.cells, ↓BK, setMany, if_true, if_false, Nat.reduceAdd, Nat.reduceLeDiff, Nat.reduceMul, Nat.reduceMod, Nat.reduceDiv, Nat.reduceSub, Nat.reduceEqDiff, Int.reduceEq, Int.reduceLT, Int.reduceLE, Int.reduceAdd, Int.reduceSub, Int.reduceMul, Int.reduceNeg, Int.reduceToNat, ne_eq, sto, ldn, ld1, beq_self_eq_true, al_3, fa_43_0, X_needs_1, X_needs_2, X_needs_3, X_needs_4, X_needs_5, X_needs_6, X_needs_7, X_needs_8, X_needs_9, X_needs_10, X_needs_11, rv_three, hn]; exact ⟨rfl, old _⟩
  by_cases h13 : op = 13
  · subst h13; simp -implicitDefEqProofs only [EE, cond_true, cond_false, nth, ↓nw, Value.cells, ↓BK, setMany, if_true, if_false, Nat.reduceAdd, Nat.reduceLeDiff, Nat.reduceMul, Nat.reduceMod, Nat.reduceDiv, Nat.reduceSub, Nat.reduceEqDiff, Int.reduceEq, Int.reduceLT, Int.reduceLE, Int.reduceAdd, Int.reduceSub, Int.reduceMul, Int.reduceNeg, Int.reduceToNat, ne_eq, sto, ldn, ld1, beq_self_eq_true, al_3, fa_43_0, X_needs_1, X_needs_2, X_needs_3, X_needs_4, X_needs_5, X_needs_6, X_needs_7, X_needs_8, X_needs_9, X_needs_10, X_needs_11, rv_three, hn]; exact ⟨rfl, old _⟩
  by_cases h14 : op = 14
  · subst h14; simp -implicitDefEqProofs only [EE, cond_true, cond_false, nth, ↓nw, Value.cells, ↓BK, setMany, if_true, if_false, Nat.reduceAdd, Nat.reduceLeDiff, Nat.reduceMul, Nat.reduceMod, Nat.reduceDiv, Nat.reduceSub, Nat.reduceEqDiff, Int.reduceEq, Int.reduceLT, Int.reduceLE, Int.reduceAdd, Int.reduceSub, Int.reduceMul, Int.reduceNeg, Int.reduceToNat, ne_eq, sto, ldn, ld1, beq_self_eq_true, al_3, fa_43_0, X_needs_1, X_needs_2, X_needs_3, X_needs_4, X_needs_5, X_needs_6, X_needs_7, X_needs_8, X_needs_9, X_needs_10, X_needs_11, rv_three, hn]; exact ⟨rfl, old _⟩
  have e1 : needA op = false := by simp [needA, h3, h4, h5, h6, h7, h11, h14]
  have e2 : needB op = false := by simp [needB, h7]
  have e3 : needD op = false := by simp [needD, h2, h3, h4, h5, h6, h8, h9, h13]
  simp -implicitDefEqProofs only [EE, cond_true, cond_false, nth, ↓nw, Value.cells, ↓BK, setMany, if_true, if_false, Nat.reduceAdd, Nat.reduceLeDiff, Nat.reduceMul, Nat.reduceMod, Nat.reduceDiv, Nat.reduceSub, Nat.reduceEqDiff, Int.reduceEq, Int.reduceLT, Int.reduceLE, Int.reduceAdd, Int.reduceSub, Int.reduceMul, Int.reduceNeg, Int.reduceToNat, ne_eq, sto, ldn, ld1, beq_self_eq_true, al_3, fa_43_0, X_needs_1, X_needs_2, X_needs_3, X_needs_4, X_needs_5, X_needs_6, X_needs_7, X_needs_8, X_needs_9, X_needs_10, X_needs_11, rv_three, hn, h2, h3, h4, h5, h6, h7, h8, h9, h11, h13, h14]
  rw [e1, e2, e3]
  exact ⟨rfl, old _⟩
end Go.Rtl
namespace Go.Rtl
open Go.Ai Go.Proofs
set_option linter.unusedVariables false
set_option linter.unusedSimpArgs false
set_option maxRecDepth 10000
theorem wf_push {h : AHeap} (w : WF' h) (o : AObj) : WF' (h.push o) := ⟨fun b x hb => by
  rw [AHeap.get_push] at hb
  show b < h.next + 1
  split at hb
  · rename_i e; omega
  · have := w.1 b x hb; omega, Nat.le_succ_of_le w.2⟩
theorem wf_set {h : AHeap} (w : WF' h) {b : Nat} (hb : b < h.next) (o : Option AObj) : WF' (h.set b o) := ⟨fun c x hc => by
  rw [AHeap.get_set] at hc
  split at hc
  · rename_i e; subst e; exact hb
  · exact w.1 c x hc, w.2⟩
theorem wf_lock {h : AHeap} (w : WF' h) : WF' h.lock := ⟨fun b x hb => by rw [get_lock] at hb; exact w.1 b x hb, Nat.le_refl _⟩
theorem old_graft {h h2 : AHeap} (hn : h.next ≤ h2.next) : Old h (graft h h2) := ⟨hn, rfl, fun b hb => by rw [get_graft, if_neg (by omega)]⟩
theorem wf_graft {h h2 : AHeap} (w : WF' h) (w2 : WF' h2) (hn : h.next ≤ h2.next) : WF' (graft h h2) := ⟨fun b x hb => by
  show b < h2.next
  rw [get_graft] at hb
  split at hb
  · rename_i e; exact e.2
  · have := w.1 b x hb; omega, by show h.ro ≤ h2.next; have := w.2; omega⟩
/-- A call that lays new blocks alone. -/
theorem callX_of {g : FuncId} {args : List Value} {h : AHeap} {K R : Value → AHeap → Prop} (hc : callable Tryz.prog g = true) (hn : nobot args = true) (wf : WF' h) (d : DC Tryz.prog g args h.lock R) (hk : ∀ v h1, R v h1 → h.next ≤ h1.next → WF' h1 → K v (graft h h1)) : callX Tryz.prog g args h K := by
  obtain ⟨v, h1, r, af, t⟩ := d (wf_lock wf)
  exact ⟨hc, hn, v, h1, t, af, hk v h1 r af.next ((wf_lock wf).af af)⟩
def ints (zs : List Int) : List Value := zs.map fun z => .int .i64 z
theorem ints_cok (zs : List Int) : (ints zs).all cellOk = true := by
  rw [List.all_eq_true]
  intro v hv
  simp only [ints, List.mem_map] at hv
  obtain ⟨z, _, rfl⟩ := hv
  rfl
theorem cap_ne (c n : Nat) : capafter c n ≠ 0 := by
  unfold capafter
  split
  · cases Nat.ble n _ <;> simp
  · simp
/-- A slice that is being built, its block laid behind lo. -/
def SliceW (lo h : AHeap) (l : Value) (zs : List Int) : Prop := (l = .slice none 0 0 ∧ zs = []) ∨ ∃ b c, l = .slice (some ⟨b, 0, none⟩) zs.length c ∧ c ≠ 0 ∧ lo.next ≤ b ∧ b < h.next ∧ h.ro ≤ b ∧ h.get b = some (.cells (ints zs) 3)
section
variable {lo h : AHeap} {l : Value} {zs : List Int}
theorem SliceW.nob (S : SliceW lo h l zs) : isBot l = false := by
  rcases S with ⟨rfl, _⟩ | ⟨_, _, rfl, _⟩ <;> rfl
/-- Numbers more. -/
theorem app_more (S : SliceW lo h l zs) (e : Old lo h) (hro : h.ro ≤ h.next) {x : Value} {n : Nat} {ys : List Int} (hn : alenv x = some n) (hy : ys.length = n) (hf : firstc h n 1 x = some (ints ys)) (hb : zs.length + n ≤ 17592186044416) :
    ∃ l' h', abuiltin Tryz.prog .append [22, 22] 22 [l, x] h = some (l', h') ∧ SliceW lo h' l' (zs ++ ys) ∧ Old lo h' ∧ h'.ro ≤ h'.next ∧ h.next ≤ h'.next ∧ (WF' h → WF' h') ∧ ∀ b, b < lo.next → h'.get b = h.get b := by
  have hap := ap_22 22 l x n (ints ys) h hn hf (ints_cok ys) (by simp [ints, hy])
  rw [hap]
  have n0 := e.next
  rcases S with ⟨rfl, rfl⟩ | ⟨b, c, rfl, hc, hb1, hb2, hb3, hg⟩
  · by_cases h0 : n = 0
    · have : ys = [] := List.length_eq_zero_iff.1 (by omega)
      subst this
      exact ⟨_, _, by simp only [app2, h0, if_true], .inl ⟨rfl, rfl⟩, e, hro, Nat.le_refl _, id, fun _ _ => rfl⟩
    · refine ⟨.slice (some ⟨h.next, 0, none⟩) n 1, h.push (.cells (ints ys) 3), ?_, .inr ⟨h.next, 1, by simp [hy], by decide, by omega, Nat.lt_succ_self _, hro, by rw [get_push_self]; rfl⟩, e.trans (Old.push _ _), Nat.le_succ_of_le hro, Nat.le_succ _, fun w => wf_push w _, fun b hb => get_push_lt (by omega)⟩
      simp only [app2, h0, if_false]
      rw [if_pos (by omega)]
  · by_cases h0 : n = 0
    · have : ys = [] := List.length_eq_zero_iff.1 (by omega)
      subst this
      exact ⟨.slice (some ⟨b, 0, none⟩) zs.length c, h, by simp only [app2, h0, if_true], .inr ⟨b, c, by simp, hc, hb1, hb2, hb3, by simpa using hg⟩, e, hro, Nat.le_refl _, id, fun _ _ => rfl⟩
    · have hroom : roomFor c (zs.length + n) 8 = true := by
        unfold roomFor
        cases Nat.beq c 2 <;> simp only [cond_true, cond_false, Nat.ble_eq] <;> omega
      have hl : (ints zs).length = zs.length := by simp [ints]
      refine ⟨.slice (some ⟨h.next, 0, none⟩) (zs.length + n) (capafter c (zs.length + n)), (h.set b none).push (.cells (ints (zs ++ ys)) 3), ?_, .inr ⟨h.next, capafter c (zs.length + n), by simp [hy], cap_ne _ _, by omega, Nat.lt_succ_self _, hro, get_push_self⟩, ?_, Nat.le_succ_of_le hro, Nat.le_succ _, fun w => wf_push (wf_set w hb2 _) _, fun b' hb' => ?_⟩
      · simp only [app2, h0, if_false, hg]
        rw [if_pos ⟨hc, trivial, hb3, by rw [hl]; omega, hroom, by decide⟩]
        congr 3
        rw [List.drop_zero, List.take_of_length_le (by rw [hl]; omega)]
        simp [ints]
      · refine ⟨by show lo.next ≤ h.next + 1; omega, e.ro, fun b' hb' => ?_⟩
        rw [get_push_lt (by show b' < h.next; omega), get_set_ne (by omega)]
        exact e.get b' hb'
      · rw [get_push_lt (by show b' < h.next; omega), get_set_ne (by omega)]
/-- One more. -/
theorem app_one (S : SliceW lo h l zs) (e : Old lo h) (hro : h.ro ≤ h.next) (z : Int) (hb : zs.length ≤ 17592186044415) :
    ∃ l' h', abuiltin Tryz.prog .append [22, 22] 22 [l, .slice (some ⟨h.next, 0, none⟩) 1 3] (h.push (.cells [.int .i64 z] 3)) = some (l', h') ∧ SliceW lo h' l' (zs ++ [z]) ∧ Old lo h' ∧ h'.ro ≤ h'.next ∧ (WF' h → WF' h') ∧ ∀ b, b < lo.next → h'.get b = h.get b := by
  have S' : SliceW lo (h.push (.cells [.int .i64 z] 3)) l zs := by
    rcases S with a | ⟨b, c, a1, a2, a3, a4, a5, a6⟩
    · exact .inl a
    · exact .inr ⟨b, c, a1, a2, a3, Nat.lt_succ_of_lt a4, a5, by rw [get_push_lt a4]; exact a6⟩
  have hf : firstc (h.push (.cells [.int .i64 z] 3)) 1 1 (.slice (some ⟨h.next, 0, none⟩) 1 3) = some (ints [z]) := by
    simp only [firstc, get_push_self]
    rfl
  obtain ⟨l', h', a1, a2, a3, a4, a5, a7, a6⟩ := app_more S' (e.trans (Old.push _ _)) (Nat.le_succ_of_le hro) (x := .slice (some ⟨h.next, 0, none⟩) 1 3) rfl rfl hf (by omega)
  exact ⟨l', h', a1, a2, a3, a4, fun w => a7 (wf_push w _), fun b hb => by rw [a6 b hb, get_push_lt (by have := e.next; omega)]⟩
theorem SliceI.first (S : SliceI h l zs) : alenv l = some zs.length ∧ firstc h zs.length 1 l = some (ints zs) := by
  rcases S with ⟨rfl, rfl⟩ | ⟨b, off, cp, rfl, hc⟩
  · exact ⟨rfl, rfl⟩
  · refine ⟨rfl, ?_⟩
    by_cases h0 : zs = []
    · subst h0; rfl
    · obtain ⟨c, t, hb, hg, hat⟩ := hc h0
      have hne : 0 < zs.length := List.length_pos_iff.2 h0
      have hlen : off + zs.length ≤ c.length := by
        have := hat (zs.length - 1) _ (List.getElem?_eq_getElem (by omega))
        rcases Nat.lt_or_ge (off + (zs.length - 1)) c.length with q | q
        · omega
        · rw [List.getElem?_eq_none q] at this; cases this
      simp only [firstc, hg]
      rw [show Nat.beq (zs.length * 1) 0 = false by cases hz : Nat.beq (zs.length * 1) 0 with | false => rfl | true => have := Nat.eq_of_beq_eq_true hz; omega]
      rw [show Nat.ble (off + zs.length * 1) c.length = true by simpa using hlen]
      simp only [cond_false, cond_true, Option.some.injEq, Nat.mul_one]
      apply List.ext_getElem?
      intro i
      by_cases hi : i < zs.length
      · rw [List.getElem?_take_of_lt hi, List.getElem?_drop, hat i _ (List.getElem?_eq_getElem hi)]
        simp [ints, hi]
      · rw [List.getElem?_eq_none (by simp; omega), List.getElem?_eq_none (by simp [ints]; omega)]
theorem SliceW.read (S : SliceW lo h l zs) : SliceI h l zs := by
  rcases S with a | ⟨b, c, rfl, hc, h1, h2, h3, h4⟩
  · exact .inl a
  · refine .inr ⟨b, 0, c, rfl, fun _ => ⟨_, 3, h2, h4, fun i z hz => ?_⟩⟩
    simp [ints, hz]
/-- A slice that was made behind l0. -/
def Fresh (l0 h : AHeap) (v : Value) (zs : List Int) : Prop := ∃ lo, Old l0 lo ∧ Old lo h ∧ SliceW lo h v zs ∧ h.ro ≤ h.next
end
theorem Fresh.read {l0 h : AHeap} {v : Value} {zs : List Int} (F : Fresh l0 h v zs) : SliceI h v zs ∧ Old l0 h := by
  obtain ⟨lo, e0, e, W, _⟩ := F
  exact ⟨W.read, e0.trans e⟩
theorem Fresh.graft {h h1 : AHeap} {v : Value} {zs : List Int} (F : Fresh h.lock h1 v zs) (wf : WF' h) : SliceW h (graft h h1) v zs := by
  obtain ⟨lo, e0, e, W, _⟩ := F
  rcases W with a | ⟨b, c, rfl, hc, h2, h3, h4, h5⟩
  · exact .inl a
  · have n0 : h.next ≤ lo.next := e0.next
    refine .inr ⟨b, c, rfl, hc, by omega, h3, ?_, ?_⟩
    · have := wf.2
      show h.ro ≤ b
      omega
    · rw [get_graft, if_pos ⟨by omega, h3⟩]; exact h5
end Go.Rtl
namespace Go.Rtl
open Go.Ai Go.Proofs
set_option linter.unusedVariables false
set_option linter.unusedSimpArgs false
set_option maxRecDepth 10000
def useA (op : Int) : Bool := decide (op = 3) || (decide (op = 4) || (decide (op = 5) || (decide (op = 6) || (decide (op = 7) || (decide (op = 11) || (decide (op = 12) || decide (op = 14)))))))
def useB (op : Int) : Bool := decide (op = 5) || (decide (op = 7) || decide (op = 11))
def lA (x : Ins) : List Int := if useA x.op = true ∧ ¬ x.a = -1 then [x.a] else []
def lB (x : Ins) : List Int := if useB x.op = true ∧ ¬ x.b = -1 then [x.b] else []
def lC (x : Ins) : List Int := if x.op = 10 then x.args else []
def usesI (x : Ins) : List Int := lA x ++ lB x ++ lC x
def succsI (x : Ins) : List Int := if x.op = 12 then [] else if x.op = 11 then [x.s, x.t] else [x.s]
theorem one_read (h : AHeap) (zs : List Int) (c : Nat) : SliceI (h.push (.cells (ints zs) 3)) (.slice (some ⟨h.next, 0, none⟩) zs.length c) zs :=
  .inr ⟨h.next, 0, c, rfl, fun _ => ⟨_, 3, Nat.lt_succ_self _, get_push_self, fun i z hz => by simp [ints, hz]⟩⟩
theorem dSuccs_ok (x : Ins) (hn : isBot x.av = false) (h : AHeap) : DC Tryz.prog 53 [x.val] h (fun v h1 => SliceI h1 v (succsI x) ∧ Old h h1) := by
  apply X_dSuccs_ok
  unfold X_dSuccs succsI
  obtain ⟨op, sub, a, b, d, k, av, args, s, t⟩ := x
  simp only at hn ⊢
  by_cases h12 : op = 12
  · subst h12; simp -implicitDefEqProofs only [EE, cond_true, cond_false, nth, ↓nw, Value.cells, ↓BK, setMany, if_true, if_false, Nat.reduceAdd, Nat.reduceLeDiff, Nat.reduceMul, Nat.reduceMod, Nat.reduceDiv, Nat.reduceSub, Nat.reduceEqDiff, Int.reduceEq, Int.reduceLT, Int.reduceLE, Int.reduceAdd, Int.reduceSub, Int.reduceMul, Int.reduceNeg, Int.reduceToNat, ne_eq, sto, ldn, ld1, beq_self_eq_true, al_3, bs_22_1_0, bs_22_2_0_1, fa_43_0, fa_43_7, fa_43_8, X_dSuccs_1, X_dSuccs_2, X_dSuccs_3, X_dSuccs_4, hn]; exact ⟨.inl ⟨rfl, rfl⟩, Old.push _ _⟩
  by_cases h11 : op = 11
  · subst h11; simp -implicitDefEqProofs only [EE, cond_true, cond_false, nth, ↓nw, Value.cells, ↓BK, setMany, if_true, if_false, Nat.reduceAdd, Nat.reduceLeDiff, Nat.reduceMul, Nat.reduceMod, Nat.reduceDiv, Nat.reduceSub, Nat.reduceEqDiff, Int.reduceEq, Int.reduceLT, Int.reduceLE, Int.reduceAdd, Int.reduceSub, Int.reduceMul, Int.reduceNeg, Int.reduceToNat, ne_eq, sto, ldn, ld1, beq_self_eq_true, al_3, bs_22_1_0, bs_22_2_0_1, fa_43_0, fa_43_7, fa_43_8, X_dSuccs_1, X_dSuccs_2, X_dSuccs_3, X_dSuccs_4, hn]; exact ⟨one_read _ [s, t] 4, (Old.push _ _).trans (Old.push _ _)⟩
  simp -implicitDefEqProofs only [EE, cond_true, cond_false, nth, ↓nw, Value.cells, ↓BK, setMany, if_true, if_false, Nat.reduceAdd, Nat.reduceLeDiff, Nat.reduceMul, Nat.reduceMod, Nat.reduceDiv, Nat.reduceSub, Nat.reduceEqDiff, Int.reduceEq, Int.reduceLT, Int.reduceLE, Int.reduceAdd, Int.reduceSub, Int.reduceMul, Int.reduceNeg, Int.reduceToNat, ne_eq, sto, ldn, ld1, beq_self_eq_true, al_3, bs_22_1_0, bs_22_2_0_1, fa_43_0, fa_43_7, fa_43_8, X_dSuccs_1, X_dSuccs_2, X_dSuccs_3, X_dSuccs_4, hn, h11, h12]
  exact ⟨one_read _ [s] 3, (Old.push _ _).trans (Old.push _ _)⟩
section
variable {l0 lo h : AHeap} {b1 : Nat} {x : Ins} {l : Value} {zs : List Int}
theorem use4 (e0 : Old l0 lo) (S : SliceI lo x.av x.args) (hl : x.args.length ≤ 17592186043904) (W : SliceW lo h l zs) (hz : zs.length ≤ 10) (e : Old lo h) (hro : h.ro ≤ h.next) (h1 : b1 < lo.next) (hb : lo.get b1 = some (.cells x.val.cells.toList 43)) :
    X_dUses_4 (.pointer (some ⟨b1, 0, none⟩)) (fun v h1 => Fresh l0 h1 v (zs ++ lC x)) [l] h := by
  have hn := S.nob
  have hnl := W.nob
  have Sh := S.old e
  obtain ⟨a1, a2⟩ := Sh.first
  rw [← e.get b1 h1] at hb
  obtain ⟨op, sub, a, b, d, k, av, args, s, t⟩ := x
  simp only [Value.cells, Ins.val, List.toList_toArray] at hn hb a1 a2 hl
  unfold lC
  by_cases h10 : op = 10
  · subst h10
    obtain ⟨l', h', q1, q2, q3, q4, q5, q7, q6⟩ := app_more W e hro a1 rfl a2 (by omega)
    have nl := q2.nob
    simp -implicitDefEqProofs only [EE, cond_true, cond_false, nth, ↓nw, Value.cells, ↓BK, setMany, if_true, if_false, Nat.reduceAdd, Nat.reduceLeDiff, Nat.reduceMul, Nat.reduceMod, Nat.reduceDiv, Nat.reduceSub, Nat.reduceEqDiff, Int.reduceEq, Int.reduceLT, Int.reduceLE, Int.reduceAdd, Int.reduceSub, Int.reduceMul, Int.reduceNeg, Int.reduceToNat, ne_eq, sto, ldn, ld1, beq_self_eq_true, al_22, al_3, ap_22, bs_22_1_0, co_3, fa_43_0, fa_43_2, fa_43_3, fa_43_6, X_dUses_3, X_dUses_4, hb, hn, hnl, q1, nl]
    exact ⟨lo, e0, q3, q2, q4⟩
  · simp -implicitDefEqProofs only [EE, cond_true, cond_false, nth, ↓nw, Value.cells, ↓BK, setMany, if_true, if_false, Nat.reduceAdd, Nat.reduceLeDiff, Nat.reduceMul, Nat.reduceMod, Nat.reduceDiv, Nat.reduceSub, Nat.reduceEqDiff, Int.reduceEq, Int.reduceLT, Int.reduceLE, Int.reduceAdd, Int.reduceSub, Int.reduceMul, Int.reduceNeg, Int.reduceToNat, ne_eq, sto, ldn, ld1, beq_self_eq_true, al_22, al_3, ap_22, bs_22_1_0, co_3, fa_43_0, fa_43_2, fa_43_3, fa_43_6, X_dUses_3, X_dUses_4, hb, hn, hnl, h10, List.append_nil]
    exact ⟨lo, e0, e, W, hro⟩
theorem use6 (e0 : Old l0 lo) (S : SliceI lo x.av x.args) (hl : x.args.length ≤ 17592186043904) (W : SliceW lo h l zs) (hz : zs.length ≤ 9) (e : Old lo h) (hro : h.ro ≤ h.next) (h1 : b1 < lo.next) (hb : lo.get b1 = some (.cells x.val.cells.toList 43)) :
    X_dUses_6 (.bool (useB x.op)) (.pointer (some ⟨b1, 0, none⟩)) (fun v h1 => Fresh l0 h1 v (zs ++ lB x ++ lC x)) [l] h := by
  have go := use4 e0 (zs := zs) S hl W (by omega) e hro h1 hb
  have hbh := hb
  rw [← e.get b1 h1] at hbh
  have hnl := W.nob
  obtain ⟨op, sub, a, b, d, k, av, args, s, t⟩ := x
  simp only [Value.cells, Ins.val, List.toList_toArray] at hbh
  unfold lB
  simp only
  cases hB : useB op with
  | false =>
    simp -implicitDefEqProofs only [EE, cond_true, cond_false, nth, ↓nw, Value.cells, ↓BK, setMany, if_true, if_false, Nat.reduceAdd, Nat.reduceLeDiff, Nat.reduceMul, Nat.reduceMod, Nat.reduceDiv, Nat.reduceSub, Nat.reduceEqDiff, Int.reduceEq, Int.reduceLT, Int.reduceLE, Int.reduceAdd, Int.reduceSub, Int.reduceMul, Int.reduceNeg, Int.reduceToNat, ne_eq, sto, ldn, ld1, beq_self_eq_true, al_22, al_3, ap_22, bs_22_1_0, co_3, fa_43_0, fa_43_2, fa_43_3, fa_43_6, X_dUses_2, X_dUses_5, X_dUses_6, hnl, Bool.false_eq_true, false_and, List.append_nil]
    exact go
  | true =>
    by_cases hb1 : b = -1
    · simp -implicitDefEqProofs only [EE, cond_true, cond_false, nth, ↓nw, Value.cells, ↓BK, setMany, if_true, if_false, Nat.reduceAdd, Nat.reduceLeDiff, Nat.reduceMul, Nat.reduceMod, Nat.reduceDiv, Nat.reduceSub, Nat.reduceEqDiff, Int.reduceEq, Int.reduceLT, Int.reduceLE, Int.reduceAdd, Int.reduceSub, Int.reduceMul, Int.reduceNeg, Int.reduceToNat, ne_eq, sto, ldn, ld1, beq_self_eq_true, al_22, al_3, ap_22, bs_22_1_0, co_3, fa_43_0, fa_43_2, fa_43_3, fa_43_6, X_dUses_2, X_dUses_5, X_dUses_6, hnl, hbh, hb1, List.append_nil]
      exact go
    · obtain ⟨l', h', q1, q2, q3, q4, q7, q5⟩ := app_one W e hro b (by omega)
      have nl := q2.nob
      simp -implicitDefEqProofs only [EE, cond_true, cond_false, nth, ↓nw, Value.cells, ↓BK, setMany, if_true, if_false, Nat.reduceAdd, Nat.reduceLeDiff, Nat.reduceMul, Nat.reduceMod, Nat.reduceDiv, Nat.reduceSub, Nat.reduceEqDiff, Int.reduceEq, Int.reduceLT, Int.reduceLE, Int.reduceAdd, Int.reduceSub, Int.reduceMul, Int.reduceNeg, Int.reduceToNat, ne_eq, sto, ldn, ld1, beq_self_eq_true, al_22, al_3, ap_22, bs_22_1_0, co_3, fa_43_0, fa_43_2, fa_43_3, fa_43_6, X_dUses_2, X_dUses_5, X_dUses_6, hnl, hbh, hb1, q1, nl]
      exact use4 e0 (x := ⟨op, sub, a, b, d, k, av, args, s, t⟩) S hl q2 (by simp; omega) q3 q4 h1 hb
theorem use7 (e0 : Old l0 lo) (S : SliceI lo x.av x.args) (hl : x.args.length ≤ 17592186043904) (hro : lo.ro ≤ lo.next) (h1 : b1 < lo.next) (hb : lo.get b1 = some (.cells x.val.cells.toList 43)) {t60 : Value} (ht : useA x.op = true → t60 = .int .i64 x.a) :
    X_dUses_7 (.bool (useA x.op)) (.pointer (some ⟨b1, 0, none⟩)) (.bool (useB x.op)) (fun v h1 => Fresh l0 h1 v (usesI x)) t60 lo := by
  have go := use6 e0 (zs := []) S hl (.inl ⟨rfl, rfl⟩) (by simp) (.refl lo) hro h1 hb
  have hbh := hb
  unfold usesI lA
  obtain ⟨op, sub, a, b, d, k, av, args, s, t⟩ := x
  simp only [Value.cells, Ins.val, List.toList_toArray] at hbh ht
  simp only
  cases hA : useA op with
  | false =>
    simp -implicitDefEqProofs only [EE, cond_true, cond_false, nth, ↓nw, Value.cells, ↓BK, setMany, if_true, if_false, Nat.reduceAdd, Nat.reduceLeDiff, Nat.reduceMul, Nat.reduceMod, Nat.reduceDiv, Nat.reduceSub, Nat.reduceEqDiff, Int.reduceEq, Int.reduceLT, Int.reduceLE, Int.reduceAdd, Int.reduceSub, Int.reduceMul, Int.reduceNeg, Int.reduceToNat, ne_eq, sto, ldn, ld1, beq_self_eq_true, al_22, al_3, ap_22, bs_22_1_0, co_3, fa_43_0, fa_43_2, fa_43_3, fa_43_6, X_dUses_1, X_dUses_7, Bool.false_eq_true, false_and]
    exact go
  | true =>
    obtain rfl := ht hA
    by_cases ha : a = -1
    · simp -implicitDefEqProofs only [EE, cond_true, cond_false, nth, ↓nw, Value.cells, ↓BK, setMany, if_true, if_false, Nat.reduceAdd, Nat.reduceLeDiff, Nat.reduceMul, Nat.reduceMod, Nat.reduceDiv, Nat.reduceSub, Nat.reduceEqDiff, Int.reduceEq, Int.reduceLT, Int.reduceLE, Int.reduceAdd, Int.reduceSub, Int.reduceMul, Int.reduceNeg, Int.reduceToNat, ne_eq, sto, ldn, ld1, beq_self_eq_true, al_22, al_3, ap_22, bs_22_1_0, co_3, fa_43_0, fa_43_2, fa_43_3, fa_43_6, X_dUses_1, X_dUses_7, ha]
      exact go
    · obtain ⟨l', h', q1, q2, q3, q4, q7, q5⟩ := app_one (l := .slice none 0 0) (zs := []) (lo := lo) (.inl ⟨rfl, rfl⟩) (.refl lo) hro a (by simp)
      have nl := q2.nob
      simp -implicitDefEqProofs only [EE, cond_true, cond_false, nth, ↓nw, Value.cells, ↓BK, setMany, if_true, if_false, Nat.reduceAdd, Nat.reduceLeDiff, Nat.reduceMul, Nat.reduceMod, Nat.reduceDiv, Nat.reduceSub, Nat.reduceEqDiff, Int.reduceEq, Int.reduceLT, Int.reduceLE, Int.reduceAdd, Int.reduceSub, Int.reduceMul, Int.reduceNeg, Int.reduceToNat, ne_eq, sto, ldn, ld1, beq_self_eq_true, al_22, al_3, ap_22, bs_22_1_0, co_3, fa_43_0, fa_43_2, fa_43_3, fa_43_6, X_dUses_1, X_dUses_7, hbh, ha, q1, nl]
      exact use6 e0 (x := ⟨op, sub, a, b, d, k, av, args, s, t⟩) S hl q2 (by simp) q3 q4 h1 hb
end
theorem dUses_ok (x : Ins) (h : AHeap) (S : SliceI h x.av x.args) (hl : x.args.length ≤ 17592186043904) : DC Tryz.prog 52 [x.val] h (fun v h1 => Fresh h h1 v (usesI x)) := by
  apply DC_wf; intro hwf; have hro := hwf.2
  apply X_dUses_ok
  unfold X_dUses
  have hn := S.nob
  have o := Old.push h (.cells x.val.cells.toList 43)
  have go := fun (t60 : Value) (ht : useA x.op = true → t60 = .int .i64 x.a) => use7 o (x := x) (b1 := h.next) (S.old o) hl (by show h.ro ≤ h.next + 1; omega) (Nat.lt_succ_self _) get_push_self ht
  obtain ⟨op, sub, a, b, d, k, av, args, s, t⟩ := x
  simp only [Value.cells, Ins.val, List.toList_toArray] at hn hl S o go
  by_cases h3 : op = 3
  · subst h3
    simp -implicitDefEqProofs only [EE, cond_true, cond_false, nth, ↓nw, Value.cells, ↓BK, setMany, if_true, if_false, Nat.reduceAdd, Nat.reduceLeDiff, Nat.reduceMul, Nat.reduceMod, Nat.reduceDiv, Nat.reduceSub, Nat.reduceEqDiff, Int.reduceEq, Int.reduceLT, Int.reduceLE, Int.reduceAdd, Int.reduceSub, Int.reduceMul, Int.reduceNeg, Int.reduceToNat, ne_eq, sto, ldn, ld1, beq_self_eq_true, al_22, al_3, ap_22, bs_22_1_0, co_3, fa_43_0, fa_43_2, fa_43_3, fa_43_6, X_dUses_8, X_dUses_9, X_dUses_10, X_dUses_11, X_dUses_12, X_dUses_13, X_dUses_14, X_dUses_15, X_dUses_16, X_dUses_17, X_dUses_18, X_dUses_19, X_dUses_20, X_dUses_21, X_dUses_22, X_dUses_23, X_dUses_24, X_dUses_25, hn]
    exact go _ (fun _ => rfl)
  by_cases h4 : op = 4
  · subst h4
    simp -implicitDefEqProofs only [EE, cond_true, cond_false, nth, ↓nw, Value.cells, ↓BK, setMany, if_true, if_false, Nat.reduceAdd, Nat.reduceLeDiff, Nat.reduceMul, Nat.reduceMod, Nat.reduceDiv, Nat.reduceSub, Nat.reduceEqDiff, Int.reduceEq, Int.reduceLT, Int.reduceLE, Int.reduceAdd, Int.reduceSub, Int.reduceMul, Int.reduceNeg, Int.reduceToNat, ne_eq, sto, ldn, ld1, beq_self_eq_true, al_22, al_3, ap_22, bs_22_1_0, co_3, fa_43_0, fa_43_2, fa_43_3, fa_43_6, X_dUses_8, X_dUses_9, X_dUses_10, X_dUses_11, X_dUses_12, X_dUses_13, X_dUses_14, X_dUses_15, X_dUses_16, X_dUses_17, X_dUses_18, X_dUses_19, X_dUses_20, X_dUses_21, X_dUses_22, X_dUses_23, X_dUses_24, X_dUses_25, hn]
    exact go _ (fun _ => rfl)
  by_cases h5 : op = 5
  · subst h5
    simp -implicitDefEqProofs only [EE, cond_true, cond_false, nth, ↓nw, Value.cells, ↓BK, setMany, if_true, if_false, Nat.reduceAdd, Nat.reduceLeDiff, Nat.reduceMul, Nat.reduceMod, Nat.reduceDiv, Nat.reduceSub, Nat.reduceEqDiff, Int.reduceEq, Int.reduceLT, Int.reduceLE, Int.reduceAdd, Int.reduceSub, Int.reduceMul, Int.reduceNeg, Int.reduceToNat, ne_eq, sto, ldn, ld1, beq_self_eq_true, al_22, al_3, ap_22, bs_22_1_0, co_3, fa_43_0, fa_43_2, fa_43_3, fa_43_6, X_dUses_8, X_dUses_9, X_dUses_10, X_dUses_11, X_dUses_12, X_dUses_13, X_dUses_14, X_dUses_15, X_dUses_16, X_dUses_17, X_dUses_18, X_dUses_19, X_dUses_20, X_dUses_21, X_dUses_22, X_dUses_23, X_dUses_24, X_dUses_25, hn]
    exact go _ (fun _ => rfl)
  by_cases h6 : op = 6
  · subst h6
    simp -implicitDefEqProofs only [EE, cond_true, cond_false, nth, ↓nw, Value.cells, ↓BK, setMany, if_true, if_false, Nat.reduceAdd, Nat.reduceLeDiff, Nat.reduceMul, Nat.reduceMod, Nat.reduceDiv, Nat.reduceSub, Nat.reduceEqDiff, Int.reduceEq, Int.reduceLT, Int.reduceLE, Int.reduceAdd, Int.reduceSub, Int.reduceMul, Int.reduceNeg, Int.reduceToNat, ne_eq, sto, ldn, ld1, beq_self_eq_true, al_22, al_3, ap_22, bs_22_1_0, co_3, fa_43_0, fa_43_2, fa_43_3, fa_43_6, X_dUses_8, X_dUses_9, X_dUses_10, X_dUses_11, X_dUses_12, X_dUses_13, X_dUses_14, X_dUses_15, X_dUses_16, X_dUses_17, X_dUses_18, X_dUses_19, X_dUses_20, X_dUses_21, X_dUses_22, X_dUses_23, X_dUses_24, X_dUses_25, hn]
    exact go _ (fun _ => rfl)
  by_cases h7 : op = 7
  · subst h7
    simp -implicitDefEqProofs only [EE, cond_true, cond_false, nth, ↓nw, Value.cells, ↓BK, setMany, if_true, if_false, Nat.reduceAdd, Nat.reduceLeDiff, Nat.reduceMul, Nat.reduceMod, Nat.reduceDiv, Nat.reduceSub, Nat.reduceEqDiff, Int.reduceEq, Int.reduceLT, Int.reduceLE, Int.reduceAdd, Int.reduceSub, Int.reduceMul, Int.reduceNeg, Int.reduceToNat, ne_eq, sto, ldn, ld1, beq_self_eq_true, al_22, al_3, ap_22, bs_22_1_0, co_3, fa_43_0, fa_43_2, fa_43_3, fa_43_6, X_dUses_8, X_dUses_9, X_dUses_10, X_dUses_11, X_dUses_12, X_dUses_13, X_dUses_14, X_dUses_15, X_dUses_16, X_dUses_17, X_dUses_18, X_dUses_19, X_dUses_20, X_dUses_21, X_dUses_22, X_dUses_23, X_dUses_24, X_dUses_25, hn]
    exact go _ (fun _ => rfl)
  by_cases h11 : op = 11
  · subst h11
    simp -implicitDefEqProofs only [EE, cond_true, cond_false, nth, ↓nw, Value.cells, ↓BK, setMany, if_true, if_false, Nat.reduceAdd, Nat.reduceLeDiff, Nat.reduceMul, Nat.reduceMod, Nat.reduceDiv, Nat.reduceSub, Nat.reduceEqDiff, Int.reduceEq, Int.reduceLT, Int.reduceLE, Int.reduceAdd, Int.reduceSub, Int.reduceMul, Int.reduceNeg, Int.reduceToNat, ne_eq, sto, ldn, ld1, beq_self_eq_true, al_22, al_3, ap_22, bs_22_1_0, co_3, fa_43_0, fa_43_2, fa_43_3, fa_43_6, X_dUses_8, X_dUses_9, X_dUses_10, X_dUses_11, X_dUses_12, X_dUses_13, X_dUses_14, X_dUses_15, X_dUses_16, X_dUses_17, X_dUses_18, X_dUses_19, X_dUses_20, X_dUses_21, X_dUses_22, X_dUses_23, X_dUses_24, X_dUses_25, hn]
    exact go _ (fun _ => rfl)
  by_cases h12 : op = 12
  · subst h12
    simp -implicitDefEqProofs only [EE, cond_true, cond_false, nth, ↓nw, Value.cells, ↓BK, setMany, if_true, if_false, Nat.reduceAdd, Nat.reduceLeDiff, Nat.reduceMul, Nat.reduceMod, Nat.reduceDiv, Nat.reduceSub, Nat.reduceEqDiff, Int.reduceEq, Int.reduceLT, Int.reduceLE, Int.reduceAdd, Int.reduceSub, Int.reduceMul, Int.reduceNeg, Int.reduceToNat, ne_eq, sto, ldn, ld1, beq_self_eq_true, al_22, al_3, ap_22, bs_22_1_0, co_3, fa_43_0, fa_43_2, fa_43_3, fa_43_6, X_dUses_8, X_dUses_9, X_dUses_10, X_dUses_11, X_dUses_12, X_dUses_13, X_dUses_14, X_dUses_15, X_dUses_16, X_dUses_17, X_dUses_18, X_dUses_19, X_dUses_20, X_dUses_21, X_dUses_22, X_dUses_23, X_dUses_24, X_dUses_25, hn]
    exact go _ (fun _ => rfl)
  by_cases h14 : op = 14
  · subst h14
    simp -implicitDefEqProofs only [EE, cond_true, cond_false, nth, ↓nw, Value.cells, ↓BK, setMany, if_true, if_false, Nat.reduceAdd, Nat.reduceLeDiff, Nat.reduceMul, Nat.reduceMod, Nat.reduceDiv, Nat.reduceSub, Nat.reduceEqDiff, Int.reduceEq, Int.reduceLT, Int.reduceLE, Int.reduceAdd, Int.reduceSub, Int.reduceMul, Int.reduceNeg, Int.reduceToNat, ne_eq, sto, ldn, ld1, beq_self_eq_true, al_22, al_3, ap_22, bs_22_1_0, co_3, fa_43_0, fa_43_2, fa_43_3, fa_43_6, X_dUses_8, X_dUses_9, X_dUses_10, X_dUses_11, X_dUses_12, X_dUses_13, X_dUses_14, X_dUses_15, X_dUses_16, X_dUses_17, X_dUses_18, X_dUses_19, X_dUses_20, X_dUses_21, X_dUses_22, X_dUses_23, X_dUses_24, X_dUses_25, hn]
    exact go _ (fun _ => rfl)
  have eA : useA op = false := by simp [useA, h3, h4, h5, h6, h7, h11, h12, h14]
  have eB : useB op = false := by simp [useB, h5, h7, h11]
  rw [eA, eB] at go
  simp -implicitDefEqProofs only [EE, cond_true, cond_false, nth, ↓nw, Value.cells, ↓BK, setMany, if_true, if_false, Nat.reduceAdd, Nat.reduceLeDiff, Nat.reduceMul, Nat.reduceMod, Nat.reduceDiv, Nat.reduceSub, Nat.reduceEqDiff, Int.reduceEq, Int.reduceLT, Int.reduceLE, Int.reduceAdd, Int.reduceSub, Int.reduceMul, Int.reduceNeg, Int.reduceToNat, ne_eq, sto, ldn, ld1, beq_self_eq_true, al_22, al_3, ap_22, bs_22_1_0, co_3, fa_43_0, fa_43_2, fa_43_3, fa_43_6, X_dUses_8, X_dUses_9, X_dUses_10, X_dUses_11, X_dUses_12, X_dUses_13, X_dUses_14, X_dUses_15, X_dUses_16, X_dUses_17, X_dUses_18, X_dUses_19, X_dUses_20, X_dUses_21, X_dUses_22, X_dUses_23, X_dUses_24, X_dUses_25, hn, h3, h4, h5, h6, h7, h11, h12, h14]
  exact go _ (fun q => by cases q)
end Go.Rtl
namespace Go.Rtl
open Go.Ai Go.Proofs
set_option linter.unusedVariables false
set_option linter.unusedSimpArgs false
set_option maxRecDepth 10000
def maxN : Nat := 17592186043904
theorem inc {i : Nat} (h : i < 4611686018427387904) : IntKind.wrap .i64 ((i : Int) + 1) = ((i + 1 : Nat) : Int) := by
  simp only [IntKind.wrap, IntKind.bits, IntKind.signed]; simp; omega
/-- A function of a program. -/
structure Fn where
  nm : ByteArray
  pv : Value
  params : List Int
  regs : Int
  frame : Int
  entry : Int
  cv : Value
  code : List Ins
structure Pg where
  gv : Value
  globals : List Int
  fv : Value
  funcs : List Fn
  main : Int
abbrev Ins.row (x : Ins) : List Value := [.int .i64 x.op, .int .i64 x.sub, .int .i64 x.a, .int .i64 x.b, .int .i64 x.d, .int .i64 x.k, x.av, .int .i64 x.s, .int .i64 x.t]
abbrev Fn.row (f : Fn) : List Value := [.string f.nm, f.pv, .int .i64 f.regs, .int .i64 f.frame, .int .i64 f.entry, f.cv]
abbrev Fn.val (f : Fn) : Value := .agg #[.string f.nm, f.pv, .int .i64 f.regs, .int .i64 f.frame, .int .i64 f.entry, f.cv]
abbrev Pg.row (p : Pg) : List Value := [p.gv, p.fv, .int .i64 p.main]
abbrev Pg.val (p : Pg) : Value := .agg #[p.gv, p.fv, .int .i64 p.main]
/-- A slice of rows, each of n cells. -/
def SliceR (h : AHeap) (sv : Value) (n : Nat) (rows : List (List Value)) : Prop := (sv = .slice none 0 0 ∧ rows = []) ∨ ∃ b off cp, sv = .slice (some ⟨b, off, none⟩) rows.length cp ∧
  (rows ≠ [] → ∃ c t, b < h.next ∧ h.get b = some (.cells c t) ∧ ∀ (i : Nat) r, rows[i]? = some r → off + i * n + n ≤ c.length ∧ (c.drop (off + i * n)).take n = r)
section
variable {h h' : AHeap} {sv : Value} {n : Nat} {rows : List (List Value)}
theorem SliceR.nob (S : SliceR h sv n rows) : isBot sv = false := by
  rcases S with ⟨rfl, _⟩ | ⟨b, off, cp, rfl, _⟩ <;> rfl
theorem SliceR.cok (S : SliceR h sv n rows) : cellOk sv = true := by
  rcases S with ⟨rfl, _⟩ | ⟨b, off, cp, rfl, _⟩ <;> rfl
theorem SliceR.old (S : SliceR h sv n rows) (e : Old h h') : SliceR h' sv n rows := by
  rcases S with a | ⟨b, off, cp, rfl, hc⟩
  · exact .inl a
  · refine .inr ⟨b, off, cp, rfl, fun hz => ?_⟩
    obtain ⟨c, t, hb, hg, hat⟩ := hc hz
    exact ⟨c, t, Nat.lt_of_lt_of_le hb e.next, by rw [e.get b hb]; exact hg, hat⟩
theorem SliceR.lock (S : SliceR h sv n rows) : SliceR h.lock sv n rows := by
  rcases S with a | ⟨b, off, cp, rfl, hc⟩
  · exact .inl a
  · refine .inr ⟨b, off, cp, rfl, fun hz => ?_⟩
    obtain ⟨c, t, hb, hg, hat⟩ := hc hz
    exact ⟨c, t, hb, by rw [get_lock]; exact hg, hat⟩
theorem SliceR.len46 (S : SliceR h sv n rows) (r : TypeId) (h' : AHeap) : abuiltin Tryz.prog .len [46] r [sv] h' = some (.int .i64 rows.length, h') := by
  rcases S with ⟨rfl, rfl⟩ | ⟨b, off, cp, rfl, _⟩
  · simp only [len_46, List.length_nil]
  · simp only [len_46]
theorem SliceR.len23 (S : SliceR h sv n rows) (r : TypeId) (h' : AHeap) : abuiltin Tryz.prog .len [23] r [sv] h' = some (.int .i64 rows.length, h') := by
  rcases S with ⟨rfl, rfl⟩ | ⟨b, off, cp, rfl, _⟩
  · simp only [len_23, List.length_nil]
  · simp only [len_23]
theorem SliceI.len22 {zs : List Int} (S : SliceI h sv zs) (r : TypeId) (h' : AHeap) : abuiltin Tryz.prog .len [22] r [sv] h' = some (.int .i64 zs.length, h') := by
  rcases S with ⟨rfl, rfl⟩ | ⟨b, off, cp, rfl, _⟩
  · simp only [len_22, List.length_nil]
  · simp only [len_22]
/-- A row's place. -/
theorem SliceR.spot (S : SliceR h sv n rows) {i : Nat} {r : List Value} (hr : rows[i]? = some r) (hn : r.length = n) : ∃ b o c t, (∃ off cp, sv = .slice (some ⟨b, off, none⟩) rows.length cp ∧ o = off + i * n) ∧ i < rows.length ∧ b < h.next ∧ h.get b = some (.cells c t) ∧ o + n ≤ c.length ∧ (c.drop o).take n = r ∧ ∀ k, k < n → c[o + k]? = r[k]? := by
  rcases S with ⟨rfl, rfl⟩ | ⟨b, off, cp, rfl, hc⟩
  · cases hr
  · have hlt : i < rows.length := by
      rcases Nat.lt_or_ge i rows.length with a | a
      · exact a
      · rw [List.getElem?_eq_none a] at hr; cases hr
    obtain ⟨c, t, hb, hg, hat⟩ := hc (by intro e; subst e; cases hr)
    obtain ⟨h1, h2⟩ := hat i r hr
    refine ⟨b, off + i * n, c, t, ⟨off, cp, rfl, rfl⟩, hlt, hb, hg, h1, h2, fun k hk => ?_⟩
    · rw [← h2, List.getElem?_take_of_lt hk, List.getElem?_drop]
theorem SliceR.at46 (S : SliceR h sv 9 rows) {i : Nat} {r : List Value} (hr : rows[i]? = some r) (hn : r.length = 9) : ∃ b o c t, aindex Tryz.prog 46 sv (.int .i64 i) = some (.pointer (some ⟨b, o, none⟩)) ∧ b < h.next ∧ h.get b = some (.cells c t) ∧ o + 9 ≤ c.length ∧ (c.drop o).take 9 = r ∧ ∀ k, k < 9 → c[o + k]? = r[k]? := by
  obtain ⟨b, o, c, t, ⟨off, cp, rfl, rfl⟩, hi, hb, hg, hl, ht, hk⟩ := S.spot hr hn
  have h1 : 0 ≤ (i : Int) ∧ (i : Int) < (rows.length : Int) := by omega
  exact ⟨b, off + i * 9, c, t, by simp only [ix_46, h1, Int.toNat_natCast, and_self, if_true], hb, hg, hl, ht, hk⟩
theorem SliceR.at23 (S : SliceR h sv 6 rows) {i : Nat} {r : List Value} (hr : rows[i]? = some r) (hn : r.length = 6) : ∃ b o c t, aindex Tryz.prog 23 sv (.int .i64 i) = some (.pointer (some ⟨b, o, none⟩)) ∧ b < h.next ∧ h.get b = some (.cells c t) ∧ o + 6 ≤ c.length ∧ (c.drop o).take 6 = r ∧ ∀ k, k < 6 → c[o + k]? = r[k]? := by
  obtain ⟨b, o, c, t, ⟨off, cp, rfl, rfl⟩, hi, hb, hg, hl, ht, hk⟩ := S.spot hr hn
  have h1 : 0 ≤ (i : Int) ∧ (i : Int) < (rows.length : Int) := by omega
  exact ⟨b, off + i * 6, c, t, by simp only [ix_23, h1, Int.toNat_natCast, and_self, if_true], hb, hg, hl, ht, hk⟩
end
/-- An instruction's arguments are as told. -/
structure InsOk (h : AHeap) (x : Ins) : Prop where
  args : SliceI h x.av x.args
  few : x.args.length ≤ 17592186043904
structure FnOk (h : AHeap) (f : Fn) : Prop where
  params : SliceI h f.pv f.params
  pfew : f.params.length ≤ 17592186043904
  code : SliceR h f.cv 9 (f.code.map Ins.row)
  cfew : f.code.length * 88 ≤ 140737488351232
  ins : ∀ x, x ∈ f.code → InsOk h x
structure PgOk (h : AHeap) (p : Pg) : Prop where
  globals : SliceI h p.gv p.globals
  gfew : p.globals.length ≤ 17592186043904
  funcs : SliceR h p.fv 6 (p.funcs.map Fn.row)
  ffew : p.funcs.length * 88 ≤ 140737488351232
  fns : ∀ f, f ∈ p.funcs → FnOk h f
section
variable {h h' : AHeap} {x : Ins} {f : Fn} {p : Pg}
theorem InsOk.old (S : InsOk h x) (e : Old h h') : InsOk h' x := ⟨S.args.old e, S.few⟩
theorem InsOk.lock (S : InsOk h x) : InsOk h.lock x := ⟨S.args.lock, S.few⟩
theorem FnOk.old (S : FnOk h f) (e : Old h h') : FnOk h' f := ⟨S.params.old e, S.pfew, S.code.old e, S.cfew, fun x hx => (S.ins x hx).old e⟩
theorem FnOk.lock (S : FnOk h f) : FnOk h.lock f := ⟨S.params.lock, S.pfew, S.code.lock, S.cfew, fun x hx => (S.ins x hx).lock⟩
theorem PgOk.old (S : PgOk h p) (e : Old h h') : PgOk h' p := ⟨S.globals.old e, S.gfew, S.funcs.old e, S.ffew, fun f hf => (S.fns f hf).old e⟩
theorem PgOk.lock (S : PgOk h p) : PgOk h.lock p := ⟨S.globals.lock, S.gfew, S.funcs.lock, S.ffew, fun f hf => (S.fns f hf).lock⟩
end
/-- A loop that counts up; what was asked ahead held of each; Q: what is known of its memory. -/
theorem LP_upQ {step : List Value → AHeap → (List Value → AHeap → Prop) → Prop} (Q : AHeap → Prop) {v : Value} (n : Nat) (G : Nat → Bool) {h : AHeap} (h0 : Q h)
    (hs : ∀ i h J, i ≤ n → Q h → (∀ k, k < i → G k = true) → (∀ h', i < n → G i = true → Q h' → J [v, .int .i64 ((i + 1 : Nat) : Int)] h') → step [v, .int .i64 (i : Nat)] h J) : LP step [v, .int .i64 0] h := by
  refine LP_of (fun m vs h => ∃ i, i ≤ n ∧ m = n - i ∧ vs = [v, .int .i64 (i : Nat)] ∧ Q h ∧ ∀ k, k < i → G k = true) n ⟨0, Nat.zero_le _, rfl, rfl, h0, fun k hk => absurd hk (Nat.not_lt_zero _)⟩ ?_
  rintro m vs h ⟨i, hi, rfl, rfl, e, g⟩
  refine hs i h _ hi e g fun h' hlt hg e' => ⟨n - (i + 1), by omega, i + 1, hlt, rfl, rfl, e', fun k hk => ?_⟩
  rcases Nat.lt_or_ge k i with q | q
  · exact g k q
  · have : k = i := by omega
    subst this; exact hg
/-- A loop that counts up; what was asked ahead held of each; Q: what is known of its memory. -/
theorem LP_upQ1 {step : List Value → AHeap → (List Value → AHeap → Prop) → Prop} (Q : AHeap → Prop) (n : Nat) (G : Nat → Bool) {h : AHeap} (h0 : Q h)
    (hs : ∀ i h J, i ≤ n → Q h → (∀ k, k < i → G k = true) → (∀ h', i < n → G i = true → Q h' → J [.int .i64 ((i + 1 : Nat) : Int)] h') → step [.int .i64 (i : Nat)] h J) : LP step [.int .i64 0] h := by
  refine LP_of (fun m vs h => ∃ i, i ≤ n ∧ m = n - i ∧ vs = [.int .i64 (i : Nat)] ∧ Q h ∧ ∀ k, k < i → G k = true) n ⟨0, Nat.zero_le _, rfl, rfl, h0, fun k hk => absurd hk (Nat.not_lt_zero _)⟩ ?_
  rintro m vs h ⟨i, hi, rfl, rfl, e, g⟩
  refine hs i h _ hi e g fun h' hlt hg e' => ⟨n - (i + 1), by omega, i + 1, hlt, rfl, rfl, e', fun k hk => ?_⟩
  rcases Nat.lt_or_ge k i with q | q
  · exact g k q
  · have : k = i := by omega
    subst this; exact hg
/-- A loop that counts up; what was asked ahead held of each. -/
theorem LP_up2 {step : List Value → AHeap → (List Value → AHeap → Prop) → Prop} {lo : AHeap} {v : Value} (n : Nat) (G : Nat → Bool) {h : AHeap} (h0 : Old lo h)
    (hs : ∀ i h J, i ≤ n → Old lo h → (∀ k, k < i → G k = true) → (∀ h', i < n → G i = true → Old lo h' → J [v, .int .i64 ((i + 1 : Nat) : Int)] h') → step [v, .int .i64 (i : Nat)] h J) : LP step [v, .int .i64 0] h := by
  refine LP_of (fun m vs h => ∃ i, i ≤ n ∧ m = n - i ∧ vs = [v, .int .i64 (i : Nat)] ∧ Old lo h ∧ ∀ k, k < i → G k = true) n ⟨0, Nat.zero_le _, rfl, rfl, h0, fun k hk => absurd hk (Nat.not_lt_zero _)⟩ ?_
  rintro m vs h ⟨i, hi, rfl, rfl, e, g⟩
  refine hs i h _ hi e g fun h' hlt hg e' => ⟨n - (i + 1), by omega, i + 1, hlt, rfl, rfl, e', fun k hk => ?_⟩
  rcases Nat.lt_or_ge k i with q | q
  · exact g k q
  · have : k = i := by omega
    subst this; exact hg
theorem LP_up1 {step : List Value → AHeap → (List Value → AHeap → Prop) → Prop} {lo : AHeap} (n : Nat) (G : Nat → Bool) {h : AHeap} (h0 : Old lo h)
    (hs : ∀ i h J, i ≤ n → Old lo h → (∀ k, k < i → G k = true) → (∀ h', i < n → G i = true → Old lo h' → J [.int .i64 ((i + 1 : Nat) : Int)] h') → step [.int .i64 (i : Nat)] h J) : LP step [.int .i64 0] h := by
  refine LP_of (fun m vs h => ∃ i, i ≤ n ∧ m = n - i ∧ vs = [.int .i64 (i : Nat)] ∧ Old lo h ∧ ∀ k, k < i → G k = true) n ⟨0, Nat.zero_le _, rfl, rfl, h0, fun k hk => absurd hk (Nat.not_lt_zero _)⟩ ?_
  rintro m vs h ⟨i, hi, rfl, rfl, e, g⟩
  refine hs i h _ hi e g fun h' hlt hg e' => ⟨n - (i + 1), by omega, i + 1, hlt, rfl, rfl, e', fun k hk => ?_⟩
  rcases Nat.lt_or_ge k i with q | q
  · exact g k q
  · have : k = i := by omega
    subst this; exact hg
/-- What is asked of each element. -/
def atB {α : Type} (l : List α) (B : α → Bool) (k : Nat) : Bool := match l[k]? with
  | some x => B x
  | none => true
theorem all_of_at {α : Type} {l : List α} {B : α → Bool} (h : ∀ k, k < l.length → atB l B k = true) : l.all B = true := by
  rw [List.all_eq_true]
  intro x hx
  obtain ⟨k, hk, rfl⟩ := List.getElem_of_mem hx
  have := h k hk
  simpa only [atB, List.getElem?_eq_getElem hk] using this
theorem not_all {α : Type} {l : List α} {B : α → Bool} {k : Nat} {x : α} (hx : l[k]? = some x) (hb : B x = false) : l.all B = false := by
  rw [List.all_eq_false]
  exact ⟨x, List.mem_of_getElem? hx, by simp [hb]⟩
theorem atB_of {α : Type} {l : List α} {B : α → Bool} {k : Nat} {x : α} (hx : l[k]? = some x) : atB l B k = B x := by simp only [atB, hx]
theorem get_some {α : Type} {l : List α} {k : Nat} (h : k < l.length) : ∃ x, l[k]? = some x ∧ x ∈ l := ⟨l[k], List.getElem?_eq_getElem h, List.getElem_mem h⟩
end Go.Rtl
