/- -/
import Derived.Test.YtpilbfkinpbnoaaMemW
import Derived.Test.YtpilbfkinpbnoaaAiD
namespace Go.Mem
open Go.Ai Go.Proofs
set_option linter.unusedVariables false
noncomputable def fields24 : Array Field := match Program.underlying Try.prog 24 with | some (.struct f) => f | _ => #[]
theorem al_2 (b off : Nat) (h : AHeap) : aload Try.prog 2 (.pointer (some ⟨b, off, none⟩)) h = ld1 h b off := aload_one (by kernel_rfl) b off h
theorem al_24 (b off : Nat) (h : AHeap) : aload Try.prog 24 (.pointer (some ⟨b, off, none⟩)) h = ldn h b off 3 := aload_agg (by kernel_rfl) (by kernel_rfl) b off h
theorem al_3 (b off : Nat) (h : AHeap) : aload Try.prog 3 (.pointer (some ⟨b, off, none⟩)) h = ld1 h b off := aload_one (by kernel_rfl) b off h
theorem al_32 (b off : Nat) (h : AHeap) : aload Try.prog 32 (.pointer (some ⟨b, off, none⟩)) h = ldn h b off 9 := aload_agg (by kernel_rfl) (by kernel_rfl) b off h
theorem al_4 (b off : Nat) (h : AHeap) : aload Try.prog 4 (.pointer (some ⟨b, off, none⟩)) h = ld1 h b off := aload_one (by kernel_rfl) b off h
theorem al_41 (b off : Nat) (h : AHeap) : aload Try.prog 41 (.pointer (some ⟨b, off, none⟩)) h = ld1 h b off := aload_one (by kernel_rfl) b off h
theorem al_5 (b off : Nat) (h : AHeap) : aload Try.prog 5 (.pointer (some ⟨b, off, none⟩)) h = ld1 h b off := aload_one (by kernel_rfl) b off h
theorem al_54 (b off : Nat) (h : AHeap) : aload Try.prog 54 (.pointer (some ⟨b, off, none⟩)) h = ld1 h b off := aload_one (by kernel_rfl) b off h
theorem al_57 (b off : Nat) (h : AHeap) : aload Try.prog 57 (.pointer (some ⟨b, off, none⟩)) h = ld1 h b off := aload_one (by kernel_rfl) b off h
theorem al_58 (b off : Nat) (h : AHeap) : aload Try.prog 58 (.pointer (some ⟨b, off, none⟩)) h = ld1 h b off := aload_one (by kernel_rfl) b off h
theorem al_65 (b off : Nat) (h : AHeap) : aload Try.prog 65 (.pointer (some ⟨b, off, none⟩)) h = ldn h b off 5 := aload_agg (by kernel_rfl) (by kernel_rfl) b off h
theorem al_69 (b off : Nat) (h : AHeap) : aload Try.prog 69 (.pointer (some ⟨b, off, none⟩)) h = ld1 h b off := aload_one (by kernel_rfl) b off h
theorem al_71 (b off : Nat) (h : AHeap) : aload Try.prog 71 (.pointer (some ⟨b, off, none⟩)) h = ld1 h b off := aload_one (by kernel_rfl) b off h
theorem al_72 (b off : Nat) (h : AHeap) : aload Try.prog 72 (.pointer (some ⟨b, off, none⟩)) h = ld1 h b off := aload_one (by kernel_rfl) b off h
theorem al_81 (b off : Nat) (h : AHeap) : aload Try.prog 81 (.pointer (some ⟨b, off, none⟩)) h = ldn h b off 320 := aload_agg (by kernel_rfl) (by kernel_rfl) b off h
theorem ap_54 (r : TypeId) (v x : Value) (n : Nat) (new : List Value) (h : AHeap) (h1 : alenv x = some n) (h2 : firstc h n 1 x = some new) (h3 : new.all cellOk = true) (h4 : new.length = n * 1) : abuiltin Try.prog .append [54, 54] r [v, x] h = app2 h 57 1 8 n new v := append_of (e := 57) (e2 := 57) (by kernel_rfl) (by kernel_rfl) (by kernel_rfl) (by kernel_rfl) (by decide) h1 h2 h3 h4
theorem ap_58 (r : TypeId) (v x : Value) (n : Nat) (new : List Value) (h : AHeap) (h1 : alenv x = some n) (h2 : firstc h n 1 x = some new) (h3 : new.all cellOk = true) (h4 : new.length = n * 1) : abuiltin Try.prog .append [58, 58] r [v, x] h = app2 h 69 1 8 n new v := append_of (e := 69) (e2 := 69) (by kernel_rfl) (by kernel_rfl) (by kernel_rfl) (by kernel_rfl) (by decide) h1 h2 h3 h4
theorem ap_71 (r : TypeId) (v x : Value) (n : Nat) (new : List Value) (h : AHeap) (h1 : alenv x = some n) (h2 : firstc h n 2 x = some new) (h3 : new.all cellOk = true) (h4 : new.length = n * 2) : abuiltin Try.prog .append [71, 71] r [v, x] h = app2 h 86 2 32 n new v := append_of (e := 86) (e2 := 86) (by kernel_rfl) (by kernel_rfl) (by kernel_rfl) (by kernel_rfl) (by decide) h1 h2 h3 h4
theorem ap_72 (r : TypeId) (v x : Value) (n : Nat) (new : List Value) (h : AHeap) (h1 : alenv x = some n) (h2 : firstc h n 3 x = some new) (h3 : new.all cellOk = true) (h4 : new.length = n * 3) : abuiltin Try.prog .append [72, 72] r [v, x] h = app2 h 24 3 24 n new v := append_of (e := 24) (e2 := 24) (by kernel_rfl) (by kernel_rfl) (by kernel_rfl) (by kernel_rfl) (by decide) h1 h2 h3 h4
theorem as_24 (b off : Nat) (l : List Value) (h : AHeap) (hv : l.length = 3) : astore Try.prog 24 (.pointer (some ⟨b, off, none⟩)) (.agg l.toArray) h = sto h b off l := astore_agg (by kernel_rfl) b off l h hv
theorem as_3 (b off : Nat) (v : Int) (h : AHeap) : astore Try.prog 3 (.pointer (some ⟨b, off, none⟩)) (.int .i64 v) h = sto h b off [(.int .i64 v)] := astore_one (by kernel_rfl) b off _ h rfl
theorem as_32 (b off : Nat) (l : List Value) (h : AHeap) (hv : l.length = 9) : astore Try.prog 32 (.pointer (some ⟨b, off, none⟩)) (.agg l.toArray) h = sto h b off l := astore_agg (by kernel_rfl) b off l h hv
theorem as_4 (b off : Nat) (v : Bool) (h : AHeap) : astore Try.prog 4 (.pointer (some ⟨b, off, none⟩)) (.bool v) h = sto h b off [(.bool v)] := astore_one (by kernel_rfl) b off _ h rfl
theorem as_54 (b off : Nat) (v : Option Addr) (vl vc : Nat) (h : AHeap) : astore Try.prog 54 (.pointer (some ⟨b, off, none⟩)) (.slice v vl vc) h = sto h b off [(.slice v vl vc)] := astore_one (by kernel_rfl) b off _ h rfl
theorem as_57 (b off : Nat) (v : Option Addr) (h : AHeap) : astore Try.prog 57 (.pointer (some ⟨b, off, none⟩)) (.pointer v) h = sto h b off [(.pointer v)] := astore_one (by kernel_rfl) b off _ h rfl
theorem as_58 (b off : Nat) (v : Option Addr) (vl vc : Nat) (h : AHeap) : astore Try.prog 58 (.pointer (some ⟨b, off, none⟩)) (.slice v vl vc) h = sto h b off [(.slice v vl vc)] := astore_one (by kernel_rfl) b off _ h rfl
theorem as_65 (b off : Nat) (l : List Value) (h : AHeap) (hv : l.length = 5) : astore Try.prog 65 (.pointer (some ⟨b, off, none⟩)) (.agg l.toArray) h = sto h b off l := astore_agg (by kernel_rfl) b off l h hv
theorem as_69 (b off : Nat) (v : Option Addr) (h : AHeap) : astore Try.prog 69 (.pointer (some ⟨b, off, none⟩)) (.pointer v) h = sto h b off [(.pointer v)] := astore_one (by kernel_rfl) b off _ h rfl
theorem as_71 (b off : Nat) (v : Option Addr) (vl vc : Nat) (h : AHeap) : astore Try.prog 71 (.pointer (some ⟨b, off, none⟩)) (.slice v vl vc) h = sto h b off [(.slice v vl vc)] := astore_one (by kernel_rfl) b off _ h rfl
theorem as_72 (b off : Nat) (v : Option Addr) (vl vc : Nat) (h : AHeap) : astore Try.prog 72 (.pointer (some ⟨b, off, none⟩)) (.slice v vl vc) h = sto h b off [(.slice v vl vc)] := astore_one (by kernel_rfl) b off _ h rfl
theorem as_81 (b off : Nat) (l : List Value) (h : AHeap) (hv : l.length = 320) : astore Try.prog 81 (.pointer (some ⟨b, off, none⟩)) (.agg l.toArray) h = sto h b off l := astore_agg (by kernel_rfl) b off l h hv
theorem az_24 : azero Try.prog 24 = some (.agg #[(.int .i64 0), (.int .i64 0), (.int .i64 0)]) := keep (by kernel_rfl)
theorem az_32 : azero Try.prog 32 = some (.agg #[(.int .i64 0), (.int .i64 0), (.int .i64 0), (.int .i64 0), (.int .i64 0), (.int .i64 0), (.int .i64 0), (.int .i64 0), (.int .i64 0)]) := keep (by kernel_rfl)
theorem az_65 : azero Try.prog 65 = some (.agg #[(.int .u8 0), (.int .u8 0), (.int .i64 0), (.int .i64 0), (.int .i64 0)]) := keep (by kernel_rfl)
theorem bd_24_ : abuild Try.prog 24 [] = some (.agg #[(.int .i64 0), (.int .i64 0), (.int .i64 0)]) := keep (by kernel_rfl)
theorem bd_24_0_1 (v0 : Int) (v1 : Int) : abuild Try.prog 24 [(0, (.int .i64 v0)), (1, (.int .i64 v1))] = some (.agg #[(.int .i64 v0), (.int .i64 v1), (.int .i64 0)]) := keep (by kernel_rfl)
theorem bd_24_0_2_1 (v0 : Int) (v2 : Int) (v1 : Int) : abuild Try.prog 24 [(0, (.int .i64 v0)), (2, (.int .i64 v2)), (1, (.int .i64 v1))] = some (.agg #[(.int .i64 v0), (.int .i64 v1), (.int .i64 v2)]) := keep (by kernel_rfl)
theorem bd_56_ : abuild Try.prog 56 [] = some (.agg #[(.slice none 0 0), (.int .i64 0)]) := keep (by kernel_rfl)
theorem bd_56_1 (v1 : Int) : abuild Try.prog 56 [(1, (.int .i64 v1))] = some (.agg #[(.slice none 0 0), (.int .i64 v1)]) := keep (by kernel_rfl)
theorem bd_60_0 (v0 : Int) : abuild Try.prog 60 [(0, (.int .i64 v0))] = some (.agg #[(.int .i64 v0), (.slice none 0 0), (.bool false)]) := keep (by kernel_rfl)
theorem bd_60_0_1_2 (v0 : Int) (v1 : Option Addr) (v1l v1c : Nat) (v2 : Bool) : abuild Try.prog 60 [(0, (.int .i64 v0)), (1, (.slice v1 v1l v1c)), (2, (.bool v2))] = some (.agg #[(.int .i64 v0), (.slice v1 v1l v1c), (.bool v2)]) := keep (by kernel_rfl)
theorem bd_60_0_2 (v0 : Int) (v2 : Bool) : abuild Try.prog 60 [(0, (.int .i64 v0)), (2, (.bool v2))] = some (.agg #[(.int .i64 v0), (.slice none 0 0), (.bool v2)]) := keep (by kernel_rfl)
theorem bd_65_ : abuild Try.prog 65 [] = some (.agg #[(.int .u8 0), (.int .u8 0), (.int .i64 0), (.int .i64 0), (.int .i64 0)]) := keep (by kernel_rfl)
theorem bd_65_0 (v0 : Int) : abuild Try.prog 65 [(0, (.int .u8 v0))] = some (.agg #[(.int .u8 v0), (.int .u8 0), (.int .i64 0), (.int .i64 0), (.int .i64 0)]) := keep (by kernel_rfl)
theorem bd_65_0_1 (v0 : Int) (v1 : Int) : abuild Try.prog 65 [(0, (.int .u8 v0)), (1, (.int .u8 v1))] = some (.agg #[(.int .u8 v0), (.int .u8 v1), (.int .i64 0), (.int .i64 0), (.int .i64 0)]) := keep (by kernel_rfl)
theorem bd_65_0_1_2 (v0 : Int) (v1 : Int) (v20 : Int) (v21 : Int) (v22 : Int) : abuild Try.prog 65 [(0, (.int .u8 v0)), (1, (.int .u8 v1)), (2, (.agg #[(.int .i64 v20), (.int .i64 v21), (.int .i64 v22)]))] = some (.agg #[(.int .u8 v0), (.int .u8 v1), (.int .i64 v20), (.int .i64 v21), (.int .i64 v22)]) := keep (by kernel_rfl)
theorem bd_74_ : abuild Try.prog 74 [] = some (.agg #[(.slice none 0 0), (.slice none 0 0)]) := keep (by kernel_rfl)
theorem bd_86_0 (v0 : Option Addr) (v0l v0c : Nat) : abuild Try.prog 86 [(0, (.slice v0 v0l v0c))] = some (.agg #[(.slice v0 v0l v0c), (.bool false)]) := keep (by kernel_rfl)
theorem bs_54_1_0 (v0 : Option Addr) (h : AHeap) : abuildSlice Try.prog 54 1 [(0, (.pointer v0))] h = some (.slice (some ⟨h.next, 0, none⟩) 1 3, h.push (.cells [(.pointer v0)] 57)) := keep (by kernel_rfl)
theorem bs_58_0_ (h : AHeap) : abuildSlice Try.prog 58 0 [] h = some (.slice (some ⟨h.next, 0, none⟩) 0 2, h.push (.cells [] 69)) := keep (by kernel_rfl)
theorem bs_71_1_0 (v00 : Option Addr) (v00l v00c : Nat) (v01 : Bool) (h : AHeap) : abuildSlice Try.prog 71 1 [(0, (.agg #[(.slice v00 v00l v00c), (.bool v01)]))] h = some (.slice (some ⟨h.next, 0, none⟩) 1 3, h.push (.cells [(.slice v00 v00l v00c), (.bool v01)] 86)) := keep (by kernel_rfl)
theorem bs_72_1_0 (v00 : Int) (v01 : Int) (v02 : Int) (h : AHeap) : abuildSlice Try.prog 72 1 [(0, (.agg #[(.int .i64 v00), (.int .i64 v01), (.int .i64 v02)]))] h = some (.slice (some ⟨h.next, 0, none⟩) 1 3, h.push (.cells [(.int .i64 v00), (.int .i64 v01), (.int .i64 v02)] 24)) := keep (by kernel_rfl)
theorem co_24 : Program.cellsOf Try.prog 24 = 3 := keep (by kernel_rfl)
theorem co_57 : Program.cellsOf Try.prog 57 = 1 := keep (by kernel_rfl)
theorem co_69 : Program.cellsOf Try.prog 69 = 1 := keep (by kernel_rfl)
theorem co_86 : Program.cellsOf Try.prog 86 = 2 := keep (by kernel_rfl)
theorem cv_21_2 (n : Int) (h : AHeap) : aconv Try.prog 21 2 (.int .i32 n) h = some (.int .i64 (IntKind.wrap .i64 n), h) := keep (by kernel_rfl)
theorem cv_2_39 (n : Int) (h : AHeap) : aconv Try.prog 2 39 (.int .i64 n) h = some (.int .u64 (IntKind.wrap .u64 n), h) := keep (by kernel_rfl)
theorem cv_2_5 (n : Int) (h : AHeap) : aconv Try.prog 2 5 (.int .i64 n) h = some (.int .u8 (IntKind.wrap .u8 n), h) := keep (by kernel_rfl)
theorem cv_3_39 (n : Int) (h : AHeap) : aconv Try.prog 3 39 (.int .i64 n) h = some (.int .u64 (IntKind.wrap .u64 n), h) := keep (by kernel_rfl)
theorem cv_3_5 (n : Int) (h : AHeap) : aconv Try.prog 3 5 (.int .i64 n) h = some (.int .u8 (IntKind.wrap .u8 n), h) := keep (by kernel_rfl)
theorem cv_5_3 (n : Int) (h : AHeap) : aconv Try.prog 5 3 (.int .u8 n) h = some (.int .i64 (IntKind.wrap .i64 n), h) := keep (by kernel_rfl)
theorem cv_5_66 (n : Int) (h : AHeap) : aconv Try.prog 5 66 (.int .u8 n) h = some (.int .u64 (IntKind.wrap .u64 n), h) := keep (by kernel_rfl)
theorem cv_66_2 (n : Int) (h : AHeap) : aconv Try.prog 66 2 (.int .u64 n) h = some (.int .i64 (IntKind.wrap .i64 n), h) := keep (by kernel_rfl)
theorem cv_66_21 (n : Int) (h : AHeap) : aconv Try.prog 66 21 (.int .u64 n) h = some (.int .i32 (IntKind.wrap .i32 n), h) := keep (by kernel_rfl)
theorem cv_66_67 (n : Int) (h : AHeap) : aconv Try.prog 66 67 (.int .u64 n) h = some (.int .i8 (IntKind.wrap .i8 n), h) := keep (by kernel_rfl)
theorem cv_67_2 (n : Int) (h : AHeap) : aconv Try.prog 67 2 (.int .i8 n) h = some (.int .i64 (IntKind.wrap .i64 n), h) := keep (by kernel_rfl)
theorem eql0_57 (x y : Operand) : abin2 Try.prog .eql 57 x y (.pointer none) (.pointer none) = some (.bool true) := keep (by kernel_rfl)
theorem eql0_58 (x y : Operand) : abin2 Try.prog .eql 58 x y (.slice none 0 0) (.slice none 0 0) = some (.bool true) := keep (by kernel_rfl)
theorem eql0_61 (x y : Operand) : abin2 Try.prog .eql 61 x y (.slice none 0 0) (.slice none 0 0) = some (.bool true) := keep (by kernel_rfl)
theorem eql0_69 (x y : Operand) : abin2 Try.prog .eql 69 x y (.pointer none) (.pointer none) = some (.bool true) := keep (by kernel_rfl)
theorem eql_24 (x y : Operand) (a0 : Int) (a1 : Int) (a2 : Int) (b0 : Int) (b1 : Int) (b2 : Int) : abin2 Try.prog .eql 24 x y (.agg #[(.int .i64 a0), (.int .i64 a1), (.int .i64 a2)]) (.agg #[(.int .i64 b0), (.int .i64 b1), (.int .i64 b2)]) = some (.bool ((a0 == b0) && ((a1 == b1) && ((a2 == b2))))) := (abin2_struct (fs := fields24) (r := (a0 == b0) && ((a1 == b1) && ((a2 == b2)))) (by kernel_rfl) (by kernel_rfl) (by kernel_rfl) rfl rfl (Eq.trans (b := (cond (a0 == b0) (cond (a1 == b1) (cond (a2 == b2) (some true) (some false)) (some false)) (some false))) (by kernel_rfl) (by cases (a0 == b0) <;> cases (a1 == b1) <;> cases (a2 == b2) <;> rfl))).1
theorem eql_4 (x y : Operand) (a b : Bool) : abin2 Try.prog .eql 4 x y (.bool a) (.bool b) = some (.bool (a == b)) := keep (by kernel_rfl)
theorem eql_57 (x y : Operand) (a : Addr) : abin2 Try.prog .eql 57 x y (.pointer (some a)) (.pointer none) = some (.bool false) := p_eq (e := 60) (by kernel_rfl) a
theorem eql_58 (x y : Operand) (a : Addr) (n c : Nat) : abin2 Try.prog .eql 58 x y (.slice (some a) n c) (.slice none 0 0) = some (.bool false) := s_eq (e := 69) (by kernel_rfl) a n c
theorem eql_61 (x y : Operand) (a : Addr) (n c : Nat) : abin2 Try.prog .eql 61 x y (.slice (some a) n c) (.slice none 0 0) = some (.bool false) := s_eq (e := 65) (by kernel_rfl) a n c
theorem eql_69 (x y : Operand) (a : Addr) : abin2 Try.prog .eql 69 x y (.pointer (some a)) (.pointer none) = some (.bool false) := p_eq (e := 81) (by kernel_rfl) a
theorem fa_24_0 (b off : Nat) : afield Try.prog 24 (.pointer (some ⟨b, off, none⟩)) 0 = some (.pointer (some ⟨b, off, none⟩)) := keep (by kernel_rfl)
theorem fa_24_1 (b off : Nat) : afield Try.prog 24 (.pointer (some ⟨b, off, none⟩)) 1 = some (.pointer (some ⟨b, off + 1, none⟩)) := keep (by kernel_rfl)
theorem fa_24_2 (b off : Nat) : afield Try.prog 24 (.pointer (some ⟨b, off, none⟩)) 2 = some (.pointer (some ⟨b, off + 2, none⟩)) := keep (by kernel_rfl)
theorem fa_32_0 (b off : Nat) : afield Try.prog 32 (.pointer (some ⟨b, off, none⟩)) 0 = some (.pointer (some ⟨b, off, none⟩)) := keep (by kernel_rfl)
theorem fa_32_1 (b off : Nat) : afield Try.prog 32 (.pointer (some ⟨b, off, none⟩)) 1 = some (.pointer (some ⟨b, off + 1, none⟩)) := keep (by kernel_rfl)
theorem fa_32_2 (b off : Nat) : afield Try.prog 32 (.pointer (some ⟨b, off, none⟩)) 2 = some (.pointer (some ⟨b, off + 2, none⟩)) := keep (by kernel_rfl)
theorem fa_32_3 (b off : Nat) : afield Try.prog 32 (.pointer (some ⟨b, off, none⟩)) 3 = some (.pointer (some ⟨b, off + 3, none⟩)) := keep (by kernel_rfl)
theorem fa_32_4 (b off : Nat) : afield Try.prog 32 (.pointer (some ⟨b, off, none⟩)) 4 = some (.pointer (some ⟨b, off + 6, none⟩)) := keep (by kernel_rfl)
theorem fa_56_0 (b off : Nat) : afield Try.prog 56 (.pointer (some ⟨b, off, none⟩)) 0 = some (.pointer (some ⟨b, off, none⟩)) := keep (by kernel_rfl)
theorem fa_56_1 (b off : Nat) : afield Try.prog 56 (.pointer (some ⟨b, off, none⟩)) 1 = some (.pointer (some ⟨b, off + 1, none⟩)) := keep (by kernel_rfl)
theorem fa_60_0 (b off : Nat) : afield Try.prog 60 (.pointer (some ⟨b, off, none⟩)) 0 = some (.pointer (some ⟨b, off, none⟩)) := keep (by kernel_rfl)
theorem fa_60_1 (b off : Nat) : afield Try.prog 60 (.pointer (some ⟨b, off, none⟩)) 1 = some (.pointer (some ⟨b, off + 1, none⟩)) := keep (by kernel_rfl)
theorem fa_60_2 (b off : Nat) : afield Try.prog 60 (.pointer (some ⟨b, off, none⟩)) 2 = some (.pointer (some ⟨b, off + 2, none⟩)) := keep (by kernel_rfl)
theorem fa_65_0 (b off : Nat) : afield Try.prog 65 (.pointer (some ⟨b, off, none⟩)) 0 = some (.pointer (some ⟨b, off, none⟩)) := keep (by kernel_rfl)
theorem fa_65_1 (b off : Nat) : afield Try.prog 65 (.pointer (some ⟨b, off, none⟩)) 1 = some (.pointer (some ⟨b, off + 1, none⟩)) := keep (by kernel_rfl)
theorem fa_65_2 (b off : Nat) : afield Try.prog 65 (.pointer (some ⟨b, off, none⟩)) 2 = some (.pointer (some ⟨b, off + 2, none⟩)) := keep (by kernel_rfl)
theorem fa_74_0 (b off : Nat) : afield Try.prog 74 (.pointer (some ⟨b, off, none⟩)) 0 = some (.pointer (some ⟨b, off, none⟩)) := keep (by kernel_rfl)
theorem fa_74_1 (b off : Nat) : afield Try.prog 74 (.pointer (some ⟨b, off, none⟩)) 1 = some (.pointer (some ⟨b, off + 1, none⟩)) := keep (by kernel_rfl)
theorem fa_86_0 (b off : Nat) : afield Try.prog 86 (.pointer (some ⟨b, off, none⟩)) 0 = some (.pointer (some ⟨b, off, none⟩)) := keep (by kernel_rfl)
theorem fa_86_1 (b off : Nat) : afield Try.prog 86 (.pointer (some ⟨b, off, none⟩)) 1 = some (.pointer (some ⟨b, off + 1, none⟩)) := keep (by kernel_rfl)
theorem ix_22 (b off len c : Nat) (k : IntKind) (i : Int) : aindex Try.prog 22 (.slice (some ⟨b, off, none⟩) len c) (.int k i) = if 0 ≤ i ∧ i < len then some (.pointer (some ⟨b, off + i.toNat * 9, none⟩)) else none := aindex_slice (e := 32) (by kernel_rfl) (by kernel_rfl)
theorem ix_41 (b off len c : Nat) (k : IntKind) (i : Int) : aindex Try.prog 41 (.slice (some ⟨b, off, none⟩) len c) (.int k i) = if 0 ≤ i ∧ i < len then some (.pointer (some ⟨b, off + i.toNat * 1, none⟩)) else none := aindex_slice (e := 3) (by kernel_rfl) (by kernel_rfl)
theorem ix_54 (b off len c : Nat) (k : IntKind) (i : Int) : aindex Try.prog 54 (.slice (some ⟨b, off, none⟩) len c) (.int k i) = if 0 ≤ i ∧ i < len then some (.pointer (some ⟨b, off + i.toNat * 1, none⟩)) else none := aindex_slice (e := 57) (by kernel_rfl) (by kernel_rfl)
theorem ix_58 (b off len c : Nat) (k : IntKind) (i : Int) : aindex Try.prog 58 (.slice (some ⟨b, off, none⟩) len c) (.int k i) = if 0 ≤ i ∧ i < len then some (.pointer (some ⟨b, off + i.toNat * 1, none⟩)) else none := aindex_slice (e := 69) (by kernel_rfl) (by kernel_rfl)
theorem ix_61 (b off len c : Nat) (k : IntKind) (i : Int) : aindex Try.prog 61 (.slice (some ⟨b, off, none⟩) len c) (.int k i) = if 0 ≤ i ∧ i < len then some (.pointer (some ⟨b, off + i.toNat * 5, none⟩)) else none := aindex_slice (e := 65) (by kernel_rfl) (by kernel_rfl)
theorem ix_71 (b off len c : Nat) (k : IntKind) (i : Int) : aindex Try.prog 71 (.slice (some ⟨b, off, none⟩) len c) (.int k i) = if 0 ≤ i ∧ i < len then some (.pointer (some ⟨b, off + i.toNat * 2, none⟩)) else none := aindex_slice (e := 86) (by kernel_rfl) (by kernel_rfl)
theorem ix_81 (b off : Nat) (k : IntKind) (i : Int) : aindex Try.prog 81 (.pointer (some ⟨b, off, none⟩)) (.int k i) = if 0 ≤ i ∧ i < 64 then some (.pointer (some ⟨b, off + i.toNat * 5, none⟩)) else none := aindex_array (e := 65) (len := 64) (by kernel_rfl) (by kernel_rfl)
theorem len_22 (r : TypeId) (a : Option Addr) (n c : Nat) (h : AHeap) : abuiltin Try.prog .len [22] r [.slice a n c] h = some (.int .i64 n, h) := keep (by kernel_rfl)
theorem len_41 (r : TypeId) (a : Option Addr) (n c : Nat) (h : AHeap) : abuiltin Try.prog .len [41] r [.slice a n c] h = some (.int .i64 n, h) := keep (by kernel_rfl)
theorem len_54 (r : TypeId) (a : Option Addr) (n c : Nat) (h : AHeap) : abuiltin Try.prog .len [54] r [.slice a n c] h = some (.int .i64 n, h) := keep (by kernel_rfl)
theorem len_58 (r : TypeId) (a : Option Addr) (n c : Nat) (h : AHeap) : abuiltin Try.prog .len [58] r [.slice a n c] h = some (.int .i64 n, h) := keep (by kernel_rfl)
theorem len_61 (r : TypeId) (a : Option Addr) (n c : Nat) (h : AHeap) : abuiltin Try.prog .len [61] r [.slice a n c] h = some (.int .i64 n, h) := keep (by kernel_rfl)
theorem len_71 (r : TypeId) (a : Option Addr) (n c : Nat) (h : AHeap) : abuiltin Try.prog .len [71] r [.slice a n c] h = some (.int .i64 n, h) := keep (by kernel_rfl)
theorem len_72 (r : TypeId) (a : Option Addr) (n c : Nat) (h : AHeap) : abuiltin Try.prog .len [72] r [.slice a n c] h = some (.int .i64 n, h) := keep (by kernel_rfl)
theorem mk_41 (k k2 : IntKind) (l c : Int) (h : AHeap) (h0 : 0 ≤ l) (h1 : l ≤ c) (h2 : c < 2 ^ 31) : amake Try.prog 41 (.int k l) (.int k2 c) h = some (.slice (some ⟨h.next, 0, none⟩) l.toNat (c.toNat + 2), h.push (.cells (zcells [(.int .i64 0)] (c.toNat * 1)) 3)) := amake_of (e := 3) (z := (.int .i64 0)) (n := 1) (bytes := 8) (by kernel_rfl) (by kernel_rfl) (by kernel_rfl) rfl (by decide) (by decide) rfl h0 h1 h2
theorem mk_58 (k k2 : IntKind) (l c : Int) (h : AHeap) (h0 : 0 ≤ l) (h1 : l ≤ c) (h2 : c < 2 ^ 31) : amake Try.prog 58 (.int k l) (.int k2 c) h = some (.slice (some ⟨h.next, 0, none⟩) l.toNat (c.toNat + 2), h.push (.cells (zcells [(.pointer none)] (c.toNat * 1)) 69)) := amake_of (e := 69) (z := (.pointer none)) (n := 1) (bytes := 8) (by kernel_rfl) (by kernel_rfl) (by kernel_rfl) rfl (by decide) (by decide) rfl h0 h1 h2
theorem neq0_69 (x y : Operand) : abin2 Try.prog .neq 69 x y (.pointer none) (.pointer none) = some (.bool false) := keep (by kernel_rfl)
theorem neq_24 (x y : Operand) (a0 : Int) (a1 : Int) (a2 : Int) (b0 : Int) (b1 : Int) (b2 : Int) : abin2 Try.prog .neq 24 x y (.agg #[(.int .i64 a0), (.int .i64 a1), (.int .i64 a2)]) (.agg #[(.int .i64 b0), (.int .i64 b1), (.int .i64 b2)]) = some (.bool (!((a0 == b0) && ((a1 == b1) && ((a2 == b2)))))) := (abin2_struct (fs := fields24) (r := (a0 == b0) && ((a1 == b1) && ((a2 == b2)))) (by kernel_rfl) (by kernel_rfl) (by kernel_rfl) rfl rfl (Eq.trans (b := (cond (a0 == b0) (cond (a1 == b1) (cond (a2 == b2) (some true) (some false)) (some false)) (some false))) (by kernel_rfl) (by cases (a0 == b0) <;> cases (a1 == b1) <;> cases (a2 == b2) <;> rfl))).2
theorem neq_4 (x y : Operand) (a b : Bool) : abin2 Try.prog .neq 4 x y (.bool a) (.bool b) = some (.bool (!(a == b))) := keep (by kernel_rfl)
theorem neq_69 (x y : Operand) (a : Addr) : abin2 Try.prog .neq 69 x y (.pointer (some a)) (.pointer none) = some (.bool true) := p_ne (e := 81) (by kernel_rfl) a
theorem sl0_41 (c : Nat) (lo hi : Option Value) (h : AHeap) : asl Try.prog 41 (.slice none 0 c) lo hi h = (abound hi 0 0).bind fun hh => (abound lo 0 hh).bind fun l => some (.slice none 0 0) := asl_nil (e := 3) (n := 1) (by kernel_rfl) (by kernel_rfl)
theorem sl_41 (b off len c : Nat) (lo hi : Option Value) (h : AHeap) : asl Try.prog 41 (.slice (some ⟨b, off, none⟩) len c) lo hi h = (abound hi len len).bind fun hh => (abound lo 0 hh).bind fun l => some (.slice (some ⟨b, off + l * 1, none⟩) (hh - l) (cond (wide Try.prog h b 1) (capsub c l) 0)) := asl_slice (e := 3) (by kernel_rfl) (by kernel_rfl)
theorem sl_81 (b off : Nat) (lo hi : Option Value) (h : AHeap) : asl Try.prog 81 (.pointer (some ⟨b, off, none⟩)) lo hi h = (abound hi 64 64).bind fun hh => (abound lo 0 hh).bind fun l => some (.slice (some ⟨b, off + (if 64 = l then 0 else l * 5), none⟩) (hh - l) 0) := asl_array (e := 65) (k := 64) (by kernel_rfl) (by kernel_rfl)
end Go.Mem
