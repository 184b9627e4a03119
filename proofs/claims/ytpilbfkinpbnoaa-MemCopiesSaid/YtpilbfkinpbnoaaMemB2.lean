/-
  MEMORY: the plain law of MemBytes.
-/
import Derived.Test.YtpilbfkinpbnoaaMemB1
namespace Go.Mem
open Go.Ai Go.Proofs
set_option linter.unusedVariables false
set_option linter.unusedSimpArgs false
theorem wu8 (n : Int) : IntKind.wrap .u8 n = n % 256 := by
  simp only [IntKind.wrap, IntKind.bits, IntKind.signed]; simp
theorem wu64 (n : Int) : IntKind.wrap .u64 n = n % 18446744073709551616 := by
  simp only [IntKind.wrap, IntKind.bits, IntKind.signed]; simp
theorem wi64 (n : Int) : IntKind.wrap .i64 n = if 9223372036854775808 ≤ n % 18446744073709551616 then n % 18446744073709551616 - 18446744073709551616 else n % 18446744073709551616 := by
  simp only [IntKind.wrap, IntKind.bits, IntKind.signed]; simp
theorem wi32 (n : Int) : IntKind.wrap .i32 n = if 2147483648 ≤ n % 4294967296 then n % 4294967296 - 4294967296 else n % 4294967296 := by
  simp only [IntKind.wrap, IntKind.bits, IntKind.signed]; simp
theorem wi8 (n : Int) : IntKind.wrap .i8 n = if 128 ≤ n % 256 then n % 256 - 256 else n % 256 := by
  simp only [IntKind.wrap, IntKind.bits, IntKind.signed]; simp
/-- The 64 bits of a number. -/
def bits (n : Int) : Nat := (n % 18446744073709551616).toNat
theorem toNat_ofInt64 (n : Int) : (BitVec.ofInt 64 n).toNat = bits n := by
  rw [BitVec.toNat_ofInt]; rfl
theorem mask8 (x : Int) : ((BitVec.ofInt 64 x &&& BitVec.ofInt 64 (2 ^ 8 - 1)).toNat : Int) = x % 256 := by
  rw [BitVec.toNat_and, toNat_ofInt64, toNat_ofInt64, show bits (2 ^ 8 - 1) = 2 ^ 8 - 1 by decide, Nat.and_two_pow_sub_one_eq_mod]
  unfold bits; omega
theorem mask32 (x : Int) : ((BitVec.ofInt 64 x &&& BitVec.ofInt 64 (2 ^ 32 - 1)).toNat : Int) = x % 4294967296 := by
  rw [BitVec.toNat_and, toNat_ofInt64, toNat_ofInt64, show bits (2 ^ 32 - 1) = 2 ^ 32 - 1 by decide, Nat.and_two_pow_sub_one_eq_mod]
  unfold bits; omega
theorem extZ8 (x : Int) : extZ x 8 = if 128 ≤ x % 256 then x % 256 - 256 else x % 256 := by
  unfold extZ
  rw [mask8, w64 (n := x % 256) (by omega) (by omega), show ((2 : Int) ^ (8 - 1)) = 128 by decide, show ((2 : Int) ^ 8) = 256 by decide]
  split
  · rw [w64 (by omega) (by omega)]
  · rfl
theorem extZ32 (x : Int) : extZ x 32 = if 2147483648 ≤ x % 4294967296 then x % 4294967296 - 4294967296 else x % 4294967296 := by
  unfold extZ
  rw [mask32, w64 (n := x % 4294967296) (by omega) (by omega), show ((2 : Int) ^ (32 - 1)) = 2147483648 by decide, show ((2 : Int) ^ 32) = 4294967296 by decide]
  split
  · rw [w64 (by omega) (by omega)]
  · rfl
/-- A byte of a number. -/
def byc (n : Int) (j : Nat) : Cl := ⟨1, ((bits n / 2 ^ (8 * j) % 256 : Nat) : Int), v0⟩
theorem fdiv_pow (n : Int) (k : Nat) : n.fdiv (2 ^ k) = n / 2 ^ k := Int.fdiv_eq_ediv_of_nonneg _ (Int.le_of_lt (Int.pow_pos (by decide)))
/-- Its bytes, by shifts. -/
theorem byte_shift (n : Int) {j : Nat} (hj : j < 8) : n.fdiv (2 ^ (8 * j)) % 256 = ((bits n / 2 ^ (8 * j) % 256 : Nat) : Int) := by
  rw [fdiv_pow]
  unfold bits
  rcases (show j = 0 ∨ j = 1 ∨ j = 2 ∨ j = 3 ∨ j = 4 ∨ j = 5 ∨ j = 6 ∨ j = 7 by omega) with rfl | rfl | rfl | rfl | rfl | rfl | rfl | rfl <;> simp only [Nat.reduceMul, Nat.reducePow, Int.reducePow] <;> omega
theorem cellOf_int (n : Int) {k : Nat} (hk : k < 8) : cellOf ⟨1, n, 0⟩ k = byc n k := by
  unfold cellOf byc
  rw [if_pos rfl, wu8, byte_shift n hk]
/-- Bytes put together. -/
theorem num_bytes (f : Nat → Cl) (a s : Nat) (n : Int) : ∀ k, s + k ≤ 8 → (∀ j, j < k → f (a + j) = byc n (s + j)) → numF f a k = ((bits n / 2 ^ (8 * s) % 2 ^ (8 * k) : Nat) : Int) := by
  intro k
  induction k with
  | zero => intro _ _; simp [numF, Nat.mod_one]
  | succ k ih =>
    intro hk hf
    have h1 := ih (by omega) (fun j hj => hf j (by omega))
    unfold numF
    rw [h1, hf k (by omega)]
    generalize hX : bits n / 2 ^ (8 * s) = X
    have hb : bits n / 2 ^ (8 * (s + k)) = X / 2 ^ (8 * k) := by rw [← hX, Nat.div_div_eq_div_mul, ← Nat.pow_add, Nat.mul_add]
    unfold byc
    rw [hb]
    simp only
    generalize hr : X / 2 ^ (8 * k) % 256 = r
    have hr1 : r < 256 := by omega
    have hp : (2 : Nat) ^ (8 * (k + 1)) = 2 ^ (8 * k) * 256 := by rw [show 8 * (k + 1) = 8 * k + 8 by omega, Nat.pow_add]
    have hp8 : (2 : Nat) ^ (8 * (k + 1)) ≤ 2 ^ 64 := Nat.pow_le_pow_right (by decide) (by omega)
    have hpk : 0 < (2 : Nat) ^ (8 * k) := Nat.two_pow_pos _
    have hlow : X % 2 ^ (8 * k) < 2 ^ (8 * k) := Nat.mod_lt _ hpk
    have hmul : 2 ^ (8 * k) * r + 2 ^ (8 * k) ≤ 2 ^ 64 := by
      have : 2 ^ (8 * k) * (r + 1) ≤ 2 ^ (8 * k) * 256 := Nat.mul_le_mul_left _ (by omega)
      rw [Nat.mul_add] at this
      omega
    have e1 : IntKind.wrap .u64 ((r : Nat) : Int) = ((r : Nat) : Int) := by rw [wu64]; omega
    have e2 : IntKind.wrap .u64 (((r : Nat) : Int) * 2 ^ (8 * k)) = ((2 ^ (8 * k) * r : Nat) : Int) := by
      have : ((r : Nat) : Int) * 2 ^ (8 * k) = ((2 ^ (8 * k) * r : Nat) : Int) := by push_cast; exact Int.mul_comm _ _
      rw [this, wu64]; omega
    rw [e1, e2, BitVec.toNat_or, toNat_ofInt64, toNat_ofInt64]
    have b1 : bits ((X % 2 ^ (8 * k) : Nat) : Int) = X % 2 ^ (8 * k) := by unfold bits; omega
    have b2 : bits ((2 ^ (8 * k) * r : Nat) : Int) = 2 ^ (8 * k) * r := by unfold bits; omega
    rw [b1, b2, Nat.or_comm, ← Nat.two_pow_add_eq_or_of_lt hlow, hp, Nat.mod_mul, hr, wu64]
    omega
theorem nums_bytes (f : Nat → Cl) (a s : Nat) (n : Int) : ∀ k, (∀ j, j < k → f (a + j) = byc n (s + j)) → numsF f a k = true := by
  intro k
  induction k with
  | zero => intro _; rfl
  | succ k ih =>
    intro hf
    unfold numsF
    rw [ih (fun j hj => hf j (by omega)), hf k (by omega)]
    rfl
theorem load_bytes {f : Nat → Cl} {a s : Nat} {n : Int} {c : Int} (hc : s + c.toNat ≤ 8) (hf : ∀ j, j < c.toNat → f (a + j) = byc n (s + j)) :
    loadV f a c = ⟨1, if c = 8 then IntKind.wrap .i64 ((bits n / 2 ^ (8 * s) % 2 ^ (8 * c.toNat) : Nat) : Int) else if c = 4 then IntKind.wrap .i64 (IntKind.wrap .i32 ((bits n / 2 ^ (8 * s) % 2 ^ (8 * c.toNat) : Nat) : Int)) else IntKind.wrap .i64 (IntKind.wrap .i8 ((bits n / 2 ^ (8 * s) % 2 ^ (8 * c.toNat) : Nat) : Int)), 0⟩ := by
  unfold loadV
  rw [nums_bytes f a s n _ hf, if_pos rfl, num_bytes f a s n _ hc hf]
theorem load8 {f : Nat → Cl} {a : Nat} {n : Int} (hn : in64 n) (hf : ∀ j, j < 8 → f (a + j) = byc n j) : loadV f a 8 = ⟨1, n, 0⟩ := by
  rw [load_bytes (s := 0) (n := n) (by decide) (fun j hj => by rw [hf j hj, Nat.zero_add]), if_pos rfl]
  obtain ⟨h1, h2⟩ := hn
  have : IntKind.wrap .i64 ((bits n / 2 ^ (8 * 0) % 2 ^ (8 * (8 : Int).toNat) : Nat) : Int) = n := by
    rw [show (2 : Nat) ^ (8 * 0) = 1 by decide, show (2 : Nat) ^ (8 * (8 : Int).toNat) = 18446744073709551616 by decide, wi64]
    unfold bits
    split <;> omega
  rw [this]
theorem load4l {f : Nat → Cl} {a : Nat} {n : Int} (hf : ∀ j, j < 4 → f (a + j) = byc n j) : loadV f a 4 = ⟨1, extZ n 32, 0⟩ := by
  rw [load_bytes (s := 0) (n := n) (by decide) (fun j hj => by rw [hf j hj, Nat.zero_add]), if_neg (by decide), if_pos rfl]
  have : IntKind.wrap .i64 (IntKind.wrap .i32 ((bits n / 2 ^ (8 * 0) % 2 ^ (8 * (4 : Int).toNat) : Nat) : Int)) = extZ n 32 := by
    rw [show (2 : Nat) ^ (8 * 0) = 1 by decide, show (2 : Nat) ^ (8 * (4 : Int).toNat) = 4294967296 by decide, wi32, w64 (by split <;> omega) (by split <;> omega), extZ32]
    unfold bits
    split <;> split <;> omega
  rw [this]
theorem load4h {f : Nat → Cl} {a : Nat} {n : Int} (hn : in64 n) (hf : ∀ j, j < 4 → f (a + j) = byc n (4 + j)) : loadV f a 4 = ⟨1, n.fdiv (2 ^ 32), 0⟩ := by
  rw [load_bytes (s := 4) (n := n) (c := 4) (by decide) hf, if_neg (by decide), if_pos rfl]
  obtain ⟨h1, h2⟩ := hn
  have : IntKind.wrap .i64 (IntKind.wrap .i32 ((bits n / 2 ^ (8 * 4) % 2 ^ (8 * (4 : Int).toNat) : Nat) : Int)) = n.fdiv (2 ^ 32) := by
    rw [show (2 : Nat) ^ (8 * 4) = 4294967296 by decide, show (2 : Nat) ^ (8 * (4 : Int).toNat) = 4294967296 by decide, wi32, w64 (by split <;> omega) (by split <;> omega), fdiv_pow, show (2 : Int) ^ 32 = 4294967296 by decide]
    unfold bits
    split <;> omega
  rw [this]
theorem load1 {f : Nat → Cl} {a j : Nat} {n : Int} (hj : j < 8) (hf : f a = byc n j) : loadV f a 1 = ⟨1, extZ (n.fdiv (2 ^ (8 * j))) 8, 0⟩ := by
  rw [load_bytes (s := j) (n := n) (by show j + 1 ≤ 8; omega) (fun i hi => by have : i = 0 := by have : i < 1 := hi; omega
                                                                              subst this; exact hf), if_neg (by decide), if_neg (by decide)]
  have : IntKind.wrap .i64 (IntKind.wrap .i8 ((bits n / 2 ^ (8 * j) % 2 ^ (8 * (1 : Int).toNat) : Nat) : Int)) = extZ (n.fdiv (2 ^ (8 * j))) 8 := by
    rw [extZ8, byte_shift n hj, show (2 : Nat) ^ (8 * (1 : Int).toNat) = 256 by decide, wi8, w64 (by split <;> omega) (by split <;> omega)]
    split <;> split <;> omega
  rw [this]
/-- A byte that was read is the byte. -/
theorem cell_again (n : Int) {j : Nat} (hj : j < 8) : cellOf ⟨1, extZ (n.fdiv (2 ^ (8 * j))) 8, 0⟩ 0 = byc n j := by
  unfold cellOf byc
  rw [if_pos rfl, wu8, extZ8, byte_shift n hj]
  simp only [Nat.mul_zero]
  rw [fdiv_pow, show (2 : Int) ^ 0 = 1 by decide, Int.ediv_one]
  congr 1
  split <;> omega
/-! ### The law's own block -/
def bytesB (n : Int) (i : Nat) : MB := ⟨16, false, fun a => if a < 8 then byc n a else if a < 8 + i then byc n (a - 8) else unk⟩
theorem goodI (n : Int) : norm ⟨1, n, 0⟩ = ⟨1, n, 0⟩ := rfl
theorem bytes_start (n : Int) : storeB (fresh 16) 0 ⟨1, n, 0⟩ 8 = bytesB n 0 := by
  unfold storeB bytesB fresh
  simp only [MB.mk.injEq]
  refine ⟨rfl, trivial, ?_⟩
  funext a
  by_cases h : a < 8
  · rw [if_pos (by omega), if_pos h, Nat.sub_zero, cellOf_int n h]
  · rw [if_neg (by omega), if_neg h, if_neg (by omega)]
theorem bytes_more (n : Int) {i : Nat} (hi : i < 8) : storeB (bytesB n i) (8 + i) ⟨1, extZ (n.fdiv (2 ^ (8 * i))) 8, 0⟩ 1 = bytesB n (i + 1) := by
  unfold storeB bytesB
  simp only [MB.mk.injEq, true_and]
  funext a
  by_cases h : a = 8 + i
  · subst h
    rw [if_pos (by omega), Nat.sub_self, cell_again n hi, if_neg (by omega), if_pos (by omega), Nat.add_sub_cancel_left]
  · rw [if_neg (by omega)]
    by_cases h2 : a < 8
    · rw [if_pos h2, if_pos h2]
    · rw [if_neg h2, if_neg h2]
      by_cases h3 : a < 8 + i
      · rw [if_pos h3, if_pos (by omega)]
      · rw [if_neg h3, if_neg (by omega)]
theorem right_bytes (n : Int) (i : Nat) {c a : Int} (hc : c = 1 ∨ c = 4 ∨ c = 8) (h0 : 0 ≤ a) (h1 : a ≤ 16 - c) (h2 : a.tmod c = 0) : right [bytesB n i] c ⟨2, a, 1⟩ = some 0 := right_yes (B := bytesB n i) rfl hc rfl rfl ⟨h0, h1, h2⟩
theorem small_one {B : MB} (h : B.size < 2147483648) : small [B] := fun i C hi => by
  cases i with
  | zero => simp at hi; subst hi; exact h
  | succ i => simp at hi
theorem atV_one (a : Int) : atV 1 a = ⟨2, a, 1⟩ := rfl
end Go.Mem
