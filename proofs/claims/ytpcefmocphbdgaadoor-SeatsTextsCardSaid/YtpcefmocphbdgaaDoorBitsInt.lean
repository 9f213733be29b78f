/- Shifts and masks of whole numbers, as natural numbers. -/
import Derived.Test.YtpcefmocphbdgaaDoorSl
import Derived.Laws.Bits128
namespace Go.Proofs.YtpcefmocphbdgaaDoor
set_option linter.unusedVariables false
set_option linter.unusedSimpArgs false
set_option maxRecDepth 100000
open SL Go.RowKit

theorem shr_nat (V W k : Nat) : Int.fdiv (V : Int) (2 ^ min (Int.toNat (W : Int)) k) = ((V / 2 ^ min W k : Nat) : Int) := by
  rw [Int.toNat_natCast, Int.fdiv_eq_ediv_of_nonneg _ (Int.le_of_lt (Int.pow_pos (by decide)))]
  rw [Int.natCast_ediv, Int.natCast_pow]; rfl
theorem shr_le {V W k : Nat} (h : W ≤ k) : Int.fdiv (V : Int) (2 ^ min (Int.toNat (W : Int)) k) = ((V / 2 ^ W : Nat) : Int) := by
  rw [shr_nat, Nat.min_eq_left h]
theorem mul_pow_nat (V W k : Nat) : (V : Int) * 2 ^ min (Int.toNat (W : Int)) k = ((V * 2 ^ min W k : Nat) : Int) := by
  rw [Int.toNat_natCast, Int.natCast_mul, Int.natCast_pow]; rfl
theorem wrap_u8_nat (V : Nat) : IntKind.u8.wrap (V : Int) = ((V % 256 : Nat) : Int) := by rw [IntKind.wrap_u8']; omega
theorem wrap_u64_nat (V : Nat) : IntKind.u64.wrap (V : Int) = ((V % 18446744073709551616 : Nat) : Int) := by rw [IntKind.wrap_u64]; omega
theorem wrap_u32_nat (V : Nat) : IntKind.u32.wrap (V : Int) = ((V % 4294967296 : Nat) : Int) := by rw [IntKind.wrap_u32']; omega
theorem i64_and_mask (n : Int) (k : Nat) (hk : k ≤ 62) : bits .and .i64 n ((2 ^ k - 1 : Nat) : Int) = n % ((2 ^ k : Nat) : Int) := by
  have hp : 2 ^ k ≤ 2 ^ 62 := Nat.pow_le_pow_right (by decide) hk
  have hp0 : 0 < 2 ^ k := Nat.two_pow_pos k
  have hm : (BitVec.ofInt 64 ((2 ^ k - 1 : Nat) : Int)).toNat = 2 ^ k - 1 := by
    rw [BitVec.ofInt_natCast, BitVec.toNat_ofNat]; exact Nat.mod_eq_of_lt (by omega)
  have key : (BitVec.ofInt 64 n &&& BitVec.ofInt 64 ((2 ^ k - 1 : Nat) : Int)).toNat = (n % ((2 ^ 64 : Nat) : Int)).toNat % 2 ^ k := by
    rw [BitVec.toNat_and, BitVec.toNat_ofInt, hm, Nat.and_two_pow_sub_one_eq_mod]
  show IntKind.i64.wrap ((BitVec.ofInt 64 n &&& BitVec.ofInt 64 ((2 ^ k - 1 : Nat) : Int)).toNat : Nat) = _
  rw [key, IntKind.wrap_i64]
  have h1 : ((n % ((2 ^ 64 : Nat) : Int)).toNat % 2 ^ k : Nat) < 2 ^ k := Nat.mod_lt _ hp0
  have h2 : (((n % ((2 ^ 64 : Nat) : Int)).toNat % 2 ^ k : Nat) : Int) = n % ((2 ^ k : Nat) : Int) := by
    rw [Int.natCast_emod, Int.toNat_of_nonneg (Int.emod_nonneg _ (by decide))]
    exact Int.emod_emod_of_dvd n (by
      refine Int.natCast_dvd_natCast.2 (Nat.pow_dvd_pow 2 (by omega)))
  rw [← h2]
  omega
theorem i64_and7 (n : Int) : bits .and .i64 n 7 = n % 8 := i64_and_mask n 3 (by decide)
/-- The low bits of a byte. -/
theorem u8_mask (X W : Nat) (hx : X < 256) (hW : W ≤ 8) : bits .and .u8 (X : Int) ((2 ^ W - 1 : Nat) : Int) = ((X % 2 ^ W : Nat) : Int) := by
  have hp : 2 ^ W ≤ 2 ^ 8 := Nat.pow_le_pow_right (by decide) hW
  rw [u8_and_nat _ _ hx (by omega), Nat.and_two_pow_sub_one_eq_mod]
/-- 1<<n - 1 as a byte. -/
theorem u8_ones (W : Nat) (hW : W ≤ 8) : IntKind.u8.wrap (IntKind.u8.wrap ((1 : Int) * 2 ^ min (Int.toNat (W : Int)) IntKind.u8.bits) - 1) = ((2 ^ W - 1 : Nat) : Int) := by
  have h : ∀ W : Fin 9, IntKind.u8.wrap (IntKind.u8.wrap ((1 : Int) * 2 ^ min (Int.toNat ((W.1 : Nat) : Int)) IntKind.u8.bits) - 1) = ((2 ^ W.1 - 1 : Nat) : Int) := by decide +kernel
  exact h ⟨W, by omega⟩
end Go.Proofs.YtpcefmocphbdgaaDoor
