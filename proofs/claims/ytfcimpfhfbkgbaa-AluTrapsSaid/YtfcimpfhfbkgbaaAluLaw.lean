/- Numbers of 16 bits: exclusive or undoes itself; division and remainder. -/
import Derived.Test.YtfcimpfhfbkgbaaLib
namespace Go.Proofs.Ytfcimpfhfbkgbaa
open Go.RowKit

theorem wrap16 (n : Int) : IntKind.u16.wrap n = n % 65536 := by simp [IntKind.wrap, IntKind.bits, IntKind.signed]
theorem xor16 (a b : Nat) (ha : a < 65536) (hb : b < 65536) : bits .xor .u16 (a : Int) (b : Int) = ((a ^^^ b : Nat) : Int) := by
  have hx : a ^^^ b < 2 ^ 16 := Nat.xor_lt_two_pow (by omega) (by omega)
  have h1 : (BitVec.ofInt 16 (a : Int)).toNat = a := by
    rw [BitVec.ofInt_natCast, BitVec.toNat_ofNat]; exact Nat.mod_eq_of_lt (by omega)
  have h2 : (BitVec.ofInt 16 (b : Int)).toNat = b := by
    rw [BitVec.ofInt_natCast, BitVec.toNat_ofNat]; exact Nat.mod_eq_of_lt (by omega)
  show IntKind.u16.wrap ((BitVec.ofInt 16 (a : Int) ^^^ BitVec.ofInt 16 (b : Int)).toNat : Int) = _
  rw [BitVec.toNat_xor, h1, h2, wrap16]
  omega
/-- exclusive or of two numbers, taken twice -/
theorem xor_twice {a b : Int} (ha : 0 ≤ a ∧ a ≤ 65535) (hb : 0 ≤ b ∧ b ≤ 65535) : ∃ x : Int, (0 ≤ x ∧ x ≤ 65535) ∧ bits .xor .u16 a b = x ∧ bits .xor .u16 x b = a := by
  obtain ⟨m, rfl⟩ := Int.eq_ofNat_of_zero_le ha.1
  obtain ⟨n, rfl⟩ := Int.eq_ofNat_of_zero_le hb.1
  have hx : m ^^^ n < 2 ^ 16 := Nat.xor_lt_two_pow (by omega) (by omega)
  refine ⟨((m ^^^ n : Nat) : Int), by omega, xor16 m n (by omega) (by omega), ?_⟩
  rw [xor16 (m ^^^ n) n (by omega) (by omega), Nat.xor_assoc, Nat.xor_self, Nat.xor_zero]
theorem add_back {a b : Int} (ha : 0 ≤ a ∧ a ≤ 65535) : ∃ s : Int, (0 ≤ s ∧ s ≤ 65535) ∧ IntKind.u16.wrap (a + b) = s ∧ IntKind.u16.wrap (s - b) = a := by
  refine ⟨(a + b) % 65536, by omega, wrap16 _, ?_⟩
  rw [wrap16]; omega
theorem div_rem {a b : Int} (ha : 0 ≤ a ∧ a ≤ 65535) (hb : 1 ≤ b ∧ b ≤ 65535) : (0 ≤ a / b ∧ a / b ≤ 65535) ∧ (0 ≤ a % b ∧ a % b < b) ∧ ∃ p : Int, (0 ≤ p ∧ p ≤ 65535) ∧ IntKind.u16.wrap (a / b * b) = p ∧ IntKind.u16.wrap (p + a % b) = a := by
  have h1 : 0 ≤ a / b := Int.ediv_nonneg ha.1 (by omega)
  have h2 : a / b ≤ a := Int.ediv_le_self _ ha.1
  have h3 := Int.emod_nonneg a (b := b) (by omega)
  have h4 := Int.emod_lt_of_pos a (b := b) (by omega)
  have h5 := Int.mul_ediv_add_emod a b
  have h6 : 0 ≤ a / b * b := Int.mul_nonneg h1 (by omega)
  rw [Int.mul_comm] at h5
  refine ⟨by omega, ⟨h3, h4⟩, a / b * b, by omega, ?_, ?_⟩
  · rw [wrap16]; omega
  · rw [wrap16]; omega
end Go.Proofs.Ytfcimpfhfbkgbaa
