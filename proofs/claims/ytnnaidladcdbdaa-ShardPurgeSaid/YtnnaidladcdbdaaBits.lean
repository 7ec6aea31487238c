/- Small facts on masks. -/
import Derived.WalkKit
namespace Go.Proofs.Ytnnaidladcdbdaa
open Go.RowKit

theorem i64_and65535 (n : Int) : bits .and .i64 n 65535 = n % 65536 := by
  have h127 : (BitVec.ofInt 64 65535).toNat = 2 ^ 16 - 1 := by decide
  have key : (BitVec.ofInt 64 n &&& BitVec.ofInt 64 65535).toNat = (n % ((2 ^ 64 : Nat) : Int)).toNat % 2 ^ 16 := by
    rw [BitVec.toNat_and, BitVec.toNat_ofInt, h127, Nat.and_two_pow_sub_one_eq_mod]
  show IntKind.i64.wrap ((BitVec.ofInt 64 n &&& BitVec.ofInt 64 65535).toNat : Nat) = n % 65536
  rw [key, IntKind.wrap_i64]
  omega

theorem i64_and255 (n : Int) : bits .and .i64 n 255 = n % 256 := by
  have h127 : (BitVec.ofInt 64 255).toNat = 2 ^ 8 - 1 := by decide
  have key : (BitVec.ofInt 64 n &&& BitVec.ofInt 64 255).toNat = (n % ((2 ^ 64 : Nat) : Int)).toNat % 2 ^ 8 := by
    rw [BitVec.toNat_and, BitVec.toNat_ofInt, h127, Nat.and_two_pow_sub_one_eq_mod]
  show IntKind.i64.wrap ((BitVec.ofInt 64 n &&& BitVec.ofInt 64 255).toNat : Nat) = n % 256
  rw [key, IntKind.wrap_i64]
  omega

theorem i64_not (z : Int) (h : (Lit.int .i64 z).wf = true) : bits .xor .i64 (-1) z = -1 - z := by
  have hb : -9223372036854775808 ≤ z ∧ z ≤ 9223372036854775807 := by
    simp [Lit.wf] at h
    first | exact h | omega
  show IntKind.i64.wrap ((BitVec.ofInt 64 (-1) ^^^ BitVec.ofInt 64 z).toNat : Int) = _
  have h1 : BitVec.ofInt 64 (-1) = BitVec.allOnes 64 := by decide
  rw [h1, BitVec.allOnes_xor, BitVec.toNat_not, BitVec.toNat_ofInt, IntKind.wrap_i64]
  omega

theorem i64_not' (z : Int) (h : (Lit.int .i64 z).wf = true) : bits .xor .i64 (if IntKind.i64.signed = true then -1 else 9223372036854775807) z = -1 - z := i64_not z h

/-- 1 + (n & 0xFFFF) % m. -/
theorem one_mod (n : Int) (m : Int) (hm : 0 < m) (hm' : m < 1000) : ∃ r : Nat, wrap64 (1 + (bits .and .i64 n 65535).tmod m) = r ∧ 1 ≤ r ∧ (r : Int) ≤ m := by
  rw [i64_and65535]
  have h0 : 0 ≤ n % 65536 := by omega
  rw [Int.tmod_eq_emod_of_nonneg h0]
  have h1 : 0 ≤ n % 65536 % m := Int.emod_nonneg _ (by omega)
  have h2 : n % 65536 % m < m := Int.emod_lt_of_pos _ hm
  refine ⟨(1 + n % 65536 % m).toNat, ?_, by omega, by omega⟩
  rw [IntWalk.wrap64_in _ (by omega)]
  omega

/-- 2 + (n & 0xFFFF) % m. -/
theorem two_mod (n : Int) (m : Int) (hm : 0 < m) (hm' : m < 1000) : ∃ r : Nat, wrap64 (2 + (bits .and .i64 n 65535).tmod m) = r ∧ 2 ≤ r ∧ (r : Int) ≤ m + 1 := by
  rw [i64_and65535]
  have h0 : 0 ≤ n % 65536 := by omega
  rw [Int.tmod_eq_emod_of_nonneg h0]
  have h1 : 0 ≤ n % 65536 % m := Int.emod_nonneg _ (by omega)
  have h2 : n % 65536 % m < m := Int.emod_lt_of_pos _ hm
  refine ⟨(2 + n % 65536 % m).toNat, ?_, by omega, by omega⟩
  rw [IntWalk.wrap64_in _ (by omega)]
  omega

/-- (n & 0xFFFF) % m. -/
theorem mask_mod (n : Int) (m : Int) (hm : 0 < m) : ∃ r : Nat, (bits .and .i64 n 65535).tmod m = r ∧ (r : Int) < m := by
  rw [i64_and65535]
  have h0 : 0 ≤ n % 65536 := by omega
  rw [Int.tmod_eq_emod_of_nonneg h0]
  have h1 : 0 ≤ n % 65536 % m := Int.emod_nonneg _ (by omega)
  have h2 : n % 65536 % m < m := Int.emod_lt_of_pos _ hm
  exact ⟨(n % 65536 % m).toNat, by omega, by omega⟩

end Go.Proofs.Ytnnaidladcdbdaa
