/- The sum is linear (for CrcMixed). -/
import Derived.Test.YtnmicadlfajofaaXA
import Derived.Test.YtnmicadlfajofaaRsX
set_option linter.unusedVariables false
namespace Go.Proofs.Ytnmicadlfajofaa
open Go Go.Proofs.Ytnmicadlfajofaa.RS Go.RowKit
theorem vv_u8_xor {x y : Int} (hx : 0 ≤ x ∧ x ≤ 255) (hy : 0 ≤ y ∧ y ≤ 255) : vv (bitop .xor .u8 x y) = vv x ^^^ vv y ∧ 0 ≤ bitop .xor .u8 x y ∧ bitop .xor .u8 x y ≤ 255 := by
  obtain ⟨m, rfl⟩ := Int.eq_ofNat_of_zero_le hx.1
  obtain ⟨n, rfl⟩ := Int.eq_ofNat_of_zero_le hy.1
  have h : bitop .xor .u8 (m : Int) (n : Int) = ((m ^^^ n : Nat) : Int) := by
    have hlt : m ^^^ n < 2 ^ 8 := Nat.xor_lt_two_pow (by omega) (by omega)
    have e : (BitVec.ofInt 8 (m : Int) ^^^ BitVec.ofInt 8 (n : Int)).toNat = m ^^^ n := by
      rw [BitVec.toNat_xor]
      simp
      rw [Nat.mod_eq_of_lt (show m < 256 by omega), Nat.mod_eq_of_lt (show n < 256 by omega)]
    show IntKind.wrap .u8 ((BitVec.ofInt 8 (m : Int) ^^^ BitVec.ofInt 8 (n : Int)).toNat : Int) = _
    rw [e]
    simp [IntKind.wrap, IntKind.bits, IntKind.signed]
    omega
  have hlt : m ^^^ n < 2 ^ 8 := Nat.xor_lt_two_pow (by omega) (by omega)
  refine ⟨?_, ?_, ?_⟩
  · rw [h, vv_nat, vv_nat, vv_nat]
    apply BitVec.eq_of_toNat_eq
    rw [BitVec.toNat_xor]
    simp only [BitVec.toNat_ofNat]
    rw [Nat.mod_eq_of_lt (by omega), Nat.mod_eq_of_lt (show m < 2 ^ 32 by omega), Nat.mod_eq_of_lt (show n < 2 ^ 32 by omega)]
  · omega
  · omega
end Go.Proofs.Ytnmicadlfajofaa
