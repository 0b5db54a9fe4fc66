/- Sums of 32 bits: two ways of taking in a byte agree. -/
import Derived.Test.YtnmicadlfajofaaRsU
set_option linter.unusedVariables false
set_option linter.unusedSimpArgs false
namespace Go.Proofs.Ytnmicadlfajofaa
open Go Go.Proofs.Ytnmicadlfajofaa.RS Go.RowKit
theorem wrap_u32_nat (v : BitVec 32) : IntKind.wrap .u32 (v.toNat : Int) = v.toNat := by
  have := v.isLt
  simp only [IntKind.wrap, IntKind.signed, IntKind.bits]
  simp
  omega
theorem bitop_eq (op : BinOp) (x y : Int) : bitop op .u32 x y = ((match op with
    | .and => BitVec.ofInt 32 x &&& BitVec.ofInt 32 y
    | .or => BitVec.ofInt 32 x ||| BitVec.ofInt 32 y
    | .xor => BitVec.ofInt 32 x ^^^ BitVec.ofInt 32 y
    | _ => BitVec.ofInt 32 x &&& ~~~ (BitVec.ofInt 32 y)).toNat : Int) := by
  cases op <;> exact wrap_u32_nat _
theorem bitop_bd (op : BinOp) (x y : Int) : 0 ≤ bitop op .u32 x y ∧ bitop op .u32 x y ≤ 4294967295 := by
  rw [bitop_eq]
  generalize (match op with
    | .and => BitVec.ofInt 32 x &&& BitVec.ofInt 32 y
    | .or => BitVec.ofInt 32 x ||| BitVec.ofInt 32 y
    | .xor => BitVec.ofInt 32 x ^^^ BitVec.ofInt 32 y
    | _ => BitVec.ofInt 32 x &&& ~~~ (BitVec.ofInt 32 y)) = v
  have := v.isLt
  omega
theorem and15 (x : Int) : 0 ≤ bitop .and .u32 x 15 ∧ bitop .and .u32 x 15 < 16 := by
  rw [bitop_eq]
  dsimp only
  have : (BitVec.ofInt 32 x &&& BitVec.ofInt 32 15).toNat ≤ (BitVec.ofInt 32 15).toNat := by rw [BitVec.toNat_and]; exact Nat.and_le_right
  have h : (BitVec.ofInt 32 15).toNat = 15 := rfl
  omega
abbrev vv (x : Int) : BitVec 32 := BitVec.ofInt 32 x
theorem vv_nat (n : Nat) : vv (n : Int) = BitVec.ofNat 32 n := by simp [vv]
theorem vv_toNat (v : BitVec 32) : vv (v.toNat : Int) = v := by rw [vv_nat]; simp
theorem of_vv {x : Int} (h : 0 ≤ x ∧ x ≤ 4294967295) : ((vv x).toNat : Int) = x := by
  simp only [vv, BitVec.toNat_ofInt]
  omega
theorem vv_div {x : Int} (h : 0 ≤ x ∧ x ≤ 4294967295) (k : Nat) : vv (x / 2 ^ k) = vv x >>> k := by
  apply BitVec.eq_of_toNat_eq
  have e := of_vv h
  rw [BitVec.toNat_ushiftRight, Nat.shiftRight_eq_div_pow]
  generalize vv x = v at e
  subst e
  rw [show ((v.toNat : Int) / 2 ^ k) = ((v.toNat / 2 ^ k : Nat) : Int) by push_cast; rfl, vv_nat]
  have := v.isLt
  have h2 : v.toNat / 2 ^ k ≤ v.toNat := Nat.div_le_self _ _
  simp only [BitVec.toNat_ofNat]
  exact Nat.mod_eq_of_lt (by omega)
/-- One step, on bits. -/
def sb (v : BitVec 32) : BitVec 32 := (v >>> 1) ^^^ (if v.getLsbD 0 then 3988292384#32 else 0#32)
theorem sb_xor (v w : BitVec 32) : sb (v ^^^ w) = sb v ^^^ sb w := by
  unfold sb
  rw [BitVec.getLsbD_xor, BitVec.ushiftRight_xor_distrib]
  cases v.getLsbD 0 <;> cases w.getLsbD 0 <;> simp
  · ext i; simp [Bool.xor_comm, Bool.xor_assoc]
  · ext i; simp only [BitVec.getElem_xor]; cases (v >>> 1)[i] <;> cases (w >>> 1)[i] <;> cases (3988292384#32)[i] <;> rfl
  · ext i; simp only [BitVec.getElem_xor]; cases (v >>> 1)[i] <;> cases (w >>> 1)[i] <;> cases (3988292384#32)[i] <;> rfl
def sbN : Nat → BitVec 32 → BitVec 32
  | 0, v => v
  | n + 1, v => sb (sbN n v)
theorem sbN_xor (v w : BitVec 32) : ∀ n, sbN n (v ^^^ w) = sbN n v ^^^ sbN n w
  | 0 => rfl
  | n + 1 => by rw [sbN, sbN_xor v w n, sb_xor]; rfl
theorem sb_even {v : BitVec 32} (h : v.getLsbD 0 = false) : sb v = v >>> 1 := by unfold sb; rw [h]; simp
theorem mask_hi : ∀ j : Fin 28, (4294967280#32).getLsbD (4 + j.val) = true := by decide
theorem mask_split : ∀ j : Fin 32, (4294967280#32).getLsbD j.val = !((15#32).getLsbD j.val) := by decide
theorem sbN4_high (v : BitVec 32) : sbN 4 (v &&& 4294967280#32) = v >>> 4 := by
  have h1 : sb (v &&& 4294967280#32) = (v &&& 4294967280#32) >>> 1 := sb_even (by rw [BitVec.getLsbD_and]; rw [show (4294967280#32).getLsbD 0 = false by decide]; simp)
  have h2 : sb ((v &&& 4294967280#32) >>> 1) = (v &&& 4294967280#32) >>> 1 >>> 1 := sb_even (by rw [BitVec.getLsbD_ushiftRight, BitVec.getLsbD_and, show (4294967280#32).getLsbD (1 + 0) = false by decide]; simp)
  have h3 : sb ((v &&& 4294967280#32) >>> 1 >>> 1) = (v &&& 4294967280#32) >>> 1 >>> 1 >>> 1 := sb_even (by rw [BitVec.getLsbD_ushiftRight, BitVec.getLsbD_ushiftRight, BitVec.getLsbD_and, show (4294967280#32).getLsbD (1 + (1 + 0)) = false by decide]; simp)
  have h4 : sb ((v &&& 4294967280#32) >>> 1 >>> 1 >>> 1) = (v &&& 4294967280#32) >>> 1 >>> 1 >>> 1 >>> 1 := sb_even (by rw [BitVec.getLsbD_ushiftRight, BitVec.getLsbD_ushiftRight, BitVec.getLsbD_ushiftRight, BitVec.getLsbD_and, show (4294967280#32).getLsbD (1 + (1 + (1 + 0))) = false by decide]; simp)
  show sb (sb (sb (sb (v &&& 4294967280#32)))) = _
  rw [h1, h2, h3, h4]
  apply BitVec.eq_of_getLsbD_eq
  intro i hi
  simp only [BitVec.getLsbD_ushiftRight, BitVec.getLsbD_and]
  rw [show 1 + (1 + (1 + (1 + i))) = 4 + i by omega]
  by_cases h : 4 + i < 32
  · rw [mask_hi ⟨i, by omega⟩, Bool.and_true]
  · rw [BitVec.getLsbD_of_ge v (4 + i) (by omega), Bool.false_and]
theorem split_v (v : BitVec 32) : v = (v &&& 4294967280#32) ^^^ (v &&& 15#32) := by
  apply BitVec.eq_of_getLsbD_eq
  intro i hi
  rw [BitVec.getLsbD_xor, BitVec.getLsbD_and, BitVec.getLsbD_and, mask_split ⟨i, hi⟩]
  cases v.getLsbD i <;> cases (15#32).getLsbD i <;> rfl
theorem sbN4 (v : BitVec 32) : sbN 4 v = (v >>> 4) ^^^ sbN 4 (v &&& 15#32) := by
  rw [← sbN4_high v, ← sbN_xor, ← split_v]
/-- Both ways take the same step. -/
theorem vv_bitop_xor (x y : Int) : vv (bitop .xor .u32 x y) = vv x ^^^ vv y := by rw [bitop_eq]; exact vv_toNat _
theorem vv_bitop_and (x y : Int) : vv (bitop .and .u32 x y) = vv x &&& vv y := by rw [bitop_eq]; exact vv_toNat _
theorem lsb_odd {x : Int} (h : 0 ≤ x ∧ x ≤ 4294967295) : (vv x).getLsbD 0 = decide (x % 2 = 1) := by
  have e := of_vv h
  rw [BitVec.getLsbD, Nat.testBit_zero]
  congr 1
  apply propext
  constructor <;> intro h <;> omega
theorem vv_inj {x y : Int} (hx : 0 ≤ x ∧ x ≤ 4294967295) (hy : 0 ≤ y ∧ y ≤ 4294967295) (h : vv x = vv y) : x = y := by
  rw [← of_vv hx, ← of_vv hy, h]
end Go.Proofs.Ytnmicadlfajofaa
