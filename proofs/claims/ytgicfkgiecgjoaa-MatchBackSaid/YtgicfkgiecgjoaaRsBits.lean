/- Bits: what the functions of chapter 3 compute; plain lists, no program. -/
import Derived.Test.YtgicfkgiecgjoaaRsY
set_option linter.unusedVariables false
set_option linter.unusedSimpArgs false
namespace Go.Proofs.Ytgicfkgiecgjoaa.RS
open Go Go.RowKit
/-- The bit at a place. -/
def bt (xs : List (List Value)) (i : Nat) : Bool := vB (cellAt xs i 0)
def appN (n : Int) : Nat → List (List Value)
  | 0 => []
  | k + 1 => [Value.bool (decide (bitop .and .i64 (n / 2 ^ ((k : Nat) : Int).toNat) 1 = 1))] :: appN n k
theorem appN_len (n : Int) : ∀ k, (appN n k).length = k
  | 0 => rfl
  | k + 1 => by simp [appN, appN_len n k]
def bAppend (xs : List (List Value)) (n w : Int) : List (List Value) := xs ++ appN n w.toNat
def takeN (xs : List (List Value)) (at_ : Int) : Nat → Int
  | 0 => 0
  | k + 1 => takeN xs at_ k * 2 + (bif bt xs (at_ + (k : Nat)).toNat then 1 else 0)
theorem takeN_bd (xs : List (List Value)) (at_ : Int) : ∀ k, 0 ≤ takeN xs at_ k ∧ takeN xs at_ k < 2 ^ k
  | 0 => by simp [takeN]
  | k + 1 => by
    have := takeN_bd xs at_ k
    have e : (2 : Int) ^ (k + 1) = 2 ^ k * 2 := by rw [Int.pow_succ]
    simp only [takeN]
    cases bt xs (at_ + (k : Nat)).toNat <;> simp only [cond_true, cond_false] <;> omega
theorem pow_le30 {k : Nat} (h : k ≤ 30) : (2 : Int) ^ k ≤ 1073741824 := by
  have : (2 : Nat) ^ k ≤ 2 ^ 30 := Nat.pow_le_pow_right (by decide) h
  have e : (2 : Int) ^ k = ((2 ^ k : Nat) : Int) := by push_cast; rfl
  rw [e]; have : (2 : Nat) ^ 30 = 1073741824 := by decide
  omega
theorem pow_pos' (k : Nat) : (0 : Int) < 2 ^ k := Int.pow_pos (by decide)
theorem takeN_bd30 (xs : List (List Value)) (at_ : Int) {k : Nat} (h : k ≤ 30) : 0 ≤ takeN xs at_ k ∧ takeN xs at_ k < 1073741824 := by
  have := takeN_bd xs at_ k
  have := pow_le30 h
  omega
theorem wrap_i64_nat {n : Nat} (h : n < 9223372036854775808) : IntKind.wrap .i64 (n : Int) = n := wrap_in (k := .i64) (by simp only [inK]; omega)
theorem or_i64 {m n : Nat} (hm : m < 4611686018427387904) (hn : n < 4611686018427387904) : bitop .or .i64 (m : Int) (n : Int) = ((m ||| n : Nat) : Int) := by
  have hlt : m ||| n < 2 ^ 62 := Nat.or_lt_two_pow (by simpa using hm) (by simpa using hn)
  have e : (BitVec.ofInt 64 (m : Int) ||| BitVec.ofInt 64 (n : Int)).toNat = m ||| n := by
    rw [BitVec.toNat_or]
    simp
    rw [Nat.mod_eq_of_lt (show m < 18446744073709551616 by omega), Nat.mod_eq_of_lt (show n < 18446744073709551616 by omega)]
  show IntKind.wrap .i64 ((BitVec.ofInt 64 (m : Int) ||| BitVec.ofInt 64 (n : Int)).toNat : Int) = _
  rw [e, wrap_i64_nat (by simp at hlt; omega)]
theorem and_i64 {m n : Nat} (hm : m < 4611686018427387904) (hn : n < 4611686018427387904) : bitop .and .i64 (m : Int) (n : Int) = ((m &&& n : Nat) : Int) := by
  have hlt : m &&& n < 2 ^ 62 := Nat.and_lt_two_pow _ (by simpa using hn)
  have e : (BitVec.ofInt 64 (m : Int) &&& BitVec.ofInt 64 (n : Int)).toNat = m &&& n := by
    rw [BitVec.toNat_and]
    simp
    rw [Nat.mod_eq_of_lt (show m < 18446744073709551616 by omega), Nat.mod_eq_of_lt (show n < 18446744073709551616 by omega)]
  show IntKind.wrap .i64 ((BitVec.ofInt 64 (m : Int) &&& BitVec.ofInt 64 (n : Int)).toNat : Int) = _
  rw [e, wrap_i64_nat (by simp at hlt; omega)]
theorem or1 {m : Int} (h0 : 0 ≤ m) (h1 : m < 1073741824) : bitop .or .i64 (m * 2 ^ (1 : Int).toNat) 1 = m * 2 + 1 := by
  obtain ⟨n, rfl⟩ := Int.eq_ofNat_of_zero_le h0
  have : ((n : Int) * 2 ^ (1 : Int).toNat) = ((n * 2 : Nat) : Int) := by simp
  rw [this, show (1 : Int) = ((1 : Nat) : Int) from rfl, or_i64 (by omega) (by omega)]
  have := (Nat.two_pow_add_eq_or_of_lt (i := 1) (b := 1) (by decide) n).symm
  rw [show n * 2 = 2 ^ 1 * n by omega, this]
  push_cast; omega
def bTake (xs : List (List Value)) (at_ w : Int) : Int := takeN xs at_ w.toNat
def u8bit (i : Int) : Int := 128 / 2 ^ (i % 8).toNat
def packN (xs : List (List Value)) : Nat → List (List Value)
  | 0 => List.replicate (((xs.length : Int) + 7) / 8).toNat [Value.int .u8 0]
  | k + 1 => bif bt xs k then (packN xs k).set (((k : Nat) : Int) / 8).toNat [Value.int .u8 (bitop .or .u8 (vI (cellAt (packN xs k) (((k : Nat) : Int) / 8).toNat 0)) (u8bit ((k : Nat) : Int)))] else packN xs k
theorem packN_len (xs : List (List Value)) : ∀ k, (packN xs k).length = (((xs.length : Int) + 7) / 8).toNat
  | 0 => by simp [packN]
  | k + 1 => by
    simp only [packN]
    cases bt xs k <;> simp only [cond_true, cond_false, List.length_set] <;> exact packN_len xs k
def bPack (xs : List (List Value)) : ByteArray := bstr (packN xs xs.length)
theorem bPack_len (xs : List (List Value)) : (bPack xs).size = (((xs.length : Int) + 7) / 8).toNat := by
  unfold bPack; rw [bstr_len, packN_len]
def ubit (s : ByteArray) (i : Int) : Bool := decide (¬ bitop .and .u8 (bAt s (i / 8)) (u8bit i) = 0)
def unpN (s : ByteArray) : Nat → List (List Value)
  | 0 => List.replicate (8 * (s.size : Int)).toNat [Value.bool false]
  | k + 1 => (unpN s k).set ((k : Nat) : Int).toNat [Value.bool (ubit s ((k : Nat) : Int))]
theorem unpN_len (s : ByteArray) : ∀ k, (unpN s k).length = (8 * (s.size : Int)).toNat
  | 0 => by simp [unpN]
  | k + 1 => by simp only [unpN, List.length_set]; exact unpN_len s k
def bUnpack (s : ByteArray) : List (List Value) := unpN s (8 * (s.size : Int)).toNat
theorem bUnpack_len (s : ByteArray) : (bUnpack s).length = 8 * s.size := by unfold bUnpack; rw [unpN_len]; omega
/-- Are two lists of bits the same? -/
def sameB (xs ys : List (List Value)) : Bool := decide (xs.length = ys.length ∧ ∀ i, i < xs.length → bt xs i = bt ys i)
theorem sameB_len {xs ys : List (List Value)} (h : ¬ (xs.length : Int) = (ys.length : Int)) : sameB xs ys = false := decide_eq_false fun hh => h (by rw [hh.1])
theorem sameB_at {xs ys : List (List Value)} {i : Int} (h0 : 0 ≤ i) (hi : i < (xs.length : Int)) (h : ¬ bt xs i.toNat = bt ys i.toNat) : sameB xs ys = false := decide_eq_false fun hh => h (hh.2 i.toNat (by omega))
theorem sameB_all {xs ys : List (List Value)} (hl : (xs.length : Int) = (ys.length : Int)) (h : ∀ i, i < xs.length → bt xs i = bt ys i) : sameB xs ys = true := decide_eq_true ⟨by omega, h⟩
theorem sameB_iff {xs ys : List (List Value)} : sameB xs ys = true ↔ xs.length = ys.length ∧ ∀ i, i < xs.length → bt xs i = bt ys i := decide_eq_true_iff
theorem pow_le61 {k : Nat} (h : k ≤ 61) : (0 : Int) < 2 ^ k ∧ (2 : Int) ^ k ≤ 2305843009213693952 := by
  have : (2 : Nat) ^ k ≤ 2 ^ 61 := Nat.pow_le_pow_right (by decide) h
  have e : (2 : Int) ^ k = ((2 ^ k : Nat) : Int) := by push_cast; rfl
  have h2 := pow_pos' k
  rw [e] at *; have : (2 : Nat) ^ 61 = 2305843009213693952 := by decide
  omega
theorem u8bit_bd (i : Int) : 0 ≤ u8bit i ∧ u8bit i ≤ 128 := by
  unfold u8bit
  have h := pow_pos' (i % 8).toNat
  generalize (2 : Int) ^ (i % 8).toNat = p at h
  constructor
  · exact Int.ediv_nonneg (by decide) (by omega)
  · exact Int.ediv_le_self _ (by decide)
def bPut (xs : List (List Value)) (n w : Int) : List (List Value) × Bool :=
  bif orB (orB (orB (decide (w < 0)) (decide (30 < w))) (decide (n < 0))) (decide ((1 : Int) * 2 ^ w.toNat ≤ n)) then ([], false) else (bAppend xs n w, true)
def bTake3 (xs : List (List Value)) (a : Int) (w : Int) : Int × Int × Bool :=
  bif orB (orB (orB (orB (decide (w < 0)) (decide (30 < w))) (decide (a < 0))) (decide ((xs.length : Int) < a))) (decide ((xs.length : Int) - a < w)) then (0, 0, false) else (bTake xs a w, a + w, true)
end Go.Proofs.Ytgicfkgiecgjoaa.RS
