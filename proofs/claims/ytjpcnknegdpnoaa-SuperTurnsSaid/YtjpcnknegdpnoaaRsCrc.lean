/- Sums of 32 bits: what the functions of chapter 2 compute; plain, no program. -/
import Derived.Test.YtjpcnknegdpnoaaRsBitsM
set_option linter.unusedVariables false
set_option linter.unusedSimpArgs false
namespace Go.Proofs.Ytjpcnknegdpnoaa.RS
open Go Go.RowKit

theorem wrap_u32_nat (v : BitVec 32) : IntKind.wrap .u32 (v.toNat : Int) = v.toNat := by
  have := v.isLt
  simp only [IntKind.wrap, IntKind.signed, IntKind.bits]
  simp
  omega
theorem bitop_eq (op : BinOp) (x y : Int) : bitop op .u32 x y = ((match op with
    | .and => BitVec.ofInt 32 x &&& BitVec.ofInt 32 y
    | .or => BitVec.ofInt 32 x ||| BitVec.ofInt 32 y
    | .xor => BitVec.ofInt 32 x ^^^ BitVec.ofInt 32 y
    | _ => BitVec.ofInt 32 x &&& ~~~ (BitVec.ofInt 32 y)).toNat : Int) := by
  cases op <;> exact wrap_u32_nat _
theorem bitop_bd (op : BinOp) (x y : Int) : 0 ≤ bitop op .u32 x y ∧ bitop op .u32 x y ≤ 4294967295 := by
  rw [bitop_eq]
  generalize (match op with
    | .and => BitVec.ofInt 32 x &&& BitVec.ofInt 32 y
    | .or => BitVec.ofInt 32 x ||| BitVec.ofInt 32 y
    | .xor => BitVec.ofInt 32 x ^^^ BitVec.ofInt 32 y
    | _ => BitVec.ofInt 32 x &&& ~~~ (BitVec.ofInt 32 y)) = v
  have := v.isLt
  omega
theorem and15 (x : Int) : 0 ≤ bitop .and .u32 x 15 ∧ bitop .and .u32 x 15 < 16 := by
  rw [bitop_eq]
  dsimp only
  have : (BitVec.ofInt 32 x &&& BitVec.ofInt 32 15).toNat ≤ (BitVec.ofInt 32 15).toNat := by rw [BitVec.toNat_and]; exact Nat.and_le_right
  have h : (BitVec.ofInt 32 15).toNat = 15 := rfl
  omega
abbrev vv (x : Int) : BitVec 32 := BitVec.ofInt 32 x
theorem vv_nat (n : Nat) : vv (n : Int) = BitVec.ofNat 32 n := by simp [vv]
theorem vv_toNat (v : BitVec 32) : vv (v.toNat : Int) = v := by rw [vv_nat]; simp
theorem of_vv {x : Int} (h : 0 ≤ x ∧ x ≤ 4294967295) : ((vv x).toNat : Int) = x := by
  simp only [vv, BitVec.toNat_ofInt]
  omega
theorem vv_div {x : Int} (h : 0 ≤ x ∧ x ≤ 4294967295) (k : Nat) : vv (x / 2 ^ k) = vv x >>> k := by
  apply BitVec.eq_of_toNat_eq
  have e := of_vv h
  rw [BitVec.toNat_ushiftRight, Nat.shiftRight_eq_div_pow]
  generalize vv x = v at e
  subst e
  rw [show ((v.toNat : Int) / 2 ^ k) = ((v.toNat / 2 ^ k : Nat) : Int) by push_cast; rfl, vv_nat]
  have := v.isLt
  have h2 : v.toNat / 2 ^ k ≤ v.toNat := Nat.div_le_self _ _
  simp only [BitVec.toNat_ofNat]
  exact Nat.mod_eq_of_lt (by omega)
/-- One step, on bits. -/
def sb (v : BitVec 32) : BitVec 32 := (v >>> 1) ^^^ (if v.getLsbD 0 then 3988292384#32 else 0#32)
theorem sb_xor (v w : BitVec 32) : sb (v ^^^ w) = sb v ^^^ sb w := by
  unfold sb
  rw [BitVec.getLsbD_xor, BitVec.ushiftRight_xor_distrib]
  cases v.getLsbD 0 <;> cases w.getLsbD 0 <;> simp
  · ext i; simp [Bool.xor_comm, Bool.xor_assoc]
  · ext i; simp only [BitVec.getElem_xor]; cases (v >>> 1)[i] <;> cases (w >>> 1)[i] <;> cases (3988292384#32)[i] <;> rfl
  · ext i; simp only [BitVec.getElem_xor]; cases (v >>> 1)[i] <;> cases (w >>> 1)[i] <;> cases (3988292384#32)[i] <;> rfl
def sbN : Nat → BitVec 32 → BitVec 32
  | 0, v => v
  | n + 1, v => sb (sbN n v)
theorem sbN_xor (v w : BitVec 32) : ∀ n, sbN n (v ^^^ w) = sbN n v ^^^ sbN n w
  | 0 => rfl
  | n + 1 => by rw [sbN, sbN_xor v w n, sb_xor]; rfl
theorem sb_even {v : BitVec 32} (h : v.getLsbD 0 = false) : sb v = v >>> 1 := by unfold sb; rw [h]; simp
theorem mask_hi : ∀ j : Fin 28, (4294967280#32).getLsbD (4 + j.val) = true := by decide
theorem mask_split : ∀ j : Fin 32, (4294967280#32).getLsbD j.val = !((15#32).getLsbD j.val) := by decide
theorem sbN4_high (v : BitVec 32) : sbN 4 (v &&& 4294967280#32) = v >>> 4 := by
  have h1 : sb (v &&& 4294967280#32) = (v &&& 4294967280#32) >>> 1 := sb_even (by rw [BitVec.getLsbD_and]; rw [show (4294967280#32).getLsbD 0 = false by decide]; simp)
  have h2 : sb ((v &&& 4294967280#32) >>> 1) = (v &&& 4294967280#32) >>> 1 >>> 1 := sb_even (by rw [BitVec.getLsbD_ushiftRight, BitVec.getLsbD_and, show (4294967280#32).getLsbD (1 + 0) = false by decide]; simp)
  have h3 : sb ((v &&& 4294967280#32) >>> 1 >>> 1) = (v &&& 4294967280#32) >>> 1 >>> 1 >>> 1 := sb_even (by rw [BitVec.getLsbD_ushiftRight, BitVec.getLsbD_ushiftRight, BitVec.getLsbD_and, show (4294967280#32).getLsbD (1 + (1 + 0)) = false by decide]; simp)
  have h4 : sb ((v &&& 4294967280#32) >>> 1 >>> 1 >>> 1) = (v &&& 4294967280#32) >>> 1 >>> 1 >>> 1 >>> 1 := sb_even (by rw [BitVec.getLsbD_ushiftRight, BitVec.getLsbD_ushiftRight, BitVec.getLsbD_ushiftRight, BitVec.getLsbD_and, show (4294967280#32).getLsbD (1 + (1 + (1 + 0))) = false by decide]; simp)
  show sb (sb (sb (sb (v &&& 4294967280#32)))) = _
  rw [h1, h2, h3, h4]
  apply BitVec.eq_of_getLsbD_eq
  intro i hi
  simp only [BitVec.getLsbD_ushiftRight, BitVec.getLsbD_and]
  rw [show 1 + (1 + (1 + (1 + i))) = 4 + i by omega]
  by_cases h : 4 + i < 32
  · rw [mask_hi ⟨i, by omega⟩, Bool.and_true]
  · rw [BitVec.getLsbD_of_ge v (4 + i) (by omega), Bool.false_and]
theorem split_v (v : BitVec 32) : v = (v &&& 4294967280#32) ^^^ (v &&& 15#32) := by
  apply BitVec.eq_of_getLsbD_eq
  intro i hi
  rw [BitVec.getLsbD_xor, BitVec.getLsbD_and, BitVec.getLsbD_and, mask_split ⟨i, hi⟩]
  cases v.getLsbD i <;> cases (15#32).getLsbD i <;> rfl
theorem sbN4 (v : BitVec 32) : sbN 4 v = (v >>> 4) ^^^ sbN 4 (v &&& 15#32) := by
  rw [← sbN4_high v, ← sbN_xor, ← split_v]
/-- Both ways take the same step. -/
theorem vv_bitop_xor (x y : Int) : vv (bitop .xor .u32 x y) = vv x ^^^ vv y := by rw [bitop_eq]; exact vv_toNat _
theorem vv_bitop_and (x y : Int) : vv (bitop .and .u32 x y) = vv x &&& vv y := by rw [bitop_eq]; exact vv_toNat _
theorem lsb_odd {x : Int} (h : 0 ≤ x ∧ x ≤ 4294967295) : (vv x).getLsbD 0 = decide (x % 2 = 1) := by
  have e := of_vv h
  rw [BitVec.getLsbD, Nat.testBit_zero]
  congr 1
  apply propext
  constructor <;> intro h <;> omega
theorem vv_inj {x y : Int} (hx : 0 ≤ x ∧ x ≤ 4294967295) (hy : 0 ≤ y ∧ y ≤ 4294967295) (h : vv x = vv y) : x = y := by
  rw [← of_vv hx, ← of_vv hy, h]

def halfS (x : Int) : Int := bitop .xor .u32 (x / 2 ^ (1 : Int).toNat) (bitop .and .u32 (IntKind.wrap .u32 (0 - bitop .and .u32 x 1)) 3988292384)
def halfN : Nat → Int → Int
  | 0, x => x
  | n + 1, x => halfS (halfN n x)
def cadd (c : Int) (b : Int) : Int := ((bitop .xor .u32 ((bitop .xor .u32 ((bitop .xor .u32 c b) / 2 ^ (4 : Int).toNat) (arrI [.val (.int .u32 (halfN 4 0)), .val (.int .u32 (halfN 4 1)), .val (.int .u32 (halfN 4 2)), .val (.int .u32 (halfN 4 3)), .val (.int .u32 (halfN 4 4)), .val (.int .u32 (halfN 4 5)), .val (.int .u32 (halfN 4 6)), .val (.int .u32 (halfN 4 7)), .val (.int .u32 (halfN 4 8)), .val (.int .u32 (halfN 4 9)), .val (.int .u32 (halfN 4 10)), .val (.int .u32 (halfN 4 11)), .val (.int .u32 (halfN 4 12)), .val (.int .u32 (halfN 4 13)), .val (.int .u32 (halfN 4 14)), .val (.int .u32 (halfN 4 15))] (bitop .and .u32 (bitop .xor .u32 c b) (15 : Int)).toNat)) / 2 ^ (4 : Int).toNat) (arrI [.val (.int .u32 (halfN 4 0)), .val (.int .u32 (halfN 4 1)), .val (.int .u32 (halfN 4 2)), .val (.int .u32 (halfN 4 3)), .val (.int .u32 (halfN 4 4)), .val (.int .u32 (halfN 4 5)), .val (.int .u32 (halfN 4 6)), .val (.int .u32 (halfN 4 7)), .val (.int .u32 (halfN 4 8)), .val (.int .u32 (halfN 4 9)), .val (.int .u32 (halfN 4 10)), .val (.int .u32 (halfN 4 11)), .val (.int .u32 (halfN 4 12)), .val (.int .u32 (halfN 4 13)), .val (.int .u32 (halfN 4 14)), .val (.int .u32 (halfN 4 15))] (bitop .and .u32 (bitop .xor .u32 ((bitop .xor .u32 c b) / 2 ^ (4 : Int).toNat) (arrI [.val (.int .u32 (halfN 4 0)), .val (.int .u32 (halfN 4 1)), .val (.int .u32 (halfN 4 2)), .val (.int .u32 (halfN 4 3)), .val (.int .u32 (halfN 4 4)), .val (.int .u32 (halfN 4 5)), .val (.int .u32 (halfN 4 6)), .val (.int .u32 (halfN 4 7)), .val (.int .u32 (halfN 4 8)), .val (.int .u32 (halfN 4 9)), .val (.int .u32 (halfN 4 10)), .val (.int .u32 (halfN 4 11)), .val (.int .u32 (halfN 4 12)), .val (.int .u32 (halfN 4 13)), .val (.int .u32 (halfN 4 14)), .val (.int .u32 (halfN 4 15))] (bitop .and .u32 (bitop .xor .u32 c b) (15 : Int)).toNat)) (15 : Int)).toNat)))
def refS (x : Int) : Int := bif decide (x % 2 = 1) then bitop .xor .u32 (x / 2) 3988292384 else x / 2
def refN : Nat → Int → Int
  | 0, x => x
  | n + 1, x => refS (refN n x)
theorem refS_bd {x : Int} (h : 0 ≤ x ∧ x ≤ 4294967295) : 0 ≤ refS x ∧ refS x ≤ 4294967295 := by
  unfold refS; cases decide (x % 2 = 1) <;> simp only [cond_true, cond_false]
  · omega
  · exact bitop_bd _ _ _
theorem refN_bd {x : Int} (h : 0 ≤ x ∧ x ≤ 4294967295) : ∀ n, 0 ≤ refN n x ∧ refN n x ≤ 4294967295
  | 0 => h
  | n + 1 => refS_bd (refN_bd h n)
def rAdd (c b : Int) : Int := refN 8 (bitop .xor .u32 c b)
theorem rAdd_bd (c b : Int) : 0 ≤ rAdd c b ∧ rAdd c b ≤ 4294967295 := refN_bd (bitop_bd _ _ _) 8
def rcrcN (s : ByteArray) : Nat → Int
  | 0 => 4294967295
  | n + 1 => rAdd (rcrcN s n) (bAt s n)
theorem rcrcN_bd (s : ByteArray) : ∀ n, 0 ≤ rcrcN s n ∧ rcrcN s n ≤ 4294967295
  | 0 => by simp [rcrcN]
  | n + 1 => rAdd_bd _ _
def cSum (s : ByteArray) : Int := 4294967295 - rcrcN s s.size
theorem cSum_bd (s : ByteArray) : 0 ≤ cSum s ∧ cSum s ≤ 4294967295 := by have := rcrcN_bd s s.size; unfold cSum; omega
/-- The four bytes of a sum. -/
def le4 (x : Int) : ByteArray := bstr [[Value.int .u8 (x % 256)], [Value.int .u8 (x / 256 % 256)], [Value.int .u8 (x / 65536 % 256)], [Value.int .u8 (x / 16777216)]]
def cSeal (s : ByteArray) : ByteArray := s ++ le4 (cSum s)
theorem cSeal_len (s : ByteArray) : (cSeal s).size = s.size + 4 := by unfold cSeal le4; rw [ByteArray.size_append, bstr_len]; simp

theorem vv_refS {x : Int} (h : 0 ≤ x ∧ x ≤ 4294967295) : vv (refS x) = sb (vv x) := by
  unfold refS sb
  rw [lsb_odd h]
  have e := vv_div h 1
  rw [show (2 : Int) ^ 1 = 2 by rfl] at e
  by_cases ho : x % 2 = 1
  · simp only [ho, decide_true, cond_true, if_true, vv_bitop_xor, e]; rfl
  · simp only [ho, decide_false, cond_false, Bool.false_eq_true, if_false, e]; simp
theorem vv_refN {x : Int} (h : 0 ≤ x ∧ x ≤ 4294967295) : ∀ n, vv (refN n x) = sbN n (vv x)
  | 0 => rfl
  | n + 1 => by rw [refN, vv_refS (refN_bd h n), vv_refN h n]; rfl
theorem halfS_eq {x : Int} (h : 0 ≤ x ∧ x ≤ 4294967295) : halfS x = refS x := by
  apply vv_inj (bitop_bd _ _ _) (refS_bd h)
  rw [vv_refS h]
  unfold sb
  rw [lsb_odd h, vv_bitop_xor, vv_bitop_and]
  have e := vv_div h 1
  have hb : bitop .and .u32 x 1 = x % 2 := by
    rw [bitop_eq]
    dsimp only
    rw [BitVec.toNat_and, show (BitVec.ofInt 32 1).toNat = 1 by rfl, Nat.and_one_is_mod]
    have := of_vv h
    have h2 : (vv x).toNat = (BitVec.ofInt 32 x).toNat := rfl
    omega
  rw [hb, show ((1 : Int).toNat) = 1 by rfl, e]
  by_cases ho : x % 2 = 1
  · simp only [ho, decide_true, if_true]; congr 1
  · have h0 : x % 2 = 0 := by omega
    simp only [h0]; rfl
theorem halfN_eq {x : Int} (h : 0 ≤ x ∧ x ≤ 4294967295) : ∀ n, halfN n x = refN n x
  | 0 => rfl
  | n + 1 => by rw [halfN, halfN_eq h n, halfS_eq (refN_bd h n)]; rfl
theorem arrI_tab : ∀ n : Nat, n < 16 → arrI [.val (.int .u32 (halfN 4 0)), .val (.int .u32 (halfN 4 1)), .val (.int .u32 (halfN 4 2)), .val (.int .u32 (halfN 4 3)), .val (.int .u32 (halfN 4 4)), .val (.int .u32 (halfN 4 5)), .val (.int .u32 (halfN 4 6)), .val (.int .u32 (halfN 4 7)), .val (.int .u32 (halfN 4 8)), .val (.int .u32 (halfN 4 9)), .val (.int .u32 (halfN 4 10)), .val (.int .u32 (halfN 4 11)), .val (.int .u32 (halfN 4 12)), .val (.int .u32 (halfN 4 13)), .val (.int .u32 (halfN 4 14)), .val (.int .u32 (halfN 4 15))] n = halfN 4 (n : Int)
  | 0, _ | 1, _ | 2, _ | 3, _ | 4, _ | 5, _ | 6, _ | 7, _ | 8, _ | 9, _ | 10, _ | 11, _ | 12, _ | 13, _ | 14, _ | 15, _ => rfl
  | n + 16, h => by omega
theorem tab_at (x : Int) : arrI [.val (.int .u32 (halfN 4 0)), .val (.int .u32 (halfN 4 1)), .val (.int .u32 (halfN 4 2)), .val (.int .u32 (halfN 4 3)), .val (.int .u32 (halfN 4 4)), .val (.int .u32 (halfN 4 5)), .val (.int .u32 (halfN 4 6)), .val (.int .u32 (halfN 4 7)), .val (.int .u32 (halfN 4 8)), .val (.int .u32 (halfN 4 9)), .val (.int .u32 (halfN 4 10)), .val (.int .u32 (halfN 4 11)), .val (.int .u32 (halfN 4 12)), .val (.int .u32 (halfN 4 13)), .val (.int .u32 (halfN 4 14)), .val (.int .u32 (halfN 4 15))] (bitop .and .u32 x (15 : Int)).toNat = refN 4 (bitop .and .u32 x 15) := by
  have h := and15 x
  rw [arrI_tab _ (by omega), show (((bitop .and .u32 x 15).toNat : Nat) : Int) = bitop .and .u32 x 15 by omega]
  exact halfN_eq (by omega) 4
/-- Four steps at once, by the table. -/
def quad (x : Int) : Int := bitop .xor .u32 (x / 2 ^ (4 : Int).toNat) (refN 4 (bitop .and .u32 x 15))
theorem quad_eq {x : Int} (h : 0 ≤ x ∧ x ≤ 4294967295) : quad x = refN 4 x := by
  apply vv_inj (bitop_bd _ _ _) (refN_bd h 4)
  have h15 := and15 x
  rw [vv_bitop_xor, vv_refN (by omega), vv_refN h, vv_bitop_and, show ((4 : Int).toNat) = 4 by rfl, vv_div h 4, sbN4 (vv x)]
  rfl
theorem refN_add (x : Int) (m : Nat) : ∀ n, refN (m + n) x = refN n (refN m x)
  | 0 => rfl
  | n + 1 => by rw [← Nat.add_assoc, refN, refN_add x m n]; rfl
theorem cadd_eq (c b : Int) : cadd c b = rAdd c b := by
  unfold cadd rAdd
  rw [tab_at, tab_at]
  show quad (quad (bitop .xor .u32 c b)) = _
  have hb := bitop_bd .xor c b
  rw [quad_eq hb, quad_eq (refN_bd hb 4), show (8 : Nat) = 4 + 4 by rfl, refN_add]
theorem not_u32 {x : Int} (h : 0 ≤ x ∧ x ≤ 4294967295) : bitop .xor .u32 4294967295 x = 4294967295 - x := by
  have e := of_vv h
  rw [bitop_eq]
  show ((BitVec.ofInt 32 4294967295 ^^^ vv x).toNat : Int) = _
  generalize vv x = v at e
  subst e
  rw [show BitVec.ofInt 32 4294967295 = BitVec.allOnes 32 by rfl, BitVec.allOnes_xor, BitVec.toNat_not]
  have := v.isLt
  omega
theorem bstr_append (xs ys : List (List Value)) : bstr (xs ++ ys) = bstr xs ++ bstr ys := by
  apply ByteArray.ext
  rw [ByteArray.data_append]
  simp [bstr, strOfNums]
theorem bstr_strVals (s : ByteArray) : bstr (strVals s) = s := by
  apply ByteArray.ext
  have h : ∀ l : List UInt8, l.map (fun b => UInt8.ofNat (vI ([Value.int .u8 b.toNat].getD 0 undef)).toNat) = l := by
    intro l
    induction l with
    | nil => rfl
    | cons b l ih => simp only [List.map_cons, ih]; congr 1; simp [vI]
  simp only [bstr, strOfNums, strVals, List.map_map]
  exact (congrArg List.toArray (h s.data.toList)).trans (by simp)

theorem sum_xor (s : ByteArray) : bitop .xor .u32 4294967295 (rcrcN s s.size) = cSum s := not_u32 (rcrcN_bd s _)
/-- As the code lays the four bytes. -/
theorem seal_code (s : ByteArray) : bstr (strVals s ++ [[Value.int .u8 (IntKind.wrap .u8 (cSum s))]] ++ [[Value.int .u8 (IntKind.wrap .u8 (cSum s / 2 ^ (8 : Int).toNat))]] ++ [[Value.int .u8 (IntKind.wrap .u8 (cSum s / 2 ^ (8 : Int).toNat / 2 ^ (8 : Int).toNat))]] ++ [[Value.int .u8 (IntKind.wrap .u8 (cSum s / 2 ^ (8 : Int).toNat / 2 ^ (8 : Int).toNat / 2 ^ (8 : Int).toNat))]]) = cSeal s := by
  have hb := cSum_bd s
  unfold cSeal le4
  generalize cSum s = x at hb
  have w8 : ∀ y : Int, IntKind.wrap .u8 y = y % 256 := fun y => by simp [IntKind.wrap, IntKind.signed, IntKind.bits]
  simp only [bstr_append, bstr_strVals, w8, ByteArray.append_assoc]
  rw [← bstr_append, ← bstr_append, ← bstr_append]
  congr 2
  simp only [List.cons_append, List.nil_append]
  rw [show x / 2 ^ (8 : Int).toNat = x / 256 by rfl, show x / 256 / 2 ^ (8 : Int).toNat = x / 65536 by rw [show (2 : Int) ^ (8 : Int).toNat = 256 by rfl]; omega,
    show x / 65536 / 2 ^ (8 : Int).toNat % 256 = x / 16777216 by rw [show (2 : Int) ^ (8 : Int).toNat = 256 by rfl]; omega]
end Go.Proofs.Ytjpcnknegdpnoaa.RS
