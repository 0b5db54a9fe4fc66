/- The mathematics of chapter 2: both ways of summing agree. -/
import Derived.Test.YtnmicadlfajofaaWk
set_option linter.unusedVariables false
set_option linter.unusedSimpArgs false
namespace Go.Proofs.Ytnmicadlfajofaa
open Go Go.Proofs.Ytnmicadlfajofaa.RS Go.RowKit
theorem vv_refS {x : Int} (h : 0 ≤ x ∧ x ≤ 4294967295) : vv (refS x) = sb (vv x) := by
  unfold refS sb
  rw [lsb_odd h]
  have e := vv_div h 1
  rw [show (2 : Int) ^ 1 = 2 by rfl] at e
  by_cases ho : x % 2 = 1
  · simp only [ho, decide_true, cond_true, if_true, vv_bitop_xor, e]; rfl
  · simp only [ho, decide_false, cond_false, Bool.false_eq_true, if_false, e]; simp
theorem vv_refN {x : Int} (h : 0 ≤ x ∧ x ≤ 4294967295) : ∀ n, vv (refN n x) = sbN n (vv x)
  | 0 => rfl
  | n + 1 => by rw [refN, vv_refS (refN_bd h n), vv_refN h n]; rfl
theorem halfS_eq {x : Int} (h : 0 ≤ x ∧ x ≤ 4294967295) : halfS x = refS x := by
  apply vv_inj (bitop_bd _ _ _) (refS_bd h)
  rw [vv_refS h]
  unfold sb
  rw [lsb_odd h, vv_bitop_xor, vv_bitop_and]
  have e := vv_div h 1
  have hb : bitop .and .u32 x 1 = x % 2 := by
    rw [bitop_eq]
    dsimp only
    rw [BitVec.toNat_and, show (BitVec.ofInt 32 1).toNat = 1 by rfl, Nat.and_one_is_mod]
    have := of_vv h
    have h2 : (vv x).toNat = (BitVec.ofInt 32 x).toNat := rfl
    omega
  rw [hb, show ((1 : Int).toNat) = 1 by rfl, e]
  by_cases ho : x % 2 = 1
  · simp only [ho, decide_true, if_true]; congr 1
  · have h0 : x % 2 = 0 := by omega
    simp only [h0]; rfl
theorem halfN_eq {x : Int} (h : 0 ≤ x ∧ x ≤ 4294967295) : ∀ n, halfN n x = refN n x
  | 0 => rfl
  | n + 1 => by rw [halfN, halfN_eq h n, halfS_eq (refN_bd h n)]; rfl
theorem arrI_tab : ∀ n : Nat, n < 16 → arrI [.val (.int .u32 (halfN 4 0)), .val (.int .u32 (halfN 4 1)), .val (.int .u32 (halfN 4 2)), .val (.int .u32 (halfN 4 3)), .val (.int .u32 (halfN 4 4)), .val (.int .u32 (halfN 4 5)), .val (.int .u32 (halfN 4 6)), .val (.int .u32 (halfN 4 7)), .val (.int .u32 (halfN 4 8)), .val (.int .u32 (halfN 4 9)), .val (.int .u32 (halfN 4 10)), .val (.int .u32 (halfN 4 11)), .val (.int .u32 (halfN 4 12)), .val (.int .u32 (halfN 4 13)), .val (.int .u32 (halfN 4 14)), .val (.int .u32 (halfN 4 15))] n = halfN 4 (n : Int)
  | 0, _ | 1, _ | 2, _ | 3, _ | 4, _ | 5, _ | 6, _ | 7, _ | 8, _ | 9, _ | 10, _ | 11, _ | 12, _ | 13, _ | 14, _ | 15, _ => rfl
  | n + 16, h => by omega
theorem tab_at (x : Int) : arrI [.val (.int .u32 (halfN 4 0)), .val (.int .u32 (halfN 4 1)), .val (.int .u32 (halfN 4 2)), .val (.int .u32 (halfN 4 3)), .val (.int .u32 (halfN 4 4)), .val (.int .u32 (halfN 4 5)), .val (.int .u32 (halfN 4 6)), .val (.int .u32 (halfN 4 7)), .val (.int .u32 (halfN 4 8)), .val (.int .u32 (halfN 4 9)), .val (.int .u32 (halfN 4 10)), .val (.int .u32 (halfN 4 11)), .val (.int .u32 (halfN 4 12)), .val (.int .u32 (halfN 4 13)), .val (.int .u32 (halfN 4 14)), .val (.int .u32 (halfN 4 15))] (bitop .and .u32 x (15 : Int)).toNat = refN 4 (bitop .and .u32 x 15) := by
  have h := and15 x
  rw [arrI_tab _ (by omega), show (((bitop .and .u32 x 15).toNat : Nat) : Int) = bitop .and .u32 x 15 by omega]
  exact halfN_eq (by omega) 4
/-- Four steps at once, by the table. -/
def quad (x : Int) : Int := bitop .xor .u32 (x / 2 ^ (4 : Int).toNat) (refN 4 (bitop .and .u32 x 15))
theorem quad_eq {x : Int} (h : 0 ≤ x ∧ x ≤ 4294967295) : quad x = refN 4 x := by
  apply vv_inj (bitop_bd _ _ _) (refN_bd h 4)
  have h15 := and15 x
  rw [vv_bitop_xor, vv_refN (by omega), vv_refN h, vv_bitop_and, show ((4 : Int).toNat) = 4 by rfl, vv_div h 4, sbN4 (vv x)]
  rfl
theorem refN_add (x : Int) (m : Nat) : ∀ n, refN (m + n) x = refN n (refN m x)
  | 0 => rfl
  | n + 1 => by rw [← Nat.add_assoc, refN, refN_add x m n]; rfl
theorem cadd_eq (c b : Int) : F_cadd c b = F_rAdd c b := by
  unfold F_cadd F_rAdd
  rw [tab_at, tab_at]
  show quad (quad (bitop .xor .u32 c b)) = _
  have hb := bitop_bd .xor c b
  rw [quad_eq hb, quad_eq (refN_bd hb 4), show (8 : Nat) = 4 + 4 by rfl, refN_add]
theorem crcN_eq (s : ByteArray) : ∀ n, crcN s n = rcrcN s n
  | 0 => rfl
  | n + 1 => by rw [crcN, crcN_eq s n, cadd_eq]; rfl
theorem not_u32 {x : Int} (h : 0 ≤ x ∧ x ≤ 4294967295) : bitop .xor .u32 4294967295 x = 4294967295 - x := by
  have e := of_vv h
  rw [bitop_eq]
  show ((BitVec.ofInt 32 4294967295 ^^^ vv x).toNat : Int) = _
  generalize vv x = v at e
  subst e
  rw [show BitVec.ofInt 32 4294967295 = BitVec.allOnes 32 by rfl, BitVec.allOnes_xor, BitVec.toNat_not]
  have := v.isLt
  omega
theorem sum_eq (s : ByteArray) : bitop .xor .u32 4294967295 (crcN s s.size) = 4294967295 - rcrcN s s.size := by
  rw [crcN_eq, not_u32 (rcrcN_bd s _)]
theorem bstr_append (xs ys : List (List Value)) : bstr (xs ++ ys) = bstr xs ++ bstr ys := by
  apply ByteArray.ext
  rw [ByteArray.data_append]
  simp [bstr, strOfNums]
theorem bstr_strVals (s : ByteArray) : bstr (strVals s) = s := by
  apply ByteArray.ext
  have h : ∀ l : List UInt8, l.map (fun b => UInt8.ofNat (vI ([Value.int .u8 b.toNat].getD 0 undef)).toNat) = l := by
    intro l
    induction l with
    | nil => rfl
    | cons b l ih => simp only [List.map_cons, ih]; congr 1; simp [vI]
  simp only [bstr, strOfNums, strVals, List.map_map]
  exact (congrArg List.toArray (h s.data.toList)).trans (by simp)
theorem seal_eq (s : ByteArray) : F_Seal s = F_rSeal s := by
  unfold F_Seal F_rSeal
  rw [sum_eq]
  have hb := rcrcN_bd s s.size
  generalize hx : 4294967295 - rcrcN s s.size = x
  have w8 : ∀ y : Int, IntKind.wrap .u8 y = y % 256 := fun y => by simp [IntKind.wrap, IntKind.signed, IntKind.bits]
  simp only [bstr_append, bstr_strVals, w8, ByteArray.append_assoc]
  rw [← bstr_append, ← bstr_append, ← bstr_append]
  congr 2
  simp only [List.cons_append, List.nil_append]
  rw [show x / 2 ^ (8 : Int).toNat = x / 256 by rfl, show x / 256 / 2 ^ (8 : Int).toNat = x / 65536 by rw [show (2 : Int) ^ (8 : Int).toNat = 256 by rfl]; omega,
    show x / 65536 / 2 ^ (8 : Int).toNat % 256 = x / 16777216 by rw [show (2 : Int) ^ (8 : Int).toNat = 256 by rfl]; omega]
theorem open_eq (s : ByteArray) : F_Open s = F_rOpen s := by
  unfold F_Open F_rOpen
  simp only [seal_eq]
  by_cases h : (s.size : Int) < 4
  · rw [show decide ((s.size : Int) < 4) = true by simpa using h, show decide ((s.size : Int) - 4 < 0) = true by simp; omega]; rfl
  · rw [show decide ((s.size : Int) < 4) = false by simpa using h, show decide ((s.size : Int) - 4 < 0) = false by simp; omega]; rfl
theorem fixed_true : F_fixed = true := by kernel_rfl
theorem CrcSums_true (s : ByteArray) (c b : Int) : F_CrcSums s c b = true := by
  unfold F_CrcSums F_Add
  rw [fixed_true, sum_eq, cadd_eq, seal_eq, open_eq]
  simp [andB]
theorem ext_app (s t : ByteArray) : (s ++ t).extract 0 s.size = s := by
  apply ByteArray.ext
  rw [ByteArray.data_extract, ByteArray.data_append]
  exact Array.extract_append_left.trans (by simp)
theorem open_seal (t : ByteArray) : F_Open (F_Seal t) = (t, true) := by
  have hl := Seal_len t
  have e : (F_Seal t).extract (0 : Int).toNat (((F_Seal t).size : Int) - 4).toNat = t := by
    rw [hl, show (((t.size + 4 : Nat) : Int) - 4).toNat = t.size by omega, show ((0 : Int).toNat) = 0 by rfl, seal_eq]
    unfold F_rSeal
    exact ext_app _ _
  unfold F_Open
  rw [e, show decide (((F_Seal t).size : Int) - 4 < 0) = false by simp; omega]
  simp [orB]
theorem CrcLonger_true (s : ByteArray) (b : Int) : F_CrcLonger s b = true := by
  unfold F_CrcLonger
  rw [fixed_true]
  simp only [open_seal, ← seal_eq, ← open_eq]
  cases decide ((10000 : Int) < (s.size : Int)) <;> simp [orB, andB]
end Go.Proofs.Ytnmicadlfajofaa
