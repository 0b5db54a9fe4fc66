/- CrcMixed's law. -/
import Derived.Test.YtnmicadlfajofaaXN
import Derived.Test.YtnmicadlfajofaaXB
set_option linter.unusedVariables false
namespace Go.Proofs.Ytnmicadlfajofaa
open Go Go.Proofs.Ytnmicadlfajofaa.RS Go.RowKit
theorem bAt_ext (s : ByteArray) (n i : Nat) (hn : n ≤ s.size) (hi : i < n) : bAt (s.extract 0 n) i = bAt s i := by
  unfold bAt
  congr 2
  simp only [ByteArray.data_extract, Array.toList_extract, List.getD]
  simp [hi]
theorem size_ext (s : ByteArray) (n : Nat) (hn : n ≤ s.size) : (s.extract 0 n).size = n := by
  rw [ByteArray.size_extract]; omega
theorem rcrcN_congr (s t : ByteArray) (N : Nat) (h : ∀ i, i < N → bAt s i = bAt t i) : ∀ n, n ≤ N → rcrcN s n = rcrcN t n
  | 0, _ => rfl
  | n + 1, hn => by simp only [rcrcN]; rw [rcrcN_congr s t N h n (by omega), h n (by omega)]
theorem bAt_bstr (xs : List (List Value)) (i : Nat) (n : Int) (h : xs[i]? = some [Value.int .u8 n]) (hn : 0 ≤ n ∧ n ≤ 255) : bAt (bstr xs) i = n := by
  unfold bAt bstr strOfNums
  simp [List.getD, h, vI]
  omega
theorem mixN_get (a b c : ByteArray) (i : Nat) : ∀ n, i < n → (mixN a b c n)[i]? = some [Value.int .u8 (bitop .xor .u8 (bitop .xor .u8 (bAt a i) (bAt b i)) (bAt c i))]
  | n + 1, h => by
    rw [mixN]
    by_cases e : i = n
    · subst e; rw [List.getElem?_append_right (by rw [mixN_len]; omega), mixN_len]; simp
    · rw [List.getElem?_append_left (by rw [mixN_len]; omega)]; exact mixN_get a b c i n (by omega)
theorem CrcMixed_true (a b c : ByteArray) : F_CrcMixed a b c = true := by
  unfold F_CrcMixed
  rw [fixed_true]
  generalize hN : (min (a.size : Int) (min (b.size : Int) (c.size : Int))).toNat = n
  have ha : n ≤ a.size := by omega
  have hb : n ≤ b.size := by omega
  have hc : n ≤ c.size := by omega
  simp only [sum_eq, andB, Bool.true_and, decide_eq_true_eq, show ((0 : Int).toNat) = 0 by rfl]
  rw [size_ext a n ha, size_ext b n hb, size_ext c n hc, bstr_len, mixN_len]
  rw [rcrcN_congr _ a n (fun i hi => bAt_ext a n i ha hi) n (Nat.le_refl _), rcrcN_congr _ b n (fun i hi => bAt_ext b n i hb hi) n (Nat.le_refl _), rcrcN_congr _ c n (fun i hi => bAt_ext c n i hc hi) n (Nat.le_refl _)]
  have hm := mixed (bstr (mixN a b c n)) a b c n (fun i hi => by
    have h1 := vv_u8_xor (bAt_bd a i) (bAt_bd b i)
    have h2 := vv_u8_xor h1.2 (bAt_bd c i)
    rw [bAt_bstr _ i _ (mixN_get a b c i n hi) h2.2, h2.1, h1.1]) n (Nat.le_refl _)
  have b0 := rcrcN_bd (bstr (mixN a b c n)) n
  have b1 := rcrcN_bd a n
  have b2 := rcrcN_bd b n
  have b3 := rcrcN_bd c n
  rw [← not_u32 b0, ← not_u32 b1, ← not_u32 b2, ← not_u32 b3]
  apply vv_inj (bitop_bd _ _ _) (bitop_bd _ _ _)
  simp only [vv_bitop_xor, hm]
  generalize vv (rcrcN a n) = x1; generalize vv (rcrcN b n) = x2; generalize vv (rcrcN c n) = x3
  generalize vv 4294967295 = f
  rw [show f ^^^ x1 ^^^ (f ^^^ x2) ^^^ (f ^^^ x3) = (f ^^^ f) ^^^ (f ^^^ (x1 ^^^ x2 ^^^ x3)) by ac_rfl, BitVec.xor_self, BitVec.zero_xor]
end Go.Proofs.Ytnmicadlfajofaa
