/- The sum of bytes mixed is the sums mixed (for CrcMixed). -/
import Derived.Test.YtnmicadlfajofaaMth
import Derived.Test.YtnmicadlfajofaaXL
set_option linter.unusedVariables false
namespace Go.Proofs.Ytnmicadlfajofaa
open Go Go.Proofs.Ytnmicadlfajofaa.RS Go.RowKit
theorem vv_rAdd (c b : Int) : vv (F_rAdd c b) = sbN 8 (vv c ^^^ vv b) := by
  unfold F_rAdd
  rw [vv_refN (bitop_bd _ _ _), vv_bitop_xor]
theorem mixed (m a b c : ByteArray) (N : Nat) (h : ∀ i, i < N → vv (bAt m i) = vv (bAt a i) ^^^ vv (bAt b i) ^^^ vv (bAt c i)) : ∀ n, n ≤ N → vv (rcrcN m n) = vv (rcrcN a n) ^^^ vv (rcrcN b n) ^^^ vv (rcrcN c n)
  | 0, _ => by simp only [rcrcN]; rw [BitVec.xor_self, BitVec.zero_xor]
  | n + 1, hn => by
    simp only [rcrcN]
    rw [vv_rAdd, vv_rAdd, vv_rAdd, vv_rAdd, mixed m a b c N h n (by omega), h n (by omega), ← sbN_xor, ← sbN_xor]
    congr 1
    generalize vv (rcrcN a n) = x1; generalize vv (rcrcN b n) = x2; generalize vv (rcrcN c n) = x3
    generalize vv (bAt a n) = y1; generalize vv (bAt b n) = y2; generalize vv (bAt c n) = y3
    ac_rfl
end Go.Proofs.Ytnmicadlfajofaa
