/- Chapter 13's laws in plain Lean. -/
import Derived.Test.YtdhipofjafecoaaXB
set_option linter.unusedVariables false
set_option linter.unusedSimpArgs false
namespace Go.Proofs.Ytdhipofjafecoaa
open Go Go.Proofs.Ytdhipofjafecoaa.RS Go.RowKit
theorem tells_true (xs : List (List Value)) (a n : Int) : F_RunsTells xs a n = true := by
  unfold F_RunsTells
  cases decide ((100 : Int) < (xs.length : Int)) with
  | true => rfl
  | false =>
    have h : sameB (wMark xs a n).1 (wMark xs a n).1 = true := sameB_iff.2 ⟨rfl, fun _ _ => rfl⟩
    rw [h]
    simp [andB]
theorem first_true (xs : List (List Value)) (n c : Int) : F_RunsFirst xs n c = true := by
  unfold F_RunsFirst
  cases h : orB (decide ((100 : Int) < (xs.length : Int))) (decide (n < (1 : Int))) with
  | true => rfl
  | false =>
    simp [orB] at h
    rw [cond_false, decide_eq_false (fun hh => hh (decide_eq_decide.2 (wM_iff xs (by omega)).symm)), cond_false]
    rcases wF_cases xs n with ⟨h1, h2⟩ | ⟨h1, h2, h3⟩
    · rw [h1, wMark_ok, h2 c]; rfl
    · rw [decide_eq_false (by omega), cond_false, wMark_ok, h2, wMark_yes h2, wC_mark h2, wMark_ok xs c, decide_eq_true (wM_wC xs)]
      by_cases hc : c < wF xs n
      · rw [h3 c hc]; simp [andB]
      · rw [decide_eq_false hc]; cases roomB xs c n <;> simp [andB]
theorem ends_true (m n : Int) : F_RunsEnds m n = true := by
  unfold F_RunsEnds
  cases h : orB (orB (decide (m < (0 : Int))) (decide ((200 : Int) < m))) (decide (n < (1 : Int))) with
  | true => rfl
  | false =>
    simp [orB] at h
    rw [cond_false, all_F, all_M, all_C, none_F _ (by omega), none_M, none_C, show ((m.toNat : Nat) : Int) = m by omega]
    simp [andB]
theorem shift_true (xs : List (List Value)) (m n : Int) : F_RunsShift xs m n = true := by
  unfold F_RunsShift
  cases h : orB (orB (orB (decide ((100 : Int) < (xs.length : Int))) (decide (m < (0 : Int)))) (decide ((100 : Int) < m))) (decide (n < (1 : Int))) with
  | true => rfl
  | false =>
    simp [orB] at h
    have hs := split_C xs (k := ((xs.length : Int) / (2 : Int)).toNat) (by omega)
    rw [cond_false, shift_F, shift_M, shift_C, show ((m.toNat : Nat) : Int) = m by omega, show (0 : Int).toNat = 0 from rfl, Int.toNat_natCast, hs]
    simp [andB]
end Go.Proofs.Ytdhipofjafecoaa
