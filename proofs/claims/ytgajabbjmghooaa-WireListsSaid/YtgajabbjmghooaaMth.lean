/- The laws of chapter 10 hold. -/
import Derived.Test.YtgajabbjmghooaaXB
set_option linter.unusedVariables false
set_option linter.unusedSimpArgs false
namespace Go.Proofs.Ytgajabbjmghooaa
open Go Go.Proofs.Ytgajabbjmghooaa.RS Go.RowKit
theorem WireTells_true (s : ByteArray) (n p : Int) (l : List (List Value)) : F_WireTells s n p l = true := by
  unfold F_WireTells
  cases orB (decide ((1000 : Int) < (s.size : Int))) (decide ((1000 : Int) < (l.length : Int))) <;> simp only [cond_true, cond_false]
  have : sameI (wTakeInts s p).1 (wTakeInts s p).1 = true := sameI_iff.2 ⟨rfl, fun _ _ => rfl⟩
  simp [andB, this]
theorem WireBack_true (b c : ByteArray) (n p : Int) (l : List (List Value)) : F_WireBack b c n p l = true := by
  unfold F_WireBack
  cases h : orB (orB (decide ((1000 : Int) < (b.size : Int))) (decide ((1000 : Int) < (c.size : Int)))) (decide ((1000 : Int) < (l.length : Int))) <;> simp only [cond_true, cond_false]
  simp only [orB, Bool.or_eq_false_iff, decide_eq_false_iff_not, Int.not_lt] at h
  have h1 : andB (decide (¬ (wNum n) = ByteArray.empty)) (orB (orB (!((wTake ((b ++ (wNum n)) ++ c) (b.size : Int)).2.2)) (decide (¬ ((wTake ((b ++ (wNum n)) ++ c) (b.size : Int)).1) = n))) (decide (¬ ((wTake ((b ++ (wNum n)) ++ c) (b.size : Int)).2.1) = ((b.size : Int) + ((wNum n).size : Int))))) = false := by
    by_cases hn : wNum n = ByteArray.empty
    · simp [andB, hn]
    · obtain ⟨n0, n1⟩ := wNum_ne.1 hn
      rw [told_at n0 n1]
      simp [andB, orB]
  have h2 : orB (orB (!((wTakeText ((b ++ (wText c)) ++ b) (b.size : Int)).2.2)) (decide (¬ ((wTakeText ((b ++ (wText c)) ++ b) (b.size : Int)).1) = c))) (decide (¬ ((wTakeText ((b ++ (wText c)) ++ b) (b.size : Int)).2.1) = ((b.size : Int) + ((wText c).size : Int)))) = false := by
    rw [wTakeText_told (by omega)]
    simp [orB]
  rw [h1, h2]
  simp only [cond_false]
  by_cases hl : wInts l = ByteArray.empty
  · simp [orB, hl]
  · rw [wTakeInts_told (by omega) hl]
    simp [orB, andB, sameI_ivs]
theorem WireOnce_true (s : ByteArray) (a n p : Int) : F_WireOnce s a n p = true := by
  unfold F_WireOnce
  cases decide ((1000 : Int) < (s.size : Int)) <;> simp only [cond_true, cond_false]
  have h1 : andB (wTake s a).2.2 (orB (orB (decide (((wTake s a).2.1) ≤ a)) (decide ((s.size : Int) < ((wTake s a).2.1)))) (decide (¬ (wNum ((wTake s a).1)) = (s.extract a.toNat ((wTake s a).2.1).toNat)))) = false := by
    cases h : (wTake s a).2.2 with
    | false => rfl
    | true =>
      obtain ⟨w1, w2, w3, w4, w5, w6⟩ := wTake_once h
      simp only [andB, orB, Bool.true_and, Bool.or_eq_false_iff, decide_eq_false_iff_not]
      exact ⟨⟨by omega, by omega⟩, fun hh => hh w6.symm⟩
  have h2 : andB (wTakeInts s a).2.2 (orB (decide ((s.size : Int) < ((wTakeInts s a).2.1))) (decide (¬ (wInts ((wTakeInts s a).1)) = (s.extract a.toNat ((wTakeInts s a).2.1).toNat)))) = false := by
    cases h : (wTakeInts s a).2.2 with
    | false => rfl
    | true =>
      obtain ⟨w1, w2, w3, w4, _⟩ := wTakeInts_once h
      simp only [andB, orB, Bool.true_and, Bool.or_eq_false_iff, decide_eq_false_iff_not]
      exact ⟨by omega, fun hh => hh w4⟩
  rw [h1, h2]
  simp only [cond_false, orB, Bool.or_eq_true, decide_eq_true_eq]
  by_cases e1 : wNum n = ByteArray.empty
  · exact .inl (.inl (.inl e1))
  · by_cases e2 : wNum p = ByteArray.empty
    · exact .inl (.inl (.inr e2))
    · by_cases e3 : ((wNum p).size : Int) < ((wNum n).size : Int)
      · exact .inl (.inr e3)
      · right
        have := wNum_prefix e1 e2 (by omega)
        rw [show ((0 : Int).toNat) = 0 from rfl, show ((wNum n).size : Int).toNat = (wNum n).size by omega]
        exact decide_eq_decide.2 this
theorem WireShort_true (n p : Int) (s : ByteArray) : F_WireShort n p s = true := by
  unfold F_WireShort
  cases h : orB (orB (orB (decide (n < (0 : Int))) (decide (p < n))) (decide ((1099511627776 : Int) ≤ p))) (decide ((1000 : Int) < (s.size : Int))) <;> simp only [cond_true, cond_false]
  simp only [orB, Bool.or_eq_false_iff, decide_eq_false_iff_not, Int.not_lt, Int.not_le] at h
  have h1 := wNum_size (n := n) (by omega) (by omega)
  have h2 := wNum_size (n := p) (by omega) (by omega)
  have h3 := enc_mono 5 n p (by omega) (by omega)
  have h4 := enc_len 5 n
  have h5 := enc_len 5 p
  have h6 := (wText_le s).2
  have h7 := wNum_size (n := (s.size : Int)) (by omega) (by omega)
  have h8 := (enc_len 5 (s.size : Int)).1
  simp only [andB, Bool.and_eq_true, decide_eq_true_eq]
  refine ⟨⟨⟨⟨by omega, by omega⟩, by omega⟩, by omega⟩, ?_⟩
  have := extract_mid (wNum (s.size : Int)) s ByteArray.empty
  rw [show ((((wText s).size : Int) - (s.size : Int)).toNat) = (wNum (s.size : Int)).size by omega, show (((wText s).size : Int).toNat) = (wNum (s.size : Int)).size + s.size by omega]
  simpa [wText] using this
theorem WireLists_true (l m : List (List Value)) : F_WireLists l m = true := by
  unfold F_WireLists
  cases h : orB (orB (orB (decide ((wInts l) = ByteArray.empty)) (decide ((wInts m) = ByteArray.empty))) (decide ((300 : Int) < (l.length : Int)))) (decide ((300 : Int) < (m.length : Int))) <;> simp only [cond_true, cond_false]
  simp only [orB, Bool.or_eq_false_iff, decide_eq_false_iff_not, Int.not_lt, Int.not_le] at h
  obtain ⟨⟨⟨h1, h2⟩, h3⟩, h4⟩ := h
  have t1 := wTakeInts_told (A := ByteArray.empty) (C := wInts m) (l := l) (by omega) h1
  have t2 := wTakeInts_told (A := wInts l) (C := ByteArray.empty) (l := m) (by omega) h2
  have e1 : ByteArray.empty ++ wInts l ++ wInts m = wInts l ++ wInts m := by simp
  have e2 : wInts l ++ wInts m ++ ByteArray.empty = wInts l ++ wInts m := by simp
  rw [e1] at t1
  rw [e2] at t2
  have t1' : wTakeInts (wInts l ++ wInts m) (0 : Int) = (ivs l l.length, ((wInts l).size : Int), true) := by
    rw [show (0 : Int) = (ByteArray.empty.size : Int) from rfl, t1]
    refine Prod.ext rfl (Prod.ext ?_ rfl)
    show ((0 : Nat) : Int) + ((wInts l).size : Int) = ((wInts l).size : Int)
    omega
  rw [t1']
  simp only []
  rw [t2]
  simp only [andB, sameI_ivs', Bool.true_and, Bool.and_eq_true, decide_eq_true_eq]
  refine ⟨trivial, ?_⟩
  by_cases e : sameI l m = true
  · rw [e, wInts_congr e]; simp
  · rw [show decide (wInts l = wInts m) = false from decide_eq_false fun hh => e (wInts_inj (by omega) (by omega) h1 hh)]
    simpa using e
end Go.Proofs.Ytgajabbjmghooaa
