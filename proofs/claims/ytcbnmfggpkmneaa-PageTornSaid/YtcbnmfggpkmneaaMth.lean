/- Chapter 11's laws in plain Lean. -/
import Derived.Test.YtcbnmfggpkmneaaXB
import Derived.Test.YtcbnmfggpkmneaaRsTorn
set_option linter.unusedVariables false
set_option linter.unusedSimpArgs false
namespace Go.Proofs.Ytcbnmfggpkmneaa
open Go Go.Proofs.Ytcbnmfggpkmneaa.RS Go.RowKit
theorem tells_true (s : ByteArray) (l : List (List Value)) (n : Int) : F_PageTells s l n = true := by
  unfold F_PageTells
  cases h : orB (decide ((2000 : Int) < (s.size : Int))) (!(smallT l)) with
  | true => rfl
  | false =>
    rw [cond_false]
    simp [orB] at h
    have hl := (smallT_hj h.2).1
    rw [open_same (l := l) (by omega), sameT_refl]
    simp [andB]
theorem back_true (s : ByteArray) (l : List (List Value)) : F_PageBack s l = true := by
  unfold F_PageBack
  cases h : orB (decide ((2000 : Int) < (s.size : Int))) (!(smallT l)) with
  | true => rfl
  | false =>
    rw [cond_false]
    simp [orB] at h
    have hl := (smallT_hj h.2).1
    have hle := wLay_le s
    have h1 : wOpen ((([] : List (List Value)) ++ (wLay s)) ++ l) = (s, true) := wOpen_laid (by simp only [List.nil_append, List.length_append]; omega) (laid_self s l)
    have h2 := less_no (s := s) (by omega)
    rw [h1, show ((wLay s).length : Int) - 1 = (((wLay s).length - 1 : Nat) : Int) by omega, show (0 : Int).toNat = 0 from rfl, List.drop_zero, Int.toNat_natCast, h2, need_lay s (by omega)]
    simp [andB]
theorem once_true (l m : List (List Value)) : F_PageOnce l m = true := by
  unfold F_PageOnce
  cases h : orB (!(smallT l)) (!(smallT m)) with
  | true => rfl
  | false =>
    rw [cond_false]
    simp [orB] at h
    have hl := (smallT_hj h.1).1
    have hm := (smallT_hj h.2).1
    cases h1 : (wOpen l).2 with
    | false => rw [wOpen_no h1]; rfl
    | true =>
      have h2 := wOpen_yes h1
      generalize (wOpen l).1 = s at h2
      have h3 := fstT_iff.2 h2
      unfold fstT at h3
      simp only [Bool.not_true, cond_false, Int.toNat_natCast, show (0 : Int).toNat = 0 from rfl]
      rw [h3, cond_false]
      cases h4 : (wOpen m).2 with
      | false => rfl
      | true =>
        have h5 := wOpen_yes h4
        have h6 : (s = (wOpen m).1) ↔ Laid m s := ⟨fun e => by rw [e]; exact h5, fun e => laid_one (by omega) e h5⟩
        generalize (wOpen m).1 = t at h5 h6
        have h7 : decide (s = t) = andB (decide (((wLay s).length : Int) ≤ (m.length : Int))) (sameT (wLay s) ((m.take (min ((wLay s).length : Int) (m.length : Int)).toNat).drop 0)) := by
          rw [List.drop_zero]
          by_cases h8 : Laid m s
          · rw [decide_eq_true (h6.2 h8)]
            have h9 := laid_iff.1 h8
            rw [show (min ((wLay s).length : Int) (m.length : Int)).toNat = (wLay s).length by omega, h9.2, decide_eq_true (by omega)]; rfl
          · rw [decide_eq_false (fun e => h8 (h6.1 e))]
            cases h10 : andB (decide (((wLay s).length : Int) ≤ (m.length : Int))) (sameT (wLay s) (m.take (min ((wLay s).length : Int) (m.length : Int)).toNat)) with
            | false => rfl
            | true =>
              exfalso
              simp only [andB] at h10
              by_cases h11 : ((wLay s).length : Int) ≤ (m.length : Int)
              · rw [decide_eq_true h11, show (min ((wLay s).length : Int) (m.length : Int)).toNat = (wLay s).length by omega] at h10
                exact h8 (laid_iff.2 ⟨by omega, h10⟩)
              · rw [decide_eq_false h11] at h10; cases h10
        rw [h7]
        simp [orB]
theorem torn_true (s : ByteArray) (at_ ba b0 b1 b2 b3 : Int) : F_PageTorn s at_ ba b0 b1 b2 b3 = true := by
  unfold F_PageTorn
  cases h : orB (orB (orB (decide ((1000 : Int) < (s.size : Int))) (decide (at_ < (0 : Int)))) (decide (ba < (0 : Int)))) (decide ((28 : Int) < ba)) with
  | true => rfl
  | false =>
    rw [cond_false]
    cases h2 : orB (decide (((wLay s).length : Int) ≤ at_)) (andB (decide (at_ = (0 : Int))) (decide (ba < (3 : Int)))) with
    | true => rfl
    | false =>
      rw [cond_false]
      simp [orB, andB] at h h2
      have hw := wNum_two (n := (s.size : Int)) (by omega) (by omega)
      have hl := wLay_le s
      exact torn_all _ _ _ _ (by omega) (by omega) (by omega) (by omega) (by omega) (by omega) (by omega) rfl
end Go.Proofs.Ytcbnmfggpkmneaa
