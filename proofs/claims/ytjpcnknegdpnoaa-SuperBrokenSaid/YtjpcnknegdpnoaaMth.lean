/- Chapter 12's laws in plain Lean. -/
import Derived.Test.YtjpcnknegdpnoaaXB
set_option linter.unusedVariables false
set_option linter.unusedSimpArgs false
namespace Go.Proofs.Ytjpcnknegdpnoaa
open Go Go.Proofs.Ytjpcnknegdpnoaa.RS Go.RowKit
theorem tells_true (g a z : Int) (s t : ByteArray) : F_SuperTells g a z s t = true := by
  unfold F_SuperTells
  cases orB (decide ((200 : Int) < (s.size : Int))) (decide ((200 : Int) < (t.size : Int))) with
  | true => rfl
  | false => simp [andB, eqLV3]
theorem back_true (g a z g2 a2 z2 : Int) (s : ByteArray) : F_SuperBack g a z g2 a2 z2 s = true := by
  unfold F_SuperBack
  cases decide ((200 : Int) < (s.size : Int)) with
  | true => rfl
  | false =>
    rw [cond_false]
    have h3 : andB ((wSOpen s).2.2.2) (decide (¬ (wSup ((wSOpen s).1) ((wSOpen s).2.1) ((wSOpen s).2.2.1)) = s)) = false := by
      cases h : (wSOpen s).2.2.2 with
      | false => rfl
      | true => rw [decide_eq_false (fun hh => hh (sopen_yes h).1)]; rfl
    rw [h3]
    by_cases h : wSup g a z = ByteArray.empty
    · rw [h, sopen_empty]; rfl
    · rw [(sup_open h).1]
      have h5 : decide (wSup g a z = wSup g2 a2 z2) = decide (eqLV [.val (.int .i64 g), .val (.int .i64 a), .val (.int .i64 z)] [.val (.int .i64 g2), .val (.int .i64 a2), .val (.int .i64 z2)] = true) ∨ wSup g2 a2 z2 = ByteArray.empty := by
        by_cases h2 : wSup g2 a2 z2 = ByteArray.empty
        · exact .inr h2
        · left
          congr 1
          rw [eqLV3_iff]
          apply propext
          constructor
          · intro e
            have e1 := (sup_open h).1
            rw [e, (sup_open h2).1] at e1
            simp only [Prod.mk.injEq] at e1
            omega
          · rintro ⟨rfl, rfl, rfl⟩; rfl
      have h32 := wSup_32 h
      simp only [h, eqLV3, h32, decide_true, decide_false, not_true, not_false_eq_true, orB, andB]
      rcases h5 with h5 | h5
      · rw [h5]; simp
      · rw [h5]; simp
theorem greater_true (g a z g2 a2 z2 : Int) : F_SuperGreater g a z g2 a2 z2 = true := by
  unfold F_SuperGreater
  by_cases h : wSup g a z = ByteArray.empty
  · rw [h]; rfl
  · by_cases h2 : wSup g2 a2 z2 = ByteArray.empty
    · rw [h2, decide_eq_false h]; rfl
    · rw [decide_eq_false h, decide_eq_false h2]
      have e1 := (sup_open h).1
      have e2 := (sup_open h2).1
      have e3 := wChoose_b (a := ByteArray.empty) e2 (.inl (by rw [sopen_empty]; rfl))
      rw [e3]
      by_cases h3 : g < g2
      · rw [wChoose_b (a := wSup g a z) e2 (.inr (by rw [e1]; exact h3))]
        simp [orB, andB, eqLV3, h3]
      · rw [wChoose_a (b := wSup g2 a2 z2) e1 (.inr (by rw [e2]; show g2 ≤ g; omega))]
        simp [orB, andB, eqLV3, h3]
theorem broken_true (g a z at_ b0 b1 b2 b3 : Int) : F_SuperBroken g a z at_ b0 b1 b2 b3 = true := by
  unfold F_SuperBroken
  by_cases h : wSup g a z = ByteArray.empty
  · rw [h]
    have : orB (orB (orB (decide (ByteArray.empty = ByteArray.empty)) (decide (at_ < (1 : Int)))) (decide ((28 : Int) < at_))) (decide (¬ ((ByteArray.empty.size : Nat) : Int) = (32 : Int))) = true := by
      rw [decide_eq_true (rfl : ByteArray.empty = ByteArray.empty)]; rfl
    rw [this, decide_eq_true (rfl : ByteArray.empty = ByteArray.empty)]; rfl
  · have h32 := wSup_32 h
    cases h1 : orB (orB (orB (decide ((wSup g a z) = ByteArray.empty)) (decide (at_ < (1 : Int)))) (decide ((28 : Int) < at_))) (decide (¬ ((wSup g a z).size : Int) = (32 : Int))) with
    | true => rw [cond_true, h32, decide_eq_false h]; rfl
    | false =>
      rw [cond_false]
      simp [orB] at h1
      exact sup_torn _ _ _ _ h (by omega) (by omega) rfl
end Go.Proofs.Ytjpcnknegdpnoaa
