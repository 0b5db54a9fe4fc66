import Derived.Test.YtmfnefljkfhdnaaWk
set_option linter.unusedVariables false
namespace Go.Proofs.Ytmfnefljkfhdnaa
open Go Go.Proofs.Ytmfnefljkfhdnaa.RS Go.RowKit
theorem fixed_true : F_fixed = true := by kernel_rfl
theorem eqLV_refl4 (a b c : Int) (q : Bool) : eqLV [.val (.int .i64 a), .val (.int .i64 b), .val (.int .i64 c), .val (.bool q)] [.val (.int .i64 a), .val (.int .i64 b), .val (.int .i64 c), .val (.bool q)] = true := by simp [eqLV, eqc]
theorem eqLV_ref (a b c a' b' c' : Int) (q q' : Bool) : (eqLV [.val (.int .i64 a), .val (.int .i64 b), .val (.int .i64 c), .val (.bool q)] [.val (.int .i64 a'), .val (.int .i64 b'), .val (.int .i64 c'), .val (.bool q')] = true) = (a = a' ∧ b = b' ∧ c = c' ∧ q = q') := by simp [eqLV, eqc]
theorem Num15_eq (c t z : Int) (q : Bool) : F_Num15 c t z q = F_Num c t z q := by
  unfold F_Num15 F_Num
  rw [May15_eq]
  cases F_May c t z q <;> simp
  cases q <;> simp <;> omega
theorem Len_pos {c t z : Int} {q : Bool} (h : 1 ≤ z) : 1 ≤ F_Len c t z q ∧ z ≤ 32 * F_Len c t z q ∧ 32 * F_Len c t z q < z + 32 := by
  unfold F_Len F_Sectors
  by_cases h2 : 0 < z % 32 <;> by_cases h3 : z < 0 <;> simp [h2, h3] <;> omega
theorem Num_eq {c t z : Int} {q : Bool} (h : F_May c t z q = true) : F_Num c t z q = ((c * 16 + t) * 257 + z) * 2 + (bif q then 1 else 0) := by
  unfold F_Num
  rw [h]
  cases q <;> simp
theorem Of_Num {c t z : Int} {q : Bool} (h : F_May c t z q = true) : F_Of (F_Num c t z q) = (c, t, z, q, true) := by
  have hb := May_true h
  have hl := (Len_pos (c := c) (t := t) (q := q) hb.2.2.1).1
  have e := Num_eq h
  generalize F_Num c t z q = n at e
  have h0 : 0 ≤ n := by cases q <;> simp at e <;> omega
  have e1 : n / 2 / 257 / 16 = c := by cases q <;> simp at e <;> omega
  have e2 : n / 2 / 257 % 16 = t := by cases q <;> simp at e <;> omega
  have e3 : n / 2 % 257 = z := by cases q <;> simp at e <;> omega
  have e4 : decide (n % 2 = 1) = q := by cases q <;> simp at e ⊢ <;> omega
  unfold F_Of
  rw [e1, e2, e3, e4, h, show decide (n < 0) = false by simp; omega]
  rfl
theorem Of_neg : F_Of (-1) = (0, 0, 0, false, false) := rfl
theorem Num_neg {c t z : Int} {q : Bool} (h : F_May c t z q = false) : F_Num c t z q = -1 := by unfold F_Num; rw [h]; rfl
theorem Of_ok {n : Int} (h : (F_Of n).2.2.2.2 = true) : F_Num (F_Of n).1 (F_Of n).2.1 (F_Of n).2.2.1 (F_Of n).2.2.2.1 = n := by
  revert h
  unfold F_Of
  by_cases h0 : n < 0
  · simp [h0]
  · rw [show decide (n < 0) = false by simp; omega]
    simp only [cond_false]
    cases hm : F_May (n / 2 / 257 / 16) (n / 2 / 257 % 16) (n / 2 % 257) (decide (n % 2 = 1))
    · simp
    · simp only [Bool.not_true, cond_false, forall_const]
      rw [Num_eq hm]
      by_cases h2 : n % 2 = 1 <;> simp [h2] <;> omega
theorem Of15_eq (n : Int) : F_Of15 n = F_Of n := by
  unfold F_Of15 F_Of
  by_cases h0 : n < 0
  · simp [h0]
  · rw [show decide (n < 0) = false by simp; omega]
    simp only [cond_false]
    rw [show n / 8224 = n / 2 / 257 / 16 by omega, show n / 514 % 16 = n / 2 / 257 % 16 by omega, Num15_eq]
    cases hm : F_May (n / 2 / 257 / 16) (n / 2 / 257 % 16) (n / 2 % 257) (decide (n % 2 = 1))
    · rw [Num_neg hm, show decide (¬ (-1 : Int) = n) = true by simp; omega]; rfl
    · rw [Num_eq hm, show decide (¬ ((n / 2 / 257 / 16 * 16 + n / 2 / 257 % 16) * 257 + n / 2 % 257) * 2 + (bif decide (n % 2 = 1) then (1 : Int) else 0) = n) = false by
        by_cases h2 : n % 2 = 1 <;> simp [h2] <;> omega]
      rfl
theorem RefTells_true (c t z : Int) (q : Bool) (n : Int) : F_RefTells c t z q n = true := by
  unfold F_RefTells
  rw [fixed_true, May15_eq, Num15_eq, Len15_eq, Of15_eq, eqLV_refl4]
  simp [andB]
theorem RefBack_true (c t z : Int) (q : Bool) (d u y : Int) (p : Bool) (n : Int) : F_RefBack c t z q d u y p n = true := by
  unfold F_RefBack
  rw [fixed_true]
  simp only [eqLV_ref]
  have h3 : andB ((F_Of n).2.2.2.2) (decide (¬ (F_Num ((F_Of n).1) ((F_Of n).2.1) ((F_Of n).2.2.1) ((F_Of n).2.2.2.1)) = n)) = false := by
    cases h : (F_Of n).2.2.2.2
    · rfl
    · rw [Of_ok h]; simp [andB]
  rw [h3]
  cases h1 : F_May c t z q
  · rw [Num_neg h1, Of_neg]; simp [orB, andB]
  · rw [Of_Num h1]
    simp only [Bool.not_true, orB, andB, and_self, not_true, decide_false, Bool.and_false, Bool.or_false, cond_false]
    cases h2 : F_May d u y p
    · rw [Num_neg h2]; simp
    · have e1 := Of_Num h1
      have e2 := Of_Num h2
      by_cases e : F_Num c t z q = F_Num d u y p
      · rw [e, e2] at e1
        simp only [Prod.mk.injEq] at e1
        obtain ⟨rfl, rfl, rfl, rfl, _⟩ := e1
        simp
      · have : ¬ (c = d ∧ t = u ∧ z = y ∧ q = p) := by rintro ⟨rfl, rfl, rfl, rfl⟩; exact e rfl
        simp [e, this]
theorem RefSectors_true (c t z : Int) (q : Bool) : F_RefSectors c t z q = true := by
  unfold F_RefSectors
  rw [fixed_true]
  cases h1 : F_May c t z q
  · simp [orB]
  · have hb := May_true h1
    have hl := Len_pos (c := c) (t := t) (q := q) hb.2.2.1
    have hq : q = true ∨ z = 256 := by
      revert h1
      unfold F_May
      cases q
      · by_cases hz : z = 256
        · simp [hz]
        · simp [andB, hz]
      · simp
    simp only [orB, andB, Bool.not_true, Bool.or_false, cond_false, Bool.and_eq_true, Bool.or_eq_true, decide_eq_true_eq]
    rcases hq with rfl | rfl
    · simp; omega
    · refine ⟨⟨⟨⟨⟨?_, ?_⟩, ?_⟩, ?_⟩, ?_⟩, .inr ?_⟩ <;> omega
theorem RefOrder_true (c t z : Int) (q : Bool) (d u y : Int) (p : Bool) : F_RefOrder c t z q d u y p = true := by
  unfold F_RefOrder
  rw [fixed_true]
  cases h1 : F_May c t z q
  · simp [orB]
  · cases h2 : F_May d u y p
    · simp [orB]
    · have hb := May_true h1
      have hl := Len_pos (c := c) (t := t) (q := q) hb.2.2.1
      have hb' := May_true h2
      have hl' := Len_pos (c := d) (t := u) (q := p) hb'.2.2.1
      rw [Num_eq h1, Num_eq h2]
      have k1 : (bif q then (1 : Int) else 0) ≤ 1 ∧ 0 ≤ (bif q then (1 : Int) else 0) := by cases q <;> simp
      have k2 : (bif p then (1 : Int) else 0) ≤ 1 ∧ 0 ≤ (bif p then (1 : Int) else 0) := by cases p <;> simp
      generalize (bif q then (1 : Int) else 0) = b1 at *
      generalize (bif p then (1 : Int) else 0) = b2 at *
      simp only [orB, Bool.not_true, Bool.or_false, cond_false]
      by_cases hcd : c = d
      · subst hcd
        simp only [not_true, decide_false, cond_false, Bool.or_eq_true, decide_eq_true_eq, decide_eq_decide]
        by_cases htu : t = u
        · exact .inl htu
        · exact .inr (by constructor <;> intro h <;> omega)
      · simp only [hcd, not_false_eq_true, decide_true, cond_true, decide_eq_true_eq, decide_eq_decide]
        constructor <;> intro h <;> omega
end Go.Proofs.Ytmfnefljkfhdnaa
