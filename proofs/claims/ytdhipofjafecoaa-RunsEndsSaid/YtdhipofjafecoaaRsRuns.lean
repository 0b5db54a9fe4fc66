/- Free room in a row of marks: what the functions of chapter 13 compute; plain, no program. -/
import Derived.Test.YtdhipofjafecoaaRsBitsM
set_option linter.unusedVariables false
set_option linter.unusedSimpArgs false
namespace Go.Proofs.Ytdhipofjafecoaa.RS
open Go Go.RowKit
/-! ### The runs, as they come -/
def curN (u : Nat → Bool) (len : Nat) : Nat → Nat
  | 0 => 0
  | k + 1 => if k < len ∧ u k = false then curN u len k + 1 else 0
def runsN (u : Nat → Bool) (len : Nat) : Nat → List (Int × Int)
  | 0 => []
  | k + 1 => if k < len ∧ u k = false then runsN u len k else if 0 < curN u len k then runsN u len k ++ [((k : Int) - curN u len k, (curN u len k : Int))] else runsN u len k
def runsL (u : Nat → Bool) (len : Nat) : List (Int × Int) := runsN u len (len + 1)
theorem curN_le (u : Nat → Bool) (len : Nat) : ∀ k, curN u len k ≤ k
  | 0 => Nat.le_refl _
  | k + 1 => by
    have := curN_le u len k
    simp only [curN]; split <;> omega
theorem runsN_pre (u : Nat → Bool) (len : Nat) : ∀ (d k : Nat), ∃ r, runsN u len (k + d) = runsN u len k ++ r
  | 0, k => ⟨[], by simp⟩
  | d + 1, k => by
    obtain ⟨r, h⟩ := runsN_pre u len d k
    rw [← Nat.add_assoc]
    simp only [runsN]
    split
    · exact ⟨r, h⟩
    · split
      · exact ⟨r ++ [_], by rw [h, List.append_assoc]⟩
      · exact ⟨r, h⟩
theorem runsN_prefix (u : Nat → Bool) (len : Nat) {k : Nat} (h : k ≤ len + 1) : runsN u len k <+: runsL u len := by
  obtain ⟨r, e⟩ := runsN_pre u len (len + 1 - k) k
  rw [show k + (len + 1 - k) = len + 1 by omega] at e
  exact ⟨r, e.symm⟩
theorem runsN_len (u : Nat → Bool) (len : Nat) {k : Nat} (h : k ≤ len) (hu : ¬ (k < len ∧ u k = false)) (hc : 0 < curN u len k) : (runsN u len k).length < (runsL u len).length := by
  obtain ⟨r, e⟩ := runsN_prefix u len (k := k + 1) (by omega)
  rw [← e]
  simp only [runsN]
  rw [if_neg hu, if_pos hc]
  simp
/-! ### Where there is room -/
def fits (u : Nat → Bool) (len : Nat) (at_ n : Nat) : Prop := at_ + n ≤ len ∧ ∀ i, i < n → u (at_ + i) = false
theorem cur_free (u : Nat → Bool) (len : Nat) : ∀ k, ∀ i, k - curN u len k ≤ i → i < k → i < len ∧ u i = false
  | 0, i, _, h => by omega
  | k + 1, i, h1, h2 => by
    simp only [curN] at h1
    split at h1
    · rename_i hu
      by_cases e : i = k
      · subst e; exact hu
      · exact cur_free u len k i (by have := curN_le u len k; omega) (by omega)
    · omega
def fstR (n : Nat) (l : List (Int × Int)) : Option (Int × Int) := l.find? fun p => decide ((n : Int) ≤ p.2)
theorem fstR_snoc (n : Nat) (l : List (Int × Int)) (p : Int × Int) : fstR n (l ++ [p]) = (fstR n l).or (if (n : Int) ≤ p.2 then some p else none) := by
  unfold fstR
  rw [List.find?_append]
  congr 1
  simp [List.find?]
  split <;> simp_all
theorem fst_inv (u : Nat → Bool) (len : Nat) {n : Nat} (hn : 1 ≤ n) : ∀ k, k ≤ len + 1 →
    (∀ p, fstR n (runsN u len k) = some p → ∃ a : Nat, p.1 = a ∧ fits u len a n ∧ ∀ b, b < a → ¬ fits u len b n) ∧ (fstR n (runsN u len k) = none → ∀ b, fits u len b n → k - curN u len k ≤ b)
  | 0, _ => ⟨fun p h => by simp [runsN, fstR] at h, fun _ b _ => by omega⟩
  | k + 1, hk => by
    obtain ⟨h1, h2⟩ := fst_inv u len hn k (by omega)
    have hc := curN_le u len k
    have hfree := cur_free u len k
    simp only [runsN, curN]
    split
    · exact ⟨h1, fun h b hb => by have := h2 h b hb; omega⟩
    · rename_i hu
      have next : fstR n (runsN u len k) = none → (curN u len k < n) → ∀ b, fits u len b n → k + 1 ≤ b := fun h hlt b hb => by
        have h3 := h2 h b hb
        apply Classical.byContradiction
        intro hc2
        have h4 := hb.2 (k - b) (by omega)
        rw [show b + (k - b) = k by omega] at h4
        exact hu ⟨by have := hb.1; omega, h4⟩
      split
      · rename_i hpos
        rw [fstR_snoc]
        cases hq : fstR n (runsN u len k) with
        | some p => exact ⟨fun p' hp => by simp at hp; subst hp; exact h1 p hq, fun h => by simp at h⟩
        | none =>
          by_cases hge : (n : Int) ≤ (curN u len k : Int)
          · rw [if_pos hge]
            refine ⟨fun p hp => ?_, fun h => by simp at h⟩
            simp at hp
            subst hp
            refine ⟨k - curN u len k, by show (k : Int) - _ = _; omega, ⟨?_, fun i hi => ?_⟩, fun b hb hf => ?_⟩
            · have := hfree (k - 1) (by omega) (by omega); omega
            · exact (hfree (k - curN u len k + i) (by omega) (by omega)).2
            · have := h2 hq b hf; omega
          · rw [if_neg hge]
            exact ⟨fun p hp => by simp at hp, fun _ b hb => by have := next hq (by omega) b hb; omega⟩
      · exact ⟨h1, fun h b hb => by have := next h (by omega) b hb; omega⟩
theorem fst_some {u : Nat → Bool} {len n : Nat} (hn : 1 ≤ n) {p : Int × Int} (h : fstR n (runsL u len) = some p) : ∃ a : Nat, p.1 = a ∧ fits u len a n ∧ ∀ b, b < a → ¬ fits u len b n := (fst_inv u len hn (len + 1) (Nat.le_refl _)).1 p h
theorem fst_none {u : Nat → Bool} {len n : Nat} (hn : 1 ≤ n) (h : fstR n (runsL u len) = none) (b : Nat) : ¬ fits u len b n := fun hf => by
  have h1 := (fst_inv u len hn (len + 1) (Nat.le_refl _)).2 h b hf
  have h2 : curN u len (len + 1) = 0 := by simp [curN]
  have := hf.1
  omega
def maxR (l : List (Int × Int)) : Int := l.foldl (fun m p => max m p.2) 0
theorem maxR_snoc (l : List (Int × Int)) (p : Int × Int) : maxR (l ++ [p]) = max (maxR l) p.2 := by simp [maxR]
theorem maxR_ge (l : List (Int × Int)) : 0 ≤ maxR l := by
  unfold maxR
  suffices ∀ (l : List (Int × Int)) (m : Int), 0 ≤ m → 0 ≤ l.foldl (fun m p => max m p.2) m from this l 0 (by decide)
  intro l
  induction l with
  | nil => intro m h; exact h
  | cons p l ih => intro m h; exact ih _ (show 0 ≤ max m p.2 by omega)
theorem maxR_iff (l : List (Int × Int)) {n : Nat} (hn : 1 ≤ n) : (n : Int) ≤ maxR l ↔ (fstR n l).isSome = true := by
  suffices ∀ (r : List (Int × Int)), (n : Int) ≤ maxR r.reverse ↔ (fstR n r.reverse).isSome = true by simpa using this l.reverse
  intro r
  induction r with
  | nil => simp [maxR, fstR]; omega
  | cons p r ih =>
    rw [List.reverse_cons, maxR_snoc, fstR_snoc]
    cases hq : fstR n r.reverse with
    | some q => rw [hq] at ih; have := ih.2 rfl; simp; omega
    | none =>
      rw [hq] at ih
      have : ¬ (n : Int) ≤ maxR r.reverse := fun h => by have := ih.1 h; simp at this
      by_cases h2 : (n : Int) ≤ p.2
      · simp [h2]; omega
      · simp [h2]; omega
def sumR (l : List (Int × Int)) : Int := l.foldl (fun m p => m + p.2) 0
theorem sumR_snoc (l : List (Int × Int)) (p : Int × Int) : sumR (l ++ [p]) = sumR l + p.2 := by simp [sumR]
def cntN (u : Nat → Bool) : Nat → Nat
  | 0 => 0
  | k + 1 => cntN u k + if u k = false then 1 else 0
theorem cntN_le (u : Nat → Bool) : ∀ k, cntN u k ≤ k
  | 0 => Nat.le_refl _
  | k + 1 => by have := cntN_le u k; simp only [cntN]; split <;> omega
theorem sum_inv (u : Nat → Bool) (len : Nat) : ∀ k, k ≤ len → sumR (runsN u len k) + curN u len k = cntN u k
  | 0, _ => rfl
  | k + 1, hk => by
    have ih := sum_inv u len k (by omega)
    simp only [runsN, curN, cntN]
    by_cases hu : u k = false
    · rw [if_pos ⟨by omega, hu⟩, if_pos ⟨by omega, hu⟩, if_pos hu]; omega
    · have hn : ¬ (k < len ∧ u k = false) := fun h => hu h.2
      rw [if_neg hn, if_neg hn, if_neg hu]
      split
      · rw [sumR_snoc]; simp only []; omega
      · omega
theorem sum_runs (u : Nat → Bool) (len : Nat) : sumR (runsL u len) = cntN u len := by
  have h := sum_inv u len len (Nat.le_refl _)
  unfold runsL
  simp only [runsN]
  rw [if_neg (by omega)]
  split
  · rw [sumR_snoc]; simp only []; omega
  · omega
/-! ### As the code adds up -/
def sumW (l : List (Int × Int)) : Int := l.foldl (fun s p => wrap64 (s + p.2)) 0
theorem sumW_snoc (l : List (Int × Int)) (p : Int × Int) : sumW (l ++ [p]) = wrap64 (sumW l + p.2) := by simp [sumW]
theorem wrap64_id {n : Int} (h0 : 0 ≤ n) (h1 : n < 9223372036854775808) : wrap64 n = n := by unfold wrap64; omega
theorem sumW_runs (u : Nat → Bool) (len : Nat) (hl : len ≤ 140737488355328) : ∀ k, k ≤ len + 1 → sumW (runsN u len k) = sumR (runsN u len k)
  | 0, _ => rfl
  | k + 1, hk => by
    have ih := sumW_runs u len hl k (by omega)
    simp only [runsN]
    split
    · exact ih
    · split
      · rw [sumW_snoc, sumR_snoc, ih]
        have h := sum_inv u len k (by omega)
        have h2 := cntN_le u k
        exact wrap64_id (by simp only []; omega) (by simp only []; omega)
      · exact ih
theorem sumW_all (u : Nat → Bool) (len : Nat) (hl : len ≤ 140737488355328) : sumW (runsL u len) = cntN u len := by
  unfold runsL
  rw [sumW_runs u len hl _ (Nat.le_refl _)]
  exact sum_runs u len
def hitP (n : Int) (p : Int × Int) : Bool := decide (1 ≤ n) && decide (n ≤ p.2)
def fstZ (n : Int) (l : List (Int × Int)) : Int := ((l.find? (hitP n)).map (·.1)).getD (-1)
theorem hit_snoc_no {n : Int} {l : List (Int × Int)} {p : Int × Int} (h : l.find? (hitP n) = none) (hp : hitP n p = false) : (l ++ [p]).find? (hitP n) = none := by
  rw [List.find?_append, h]; simp [List.find?, hp]
theorem fstZ_hit {n : Int} {i r : List (Int × Int)} {p : Int × Int} (h : i.find? (hitP n) = none) (hp : hitP n p = true) : fstZ n (i ++ [p] ++ r) = p.1 := by
  unfold fstZ
  rw [List.append_assoc, List.find?_append, h]
  simp [List.find?, hp]
theorem fstZ_no {n : Int} {l : List (Int × Int)} (h : l.find? (hitP n) = none) : fstZ n l = -1 := by unfold fstZ; rw [h]; rfl
theorem none_all {n : Int} {l : List (Int × Int)} (h : l.find? (hitP n) = none) (a b : Int) (hm : (a, b) ∈ l) : hitP n (a, b) = false := by
  have := List.find?_eq_none.1 h (a, b) hm
  simpa using this
end Go.Proofs.Ytdhipofjafecoaa.RS
