/- Codes of given lengths: what the functions of chapter 6 compute; plain, no program. -/
import Derived.Test.YtpjiobflmcmlmaaRsBitsM
import Derived.Test.YtpjiobflmcmlmaaRsWireM
set_option linter.unusedVariables false
set_option linter.unusedSimpArgs false
namespace Go.Proofs.Ytpjiobflmcmlmaa.RS
open Go Go.RowKit
/-- How many of the first k have length n. -/
def cntL (l : List (List Value)) (n : Int) : Nat → Int
  | 0 => 0
  | k + 1 => cntL l n k + (if num l k 0 = n then 1 else 0)
theorem cntL_bd (l : List (List Value)) (n : Int) : ∀ k, 0 ≤ cntL l n k ∧ cntL l n k ≤ k
  | 0 => by simp [cntL]
  | k + 1 => by have := cntL_bd l n k; simp only [cntL]; split <;> omega
theorem cntL_mono (l : List (List Value)) (n : Int) (k : Nat) : ∀ d, cntL l n k ≤ cntL l n (k + d)
  | 0 => by simp
  | d + 1 => by have := cntL_mono l n k d; rw [← Nat.add_assoc]; simp only [cntL]; split <;> omega
theorem cntL_lt (l : List (List Value)) {n : Int} {j k : Nat} (hj : num l j 0 = n) (h : j < k) : cntL l n j < cntL l n k := by
  have h1 : cntL l n (j + 1) = cntL l n j + 1 := by simp [cntL, hj]
  have h2 := cntL_mono l n (j + 1) (k - (j + 1))
  rw [show j + 1 + (k - (j + 1)) = k by omega] at h2
  omega
/-- What stands behind the last code of length n. -/
def endL (l : List (List Value)) : Nat → Int
  | 0 => 0
  | n + 1 => 2 * endL l n + cntL l ((n + 1 : Nat) : Int) l.length
def baseL (l : List (List Value)) (n : Nat) : Int := 2 * endL l (n - 1)
theorem endL_eq (l : List (List Value)) {n : Nat} (h : 1 ≤ n) : endL l n = baseL l n + cntL l (n : Int) l.length := by
  obtain ⟨m, rfl⟩ : ∃ m, n = m + 1 := ⟨n - 1, by omega⟩
  rfl
theorem endL_ge (l : List (List Value)) : ∀ n, 0 ≤ endL l n
  | 0 => by simp [endL]
  | n + 1 => by have := endL_ge l n; have := cntL_bd l ((n + 1 : Nat) : Int) l.length; simp only [endL]; omega
def codL (l : List (List Value)) (j : Nat) : Int := baseL l (num l j 0).toNat + cntL l (num l j 0) j
def lensOk (l : List (List Value)) : Bool := (List.range l.length).all fun j => decide (0 ≤ num l j 0) && decide (num l j 0 ≤ 15)
theorem lensOk_iff {l : List (List Value)} : lensOk l = true ↔ ∀ j, j < l.length → 0 ≤ num l j 0 ∧ num l j 0 ≤ 15 := by
  unfold lensOk
  rw [List.all_eq_true]
  simp only [List.mem_range, Bool.and_eq_true, decide_eq_true_eq]
/-- The sum that says how much the codes fill. -/
def kraftN (l : List (List Value)) : Nat → Int
  | 0 => 0
  | k + 1 => kraftN l k + (bif andB (decide (1 ≤ num l k 0)) (decide (num l k 0 ≤ 15)) then 2 ^ ((15 : Int) - num l k 0).toNat else 0)
def kraftL (l : List (List Value)) : Int := kraftN l l.length
theorem kraft_term (n : Int) : 0 ≤ (bif andB (decide (1 ≤ n)) (decide (n ≤ 15)) then (2 : Int) ^ ((15 : Int) - n).toNat else 0) ∧ (bif andB (decide (1 ≤ n)) (decide (n ≤ 15)) then (2 : Int) ^ ((15 : Int) - n).toNat else 0) ≤ 16384 := by
  cases h : andB (decide (1 ≤ n)) (decide (n ≤ 15)) with
  | false => simp
  | true =>
    simp [andB] at h
    simp only [cond_true]
    have : ((15 : Int) - n).toNat ≤ 14 := by omega
    generalize ((15 : Int) - n).toNat = m at this
    match m, this with
    | 0, _ | 1, _ | 2, _ | 3, _ | 4, _ | 5, _ | 6, _ | 7, _ | 8, _ | 9, _ | 10, _ | 11, _ | 12, _ | 13, _ | 14, _ => decide
    | m + 15, h => omega
theorem kraftN_bd (l : List (List Value)) : ∀ k, 0 ≤ kraftN l k ∧ kraftN l k ≤ 16384 * k
  | 0 => by simp [kraftN]
  | k + 1 => by
    have := kraftN_bd l k
    have := kraft_term (num l k 0)
    simp only [kraftN]
    omega
/-- The share of those of length at most n, counted in codes of length n. -/
def kraftUp (l : List (List Value)) (n : Nat) : Nat → Int
  | 0 => 0
  | k + 1 => kraftUp l n k + (if 1 ≤ num l k 0 ∧ num l k 0 ≤ n then 2 ^ ((n : Int) - num l k 0).toNat else 0)
theorem kraftUp_step (l : List (List Value)) (n : Nat) : ∀ k, kraftUp l (n + 1) k = 2 * kraftUp l n k + cntL l ((n + 1 : Nat) : Int) k
  | 0 => rfl
  | k + 1 => by
    have ih := kraftUp_step l n k
    simp only [kraftUp, cntL]
    rcases Int.lt_trichotomy (num l k 0) ((n + 1 : Nat) : Int) with h | h | h
    · rw [if_neg (show ¬ num l k 0 = ((n + 1 : Nat) : Int) by omega)]
      by_cases h1 : 1 ≤ num l k 0
      · rw [if_pos (by omega), if_pos (by omega), show (((n + 1 : Nat) : Int) - num l k 0).toNat = ((n : Int) - num l k 0).toNat + 1 by omega, Int.pow_succ]
        omega
      · rw [if_neg (by omega), if_neg (by omega)]; omega
    · rw [if_pos h, if_pos (by omega), if_neg (by omega), show (((n + 1 : Nat) : Int) - num l k 0).toNat = 0 by omega, Int.pow_zero]
      omega
    · rw [if_neg (show ¬ num l k 0 = ((n + 1 : Nat) : Int) by omega), if_neg (by omega), if_neg (by omega)]; omega
theorem endL_up (l : List (List Value)) : ∀ n, endL l n = kraftUp l n l.length
  | 0 => by
    have : ∀ k, kraftUp l 0 k = 0 := fun k => by
      induction k with
      | zero => rfl
      | succ k ih => simp only [kraftUp, ih]; rw [if_neg (by omega)]; rfl
    rw [this]; rfl
  | n + 1 => by rw [endL, kraftUp_step, endL_up l n]
theorem kraftUp_15 (l : List (List Value)) : ∀ k, kraftUp l 15 k = kraftN l k
  | 0 => rfl
  | k + 1 => by
    simp only [kraftUp, kraftN, kraftUp_15 l k]
    by_cases h : 1 ≤ num l k 0 ∧ num l k 0 ≤ 15
    · rw [if_pos (show 1 ≤ num l k 0 ∧ num l k 0 ≤ ((15 : Nat) : Int) from h), decide_eq_true h.1, decide_eq_true h.2]; rfl
    · rw [if_neg (show ¬ (1 ≤ num l k 0 ∧ num l k 0 ≤ ((15 : Nat) : Int)) from h)]
      have : andB (decide (1 ≤ num l k 0)) (decide (num l k 0 ≤ 15)) = false := by simp [andB]; omega
      rw [this]; rfl
theorem endL_15 (l : List (List Value)) : endL l 15 = kraftL l := by rw [endL_up, kraftUp_15]; rfl
theorem endL_grow (l : List (List Value)) (n : Nat) : ∀ d, endL l n * 2 ^ d ≤ endL l (n + d)
  | 0 => by simp
  | d + 1 => by
    have ih := endL_grow l n d
    have := cntL_bd l ((n + d + 1 : Nat) : Int) l.length
    rw [← Nat.add_assoc, endL, Int.pow_succ, ← Int.mul_assoc]
    omega
theorem endL_le {l : List (List Value)} (h : kraftL l ≤ 32768) {n : Nat} (hn : n ≤ 15) : endL l n ≤ 2 ^ n := by
  have h1 := endL_grow l n (15 - n)
  rw [show n + (15 - n) = 15 by omega, endL_15] at h1
  have hp : (0 : Int) < 2 ^ (15 - n) := Int.pow_pos (by decide)
  have h2 : (2 : Int) ^ n * 2 ^ (15 - n) = 32768 := by rw [← Int.pow_add, show n + (15 - n) = 15 by omega]; rfl
  apply Classical.byContradiction
  intro hc
  have h3 : ((2 : Int) ^ n + 1) * 2 ^ (15 - n) ≤ endL l n * 2 ^ (15 - n) := Int.mul_le_mul_of_nonneg_right (by omega) (by omega)
  rw [Int.add_mul, h2] at h3
  omega
/-- A code lies between its length's first one and the end of its length's. -/
theorem codL_bd {l : List (List Value)} {j : Nat} (hj : j < l.length) (h1 : 1 ≤ num l j 0) : baseL l (num l j 0).toNat ≤ codL l j ∧ codL l j < endL l (num l j 0).toNat := by
  have h2 := cntL_bd l (num l j 0) j
  have h3 := cntL_lt l (n := num l j 0) rfl hj
  rw [endL_eq l (by omega), show (((num l j 0).toNat : Nat) : Int) = num l j 0 by omega]
  unfold codL
  omega
theorem codL_pow {l : List (List Value)} (hk : kraftL l ≤ 32768) {j : Nat} (hj : j < l.length) (h1 : 1 ≤ num l j 0) (h2 : num l j 0 ≤ 15) : 0 ≤ codL l j ∧ codL l j < 2 ^ (num l j 0).toNat := by
  have h3 := codL_bd hj h1
  have h4 := endL_le hk (n := (num l j 0).toNat) (by omega)
  have h5 := endL_ge l ((num l j 0).toNat - 1)
  unfold baseL at h3
  omega
/-- A code of a longer one, cut, lies behind all of the shorter length. -/
theorem cut_ge {l : List (List Value)} {n m : Nat} (h : n < m) {c : Int} (hc : baseL l m ≤ c) : endL l n ≤ c / 2 ^ (m - n) := by
  have h1 := endL_grow l n (m - 1 - n)
  rw [show n + (m - 1 - n) = m - 1 by omega] at h1
  have hp : (0 : Int) < 2 ^ (m - n) := Int.pow_pos (by decide)
  rw [Int.le_ediv_iff_mul_le hp, show m - n = (m - 1 - n) + 1 by omega, Int.pow_succ, ← Int.mul_assoc]
  unfold baseL at hc
  omega
/-- What v's first n bits are: is there a code of that length? -/
def inL (l : List (List Value)) (n : Nat) (c : Int) : Prop := baseL l n ≤ c ∧ c < endL l n
theorem inL_sym {l : List (List Value)} {n : Nat} (hn : 1 ≤ n) {c : Int} (h : inL l n c) : ∃ j, j < l.length ∧ num l j 0 = n ∧ codL l j = c := by
  obtain ⟨h1, h2⟩ := h
  rw [endL_eq l hn] at h2
  have key : ∀ k : Nat, ∀ r : Int, 0 ≤ r → r < cntL l (n : Int) k → ∃ j, j < k ∧ num l j 0 = n ∧ cntL l (n : Int) j = r := by
    intro k
    induction k with
    | zero => intro r h0 h1; simp [cntL] at h1; omega
    | succ k ih =>
      intro r h0 h1
      simp only [cntL] at h1
      by_cases hr : r < cntL l (n : Int) k
      · obtain ⟨j, a, b, c⟩ := ih r h0 hr
        exact ⟨j, by omega, b, c⟩
      · split at h1
        · rename_i hk
          exact ⟨k, by omega, hk, by omega⟩
        · omega
  obtain ⟨j, h3, h4, h5⟩ := key l.length (c - baseL l n) (by omega) (by omega)
  refine ⟨j, h3, h4, ?_⟩
  unfold codL
  rw [h4, Int.toNat_natCast, h5]; omega
theorem codL_inj {l : List (List Value)} {i j : Nat} (h : num l i 0 = num l j 0) (hc : codL l i = codL l j) : i = j := by
  unfold codL at hc
  rw [h] at hc
  rcases Nat.lt_trichotomy i j with hl | he | hg
  · have := cntL_lt l (n := num l j 0) h hl; omega
  · exact he
  · have := cntL_lt l (n := num l j 0) rfl hg; omega
/-! ### The codes as a row -/
def cell2 (a b : Int) : List Value := [Value.int .i64 a, Value.int .i64 b]
def hasOut (l : List (List Value)) (n : Int) (i j : Nat) : Bool := decide (1 ≤ num l j 0 ∧ (num l j 0 < n ∨ (num l j 0 = n ∧ j < i)))
def outN (l : List (List Value)) (n : Int) (i : Nat) : List (List Value) := (List.range l.length).map fun j => bif hasOut l n i j then cell2 (num l j 0) (codL l j) else cell2 0 0
theorem outN_len (l : List (List Value)) (n : Int) (i : Nat) : (outN l n i).length = l.length := by simp [outN]
theorem outN_congr {l : List (List Value)} {n m : Int} {i k : Nat} (h : ∀ j, j < l.length → hasOut l n i j = hasOut l m k j) : outN l n i = outN l m k := by
  unfold outN
  apply List.map_congr_left
  intro j hj
  rw [h j (List.mem_range.1 hj)]
theorem outN_next (l : List (List Value)) (n : Int) : outN l n l.length = outN l (n + 1) 0 := outN_congr fun j hj => by
  unfold hasOut
  exact decide_eq_decide.2 ⟨fun h => by omega, fun h => by omega⟩
theorem outN_zero (l : List (List Value)) : outN l 1 0 = List.replicate l.length (cell2 0 0) := by
  apply List.ext_getElem
  · simp [outN]
  · intro j h1 h2
    simp only [outN, List.getElem_map, List.getElem_range, List.getElem_replicate]
    have : hasOut l 1 0 j = false := decide_eq_false (by omega)
    rw [this]; rfl
theorem outN_skip {l : List (List Value)} {n : Int} {i : Nat} (h : ¬ num l i 0 = n) : outN l n (i + 1) = outN l n i := outN_congr fun j hj => by
  unfold hasOut
  refine decide_eq_decide.2 ⟨fun hh => ?_, fun hh => by omega⟩
  by_cases e : j = i
  · subst e; omega
  · omega
theorem outN_set {l : List (List Value)} {n : Int} {i : Nat} (hi : i < l.length) (h1 : 1 ≤ n) (h : num l i 0 = n) : (outN l n i).set i (cell2 n (baseL l n.toNat + cntL l n i)) = outN l n (i + 1) := by
  apply List.ext_getElem
  · simp [outN]
  · intro j h2 h3
    simp only [List.length_set, outN_len] at h2
    by_cases e : i = j
    · subst e
      rw [List.getElem_set_self]
      simp only [outN, List.getElem_map, List.getElem_range]
      have : hasOut l n (i + 1) i = true := decide_eq_true (by omega)
      rw [this, cond_true]
      unfold codL
      rw [h]
    · rw [List.getElem_set_ne e]
      simp only [outN, List.getElem_map, List.getElem_range]
      have : hasOut l n i j = hasOut l n (i + 1) j := by
        unfold hasOut
        exact decide_eq_decide.2 ⟨fun hh => by omega, fun hh => by omega⟩
      rw [this]
def codesL (l : List (List Value)) : List (List Value) := outN l 16 0
def badL (l : List (List Value)) : Bool := orB (orB (decide ((300 : Int) < (l.length : Int))) (!(lensOk l))) (decide ((32768 : Int) < kraftL l))
def wCodes (l : List (List Value)) : List (List Value) × Bool := bif badL l then ([], false) else (codesL l, true)
theorem badL_1 {l : List (List Value)} (h : (300 : Int) < (l.length : Int)) : badL l = true := by unfold badL; rw [decide_eq_true h]; rfl
theorem badL_2 {l : List (List Value)} {i : Int} (h0 : 0 ≤ i) (hi : i < (l.length : Int)) (h : vI (cellAt l i.toNat 0) < 0 ∨ 15 < vI (cellAt l i.toNat 0)) : badL l = true := by
  unfold badL
  have : lensOk l = false := by
    cases hq : lensOk l with
    | false => rfl
    | true => have := lensOk_iff.1 hq i.toNat (by omega); unfold num at this; omega
  rw [this]; cases decide ((300 : Int) < (l.length : Int)) <;> rfl
theorem badL_3 {l : List (List Value)} (h : (32768 : Int) < kraftL l) : badL l = true := by
  unfold badL; rw [decide_eq_true h]; cases decide ((300 : Int) < (l.length : Int)) <;> cases lensOk l <;> rfl
theorem badL_no {l : List (List Value)} : badL l = false ↔ ((l.length : Int) ≤ 300 ∧ (∀ j, j < l.length → 0 ≤ num l j 0 ∧ num l j 0 ≤ 15) ∧ kraftL l ≤ 32768) := by
  rw [← lensOk_iff]
  unfold badL
  simp [orB]
  constructor
  · rintro ⟨⟨a, b⟩, c⟩; exact ⟨by omega, b, c⟩
  · rintro ⟨a, b, c⟩; exact ⟨⟨by omega, b⟩, c⟩
theorem wCodes_no {l : List (List Value)} (h : badL l = true) : wCodes l = ([], false) := by unfold wCodes; rw [h]; rfl
theorem wCodes_yes {l : List (List Value)} (h : badL l = false) : wCodes l = (codesL l, true) := by unfold wCodes; rw [h]; rfl
theorem wCodes_len (l : List (List Value)) : (wCodes l).1.length ≤ l.length := by
  unfold wCodes
  cases badL l
  · simp only [cond_false]; unfold codesL; rw [outN_len]; exact Nat.le_refl _
  · exact Nat.zero_le _
theorem codes_at {l : List (List Value)} {j : Nat} (hj : j < l.length) (h1 : 0 ≤ num l j 0 ∧ num l j 0 ≤ 15) : vI (cellAt (codesL l) j 0) = num l j 0 ∧ vI (cellAt (codesL l) j 1) = if num l j 0 = 0 then 0 else codL l j := by
  unfold codesL cellAt outN
  rw [show ((List.range l.length).map fun j => bif hasOut l 16 0 j then cell2 (num l j 0) (codL l j) else cell2 0 0).getD j [] = bif hasOut l 16 0 j then cell2 (num l j 0) (codL l j) else cell2 0 0 by simp [List.getD, hj]]
  by_cases h : num l j 0 = 0
  · have : hasOut l 16 0 j = false := decide_eq_false (by omega)
    rw [this, if_pos h, h]; exact ⟨rfl, rfl⟩
  · have : hasOut l 16 0 j = true := decide_eq_true (by omega)
    rw [this, if_neg h]; exact ⟨rfl, rfl⟩
/-! ### What is put and taken, as the document does -/
theorem appN_ref {n : Int} (h0 : 0 ≤ n) (h1 : n < 4611686018427387904) (k : Nat) : appN n (k + 1) = [Value.bool (decide (n / 2 ^ k % 2 = 1))] :: appN n k := by
  have := ediv_pow_le h0 k
  show [Value.bool (decide (bitop .and .i64 (n / 2 ^ ((k : Nat) : Int).toNat) 1 = 1))] :: appN n k = _
  rw [and1 (by simpa using this.1) (by simp; omega)]
  simp
theorem bPut_w {xs : List (List Value)} {n w : Int} (h : w < 0 ∨ 30 < w) : bPut xs n w = ([], false) := by
  unfold bPut
  have : orB (orB (orB (decide (w < 0)) (decide (30 < w))) (decide (n < 0))) (decide ((1 : Int) * 2 ^ w.toNat ≤ n)) = true := by simp [orB]; omega
  rw [this]; rfl
theorem bPut_n {xs : List (List Value)} {n w : Int} (h : n < 0 ∨ (2 : Int) ^ w.toNat ≤ n) : bPut xs n w = ([], false) := by
  unfold bPut
  have : orB (orB (orB (decide (w < 0)) (decide (30 < w))) (decide (n < 0))) (decide ((1 : Int) * 2 ^ w.toNat ≤ n)) = true := by simp [orB]; rcases h with h | h; exact .inl (.inr h); exact .inr h
  rw [this]; rfl
theorem bPut_go {xs : List (List Value)} {n w : Int} (h0 : 0 ≤ w) (h1 : w ≤ 30) (h2 : 0 ≤ n) (h3 : n < (2 : Int) ^ w.toNat) : bPut xs n w = (xs ++ appN n w.toNat, true) := by
  unfold bPut
  have : orB (orB (orB (decide (w < 0)) (decide (30 < w))) (decide (n < 0))) (decide ((1 : Int) * 2 ^ w.toNat ≤ n)) = false := by simp [orB]; omega
  rw [this]; rfl
theorem bTake_out {xs : List (List Value)} {a w : Int} (h : w < 0 ∨ 30 < w ∨ a < 0 ∨ (xs.length : Int) < a + w ∨ (xs.length : Int) < a) : bTake3 xs a w = (0, 0, false) := by
  unfold bTake3
  have : orB (orB (orB (orB (decide (w < 0)) (decide (30 < w))) (decide (a < 0))) (decide ((xs.length : Int) < a))) (decide ((xs.length : Int) - a < w)) = true := by simp [orB]; omega
  rw [this]; rfl
theorem bTake_in {xs : List (List Value)} {a w : Int} (h : 0 ≤ w ∧ w ≤ 30 ∧ 0 ≤ a ∧ a + w ≤ (xs.length : Int)) : bTake3 xs a w = (takeN xs a w.toNat, a + w, true) := by
  unfold bTake3
  have : orB (orB (orB (orB (decide (w < 0)) (decide (30 < w))) (decide (a < 0))) (decide ((xs.length : Int) < a))) (decide ((xs.length : Int) - a < w)) = false := by simp [orB]; omega
  rw [this]; rfl
theorem bPut_len (n w : Int) : (bPut [] n w).1.length ≤ 30 := by
  unfold bPut
  cases h : orB (orB (orB (decide (w < 0)) (decide (30 < w))) (decide (n < 0))) (decide ((1 : Int) * 2 ^ w.toNat ≤ n)) with
  | true => exact Nat.zero_le _
  | false =>
    simp [orB] at h
    simp only [cond_false, bAppend, List.nil_append, appN_len]
    omega
theorem bTake3_bd (xs : List (List Value)) (a w : Int) : 0 ≤ (bTake3 xs a w).1 ∧ (bTake3 xs a w).1 < 1073741824 ∧ 0 ≤ (bTake3 xs a w).2.1 ∧ (bTake3 xs a w).2.1 ≤ (xs.length : Int) := by
  by_cases h : 0 ≤ w ∧ w ≤ 30 ∧ 0 ≤ a ∧ a + w ≤ (xs.length : Int)
  · rw [bTake_in h]
    have := takeN_bd30 xs a (k := w.toNat) (by omega)
    simp only []
    omega
  · rw [bTake_out (by omega)]
    simp only []
    omega
theorem kraft_yes {l : List (List Value)} {k : Nat} (h : 1 ≤ vI (cellAt l k 0) ∧ vI (cellAt l k 0) ≤ 15) : kraftN l (k + 1) = kraftN l k + 2 ^ ((15 : Int) - vI (cellAt l k 0)).toNat := by
  have e : andB (decide (1 ≤ num l k 0)) (decide (num l k 0 ≤ 15)) = true := by unfold num; rw [decide_eq_true h.1, decide_eq_true h.2]; rfl
  rw [kraftN, e]; rfl
theorem kraft_no {l : List (List Value)} {k : Nat} (h : ¬ (1 ≤ vI (cellAt l k 0) ∧ vI (cellAt l k 0) ≤ 15)) : kraftN l (k + 1) = kraftN l k := by
  have e : andB (decide (1 ≤ num l k 0)) (decide (num l k 0 ≤ 15)) = false := by
    unfold num
    by_cases h1 : 1 ≤ vI (cellAt l k 0)
    · rw [decide_eq_true h1, decide_eq_false (fun h2 => h ⟨h1, h2⟩)]; rfl
    · rw [decide_eq_false h1]; rfl
  rw [kraftN, e]; exact Int.add_zero _
theorem endL_bd {l : List (List Value)} (h : kraftL l ≤ 32768) {n : Nat} (hn : n ≤ 15) : 0 ≤ endL l n ∧ endL l n ≤ 32768 := by
  have h1 := endL_le h hn
  have h2 : (2 : Int) ^ n ≤ 32768 := by
    match n, hn with
    | 0, _ | 1, _ | 2, _ | 3, _ | 4, _ | 5, _ | 6, _ | 7, _ | 8, _ | 9, _ | 10, _ | 11, _ | 12, _ | 13, _ | 14, _ | 15, _ => decide
    | n + 16, h => omega
  exact ⟨endL_ge l n, by omega⟩
theorem inner_bd {l : List (List Value)} (h : kraftL l ≤ 32768) {n : Int} (h1 : 1 ≤ n) (h2 : n ≤ 15) {i : Nat} (hi : i ≤ l.length) : 0 ≤ baseL l n.toNat + cntL l n i ∧ baseL l n.toNat + cntL l n i ≤ 32768 := by
  have q := endL_bd h (n := n.toNat) (by omega)
  have e := endL_eq l (n := n.toNat) (by omega)
  rw [show ((n.toNat : Nat) : Int) = n by omega] at e
  have m := cntL_mono l n i (l.length - i)
  rw [show i + (l.length - i) = l.length by omega] at m
  have c := cntL_bd l n i
  have g := endL_ge l (n.toNat - 1)
  unfold baseL at *
  omega
theorem rep2_succ (k : Nat) : List.replicate k (cell2 0 0) ++ [[Value.int .i64 0, Value.int .i64 0]] = List.replicate (k + 1) (cell2 0 0) := by rw [List.replicate_succ']; rfl
theorem cnt_yes {l : List (List Value)} {n : Int} {i : Nat} (h : vI (cellAt l i 0) = n) : cntL l n (i + 1) = cntL l n i + 1 := by
  rw [cntL, if_pos (show num l i 0 = n from h)]
theorem cnt_no {l : List (List Value)} {n : Int} {i : Nat} (h : ¬ vI (cellAt l i 0) = n) : cntL l n (i + 1) = cntL l n i := by
  rw [cntL, if_neg (show ¬ num l i 0 = n from h)]; exact Int.add_zero _
/-! ### Written and read -/
def wWrite (l : List (List Value)) (s : Int) : List (List Value) × Bool :=
  bif orB (orB (orB (badL l) (decide (s < 0))) (decide ((l.length : Int) ≤ s))) (decide (num l s.toNat 0 = 0)) then ([], false) else (appN (codL l s.toNat) (num l s.toNat 0).toNat, true)
def wrOK (l : List (List Value)) (s : Int) : Prop := badL l = false ∧ 0 ≤ s ∧ s < (l.length : Int) ∧ ¬ num l s.toNat 0 = 0
theorem wWrite_yes {l : List (List Value)} {s : Int} (h : wrOK l s) : wWrite l s = (appN (codL l s.toNat) (num l s.toNat 0).toNat, true) := by
  obtain ⟨h1, h2, h3, h4⟩ := h
  unfold wWrite
  rw [h1, decide_eq_false (show ¬ s < 0 by omega), decide_eq_false (show ¬ (l.length : Int) ≤ s by omega), decide_eq_false h4]; rfl
theorem wWrite_no {l : List (List Value)} {s : Int} (h : badL l = true ∨ s < 0 ∨ (l.length : Int) ≤ s ∨ vI (cellAt l s.toNat 0) = 0) : wWrite l s = ([], false) := by
  unfold wWrite num
  have : orB (orB (orB (badL l) (decide (s < 0))) (decide ((l.length : Int) ≤ s))) (decide (vI (cellAt l s.toNat 0) = 0)) = true := by
    cases hb : badL l with
    | true => simp [orB]
    | false =>
      rw [hb] at h
      simp [orB]
      rcases h with h | h | h | h
      · cases h
      · exact .inl (.inl h)
      · exact .inl (.inr h)
      · exact .inr h
  rw [this]; rfl
theorem wWrite_cases (l : List (List Value)) (s : Int) : (wWrite l s = ([], false) ∧ ¬ wrOK l s) ∨ (wrOK l s ∧ wWrite l s = (appN (codL l s.toNat) (num l s.toNat 0).toNat, true)) := by
  by_cases h : wrOK l s
  · exact .inr ⟨h, wWrite_yes h⟩
  · refine .inl ⟨wWrite_no ?_, h⟩
    unfold wrOK at h
    cases hb : badL l with
    | true => exact .inl rfl
    | false =>
      right
      by_cases h1 : s < 0
      · exact .inl h1
      · by_cases h2 : (l.length : Int) ≤ s
        · exact .inr (.inl h2)
        · right; right
          apply Classical.byContradiction
          intro h3
          exact h ⟨hb, by omega, by omega, h3⟩
/-- The codes' put, as the document writes. -/
theorem put_code {l : List (List Value)} {s : Int} (h : wrOK l s) : bPut [] (vI (cellAt (codesL l) s.toNat 1)) (vI (cellAt (codesL l) s.toNat 0)) = wWrite l s := by
  rw [wWrite_yes h]
  obtain ⟨h1, h2, h3, h4⟩ := h
  have hb := badL_no.1 h1
  have hl := hb.2.1 s.toNat (by omega)
  have c := codes_at (l := l) (j := s.toNat) (by omega) hl
  rw [c.1, c.2, if_neg h4]
  have p := codL_pow hb.2.2 (j := s.toNat) (by omega) (by omega) hl.2
  rw [bPut_go (by omega) (by omega) p.1 p.2, List.nil_append]
def hitR (l b : List (List Value)) (a : Int) (i : Nat) : Bool := andB (decide (¬ num l i 0 = 0)) (andB (bTake3 b a (num l i 0)).2.2 (decide ((bTake3 b a (num l i 0)).1 = codL l i)))
def wRead (l b : List (List Value)) (a : Int) : Int × Int × Bool := bif badL l then (0, 0, false) else match (List.range l.length).find? (hitR l b a) with
  | some i => ((i : Int), a + num l i 0, true)
  | none => (0, 0, false)
theorem wRead_bad {l b : List (List Value)} {a : Int} (h : badL l = true) : wRead l b a = (0, 0, false) := by unfold wRead; rw [h]; rfl
theorem wRead_at {l b : List (List Value)} {a : Int} {i : Nat} (h : badL l = false) (hi : i < l.length) (hh : hitR l b a i = true) (hm : ∀ j, j < i → hitR l b a j = false) : wRead l b a = ((i : Int), a + num l i 0, true) := by
  have e : (List.range l.length).find? (hitR l b a) = some i := by
    rw [List.find?_range_eq_some]
    exact ⟨hh, List.mem_range.2 hi, fun j hj => by simp [hm j hj]⟩
  unfold wRead
  rw [h, e]; rfl
theorem wRead_none {l b : List (List Value)} {a : Int} (h : badL l = false) (hm : ∀ j, j < l.length → hitR l b a j = false) : wRead l b a = (0, 0, false) := by
  have e : (List.range l.length).find? (hitR l b a) = none := List.find?_eq_none.2 fun j hj => by simp [hm j (List.mem_range.1 hj)]
  unfold wRead
  rw [h, e]; rfl
def sameC (xs ys : List (List Value)) : Bool := decide (xs.length = ys.length ∧ ∀ i, i < xs.length → num xs i 0 = num ys i 0 ∧ num xs i 1 = num ys i 1)
theorem sameC_len {xs ys : List (List Value)} (h : ¬ (xs.length : Int) = (ys.length : Int)) : sameC xs ys = false := decide_eq_false fun hh => h (by rw [hh.1])
theorem eqLV2_iff {a b x y : Int} : eqLV [.val (.int .i64 a), .val (.int .i64 b)] [.val (.int .i64 x), .val (.int .i64 y)] = true ↔ a = x ∧ b = y := by simp [eqLV, eqc]
theorem sameC_at {xs ys : List (List Value)} {i : Int} (h0 : 0 ≤ i) (hi : i < (xs.length : Int)) (h : ¬ (num xs i.toNat 0 = num ys i.toNat 0 ∧ num xs i.toNat 1 = num ys i.toNat 1)) : sameC xs ys = false := decide_eq_false fun hh => h (hh.2 i.toNat (by omega))
theorem sameC_all {xs ys : List (List Value)} (hl : (xs.length : Int) = (ys.length : Int)) (h : ∀ i, i < xs.length → num xs i 0 = num ys i 0 ∧ num xs i 1 = num ys i 1) : sameC xs ys = true := decide_eq_true ⟨by omega, h⟩
theorem wCodes_ok (l : List (List Value)) : (wCodes l).2 = !(badL l) := by unfold wCodes; cases badL l <;> rfl
theorem wWrite_len (l : List (List Value)) (s : Int) : (wWrite l s).1.length ≤ 15 := by
  rcases wWrite_cases l s with ⟨e, _⟩ | ⟨h, e⟩
  · rw [e]; exact Nat.zero_le _
  · rw [e]
    have := (badL_no.1 h.1).2.1 s.toNat (by have := h.2.1; have := h.2.2.1; omega)
    rw [appN_len]; omega
theorem codes_vals (l : List (List Value)) (j o : Nat) : vI (cellAt (codesL l) j o) = 0 ∨ (j < l.length ∧ 1 ≤ num l j 0 ∧ num l j 0 ≤ 15 ∧ (vI (cellAt (codesL l) j o) = num l j 0 ∨ vI (cellAt (codesL l) j o) = codL l j)) := by
  by_cases hj : j < l.length
  · unfold codesL cellAt outN
    rw [show ((List.range l.length).map fun j => bif hasOut l 16 0 j then cell2 (num l j 0) (codL l j) else cell2 0 0).getD j [] = bif hasOut l 16 0 j then cell2 (num l j 0) (codL l j) else cell2 0 0 by simp [List.getD, hj]]
    cases h : hasOut l 16 0 j with
    | false =>
      left
      match o with
      | 0 | 1 => rfl
      | o + 2 => simp [cell2, vI, undef]
    | true =>
      have hh := of_decide_eq_true h
      match o with
      | 0 => exact .inr ⟨hj, hh.1, by omega, .inl rfl⟩
      | 1 => exact .inr ⟨hj, hh.1, by omega, .inr rfl⟩
      | o + 2 => left; simp [cell2, vI, undef]
  · left
    unfold cellAt
    rw [show (codesL l).getD j [] = [] by simp [List.getD, List.getElem?_eq_none (show (codesL l).length ≤ j by unfold codesL; rw [outN_len]; omega)]]
    simp [vI, undef]
theorem wCodes_in (l : List (List Value)) (j o : Nat) : inK .i64 (vI (cellAt (wCodes l).1 j o)) := by
  cases h : badL l with
  | true => rw [wCodes_no h]; simp [cellAt, List.getD, vI, undef, inK]
  | false =>
    rw [wCodes_yes h]
    have hb := badL_no.1 h
    simp only [inK]
    rcases codes_vals l j o with e | ⟨hj, h1, h2, e | e⟩
    · rw [e]; omega
    · rw [e]; omega
    · have p := codL_bd hj h1
      have q := endL_bd hb.2.2 (n := (num l j 0).toNat) (by omega)
      have g := endL_ge l ((num l j 0).toNat - 1)
      unfold baseL at p
      rw [e]; omega
theorem wRead_bd (l b : List (List Value)) (a : Int) : 0 ≤ (wRead l b a).1 ∧ (wRead l b a).1 ≤ (l.length : Int) ∧ 0 ≤ (wRead l b a).2.1 ∧ (wRead l b a).2.1 ≤ (b.length : Int) := by
  unfold wRead
  cases badL l with
  | true => simp
  | false =>
    simp only [cond_false]
    cases h : (List.range l.length).find? (hitR l b a) with
    | none => simp
    | some i =>
      have h1 := List.mem_range.1 (List.mem_of_find?_eq_some h)
      have h2 := List.find?_some h
      unfold hitR at h2
      simp only [andB, Bool.and_eq_true] at h2
      have h3 := h2.2.1
      by_cases hc : 0 ≤ num l i 0 ∧ num l i 0 ≤ 30 ∧ 0 ≤ a ∧ a + num l i 0 ≤ (b.length : Int)
      · simp only []; omega
      · rw [bTake_out (by omega)] at h3; cases h3
theorem codes_hit {l b : List (List Value)} {a : Int} (hbad : badL l = false) {i : Int} : (0 ≤ i → i < (l.length : Int) → decide (vI (cellAt (wCodes l).1 i.toNat 0) = (0 : Int)) = true → hitR l b a i.toNat = false) ∧
    (0 ≤ i → i < (l.length : Int) → decide (vI (cellAt (wCodes l).1 i.toNat 0) = (0 : Int)) = false → andB (bTake3 b a (vI (cellAt (wCodes l).1 i.toNat 0))).2.2 (decide ((bTake3 b a (vI (cellAt (wCodes l).1 i.toNat 0))).1 = vI (cellAt (wCodes l).1 i.toNat 1))) = false → hitR l b a i.toNat = false) ∧
    (0 ≤ i → i < (l.length : Int) → decide (vI (cellAt (wCodes l).1 i.toNat 0) = (0 : Int)) = false → andB (bTake3 b a (vI (cellAt (wCodes l).1 i.toNat 0))).2.2 (decide ((bTake3 b a (vI (cellAt (wCodes l).1 i.toNat 0))).1 = vI (cellAt (wCodes l).1 i.toNat 1))) = true → (∀ j, j < i.toNat → hitR l b a j = false) → wRead l b a = (i, (bTake3 b a (vI (cellAt (wCodes l).1 i.toNat 0))).2.1, true)) := by
  have hb := badL_no.1 hbad
  rw [wCodes_yes hbad]
  refine ⟨fun h0 h1 h2 => ?_, fun h0 h1 h2 h3 => ?_, fun h0 h1 h2 h3 h4 => ?_⟩
  all_goals
    have hl := hb.2.1 i.toNat (by omega)
    have c := codes_at (l := l) (j := i.toNat) (by omega) hl
    rw [c.1] at h2
  · have := of_decide_eq_true h2
    unfold hitR
    rw [decide_eq_false (fun q => q this)]; rfl
  · have hz := of_decide_eq_false h2
    rw [c.1, c.2, if_neg hz] at h3
    unfold hitR
    rw [h3]; cases decide (¬ num l i.toNat 0 = 0) <;> rfl
  · have hz := of_decide_eq_false h2
    rw [c.1, c.2, if_neg hz] at h3
    have hh : hitR l b a i.toNat = true := by unfold hitR; rw [decide_eq_true hz, h3]; rfl
    rw [wRead_at hbad (by omega) hh h4, c.1]
    have h5 : (bTake3 b a (num l i.toNat 0)).2.2 = true := by
      cases hq : (bTake3 b a (num l i.toNat 0)).2.2 with
      | true => rfl
      | false => rw [hq] at h3; cases h3
    by_cases hc : 0 ≤ num l i.toNat 0 ∧ num l i.toNat 0 ≤ 30 ∧ 0 ≤ a ∧ a + num l i.toNat 0 ≤ (b.length : Int)
    · rw [bTake_in hc, show ((i.toNat : Nat) : Int) = i by omega]
    · rw [bTake_out (by omega)] at h5; cases h5
end Go.Proofs.Ytpjiobflmcmlmaa.RS
