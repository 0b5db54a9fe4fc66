/- Chapter 13's functions as plain laws; no program. -/
import Derived.Test.YtdhipofjafecoaaRsRuns
set_option linter.unusedVariables false
set_option linter.unusedSimpArgs false
namespace Go.Proofs.Ytdhipofjafecoaa.RS
open Go Go.RowKit
def roomB (xs : List (List Value)) (a n : Int) : Bool := decide (1 ≤ n ∧ 0 ≤ a ∧ a + n ≤ (xs.length : Int) ∧ ∀ i, i < n.toNat → bt xs (a.toNat + i) = false)
def fitC (xs : List (List Value)) (a n : Int) : Bool := orB (orB (orB (decide (n < 1)) (decide (a < 0))) (decide ((xs.length : Int) < a))) (decide ((xs.length : Int) - a < n))
theorem fitC_no {xs : List (List Value)} {a n : Int} : fitC xs a n = false ↔ (1 ≤ n ∧ 0 ≤ a ∧ a + n ≤ (xs.length : Int)) := by
  unfold fitC; simp [orB]; omega
theorem roomB_iff {xs : List (List Value)} {a n : Int} : roomB xs a n = true ↔ 1 ≤ n ∧ 0 ≤ a ∧ a + n ≤ (xs.length : Int) ∧ ∀ i, i < n.toNat → bt xs (a.toNat + i) = false := decide_eq_true_iff
theorem roomB_c {xs : List (List Value)} {a n : Int} (h : fitC xs a n = true) : roomB xs a n = false := decide_eq_false fun hh => by
  have := fitC_no.2 ⟨hh.1, hh.2.1, hh.2.2.1⟩
  rw [this] at h; cases h
theorem roomB_at {xs : List (List Value)} {a n i : Int} (h0 : 0 ≤ i) (hi : i < n) (ha : 0 ≤ a) (h : bt xs (a + i).toNat = true) : roomB xs a n = false := decide_eq_false fun hh => by
  have := hh.2.2.2 i.toNat (by omega)
  rw [show a.toNat + i.toNat = (a + i).toNat by omega, h] at this; cases this
theorem roomB_all {xs : List (List Value)} {a n : Int} (hc : fitC xs a n = false) (h : ∀ j : Nat, (j : Int) < n → bt xs (a + j).toNat = false) : roomB xs a n = true := by
  have := fitC_no.1 hc
  refine decide_eq_true ⟨this.1, this.2.1, this.2.2, fun i hi => ?_⟩
  rw [show a.toNat + i = (a + i).toNat by omega]
  exact h i (by omega)
theorem roomB_fits {xs : List (List Value)} {a n : Int} : roomB xs a n = true ↔ 1 ≤ n ∧ 0 ≤ a ∧ fits (bt xs) xs.length a.toNat n.toNat := by
  rw [roomB_iff]
  unfold fits
  constructor
  · rintro ⟨h1, h2, h3, h4⟩; exact ⟨h1, h2, by omega, h4⟩
  · rintro ⟨h1, h2, h3, h4⟩; exact ⟨h1, h2, by omega, h4⟩
/-! ### The first that is there -/
def idxB (xs : List (List Value)) (v : Bool) : Int := (((List.range xs.length).find? fun i => decide (v = bt xs i)).map fun i => (i : Int)).getD (-1)
theorem range_find {p : Nat → Bool} {n i : Nat} (hi : i < n) (h : p i = true) (hm : ∀ j, j < i → p j = false) : (List.range n).find? p = some i := by
  rw [List.find?_range_eq_some]
  exact ⟨h, List.mem_range.2 hi, fun j hj => by simp [hm j hj]⟩
theorem idx_at {xs : List (List Value)} {v : Bool} {i : Int} (h0 : 0 ≤ i) (hi : i < (xs.length : Int)) (h : v = bt xs i.toNat) (hm : ∀ j : Nat, (j : Int) < i → ¬ v = bt xs j) : idxB xs v = i := by
  unfold idxB
  rw [range_find (i := i.toNat) (by omega) (decide_eq_true h) fun j hj => decide_eq_false (hm j (by omega))]
  simp; omega
theorem idx_no {xs : List (List Value)} {v : Bool} (hm : ∀ j : Nat, j < xs.length → ¬ v = bt xs j) : idxB xs v = -1 := by
  unfold idxB
  rw [List.find?_eq_none.2 fun j hj => by simp; exact hm j (List.mem_range.1 hj)]
  rfl
theorem idx_cases (xs : List (List Value)) (v : Bool) : (idxB xs v = -1 ∧ ∀ j : Nat, j < xs.length → ¬ v = bt xs j) ∨ (0 ≤ idxB xs v ∧ idxB xs v < (xs.length : Int) ∧ ∃ j : Nat, j < xs.length ∧ v = bt xs j) := by
  unfold idxB
  cases h : (List.range xs.length).find? fun i => decide (v = bt xs i) with
  | none =>
    left
    refine ⟨rfl, fun j hj e => ?_⟩
    have := List.find?_eq_none.1 h j (List.mem_range.2 hj)
    simp at this; exact this e
  | some i =>
    right
    have h1 := List.mem_range.1 (List.mem_of_find?_eq_some h)
    have h2 := List.find?_some h
    simp at h2
    exact ⟨by simp, by simp; omega, i, h1, h2⟩
def hasB (xs : List (List Value)) (v : Bool) : Bool := decide (0 ≤ idxB xs v)
theorem bt_sub (xs : List (List Value)) (a b j : Nat) (h : a + j < b) : bt ((xs.take b).drop a) j = bt xs (a + j) := by
  unfold bt cellAt
  simp only [List.getD, List.getElem?_drop, List.getElem?_take, if_pos h]
theorem mark_c {xs : List (List Value)} {a n : Int} : orB (fitC xs a n) (hasB ((xs.take (a + n).toNat).drop a.toNat) true) = !(roomB xs a n) := by
  cases h : fitC xs a n with
  | true => rw [roomB_c h]; rfl
  | false =>
    have hh := fitC_no.1 h
    have hl : ((xs.take (a + n).toNat).drop a.toNat).length = n.toNat := by rw [List.length_drop, List.length_take]; omega
    show hasB ((xs.take (a + n).toNat).drop a.toNat) true = _
    unfold hasB
    rcases idx_cases ((xs.take (a + n).toNat).drop a.toNat) true with ⟨e, h2⟩ | ⟨e, _, j, hj, h2⟩
    · rw [e, roomB_all h fun j hj => by
        have := h2 j (by omega)
        rw [bt_sub _ _ _ _ (by omega)] at this
        rw [show (a + j).toNat = a.toNat + j by omega]
        cases hq : bt xs (a.toNat + j) with
        | false => rfl
        | true => exact absurd hq.symm this]
      rfl
    · rw [decide_eq_true e]
      rw [hl] at hj
      rw [bt_sub _ _ _ _ (by omega)] at h2
      rw [roomB_at (i := (j : Int)) (by omega) (by omega) hh.2.1 (by rw [show (a + (j : Int)).toNat = a.toNat + j by omega]; exact h2.symm)]
      rfl
/-! ### Marked -/
def markN (xs : List (List Value)) (a : Int) : Nat → List (List Value)
  | 0 => xs
  | i + 1 => (markN xs a i).set (a + (i : Nat)).toNat [Value.bool true]
theorem markN_len (xs : List (List Value)) (a : Int) : ∀ k, (markN xs a k).length = xs.length
  | 0 => rfl
  | k + 1 => by rw [markN, List.length_set, markN_len xs a k]
theorem bt_set (xs : List (List Value)) (k : Nat) (v : Bool) (j : Nat) : bt (xs.set k [Value.bool v]) j = if j = k ∧ k < xs.length then v else bt xs j := by
  unfold bt cellAt
  by_cases h : j = k
  · subst h
    by_cases hl : j < xs.length
    · rw [if_pos ⟨rfl, hl⟩]; simp [List.getD, hl, vB]
    · rw [if_neg (by omega), List.set_eq_of_length_le (Nat.le_of_not_lt hl)]
  · rw [if_neg (by omega)]; simp [List.getD, List.getElem?_set_ne (Ne.symm h)]
theorem markN_bt {xs : List (List Value)} {a : Int} (h0 : 0 ≤ a) : ∀ (k : Nat), a + k ≤ (xs.length : Int) → ∀ j : Nat, bt (markN xs a k) j = (bt xs j || decide (a ≤ (j : Int) ∧ (j : Int) < a + k))
  | 0, _, j => by
    have : decide (a ≤ (j : Int) ∧ (j : Int) < a + (0 : Nat)) = false := decide_eq_false (by omega)
    rw [markN, this, Bool.or_false]
  | k + 1, hk, j => by
    rw [markN, bt_set, markN_len]
    have ih := markN_bt (xs := xs) h0 k (by omega) j
    by_cases e : j = (a + (k : Nat)).toNat
    · rw [if_pos ⟨e, by omega⟩, decide_eq_true (by omega), Bool.or_true]
    · rw [if_neg (by omega), ih]
      congr 1
      exact decide_eq_decide.2 ⟨fun h => by omega, fun h => by omega⟩
def wMark (xs : List (List Value)) (a n : Int) : List (List Value) × Bool := bif roomB xs a n then (markN xs a n.toNat, true) else ([], false)
theorem wMark_no {xs : List (List Value)} {a n : Int} (h : roomB xs a n = false) : wMark xs a n = ([], false) := by unfold wMark; rw [h]; rfl
theorem wMark_yes {xs : List (List Value)} {a n : Int} (h : roomB xs a n = true) : wMark xs a n = (markN xs a n.toNat, true) := by unfold wMark; rw [h]; rfl
theorem wMark_ok (xs : List (List Value)) (a n : Int) : (wMark xs a n).2 = roomB xs a n := by unfold wMark; cases roomB xs a n <;> rfl
theorem wMark_len (xs : List (List Value)) (a n : Int) : (wMark xs a n).1.length ≤ xs.length := by
  unfold wMark
  cases roomB xs a n
  · exact Nat.zero_le _
  · simp only [cond_true]; rw [markN_len]; exact Nat.le_refl _
/-! ### The three counts -/
def wF (xs : List (List Value)) (n : Int) : Int := fstZ n (runsL (bt xs) xs.length)
def wM (xs : List (List Value)) : Int := maxR (runsL (bt xs) xs.length)
def wC (xs : List (List Value)) : Int := (cntN (bt xs) xs.length : Nat)
theorem hitP_fst {n : Int} (h : 1 ≤ n) (l : List (Int × Int)) : l.find? (hitP n) = fstR n.toNat l := by
  unfold fstR
  congr 1
  funext p
  unfold hitP
  rw [decide_eq_true h, Bool.true_and]
  exact decide_eq_decide.2 (by omega)
theorem wF_cases (xs : List (List Value)) (n : Int) : (wF xs n = -1 ∧ ∀ a, roomB xs a n = false) ∨ (0 ≤ wF xs n ∧ roomB xs (wF xs n) n = true ∧ ∀ b, b < wF xs n → roomB xs b n = false) := by
  unfold wF fstZ
  by_cases hn : 1 ≤ n
  · rw [hitP_fst hn]
    cases h : fstR n.toNat (runsL (bt xs) xs.length) with
    | none =>
      left
      refine ⟨rfl, fun a => ?_⟩
      cases hq : roomB xs a n with
      | false => rfl
      | true => exact absurd (roomB_fits.1 hq).2.2 (fst_none (by omega) h a.toNat)
    | some p =>
      right
      obtain ⟨a, e, hf, hm⟩ := fst_some (by omega) h
      simp only [Option.map_some, Option.getD_some, e]
      refine ⟨by omega, roomB_fits.2 ⟨hn, by omega, by simpa using hf⟩, fun b hb => ?_⟩
      cases hq : roomB xs b n with
      | false => rfl
      | true =>
        have := roomB_fits.1 hq
        exact absurd this.2.2 (hm b.toNat (by omega))
  · left
    have : (runsL (bt xs) xs.length).find? (hitP n) = none := List.find?_eq_none.2 fun p _ => by unfold hitP; rw [decide_eq_false hn]; simp
    rw [this]
    refine ⟨rfl, fun a => ?_⟩
    cases hq : roomB xs a n with
    | false => rfl
    | true => exact absurd (roomB_iff.1 hq).1 hn
theorem wF_of {xs : List (List Value)} {a n : Int} (h : roomB xs a n = true) (hm : ∀ b, b < a → roomB xs b n = false) : wF xs n = a := by
  rcases wF_cases xs n with ⟨_, h2⟩ | ⟨_, h2, h3⟩
  · rw [h2 a] at h; cases h
  · rcases Int.lt_trichotomy (wF xs n) a with hl | he | hg
    · rw [hm _ hl] at h2; cases h2
    · exact he
    · rw [h3 a hg] at h; cases h
theorem wF_no {xs : List (List Value)} {n : Int} (hm : ∀ b, roomB xs b n = false) : wF xs n = -1 := by
  rcases wF_cases xs n with ⟨h, _⟩ | ⟨_, h2, _⟩
  · exact h
  · rw [hm] at h2; cases h2
theorem roomB_lt {xs : List (List Value)} {a n : Int} (h : roomB xs a n = true) : 1 ≤ n ∧ 0 ≤ a ∧ a < (xs.length : Int) ∧ n ≤ (xs.length : Int) := by
  have := roomB_iff.1 h; omega
theorem wF_no' {xs : List (List Value)} {n : Int} (hm : ∀ b : Nat, (b : Int) < (xs.length : Int) → roomB xs b n = false) : wF xs n = -1 := wF_no fun b => by
  cases h : roomB xs b n with
  | false => rfl
  | true =>
    have := roomB_lt h
    rw [← hm b.toNat (by omega), show ((b.toNat : Nat) : Int) = b by omega, h]
theorem wF_at' {xs : List (List Value)} {a n : Int} (h : roomB xs a n = true) (hm : ∀ b : Nat, (b : Int) < a → roomB xs b n = false) : wF xs n = a := wF_of h fun b hb => by
  cases hq : roomB xs b n with
  | false => rfl
  | true =>
    have := roomB_lt hq
    rw [← hm b.toNat (by omega), show ((b.toNat : Nat) : Int) = b by omega, hq]
theorem wM_iff (xs : List (List Value)) {n : Int} (h : 1 ≤ n) : n ≤ wM xs ↔ 0 ≤ wF xs n := by
  unfold wM wF fstZ
  rw [hitP_fst h]
  have q := maxR_iff (runsL (bt xs) xs.length) (n := n.toNat) (by omega)
  rw [show ((n.toNat : Nat) : Int) = n by omega] at q
  rw [q]
  cases hf : fstR n.toNat (runsL (bt xs) xs.length) with
  | none => simp
  | some p =>
    obtain ⟨a, e, _⟩ := fst_some (by omega) hf
    simp [e]
theorem wM_ge (xs : List (List Value)) : 0 ≤ wM xs := maxR_ge _
theorem wF_bd (xs : List (List Value)) (n : Int) : -1 ≤ wF xs n ∧ wF xs n ≤ (xs.length : Int) := by
  rcases wF_cases xs n with ⟨h, _⟩ | ⟨h1, h2, _⟩
  · omega
  · have := roomB_lt h2; omega
theorem wM_le (xs : List (List Value)) : wM xs ≤ (xs.length : Int) := by
  have h0 := wM_ge xs
  by_cases h : 1 ≤ wM xs
  · have h1 := (wM_iff xs h).1 (Int.le_refl _)
    rcases wF_cases xs (wM xs) with ⟨h2, _⟩ | ⟨_, h2, _⟩
    · omega
    · exact (roomB_lt h2).2.2.2
  · omega
theorem wM_eq {xs ys : List (List Value)} (h : ∀ n, 1 ≤ n → (0 ≤ wF xs n ↔ 0 ≤ wF ys n)) : wM xs = wM ys := by
  have h1 := wM_ge xs
  have h2 := wM_ge ys
  rcases Int.lt_trichotomy (wM xs) (wM ys) with hl | he | hg
  · have := (wM_iff xs (n := wM ys) (by omega)).2 ((h _ (by omega)).2 ((wM_iff ys (by omega)).1 (Int.le_refl _)))
    omega
  · exact he
  · have := (wM_iff ys (n := wM xs) (by omega)).2 ((h _ (by omega)).1 ((wM_iff xs (by omega)).1 (Int.le_refl _)))
    omega
theorem wM_of {xs : List (List Value)} {m : Int} (h0 : 0 ≤ m) (h1 : 1 ≤ m → 0 ≤ wF xs m) (h2 : ¬ 0 ≤ wF xs (m + 1)) : wM xs = m := by
  have h := wM_ge xs
  rcases Int.lt_trichotomy (wM xs) m with hl | he | hg
  · have := (wM_iff xs (n := m) (by omega)).2 (h1 (by omega)); omega
  · exact he
  · exact absurd ((wM_iff xs (n := m + 1) (by omega)).1 (by omega)) h2
theorem cntN_congr {u v : Nat → Bool} : ∀ L, (∀ j, j < L → u j = v j) → cntN u L = cntN v L
  | 0, _ => rfl
  | L + 1, h => by rw [cntN, cntN, cntN_congr L fun j hj => h j (by omega), h L (by omega)]
theorem cntN_add (u : Nat → Bool) (a : Nat) : ∀ b, cntN u (a + b) = cntN u a + cntN (fun j => u (a + j)) b
  | 0 => rfl
  | b + 1 => by rw [← Nat.add_assoc, cntN, cntN_add u a b, cntN]; omega
theorem cnt_mark {u : Nat → Bool} {a k : Nat} (hf : ∀ i, i < k → u (a + i) = false) : ∀ L, cntN (fun j => u j || decide (a ≤ j ∧ j < a + k)) L + (min L (a + k) - min L a) = cntN u L
  | 0 => by simp [cntN]
  | L + 1 => by
    have ih := cnt_mark hf L
    have e : ∀ j, (fun j => u j || decide (a ≤ j ∧ j < a + k)) j = (u j || decide (a ≤ j ∧ j < a + k)) := fun _ => rfl
    generalize (fun j => u j || decide (a ≤ j ∧ j < a + k)) = v at ih e
    have s1 : cntN v (L + 1) = cntN v L + if v L = false then 1 else 0 := rfl
    have s2 : cntN u (L + 1) = cntN u L + if u L = false then 1 else 0 := rfl
    rw [s1, s2]
    by_cases h : a ≤ L ∧ L < a + k
    · have h2 := hf (L - a) (by omega)
      rw [show a + (L - a) = L by omega] at h2
      have h3 : v L = true := by rw [e, decide_eq_true h, Bool.or_true]
      rw [if_neg (by rw [h3]; simp), if_pos h2]
      omega
    · have h3 : v L = u L := by rw [e, decide_eq_false h, Bool.or_false]
      rw [h3]
      omega
theorem wC_mark {xs : List (List Value)} {a n : Int} (h : roomB xs a n = true) : wC (markN xs a n.toNat) = wC xs - n := by
  have hh := roomB_iff.1 h
  unfold wC
  rw [markN_len]
  have e : cntN (bt (markN xs a n.toNat)) xs.length = cntN (fun j => bt xs j || decide (a.toNat ≤ j ∧ j < a.toNat + n.toNat)) xs.length := cntN_congr _ fun j _ => by
    rw [markN_bt hh.2.1 n.toNat (by omega)]
    congr 1
    exact decide_eq_decide.2 ⟨fun h => by omega, fun h => by omega⟩
  have q := cnt_mark (u := bt xs) (a := a.toNat) (k := n.toNat) hh.2.2.2 xs.length
  rw [e]
  omega
theorem wC_ge (xs : List (List Value)) : 0 ≤ wC xs ∧ wC xs ≤ (xs.length : Int) := by
  have := cntN_le (bt xs) xs.length
  unfold wC; omega
theorem wM_wC (xs : List (List Value)) : wM xs ≤ wC xs := by
  have h0 := wM_ge xs
  have hc := wC_ge xs
  by_cases h : 1 ≤ wM xs
  · have h1 := (wM_iff xs h).1 (Int.le_refl _)
    rcases wF_cases xs (wM xs) with ⟨h2, _⟩ | ⟨_, h2, _⟩
    · omega
    · have := wC_mark h2
      have h3 := (wC_ge (markN xs (wF xs (wM xs)) (wM xs).toNat)).1
      omega
  · omega
/-! ### Rows of one mark -/
def repB (v : Bool) (k : Nat) : List (List Value) := List.replicate k [Value.bool v]
theorem repB_succ (v : Bool) (k : Nat) : repB v k ++ [[Value.bool v]] = repB v (k + 1) := by unfold repB; rw [List.replicate_succ']
theorem repB_len (v : Bool) (k : Nat) : (repB v k).length = k := by simp [repB]
theorem repB_bt (v : Bool) {k j : Nat} (h : j < k) : bt (repB v k) j = v := by
  unfold bt cellAt repB
  simp [List.getD, List.getElem?_replicate, h, vB]
theorem shift_fits (xs : List (List Value)) (m : Nat) (a n : Int) : roomB (repB true m ++ xs) a n = roomB xs (a - m) n := by
  have hl : (repB true m ++ xs).length = m + xs.length := by rw [List.length_append, repB_len]
  cases h : roomB xs (a - m) n with
  | true =>
    have hh := roomB_iff.1 h
    refine roomB_iff.2 ⟨hh.1, by omega, by omega, fun i hi => ?_⟩
    rw [bt_app, repB_len, if_neg (by omega), ← hh.2.2.2 i hi]
    congr 1; omega
  | false =>
    cases h2 : roomB (repB true m ++ xs) a n with
    | false => rfl
    | true =>
      exfalso
      have hh := roomB_iff.1 h2
      have h0 := hh.2.2.2 0 (by omega)
      rw [bt_app, repB_len] at h0
      by_cases hm : a.toNat + 0 < m
      · rw [if_pos hm, repB_bt true hm] at h0; cases h0
      · have : roomB xs (a - m) n = true := roomB_iff.2 ⟨hh.1, by omega, by omega, fun i hi => by
          have h3 := hh.2.2.2 i hi
          rw [bt_app, repB_len, if_neg (by omega)] at h3
          rw [← h3]; congr 1; omega⟩
        rw [this] at h; cases h
theorem shift_F (xs : List (List Value)) (m : Nat) (n : Int) : wF (repB true m ++ xs) n = bif decide (0 ≤ wF xs n) then wF xs n + m else wF xs n := by
  rcases wF_cases xs n with ⟨h1, h2⟩ | ⟨h1, h2, h3⟩
  · rw [h1]
    exact wF_no fun b => by rw [shift_fits]; exact h2 _
  · rw [decide_eq_true h1, cond_true]
    exact wF_of (by rw [shift_fits, show wF xs n + (m : Int) - m = wF xs n by omega]; exact h2) fun b hb => by rw [shift_fits]; exact h3 _ (by omega)
theorem shift_M (xs : List (List Value)) (m : Nat) : wM (repB true m ++ xs) = wM xs := wM_eq fun n hn => by
  rw [shift_F]
  by_cases h : 0 ≤ wF xs n
  · rw [decide_eq_true h, cond_true]; omega
  · rw [decide_eq_false h, cond_false]
theorem cnt_true : ∀ k, cntN (fun _ => true) k = 0
  | 0 => rfl
  | k + 1 => by rw [cntN, cnt_true k]; rfl
theorem cnt_false : ∀ k, cntN (fun _ => false) k = k
  | 0 => rfl
  | k + 1 => by rw [cntN, cnt_false k]; rfl
theorem shift_C (xs : List (List Value)) (m : Nat) : wC (repB true m ++ xs) = wC xs := by
  unfold wC
  rw [List.length_append, repB_len, cntN_add]
  have h1 : cntN (bt (repB true m ++ xs)) m = 0 := by
    rw [cntN_congr (v := fun _ => true) m fun j hj => by rw [bt_app, repB_len, if_pos hj, repB_bt true hj]]; exact cnt_true m
  have h2 : cntN (fun j => bt (repB true m ++ xs) (m + j)) xs.length = cntN (bt xs) xs.length := cntN_congr _ fun j hj => by
    rw [bt_app, repB_len, if_neg (by omega), show m + j - m = j by omega]
  rw [h1, h2, Nat.zero_add]
theorem split_C (xs : List (List Value)) {k : Nat} (h : k ≤ xs.length) : wC ((xs.take k).drop 0) + wC ((xs.take xs.length).drop k) = wC xs := by
  unfold wC
  have e1 : ((xs.take k).drop 0).length = k := by rw [List.drop_zero, List.length_take]; omega
  have e2 : ((xs.take xs.length).drop k).length = xs.length - k := by rw [List.length_drop, List.length_take]; omega
  rw [e1, e2]
  have q := cntN_add (bt xs) k (xs.length - k)
  rw [show k + (xs.length - k) = xs.length by omega] at q
  rw [q, cntN_congr (u := bt ((xs.take k).drop 0)) (v := bt xs) k fun j hj => by rw [bt_sub _ _ _ _ (by omega), Nat.zero_add], cntN_congr (u := bt ((xs.take xs.length).drop k)) (v := fun j => bt xs (k + j)) _ fun j hj => by rw [bt_sub _ _ _ _ (by omega)]]
  omega
theorem all_F (m : Nat) (n : Int) : wF (repB true m) n = -1 := wF_no fun b => by
  cases h : roomB (repB true m) b n with
  | false => rfl
  | true =>
    exfalso
    have hh := roomB_iff.1 h
    have h0 := hh.2.2.2 0 (by omega)
    rw [repB_len] at hh
    rw [repB_bt true (by omega)] at h0; cases h0
theorem all_M (m : Nat) : wM (repB true m) = 0 := wM_of (by omega) (fun h => by omega) (by rw [all_F]; omega)
theorem all_C (m : Nat) : wC (repB true m) = 0 := by
  unfold wC
  rw [repB_len, cntN_congr (v := fun _ => true) m fun j hj => repB_bt true hj, cnt_true]; rfl
theorem none_fits (m : Nat) {n : Int} (h1 : 1 ≤ n) (h2 : n ≤ m) : roomB (repB false m) 0 n = true := roomB_iff.2 ⟨h1, by omega, by rw [repB_len]; omega, fun i hi => repB_bt false (by omega)⟩
theorem none_F (m : Nat) {n : Int} (h1 : 1 ≤ n) : wF (repB false m) n = bif decide (n ≤ m) then 0 else -1 := by
  by_cases h : n ≤ m
  · rw [decide_eq_true h, cond_true]
    exact wF_of (none_fits m h1 h) fun b hb => roomB_c (by unfold fitC; simp [orB]; omega)
  · rw [decide_eq_false h, cond_false]
    exact wF_no fun b => by
      cases hq : roomB (repB false m) b n with
      | false => rfl
      | true => have := roomB_lt hq; rw [repB_len] at this; omega
theorem none_M (m : Nat) : wM (repB false m) = m := wM_of (by omega) (fun h => by rw [none_F m h, decide_eq_true (by omega)]; simp) (by rw [none_F m (by omega), decide_eq_false (by omega)]; simp)
theorem none_C (m : Nat) : wC (repB false m) = m := by
  unfold wC
  rw [repB_len, cntN_congr (v := fun _ => false) m fun j hj => repB_bt false hj, cnt_false]
/-! ### Marked again, and in parts -/
theorem marks_at {xs : List (List Value)} {a n i : Int} (hr : roomB xs a n = true) (h0 : 0 ≤ i) : vB (cellAt (wMark xs a n).1 i.toNat 0) = orB (vB (cellAt xs i.toNat 0)) (andB (decide (a ≤ i)) (decide (i < a + n))) := by
  have hh := roomB_iff.1 hr
  rw [wMark_yes hr]
  have q := markN_bt (xs := xs) hh.2.1 n.toNat (by omega) i.toNat
  unfold bt at q
  rw [q]
  cases vB (cellAt xs i.toNat 0)
  · simp only [orB, andB, Bool.false_or]
    by_cases h1 : a ≤ i
    · rw [decide_eq_true h1]
      exact decide_eq_decide.2 ⟨fun h => by omega, fun h => by omega⟩
    · rw [decide_eq_false h1, decide_eq_false (by omega)]; rfl
  · rfl
theorem marks_len {xs : List (List Value)} {a n : Int} (hr : roomB xs a n = true) : (wMark xs a n).1.length = xs.length := by rw [wMark_yes hr]; exact markN_len _ _ _
theorem again_no {xs : List (List Value)} {a n : Int} (hr : roomB xs a n = true) : (wMark (wMark xs a n).1 a n).2 = false := by
  have hh := roomB_iff.1 hr
  rw [wMark_ok, wMark_yes hr]
  cases h : roomB (markN xs a n.toNat) a n with
  | false => rfl
  | true =>
    exfalso
    have h2 := (roomB_iff.1 h).2.2.2 0 (by omega)
    rw [markN_bt hh.2.1 n.toNat (by omega), decide_eq_true (by omega), Bool.or_true] at h2
    cases h2
theorem part_one {xs : List (List Value)} {a n k : Int} (hr : roomB xs a n = true) (h1 : 1 ≤ k) (h2 : k < n) : roomB xs a k = true := by
  have hh := roomB_iff.1 hr
  exact roomB_iff.2 ⟨h1, hh.2.1, by omega, fun i hi => hh.2.2.2 i (by omega)⟩
theorem part_two {xs : List (List Value)} {a n k : Int} (hr : roomB xs a n = true) (h1 : 1 ≤ k) (h2 : k < n) : roomB (wMark xs a k).1 (a + k) (n - k) = true := by
  have hh := roomB_iff.1 hr
  have h3 := part_one hr h1 h2
  rw [wMark_yes h3]
  refine roomB_iff.2 ⟨by omega, by omega, by rw [markN_len]; omega, fun i hi => ?_⟩
  have h4 := hh.2.2.2 (k.toNat + i) (by omega)
  rw [markN_bt hh.2.1 k.toNat (by omega), decide_eq_false (by omega), Bool.or_false, ← h4]
  congr 1; omega
theorem parts_same {xs : List (List Value)} {a n k : Int} (hr : roomB xs a n = true) (h1 : 1 ≤ k) (h2 : k < n) : sameB (wMark (wMark xs a k).1 (a + k) (n - k)).1 (wMark xs a n).1 = true := by
  have hh := roomB_iff.1 hr
  have h3 := part_one hr h1 h2
  have h4 := part_two hr h1 h2
  rw [wMark_yes h4, wMark_yes hr, wMark_yes h3]
  refine sameB_all (by rw [markN_len, markN_len, markN_len]) fun j hj => ?_
  rw [markN_bt (by omega) (n - k).toNat (by rw [markN_len]; omega), markN_bt hh.2.1 k.toNat (by omega), markN_bt hh.2.1 n.toNat (by omega), Bool.or_assoc]
  congr 1
  rw [← Bool.decide_or]
  exact decide_eq_decide.2 ⟨fun h => by omega, fun h => by omega⟩
theorem wF_len {xs : List (List Value)} {n : Int} (h : 0 ≤ wF xs n) : n ≤ (xs.length : Int) := by
  rcases wF_cases xs n with ⟨h1, _⟩ | ⟨_, h2, _⟩
  · omega
  · exact (roomB_lt h2).2.2.2
end Go.Proofs.Ytdhipofjafecoaa.RS
