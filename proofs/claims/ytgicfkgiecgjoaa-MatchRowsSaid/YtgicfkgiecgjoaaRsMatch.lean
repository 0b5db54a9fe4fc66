/- RS: chapter 4 (match): what its functions compute. -/
import Derived.Test.YtgicfkgiecgjoaaRsMapC
import Derived.Test.YtgicfkgiecgjoaaRsWire
set_option linter.unusedVariables false
set_option linter.unusedSimpArgs false
namespace Go.Proofs.Ytgicfkgiecgjoaa.RS
open Go Go.RowKit
/-! ### How many bytes are alike -/
def cnd (s : ByteArray) (a d : Int) (n : Nat) : Bool := decide (a + n < (s.size : Int)) && decide (bAt s (a + n) = bAt s (a + n - d))
def alF (s : ByteArray) (a d : Int) : Nat → Nat → Nat
  | 0, k => k
  | f + 1, k => bif cnd s a d k then alF s a d f (k + 1) else k
def wAl (s : ByteArray) (a d : Int) : Int := (alF s a d 18 0 : Nat)
theorem alF_bd (s : ByteArray) (a d : Int) : ∀ f k, k ≤ alF s a d f k ∧ alF s a d f k ≤ k + f ∧ (∀ j, k ≤ j → j < alF s a d f k → cnd s a d j = true) ∧ (alF s a d f k < k + f → cnd s a d (alF s a d f k) = false)
  | 0, k => ⟨Nat.le_refl _, Nat.le_refl _, fun j h1 h2 => by simp only [alF] at h2; omega, fun h => by simp only [alF] at h; omega⟩
  | f + 1, k => by
    simp only [alF]
    cases hc : cnd s a d k with
    | true =>
      obtain ⟨h1, h2, h3, h4⟩ := alF_bd s a d f (k + 1)
      simp only [cond_true]
      refine ⟨by omega, by omega, fun j hj hlt => ?_, fun h => h4 (by omega)⟩
      by_cases e : j = k
      · rw [e]; exact hc
      · exact h3 j (by omega) hlt
    | false => simp only [cond_false]; exact ⟨Nat.le_refl _, by omega, fun j h1 h2 => by omega, fun _ => hc⟩
theorem wAl_bd (s : ByteArray) (a d : Int) : 0 ≤ wAl s a d ∧ wAl s a d ≤ 18 := by
  have := alF_bd s a d 18 0
  unfold wAl; omega
theorem wAl_cnd {s : ByteArray} {a d : Int} {j : Nat} (h : (j : Int) < wAl s a d) : cnd s a d j = true := (alF_bd s a d 18 0).2.2.1 j (by omega) (by unfold wAl at h; omega)
theorem wAl_stop {s : ByteArray} {a d : Int} (h : wAl s a d < 18) : cnd s a d (wAl s a d).toNat = false := by
  have := (alF_bd s a d 18 0).2.2.2 (by unfold wAl at h; omega)
  unfold wAl; simpa using this
theorem cnd_iff {s : ByteArray} {a d : Int} {n : Nat} : cnd s a d n = true ↔ a + n < (s.size : Int) ∧ bAt s (a + n) = bAt s (a + n - d) := by simp [cnd]
theorem wAl_size {s : ByteArray} {a d : Int} (h : 0 < wAl s a d) : a + wAl s a d ≤ (s.size : Int) := by
  have := (cnd_iff.1 (wAl_cnd (s := s) (a := a) (d := d) (j := (wAl s a d - 1).toNat) (by omega))).1
  omega
theorem al_go {s : ByteArray} {a d n : Int} (h0 : 0 ≤ n) (h1 : n < 18) (hc : cnd s a d n.toNat = true) : alF s a d (18 - n).toNat n.toNat = alF s a d (18 - (n + 1)).toNat (n + 1).toNat := by
  rw [show (18 - n).toNat = (18 - (n + 1)).toNat + 1 by omega, alF, hc, show (n + 1).toNat = n.toNat + 1 by omega]; rfl
theorem al_end {s : ByteArray} {a d n : Int} (h0 : 0 ≤ n) (h1 : n ≤ 18) (h : n = 18 ∨ cnd s a d n.toNat = false) : ((alF s a d (18 - n).toNat n.toNat : Nat) : Int) = n := by
  by_cases e : n = 18
  · subst e; rfl
  · have h := h.resolve_left e
    rw [show (18 - n).toNat = (18 - n).toNat - 1 + 1 by omega, alF, h, cond_false]; omega
theorem cnd_of {s : ByteArray} {a d n : Int} (h0 : 0 ≤ n) (h1 : a + n < (s.size : Int)) (h2 : bAt s (a + n) = bAt s (a + n - d)) : cnd s a d n.toNat = true := cnd_iff.2 (by rw [show ((n.toNat : Nat) : Int) = n by omega]; exact ⟨h1, h2⟩)
theorem cnd_not {s : ByteArray} {a d n : Int} (h0 : 0 ≤ n) (h : ¬ (a + n < (s.size : Int) ∧ bAt s (a + n) = bAt s (a + n - d))) : cnd s a d n.toNat = false := by
  cases hc : cnd s a d n.toNat with
  | false => rfl
  | true => exact absurd (by have := cnd_iff.1 hc; rwa [show ((n.toNat : Nat) : Int) = n by omega] at this) h
/-! ### The longest copy -/
def bestN (s : ByteArray) (a : Int) : Nat → Int × Int
  | 0 => (0, 0)
  | d + 1 => bif decide ((bestN s a d).1 < wAl s a ((d : Int) + 1)) then (wAl s a ((d : Int) + 1), (d : Int) + 1) else bestN s a d
def thr (p : Int × Int) : Int × Int := bif decide (p.1 < 3) then (0, 0) else p
def wLong (s : ByteArray) (a : Int) : Int × Int := thr (bestN s a (min a 255).toNat)
theorem bestN_bd (s : ByteArray) (a : Int) : ∀ d : Nat, 0 ≤ (bestN s a d).1 ∧ (bestN s a d).1 ≤ 18 ∧ 0 ≤ (bestN s a d).2 ∧ (bestN s a d).2 ≤ d ∧ (0 < (bestN s a d).1 → 1 ≤ (bestN s a d).2 ∧ (bestN s a d).1 = wAl s a (bestN s a d).2)
  | 0 => by simp [bestN]
  | d + 1 => by
    have ih := bestN_bd s a d
    have hb := wAl_bd s a ((d : Int) + 1)
    simp only [bestN]
    by_cases h : (bestN s a d).1 < wAl s a ((d : Int) + 1)
    · rw [decide_eq_true h, cond_true]; exact ⟨hb.1, hb.2, by show 0 ≤ (d : Int) + 1; omega, by show (d : Int) + 1 ≤ ((d + 1 : Nat) : Int); omega, fun _ => ⟨by show 1 ≤ (d : Int) + 1; omega, rfl⟩⟩
    · rw [decide_eq_false h, cond_false]; refine ⟨ih.1, ih.2.1, ih.2.2.1, by omega, ih.2.2.2.2⟩
theorem wLong_bd (s : ByteArray) (a : Int) : (wLong s a = (0, 0)) ∨ (3 ≤ (wLong s a).1 ∧ (wLong s a).1 ≤ 18 ∧ 1 ≤ (wLong s a).2 ∧ (wLong s a).2 ≤ 255 ∧ (wLong s a).2 ≤ a ∧ (wLong s a).1 = wAl s a (wLong s a).2) := by
  have h := bestN_bd s a (min a 255).toNat
  unfold wLong thr
  by_cases hc : (bestN s a (min a 255).toNat).1 < 3
  · rw [decide_eq_true hc]; exact .inl rfl
  · rw [decide_eq_false hc, cond_false]
    have := h.2.2.2.2 (by omega)
    right; omega
theorem thr_step (s : ByteArray) (a : Int) (d : Nat) : thr (bestN s a (d + 1)) = bif decide (wAl s a ((d : Int) + 1) < 3) then thr (bestN s a d) else bif decide ((thr (bestN s a d)).1 < wAl s a ((d : Int) + 1)) then (wAl s a ((d : Int) + 1), (d : Int) + 1) else thr (bestN s a d) := by
  simp only [bestN]
  generalize wAl s a ((d : Int) + 1) = x
  generalize bestN s a d = b
  unfold thr
  by_cases h1 : b.1 < x <;> by_cases h2 : x < 3 <;> by_cases h3 : b.1 < 3 <;> simp [h1, h2, h3] <;> first | omega | (intro h; omega) | (rw [decide_eq_true (show 0 < x by omega), cond_true])
theorem thr_skip {s : ByteArray} {a : Int} {D : Nat} : ∀ (k : Nat), (∀ e : Nat, D < e → e ≤ D + k → wAl s a (e : Int) < 3) → thr (bestN s a (D + k)) = thr (bestN s a D)
  | 0, _ => rfl
  | k + 1, h => by
    rw [show D + (k + 1) = D + k + 1 by omega, thr_step, decide_eq_true (by have := h (D + k + 1) (by omega) (by omega); simpa using this), cond_true]
    exact thr_skip k fun e h1 h2 => h e h1 (by omega)
/-! ### Where three bytes stood -/
def keyAt (s : ByteArray) (p : Int) : Value := .agg #[.int .u8 (bAt s p), .int .u8 (bAt s (p + 1)), .int .u8 (bAt s (p + 2))]
open Classical in
noncomputable def occ (s : ByteArray) (k : Value) : Nat → List (List Value)
  | 0 => []
  | p + 1 => if p + 3 ≤ s.size ∧ keyAt s (p : Int) = k then occ s k p ++ [[Value.int .i64 (p : Int)]] else occ s k p
def isAt (s : ByteArray) (k : Value) (p : Nat) : Prop := p + 3 ≤ s.size ∧ keyAt s (p : Int) = k
theorem occ_len (s : ByteArray) (k : Value) : ∀ a, (occ s k a).length ≤ a
  | 0 => Nat.le_refl _
  | a + 1 => by
    have := occ_len s k a
    simp only [occ]
    split
    · simp; omega
    · omega
theorem occ_mono (s : ByteArray) (k : Value) (p : Nat) : ∀ d, (occ s k p).length ≤ (occ s k (p + d)).length
  | 0 => Nat.le_refl _
  | d + 1 => by
    have := occ_mono s k p d
    rw [show p + (d + 1) = p + d + 1 by omega]
    simp only [occ]
    split
    · simp; omega
    · omega
theorem rank_lt {s : ByteArray} {k : Value} {p q : Nat} (h : p < q) (hm : isAt s k p) : (occ s k p).length < (occ s k q).length := by
  have h1 := occ_mono s k (p + 1) (q - (p + 1))
  rw [show p + 1 + (q - (p + 1)) = q by omega] at h1
  have h2 : (occ s k (p + 1)).length = (occ s k p).length + 1 := by
    simp only [occ]; rw [if_pos (show p + 3 ≤ s.size ∧ keyAt s (p : Int) = k from hm)]; simp
  omega
theorem occ_get {s : ByteArray} {k : Value} {p : Nat} (hm : isAt s k p) : ∀ {a : Nat}, p < a → vI (cellAt (occ s k a) (occ s k p).length 0) = (p : Int)
  | a + 1, h => by
    simp only [occ]
    by_cases e : p = a
    · subst e
      rw [if_pos (show p + 3 ≤ s.size ∧ keyAt s (p : Int) = k from hm)]
      simp [cellAt, List.getD, vI]
    · have ih := occ_get hm (a := a) (by omega)
      have hlt := rank_lt (q := a) (by omega) hm
      split
      · rw [← ih]
        simp [cellAt, List.getD, List.getElem?_append_left hlt]
      · exact ih
theorem occ_ex {s : ByteArray} {k : Value} : ∀ {a i : Nat}, i < (occ s k a).length → ∃ p, p < a ∧ isAt s k p ∧ (occ s k p).length = i
  | 0, i, h => by simp [occ] at h
  | a + 1, i, h => by
    simp only [occ] at h
    split at h
    · rename_i hm
      simp at h
      by_cases e : i = (occ s k a).length
      · exact ⟨a, by omega, hm, e.symm⟩
      · obtain ⟨p, h1, h2, h3⟩ := occ_ex (s := s) (k := k) (a := a) (i := i) (by omega)
        exact ⟨p, by omega, h2, h3⟩
    · obtain ⟨p, h1, h2, h3⟩ := occ_ex (a := a) (i := i) h
      exact ⟨p, by omega, h2, h3⟩
theorem keyAt_inj {s : ByteArray} {p q : Int} : keyAt s p = keyAt s q ↔ bAt s p = bAt s q ∧ bAt s (p + 1) = bAt s (q + 1) ∧ bAt s (p + 2) = bAt s (q + 2) := by
  simp [keyAt]
/-- Three bytes alike: the same key. -/
theorem al3 {s : ByteArray} {a p : Nat} (ha : a + 3 ≤ s.size) (hp : p < a) : 3 ≤ wAl s (a : Int) ((a : Int) - p) ↔ isAt s (keyAt s (a : Int)) p := by
  constructor
  · intro h
    refine ⟨by omega, keyAt_inj.2 ?_⟩
    have c0 := (cnd_iff.1 (wAl_cnd (s := s) (a := a) (d := (a : Int) - p) (j := 0) (by omega))).2
    have c1 := (cnd_iff.1 (wAl_cnd (s := s) (a := a) (d := (a : Int) - p) (j := 1) (by omega))).2
    have c2 := (cnd_iff.1 (wAl_cnd (s := s) (a := a) (d := (a : Int) - p) (j := 2) (by omega))).2
    simp only [Int.natCast_zero, Int.add_zero, Int.natCast_one] at c0 c1 c2
    refine ⟨?_, ?_, ?_⟩
    · rw [c0]; congr 1; omega
    · rw [c1]; congr 1; omega
    · rw [show ((a : Int) + 2) = a + ((2 : Nat) : Int) by omega, c2]; congr 1; omega
  · rintro ⟨_, hk⟩
    obtain ⟨k0, k1, k2⟩ := keyAt_inj.1 hk
    apply Classical.byContradiction
    intro hn
    have hb := wAl_bd s (a : Int) ((a : Int) - p)
    have hs := wAl_stop (s := s) (a := a) (d := (a : Int) - p) (by omega)
    have : wAl s (a : Int) ((a : Int) - p) = 0 ∨ wAl s (a : Int) ((a : Int) - p) = 1 ∨ wAl s (a : Int) ((a : Int) - p) = 2 := by omega
    have hc : ∀ j : Nat, j < 3 → cnd s (a : Int) ((a : Int) - p) j = true := fun j hj => cnd_iff.2 ⟨by omega, by
      have e : (a : Int) + j - (a - p) = p + j := by omega
      rw [e]
      match j, hj with
      | 0, _ => simpa using k0.symm
      | 1, _ => simpa using k1.symm
      | 2, _ => simpa using k2.symm⟩
    rcases this with h | h | h
    · rw [h, show (0 : Int).toNat = 0 from rfl, hc 0 (by decide)] at hs; cases hs
    · rw [h, show (1 : Int).toNat = 1 from rfl, hc 1 (by decide)] at hs; cases hs
    · rw [h, show (2 : Int).toNat = 2 from rfl, hc 2 (by decide)] at hs; cases hs
/-! ### The chains' search -/
/-- What has been looked at: the places of rank above i; D: how far. -/
structure Srch (s : ByteArray) (a : Nat) (i : Int) (D : Nat) (b d : Int) : Prop where
  hD : D ≤ 255 ∧ D ≤ a
  rank : ∀ p, p < a → isAt s (keyAt s (a : Int)) p → (((occ s (keyAt s (a : Int)) p).length : Int) ≤ i ↔ D < a - p)
  best : (b, d) = thr (bestN s (a : Int) D)
theorem srch_start {s : ByteArray} {a : Nat} : Srch s a (((occ s (keyAt s (a : Int)) a).length : Int) - 1) 0 0 0 := by
  refine ⟨by omega, fun p hp hm => ?_, rfl⟩
  have := rank_lt hp hm
  constructor <;> intro _ <;> omega
theorem srch_at {s : ByteArray} {a : Nat} {i : Int} (h0 : 0 ≤ i) (hi : i < ((occ s (keyAt s (a : Int)) a).length : Int)) :
    ∃ q : Nat, q < a ∧ isAt s (keyAt s (a : Int)) q ∧ ((occ s (keyAt s (a : Int)) q).length : Int) = i ∧ vI (cellAt (occ s (keyAt s (a : Int)) a) i.toNat 0) = (q : Int) := by
  obtain ⟨q, h1, h2, h3⟩ := occ_ex (s := s) (k := keyAt s (a : Int)) (a := a) (i := i.toNat) (by omega)
  exact ⟨q, h1, h2, by omega, by rw [← h3]; exact occ_get h2 h1⟩
theorem srch_skip {s : ByteArray} {a : Nat} (ha : a + 3 ≤ s.size) {i : Int} {D : Nat} {b d : Int} (h : Srch s a i D b d) {k : Nat} (hk : D + k ≤ a) (hno : ∀ p, p < a → isAt s (keyAt s (a : Int)) p → ((occ s (keyAt s (a : Int)) p).length : Int) ≤ i → D + k < a - p) : thr (bestN s (a : Int) (D + k)) = (b, d) := by
  rw [thr_skip k fun e h1 h2 => ?_, ← h.best]
  apply Classical.byContradiction
  intro hn
  have hm : isAt s (keyAt s (a : Int)) (a - e) := (al3 ha (by omega)).1 (by rw [show ((a : Int) - ((a - e : Nat) : Int)) = (e : Int) by omega]; omega)
  have hr := (h.rank (a - e) (by omega) hm).2 (by omega)
  have := hno (a - e) (by omega) hm hr
  omega
theorem srch_step {s : ByteArray} {a : Nat} (ha : a + 3 ≤ s.size) {i : Int} {D : Nat} {b d : Int} (h : Srch s a i D b d) {q : Nat} (hq : q < a) (hm : isAt s (keyAt s (a : Int)) q) (hr : ((occ s (keyAt s (a : Int)) q).length : Int) = i) (hf : a - q ≤ 255) {b' d' : Int}
    (hb : (b < wAl s a ((a : Int) - q) ∧ b' = wAl s a ((a : Int) - q) ∧ d' = (a : Int) - q) ∨ (¬ b < wAl s a ((a : Int) - q) ∧ b' = b ∧ d' = d)) : Srch s a (i - 1) (a - q) b' d' := by
  have hDq := (h.rank q hq hm).1 (by omega)
  have hsk := srch_skip ha h (k := a - q - 1 - D) (by omega) (fun p hp hmp hrp => by
    rcases Nat.lt_trichotomy p q with hl | he | hg
    · omega
    · omega
    · have := rank_lt hg hm; omega)
  rw [show D + (a - q - 1 - D) = a - q - 1 by omega] at hsk
  have hal := (al3 ha hq).2 hm
  have ht := thr_step s (a : Int) (a - q - 1)
  rw [show a - q - 1 + 1 = a - q by omega, show (((a - q - 1 : Nat) : Int) + 1) = (a : Int) - q by omega, decide_eq_false (by omega), cond_false, hsk] at ht
  refine ⟨by omega, fun p hp hmp => ?_, ?_⟩
  · rcases Nat.lt_trichotomy p q with hl | he | hg
    · have := rank_lt hl hmp; constructor <;> intro _ <;> omega
    · subst he; constructor <;> intro _ <;> omega
    · have := rank_lt hg hm; constructor <;> intro _ <;> omega
  · rcases hb with ⟨h1, rfl, rfl⟩ | ⟨h1, rfl, rfl⟩
    · rw [ht, decide_eq_true h1]; rfl
    · rw [ht, decide_eq_false h1]; rfl
theorem srch_end {s : ByteArray} {a : Nat} (ha : a + 3 ≤ s.size) {i : Int} {D : Nat} {b d : Int} (h : Srch s a i D b d) (hi : i < ((occ s (keyAt s (a : Int)) a).length : Int)) (hx : i < 0 ∨ (0 ≤ i ∧ 255 < (a : Int) - vI (cellAt (occ s (keyAt s (a : Int)) a) i.toNat 0))) : wLong s (a : Int) = (b, d) := by
  unfold wLong
  have hD := h.hD
  have hsk := srch_skip ha h (k := (min (a : Int) 255).toNat - D) (by omega) (fun p hp hmp hrp => by
    rcases hx with hx | ⟨hx, hf⟩
    · omega
    · obtain ⟨q, q1, q2, q3, q4⟩ := srch_at hx hi
      rw [q4] at hf
      rcases Nat.lt_trichotomy p q with hl | he | hg
      · omega
      · omega
      · have := rank_lt hg q2; omega)
  have := h.hD
  rw [show D + ((min (a : Int) 255).toNat - D) = (min (a : Int) 255).toNat by omega] at hsk
  exact hsk
theorem short_none {s : ByteArray} {a : Nat} (ha : ¬ a + 3 ≤ s.size) : wLong s (a : Int) = (0, 0) := by
  rcases wLong_bd s (a : Int) with h | ⟨h1, h2, h3, h4, h5, h6⟩
  · exact h
  · exfalso
    have := wAl_size (s := s) (a := a) (d := (wLong s (a : Int)).2) (by omega)
    omega
def wKey (s : ByteArray) (a : Int) : Int × Int × Int × Bool := bif decide ((s.size : Int) < a + 3) then (0, 0, 0, false) else (bAt s a, bAt s (a + 1), bAt s (a + 2), true)
theorem wKey_no {s : ByteArray} {a : Int} (h : (s.size : Int) < a + 3) : wKey s a = (0, 0, 0, false) := by unfold wKey; rw [decide_eq_true h]; rfl
theorem wKey_yes {s : ByteArray} {a : Int} (h : ¬ (s.size : Int) < a + 3) : wKey s a = (bAt s a, bAt s (a + 1), bAt s (a + 2), true) := by unfold wKey; rw [decide_eq_false h]; rfl
theorem bAt_in (s : ByteArray) (i : Int) : 0 ≤ bAt s i ∧ bAt s i ≤ 255 := by have := bAt_lt s i; omega
theorem occ_add {s : ByteArray} {p : Nat} (h : p + 3 ≤ s.size) : occ s (keyAt s (p : Int)) (p + 1) = occ s (keyAt s (p : Int)) p ++ [[Value.int .i64 (p : Int)]] ∧ ∀ k, k ≠ keyAt s (p : Int) → occ s k (p + 1) = occ s k p :=
  ⟨by simp [occ, h], fun k hk => by simp only [occ]; rw [if_neg fun e => hk e.2.symm]⟩
theorem occ_same {s : ByteArray} {p : Nat} (h : ¬ p + 3 ≤ s.size) (k : Value) : occ s k (p + 1) = occ s k p := by simp only [occ]; rw [if_neg fun e => h e.1]
end Go.Proofs.Ytgicfkgiecgjoaa.RS
