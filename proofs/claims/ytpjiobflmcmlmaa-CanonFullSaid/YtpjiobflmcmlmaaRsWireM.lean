/- Numbers and texts as bytes: what is told is taken, and only that. -/
import Derived.Test.YtpjiobflmcmlmaaRsWire
set_option linter.unusedVariables false
set_option linter.unusedSimpArgs false
namespace Go.Proofs.Ytpjiobflmcmlmaa.RS
open Go Go.RowKit
/-- Where the first byte below 128 stands: i places behind a. -/
structure Stop (s : ByteArray) (a : Int) (i : Nat) : Prop where
  hi : ∀ j : Nat, j < i → 128 ≤ bAt s (a + (j : Nat))
  lo : bAt s (a + (i : Nat)) < 128
  le : i ≤ 5
  h0 : 0 ≤ a
  h1 : a + i + 1 ≤ (s.size : Int)
theorem Stop.good {s : ByteArray} {a : Int} {i : Nat} (h : Stop s a i) : goodL (byL s a (i + 1)) := by
  rw [byL_succ]
  refine goodL_of (fun x hx => ?_) (bAt_bd _ _).1 h.lo
  obtain ⟨j, hj, rfl⟩ := List.mem_map.1 hx
  exact ⟨h.hi j (List.mem_range.1 hj), (bAt_bd _ _).2⟩
theorem Stop.tight {s : ByteArray} {a : Int} {i : Nat} : tight (byL s a (i + 1)) ↔ (bAt s (a + (i : Nat)) ≠ 0 ∨ i = 0) := by
  rw [byL_succ, tight_app]
  constructor
  · rintro (h | h)
    · exact .inl h
    · right; have := congrArg List.length h; simpa [byL_len] using this
  · rintro (h | rfl)
    · exact .inl h
    · exact .inr rfl
theorem byL_bytes (s : ByteArray) (a : Int) (k : Nat) : ∀ c ∈ byL s a k, 0 ≤ c ∧ c ≤ 255 := fun c hc => by
  obtain ⟨j, _, rfl⟩ := List.mem_map.1 hc; exact bAt_bd _ _
theorem Stop.chk {s : ByteArray} {a : Int} {i : Nat} (h : Stop s a i) : (accN s a (i + 1) < 1099511627776 ∧ (bAt s (a + (i : Nat)) ≠ 0 ∨ i = 0)) ↔ s.extract a.toNat (a + i + 1).toNat = wNum (accN s a (i + 1)) := by
  have hx := extract_bytes s (k := i + 1) h.h0 (by have := h.h1; omega)
  rw [show a + ((i + 1 : Nat) : Int) = a + i + 1 by omega] at hx
  have hb := accN_bd s a (i + 1)
  rw [hx]
  constructor
  · rintro ⟨h1, h2⟩
    rw [wNum_ok hb.1 h1, acc_dl, enc_dl h.good (Stop.tight.2 h2) (by rw [byL_len]; have := h.le; omega)]
  · intro he
    have hn : wNum (accN s a (i + 1)) ≠ ByteArray.empty := by
      rw [← he, Ne, empty_iff, bstr_len, vb_len, byL_len]; omega
    obtain ⟨k0, k1⟩ := wNum_ne.1 hn
    refine ⟨k1, Stop.tight.1 ?_⟩
    rw [wNum_ok k0 k1] at he
    have := bstr_inj (byL_bytes _ _ _) (enc_bytes 5 _ k0 (by rw [lim5]; omega)) he
    rw [this]
    exact tight_enc 5 _ k0
theorem tk_skip (s : ByteArray) (a : Int) : ∀ (k i r : Nat), (∀ j : Nat, j < k → 128 ≤ bAt s (a + ((i + j : Nat) : Int))) → k ≤ r → tkN s a r i = tkN s a (r - k) (i + k)
  | 0, i, r, _, _ => rfl
  | k + 1, i, r + 1, h, hr => by
    simp only [tkN]
    rw [show decide (128 ≤ bAt s (a + (i : Nat))) = true by simpa using h 0 (by omega)]
    simp only [cond_true]
    rw [tk_skip s a k (i + 1) r (fun j hj => by have := h (j + 1) (by omega); rwa [show i + (j + 1) = i + 1 + j by omega] at this) (by omega), show r + 1 - (k + 1) = r - k by omega, show i + 1 + k = i + (k + 1) by omega]
def tkEnd (s : ByteArray) (a : Int) (i : Nat) : Int × Int × Bool := bif orB (decide (1099511627776 ≤ accN s a (i + 1))) (andB (decide (bAt s (a + (i : Nat)) = 0)) (decide (0 < i))) then (0, 0, false) else (accN s a (i + 1), a + (i : Nat) + 1, true)
theorem tk_stop {s : ByteArray} {a : Int} {i r : Nat} (h : bAt s (a + (i : Nat)) < 128) (hr : 1 ≤ r) : tkN s a r i = tkEnd s a i := by
  obtain ⟨r, rfl⟩ : ∃ k, r = k + 1 := ⟨r - 1, by omega⟩
  simp only [tkN]
  rw [show decide (128 ≤ bAt s (a + (i : Nat))) = false by simp; omega]; rfl
theorem tkEnd_ok {s : ByteArray} {a : Int} {i : Nat} (h : accN s a (i + 1) < 1099511627776 ∧ (bAt s (a + (i : Nat)) ≠ 0 ∨ i = 0)) : tkEnd s a i = (accN s a (i + 1), a + (i : Nat) + 1, true) := by
  unfold tkEnd
  have : orB (decide (1099511627776 ≤ accN s a (i + 1))) (andB (decide (bAt s (a + (i : Nat)) = 0)) (decide (0 < i))) = false := by
    simp only [orB, andB, Bool.or_eq_false_iff, Bool.and_eq_false_iff, decide_eq_false_iff_not]
    omega
  rw [this]; rfl
theorem tkEnd_no {s : ByteArray} {a : Int} {i : Nat} (h : ¬ (accN s a (i + 1) < 1099511627776 ∧ (bAt s (a + (i : Nat)) ≠ 0 ∨ i = 0))) : tkEnd s a i = (0, 0, false) := by
  unfold tkEnd
  have : orB (decide (1099511627776 ≤ accN s a (i + 1))) (andB (decide (bAt s (a + (i : Nat)) = 0)) (decide (0 < i))) = true := by
    simp only [orB, andB, Bool.or_eq_true, Bool.and_eq_true, decide_eq_true_eq]
    omega
  rw [this]; rfl
/-- What is taken, or that nothing is. -/
theorem tk_cases (s : ByteArray) (a : Int) (h0 : 0 ≤ a) : ∀ (r i : Nat), r + i ≤ 6 → a + r + i ≤ (s.size : Int) → (∀ j : Nat, j < i → 128 ≤ bAt s (a + (j : Nat))) →
    (tkN s a r i = (0, 0, false)) ∨ ∃ k, i ≤ k ∧ k < i + r ∧ Stop s a k ∧ accN s a (k + 1) < 1099511627776 ∧ (bAt s (a + (k : Nat)) ≠ 0 ∨ k = 0) ∧ tkN s a r i = (accN s a (k + 1), a + (k : Nat) + 1, true)
  | 0, i, _, _, _ => .inl rfl
  | r + 1, i, h6, hs, hc => by
    by_cases hb : 128 ≤ bAt s (a + (i : Nat))
    · have e : tkN s a (r + 1) i = tkN s a r (i + 1) := by
        simp only [tkN]; rw [show decide (128 ≤ bAt s (a + (i : Nat))) = true by simpa using hb]; rfl
      rw [e]
      rcases tk_cases s a h0 r (i + 1) (by omega) (by omega) (fun j hj => by
        by_cases e : j = i
        · subst e; exact hb
        · exact hc j (by omega)) with h | ⟨k, h1, h2, h3⟩
      · exact .inl h
      · exact .inr ⟨k, by omega, by omega, h3⟩
    · rw [tk_stop (by omega) (by omega)]
      by_cases hk : accN s a (i + 1) < 1099511627776 ∧ (bAt s (a + (i : Nat)) ≠ 0 ∨ i = 0)
      · exact .inr ⟨i, Nat.le_refl _, by omega, ⟨hc, by omega, by omega, h0, by omega⟩, hk.1, hk.2, tkEnd_ok hk⟩
      · exact .inl (tkEnd_no hk)
theorem wTake_in {s : ByteArray} {a : Int} (h0 : 0 ≤ a) (h1 : a ≤ (s.size : Int)) : wTake s a = tkN s a (min 6 ((s.size : Int) - a)).toNat 0 := by
  unfold wTake
  rw [show orB (decide (a < 0)) (decide ((s.size : Int) < a)) = false by simp [orB]; omega]; rfl
theorem wTake_out {s : ByteArray} {a : Int} (h : a < 0 ∨ (s.size : Int) < a) : wTake s a = (0, 0, false) := by
  unfold wTake
  rw [show orB (decide (a < 0)) (decide ((s.size : Int) < a)) = true by simp [orB]; omega]; rfl
theorem wTake_cases (s : ByteArray) (a : Int) : wTake s a = (0, 0, false) ∨ ∃ k, Stop s a k ∧ accN s a (k + 1) < 1099511627776 ∧ (bAt s (a + (k : Nat)) ≠ 0 ∨ k = 0) ∧ wTake s a = (accN s a (k + 1), a + (k : Nat) + 1, true) := by
  by_cases h : 0 ≤ a ∧ a ≤ (s.size : Int)
  · rw [wTake_in h.1 h.2]
    rcases tk_cases s a h.1 (min 6 ((s.size : Int) - a)).toNat 0 (by omega) (by omega) (fun j hj => by omega) with e | ⟨k, _, _, h3, h4, h5, h6⟩
    · exact .inl e
    · exact .inr ⟨k, h3, h4, h5, h6⟩
  · exact .inl (wTake_out (by omega))
/-- What is taken is told by just these bytes. -/
theorem wTake_once {s : ByteArray} {a : Int} (h : (wTake s a).2.2 = true) : 0 ≤ a ∧ a < (wTake s a).2.1 ∧ (wTake s a).2.1 ≤ (s.size : Int) ∧ 0 ≤ (wTake s a).1 ∧ (wTake s a).1 < 1099511627776 ∧ s.extract a.toNat (wTake s a).2.1.toNat = wNum (wTake s a).1 := by
  rcases wTake_cases s a with e | ⟨k, h1, h2, h3, e⟩
  · rw [e] at h; cases h
  · rw [e]
    have hbb := accN_bd s a (k + 1)
    have := h1.h1
    exact ⟨h1.h0, by simp only []; omega, by simp only []; omega, hbb.1, h2, h1.chk.1 ⟨h2, h3⟩⟩
theorem wTake_bd (s : ByteArray) (a : Int) : 0 ≤ (wTake s a).1 ∧ (wTake s a).1 < 1099511627776 ∧ 0 ≤ (wTake s a).2.1 ∧ ((wTake s a).2.1 ≤ (s.size : Int)) := by
  cases h : (wTake s a).2.2 with
  | true => have := wTake_once h; omega
  | false =>
    rcases wTake_cases s a with e | ⟨k, _, _, _, e⟩
    · rw [e]; simp
    · rw [e] at h; cases h
theorem wTake_no {s : ByteArray} {a : Int} (h : (wTake s a).2.2 = false) : wTake s a = (0, 0, false) := by
  rcases wTake_cases s a with e | ⟨k, _, _, _, e⟩
  · exact e
  · rw [e] at h; cases h
theorem goodL_get : ∀ {l : List Int} {j : Nat} (h : goodL l) (hj : j + 1 < l.length), 128 ≤ l[j]
  | [c], j, _, hj => by simp at hj
  | c :: d :: r, 0, h, _ => h.1
  | c :: d :: r, j + 1, h, hj => by simpa using goodL_get h.2.2 (by simpa using hj)
theorem goodL_last : ∀ {l : List Int} (h : goodL l) (hl : 0 < l.length), l[l.length - 1] < 128
  | [c], h, _ => h.2
  | c :: d :: r, h, _ => by
    have := goodL_last h.2.2 (by simp)
    simpa using this
/-- What is told is taken. -/
theorem wTake_told {s : ByteArray} {p : Int} {n : Int} (h0 : 0 ≤ n) (h1 : n < 1099511627776) (hp : 0 ≤ p) (hs : p + (wNum n).size ≤ (s.size : Int)) (hb : byL s p (wNum n).size = enc 5 n) : wTake s p = (n, p + ((wNum n).size : Nat), true) := by
  rw [wNum_size h0 h1] at hs hb ⊢
  have hl := enc_len 5 n
  have hg := good_enc 5 n h0 (by rw [lim5]; omega)
  have ht := tight_enc 5 n h0
  have hd := dl_enc 5 n h0 (by rw [lim5]; omega)
  generalize enc 5 n = L at *
  obtain ⟨K, hK⟩ : ∃ K, L.length = K + 1 := ⟨L.length - 1, by omega⟩
  have get : ∀ (j : Nat) (hj : j < L.length), L[j] = bAt s (p + (j : Nat)) := fun j hj => by
    have := byL_get s p (k := L.length) hj
    rw [hb, List.getElem?_eq_getElem hj] at this
    exact Option.some.inj this
  have hlo : bAt s (p + (K : Nat)) < 128 := by
    have := goodL_last hg (by omega)
    rw [get _ (by omega)] at this
    rwa [hK, Nat.add_sub_cancel] at this
  have hst : Stop s p K := ⟨fun j hj => by rw [← get j (by omega)]; exact goodL_get hg (by omega), hlo, by omega, hp, by omega⟩
  have hacc : accN s p (K + 1) = n := by rw [acc_dl, ← hK, hb, hd]
  have htt : bAt s (p + (K : Nat)) ≠ 0 ∨ K = 0 := Stop.tight.1 (by rw [← hK, hb]; exact ht)
  rw [wTake_in hp (by omega), tk_skip s p K 0 _ (fun j hj => by simpa using hst.hi j hj) (by omega), Nat.zero_add, tk_stop hlo (by omega), tkEnd_ok ⟨by rw [hacc]; exact h1, htt⟩, hacc, hK]
  simp; omega
/-! ### Texts -/
def wText (s : ByteArray) : ByteArray := wNum (s.size : Int) ++ s
def wTakeText (s : ByteArray) (a : Int) : ByteArray × Int × Bool :=
  bif orB (!(wTake s a).2.2) (decide ((s.size : Int) - (wTake s a).2.1 < (wTake s a).1)) then (ByteArray.empty, 0, false) else (s.extract (wTake s a).2.1.toNat ((wTake s a).2.1 + (wTake s a).1).toNat, (wTake s a).2.1 + (wTake s a).1, true)
/-! ### Lists -/
def intsN (l : List (List Value)) : Nat → ByteArray
  | 0 => wNum (l.length : Int)
  | k + 1 => intsN l k ++ wNum (num l k 0)
def wInts (l : List (List Value)) : ByteArray := bif decide (∀ i, i < l.length → wNum (num l i 0) ≠ ByteArray.empty) then intsN l l.length else ByteArray.empty
def tkI (s : ByteArray) (a : Int) : Nat → List (List Value) × Int × Bool
  | 0 => ([], a, true)
  | k + 1 => bif (tkI s a k).2.2 then
      (bif (wTake s (tkI s a k).2.1).2.2 then ((tkI s a k).1 ++ [[Value.int .i64 (wTake s (tkI s a k).2.1).1]], (wTake s (tkI s a k).2.1).2.1, true) else ([], 0, false)) else ([], 0, false)
def wTakeInts (s : ByteArray) (a : Int) : List (List Value) × Int × Bool :=
  bif orB (!(wTake s a).2.2) (decide ((s.size : Int) - (wTake s a).2.1 < (wTake s a).1)) then ([], 0, false) else tkI s (wTake s a).2.1 (wTake s a).1.toNat
theorem tkI_fail {s : ByteArray} {a : Int} {k : Nat} (h : (tkI s a k).2.2 = false) : ∀ m, k ≤ m → tkI s a m = ([], 0, false)
  | 0, hm => by obtain rfl : k = 0 := by omega
                cases h
  | m + 1, hm => by
    by_cases e : k = m + 1
    · subst e
      simp only [tkI] at h ⊢
      cases h1 : (tkI s a m).2.2 with
      | false => rfl
      | true =>
        rw [h1] at h
        cases h2 : (wTake s (tkI s a m).2.1).2.2 with
        | false => rfl
        | true => rw [h2] at h; cases h
    · have := tkI_fail h m (by omega)
      simp only [tkI, this]; rfl
theorem tkI_len {s : ByteArray} {a : Int} : ∀ k, (tkI s a k).2.2 = true → (tkI s a k).1.length = k
  | 0, _ => rfl
  | k + 1, h => by
    simp only [tkI] at h ⊢
    cases h1 : (tkI s a k).2.2 with
    | false => rw [h1] at h; cases h
    | true =>
      rw [h1] at h
      cases h2 : (wTake s (tkI s a k).2.1).2.2 with
      | false => rw [h2] at h; cases h
      | true => simp only [cond_true, List.length_append, List.length_cons, List.length_nil, tkI_len k h1]
/-- Are two lists of numbers the same? -/
def sameI (xs ys : List (List Value)) : Bool := decide (xs.length = ys.length ∧ ∀ i, i < xs.length → num xs i 0 = num ys i 0)
theorem sameI_len {xs ys : List (List Value)} (h : ¬ (xs.length : Int) = (ys.length : Int)) : sameI xs ys = false := decide_eq_false fun hh => h (by rw [hh.1])
theorem sameI_at {xs ys : List (List Value)} {i : Int} (h0 : 0 ≤ i) (hi : i < (xs.length : Int)) (h : ¬ num xs i.toNat 0 = num ys i.toNat 0) : sameI xs ys = false := decide_eq_false fun hh => h (hh.2 i.toNat (by omega))
theorem sameI_all {xs ys : List (List Value)} (hl : (xs.length : Int) = (ys.length : Int)) (h : ∀ i, i < xs.length → num xs i 0 = num ys i 0) : sameI xs ys = true := decide_eq_true ⟨by omega, h⟩
theorem sameI_iff {xs ys : List (List Value)} : sameI xs ys = true ↔ xs.length = ys.length ∧ ∀ i, i < xs.length → num xs i 0 = num ys i 0 := decide_eq_true_iff
theorem acc_facts (s : ByteArray) (a : Int) {i : Int} (h0 : 0 ≤ i) (h5 : i ≤ 5) : (2 : Int) ^ ((7 : Int) * i).toNat = 128 ^ i.toNat ∧ (0 : Int) < 128 ^ i.toNat ∧ 0 ≤ accN s a i.toNat ∧ accN s a i.toNat < 128 ^ i.toNat ∧
    accN s a (i.toNat + 1) = accN s a i.toNat + bAt s (a + i) % 128 * 128 ^ i.toNat ∧ 0 ≤ bAt s (a + i) % 128 * 128 ^ i.toNat ∧ accN s a (i.toNat + 1) < 4398046511104 ∧
    bitop .or .i64 (accN s a i.toNat) (bAt s (a + i) % 128 * 2 ^ ((7 : Int) * i).toNat) = accN s a (i.toNat + 1) := by
  obtain ⟨k, rfl⟩ := Int.eq_ofNat_of_zero_le h0
  simp only [Int.toNat_natCast]
  have hb := bAt_bd s (a + (k : Int))
  have h1 := accN_bd s a k
  have h2 := accN_bd s a (k + 1)
  have h3 := pow128_le (i := k + 1) (by omega)
  have hp : (0 : Int) < 128 ^ k := Int.pow_pos (by decide)
  exact ⟨pow7 k, hp, h1.1, h1.2, by simp only [accN, pow7], Int.mul_nonneg (by omega) (by omega), by omega, acc_step s a (by omega)⟩
theorem wTake_stop {s : ByteArray} {a i : Int} (h0 : 0 ≤ i) (hi : i < min 6 ((s.size : Int) - a)) (ha : 0 ≤ a) (hc : ∀ j : Nat, (j : Int) < i → 128 ≤ bAt s (a + (j : Nat))) (hl : bAt s (a + i) < 128) : wTake s a = tkEnd s a i.toNat := by
  rw [wTake_in ha (by omega), tk_skip s a i.toNat 0 _ (fun j hj => by have := hc j (by omega); simpa using this) (by omega), Nat.zero_add]
  exact tk_stop (by rw [Int.toNat_of_nonneg h0]; exact hl) (by omega)
theorem wTake_none {s : ByteArray} {a : Int} (h0 : 0 ≤ a) (h1 : a ≤ (s.size : Int)) (hc : ∀ j : Nat, (j : Int) < min 6 ((s.size : Int) - a) → 128 ≤ bAt s (a + (j : Nat))) : wTake s a = (0, 0, false) := by
  rw [wTake_in h0 h1, tk_skip s a (min 6 ((s.size : Int) - a)).toNat 0 _ (fun j hj => by have := hc j (by omega); simpa using this) (Nat.le_refl _), Nat.sub_self]
  rfl
theorem wTake_ext {s : ByteArray} {a i : Int} (h0 : 0 ≤ i) (hi : i < min 6 ((s.size : Int) - a)) (ha : 0 ≤ a) (hc : ∀ j : Nat, (j : Int) < i → 128 ≤ bAt s (a + (j : Nat))) (hl : bAt s (a + i) < 128) :
    wTake s a = bif decide (s.extract a.toNat ((a + i) + 1).toNat = wNum (accN s a (i.toNat + 1))) then (accN s a (i.toNat + 1), (a + i) + 1, true) else (0, 0, false) := by
  rw [wTake_stop h0 hi ha hc hl]
  obtain ⟨k, rfl⟩ := Int.eq_ofNat_of_zero_le h0
  simp only [Int.toNat_natCast]
  have hst : Stop s a k := ⟨fun j hj => hc j (by omega), hl, by omega, ha, by omega⟩
  by_cases h : s.extract a.toNat ((a + (k : Int)) + 1).toNat = wNum (accN s a (k + 1))
  · rw [tkEnd_ok (hst.chk.2 h), decide_eq_true h]; rfl
  · rw [tkEnd_no (fun e => h (hst.chk.1 e)), decide_eq_false h]; rfl
theorem wTake_go {s : ByteArray} {a i y : Int} (h0 : 0 ≤ i) (hi : i < min 6 ((s.size : Int) - a)) (ha : 0 ≤ a) (hc : ∀ j : Nat, (j : Int) < i → 128 ≤ bAt s (a + (j : Nat))) (hl : bAt s (a + i) < 128) (hy : y = accN s a (i.toNat + 1)) :
    wTake s a = bif (bif decide (1099511627776 ≤ y) then decide (1099511627776 ≤ y) else andB (decide (bAt s (a + i) = 0)) (decide (0 < i))) then (0, 0, false) else (y, (a + i) + 1, true) := by
  rw [wTake_stop h0 hi ha hc hl, hy]
  obtain ⟨k, rfl⟩ := Int.eq_ofNat_of_zero_le h0
  simp only [Int.toNat_natCast, tkEnd]
  by_cases h : 1099511627776 ≤ accN s a (k + 1)
  · simp [h, orB]
  · simp only [h, decide_false, cond_false, orB, Bool.false_or]
    rw [show decide ((0 : Int) < (k : Int)) = decide (0 < k) by simp]
theorem strVals_append (s t : ByteArray) : strVals (s ++ t) = strVals s ++ strVals t := by simp [strVals]
theorem intsN_le (l : List (List Value)) : ∀ k, (intsN l k).size ≤ 6 * (k + 1)
  | 0 => by simp only [intsN]; have := wNum_le (l.length : Int); omega
  | k + 1 => by
    have := intsN_le l k
    have := wNum_le (num l k 0)
    simp only [intsN, ByteArray.size_append]; omega
theorem intsN_pos (l : List (List Value)) (h : ∀ j : Nat, j < l.length → wNum (num l j 0) ≠ ByteArray.empty) : (intsN l l.length).size ≠ 0 := by
  cases hl : l.length with
  | zero =>
    simp only [intsN, hl]
    rw [wNum_size (by simp) (by simp)]
    have := (enc_len 5 ((0 : Nat) : Int)).1
    omega
  | succ k =>
    simp only [intsN, ByteArray.size_append]
    have := h k (by omega)
    rw [Ne, empty_iff] at this
    omega
theorem wInts_yes {l : List (List Value)} (h : ∀ j : Nat, j < l.length → wNum (num l j 0) ≠ ByteArray.empty) : wInts l = intsN l l.length := by
  unfold wInts; rw [decide_eq_true h]; rfl
theorem wInts_no {l : List (List Value)} {i : Int} (h0 : 0 ≤ i) (h1 : i < (l.length : Int)) (h : wNum (vI (cellAt l i.toNat 0)) = ByteArray.empty) : wInts l = ByteArray.empty := by
  unfold wInts; rw [decide_eq_false (fun hh => hh i.toNat (by omega) h)]; rfl
theorem wInts_le (l : List (List Value)) : (wInts l).size ≤ 6 * (l.length + 1) := by
  unfold wInts
  have := intsN_le l l.length
  cases decide (∀ i, i < l.length → wNum (num l i 0) ≠ ByteArray.empty) <;> simp only [cond_true, cond_false]
  · exact Nat.zero_le _
  · exact this
theorem wTI_c {s : ByteArray} {a : Int} (h : orB (!(wTake s a).2.2) (decide ((s.size : Int) - (wTake s a).2.1 < (wTake s a).1)) = true) : wTakeInts s a = ([], 0, false) := by
  unfold wTakeInts; rw [h]; rfl
theorem wTI_n {s : ByteArray} {a : Int} (h : orB (!(wTake s a).2.2) (decide ((s.size : Int) - (wTake s a).2.1 < (wTake s a).1)) = false) : wTakeInts s a = tkI s (wTake s a).2.1 (wTake s a).1.toNat := by
  unfold wTakeInts; rw [h]; rfl
theorem wTI_f {s : ByteArray} {a i p : Int} {ys : List (List Value)} (h : orB (!(wTake s a).2.2) (decide ((s.size : Int) - (wTake s a).2.1 < (wTake s a).1)) = false) (hq : tkI s (wTake s a).2.1 i.toNat = (ys, p, true)) (hf : (wTake s p).2.2 = false) (hi : 0 ≤ i) (hin : i < (wTake s a).1) : wTakeInts s a = ([], 0, false) := by
  rw [wTI_n h]
  refine tkI_fail (k := i.toNat + 1) ?_ _ (by omega)
  simp only [tkI, hq, cond_true, hf, cond_false]
theorem wTI_d {s : ByteArray} {a i p : Int} {ys : List (List Value)} (h : orB (!(wTake s a).2.2) (decide ((s.size : Int) - (wTake s a).2.1 < (wTake s a).1)) = false) (hq : tkI s (wTake s a).2.1 i.toNat = (ys, p, true)) (hin : i = (wTake s a).1) : wTakeInts s a = (ys, p, true) := by
  rw [wTI_n h, ← hin, hq]
theorem tkI_bd {s : ByteArray} {a : Int} (h0 : 0 ≤ a) (h1 : a ≤ (s.size : Int)) : ∀ k, 0 ≤ (tkI s a k).2.1 ∧ (tkI s a k).2.1 ≤ (s.size : Int)
  | 0 => ⟨h0, h1⟩
  | k + 1 => by
    simp only [tkI]
    have := wTake_bd s (tkI s a k).2.1
    cases (tkI s a k).2.2 <;> simp only [cond_true, cond_false]
    · omega
    · cases (wTake s (tkI s a k).2.1).2.2 <;> simp only [cond_true, cond_false] <;> omega
theorem tkI_le {s : ByteArray} {a : Int} (k : Nat) : (tkI s a k).1.length ≤ k := by
  cases h : (tkI s a k).2.2 with
  | true => rw [tkI_len k h]; exact Nat.le_refl _
  | false => rw [tkI_fail h k (Nat.le_refl _)]; exact Nat.zero_le _
theorem wTakeInts_bd (s : ByteArray) (a : Int) : 0 ≤ (wTakeInts s a).2.1 ∧ (wTakeInts s a).2.1 ≤ (s.size : Int) ∧ ((wTakeInts s a).1.length : Int) ≤ (s.size : Int) := by
  have hb := wTake_bd s a
  cases h : orB (!(wTake s a).2.2) (decide ((s.size : Int) - (wTake s a).2.1 < (wTake s a).1)) with
  | true => rw [wTI_c h]; simp
  | false =>
    rw [wTI_n h]
    have h1 := tkI_bd (s := s) (a := (wTake s a).2.1) (by omega) (by omega) (wTake s a).1.toNat
    have h2 := tkI_le (s := s) (a := (wTake s a).2.1) (wTake s a).1.toNat
    simp only [orB, Bool.or_eq_false_iff, decide_eq_false_iff_not] at h
    omega
/-- Numbers written out are in their range. -/
def okI (l : List (List Value)) : Bool := l.all fun x => x.all fun v => decide (-9223372036854775808 ≤ vI v) && decide (vI v ≤ 9223372036854775807)
theorem okI_hk {l : List (List Value)} (h : okI l = true) (j o : Nat) : -9223372036854775808 ≤ vI (cellAt l j o) ∧ vI (cellAt l j o) ≤ 9223372036854775807 := by
  unfold cellAt
  by_cases hj : j < l.length
  · rw [show l.getD j [] = l[j] by simp [List.getD, hj]]
    by_cases ho : o < l[j].length
    · have h1 := List.all_eq_true.1 h l[j] (List.getElem_mem hj)
      have h2 := List.all_eq_true.1 h1 l[j][o] (List.getElem_mem ho)
      simp only [Bool.and_eq_true, decide_eq_true_eq] at h2
      rw [show l[j].getD o undef = l[j][o] by simp [List.getD, ho]]
      exact h2
    · rw [show l[j].getD o undef = undef by simp [List.getD, List.getElem?_eq_none (show l[j].length ≤ o by omega)]]
      show _ ≤ (0 : Int) ∧ (0 : Int) ≤ _; decide
  · rw [show l.getD j [] = [] by simp [List.getD, List.getElem?_eq_none (show l.length ≤ j by omega)]]
    show _ ≤ (0 : Int) ∧ (0 : Int) ≤ _; decide
theorem wText_le (s : ByteArray) : (wText s).size ≤ s.size + 6 ∧ (wText s).size = (wNum (s.size : Int)).size + s.size := by
  unfold wText
  have := wNum_le (s.size : Int)
  rw [ByteArray.size_append]; omega
theorem wTakeText_bd (s : ByteArray) (a : Int) : 0 ≤ (wTakeText s a).2.1 ∧ (wTakeText s a).2.1 ≤ (s.size : Int) ∧ (wTakeText s a).1.size ≤ s.size := by
  unfold wTakeText
  have hb := wTake_bd s a
  cases h : orB (!(wTake s a).2.2) (decide ((s.size : Int) - (wTake s a).2.1 < (wTake s a).1)) with
  | true => simp
  | false =>
    simp only [orB, Bool.or_eq_false_iff, decide_eq_false_iff_not] at h
    simp only [cond_false, ByteArray.size_extract]
    omega
end Go.Proofs.Ytpjiobflmcmlmaa.RS
