/- Numbers and texts as bytes: what the functions of chapter 10 compute; plain, no program. -/
import Derived.Test.YtgicfkgiecgjoaaRsBitsM
set_option linter.unusedVariables false
set_option linter.unusedSimpArgs false
namespace Go.Proofs.Ytgicfkgiecgjoaa.RS
open Go Go.RowKit
/-! ### A number's bytes -/
def enc : Nat → Int → List Int
  | 0, n => [n]
  | f + 1, n => bif decide (128 ≤ n) then (n % 128 + 128) :: enc f (n / 128) else [n]
def lim : Nat → Int
  | 0 => 128
  | f + 1 => 128 * lim f
def vb (l : List Int) : List (List Value) := l.map fun c => [Value.int .u8 c]
theorem vb_len (l : List Int) : (vb l).length = l.length := by simp [vb]
theorem vb_app (l m : List Int) : vb (l ++ m) = vb l ++ vb m := by simp [vb]
theorem enc_len : ∀ f n, 1 ≤ (enc f n).length ∧ (enc f n).length ≤ f + 1
  | 0, n => by simp [enc]
  | f + 1, n => by
    have := enc_len f (n / 128)
    simp only [enc]
    cases decide (128 ≤ n) <;> simp only [cond_true, cond_false, List.length_cons, List.length_nil] <;> omega
theorem enc_bytes : ∀ f n, 0 ≤ n → n < lim f → ∀ c ∈ enc f n, 0 ≤ c ∧ c ≤ 255
  | 0, n, h0, h1, c, hc => by simp [enc, lim] at *; omega
  | f + 1, n, h0, h1, c, hc => by
    simp only [enc] at hc
    by_cases h : 128 ≤ n
    · simp only [h, decide_true, cond_true, List.mem_cons] at hc
      rcases hc with rfl | hc
      · omega
      · exact enc_bytes f (n / 128) (by omega) (by simp only [lim] at h1; omega) c hc
    · simp only [h, decide_false, cond_false, List.mem_singleton] at hc
      omega
def wNum (n : Int) : ByteArray := bif orB (decide (n < 0)) (decide (1099511627776 ≤ n)) then ByteArray.empty else bstr (vb (enc 5 n))
theorem lim5 : lim 5 = 4398046511104 := by decide
theorem wNum_ok {n : Int} (h0 : 0 ≤ n) (h1 : n < 1099511627776) : wNum n = bstr (vb (enc 5 n)) := by
  unfold wNum
  rw [show orB (decide (n < 0)) (decide (1099511627776 ≤ n)) = false by simp [orB]; omega]; rfl
theorem wNum_no {n : Int} (h : n < 0 ∨ 1099511627776 ≤ n) : wNum n = ByteArray.empty := by
  unfold wNum
  rw [show orB (decide (n < 0)) (decide (1099511627776 ≤ n)) = true by simp [orB]; omega]; rfl
theorem wNum_size {n : Int} (h0 : 0 ≤ n) (h1 : n < 1099511627776) : (wNum n).size = (enc 5 n).length := by
  rw [wNum_ok h0 h1, bstr_len, vb_len]
theorem wNum_le (n : Int) : (wNum n).size ≤ 6 := by
  by_cases h : 0 ≤ n ∧ n < 1099511627776
  · rw [wNum_size h.1 h.2]; exact (enc_len 5 n).2
  · rw [wNum_no (by omega)]; exact Nat.zero_le _
theorem empty_iff (s : ByteArray) : s = ByteArray.empty ↔ s.size = 0 := by
  constructor
  · rintro rfl; rfl
  · intro h
    apply ByteArray.ext
    have : s.data.size = 0 := h
    exact Array.eq_empty_of_size_eq_zero this
theorem wNum_ne {n : Int} : wNum n ≠ ByteArray.empty ↔ 0 ≤ n ∧ n < 1099511627776 := by
  rw [Ne, empty_iff]
  constructor
  · intro h
    apply Classical.byContradiction
    intro hc
    rw [wNum_no (by omega)] at h
    exact h rfl
  · rintro ⟨h0, h1⟩
    rw [wNum_size h0 h1]
    have := (enc_len 5 n).1
    omega
/-! ### What is taken -/
def accN (s : ByteArray) (a : Int) : Nat → Int
  | 0 => 0
  | i + 1 => accN s a i + bAt s (a + (i : Nat)) % 128 * 2 ^ ((7 : Int) * (i : Nat)).toNat
def tkN (s : ByteArray) (a : Int) : Nat → Nat → Int × Int × Bool
  | 0, _ => (0, 0, false)
  | r + 1, i => bif decide (128 ≤ bAt s (a + (i : Nat))) then tkN s a r (i + 1)
      else bif orB (decide (1099511627776 ≤ accN s a (i + 1))) (andB (decide (bAt s (a + (i : Nat)) = 0)) (decide (0 < i))) then (0, 0, false) else (accN s a (i + 1), a + (i : Nat) + 1, true)
def wTake (s : ByteArray) (a : Int) : Int × Int × Bool :=
  bif orB (decide (a < 0)) (decide ((s.size : Int) < a)) then (0, 0, false) else tkN s a (min 6 ((s.size : Int) - a)).toNat 0
theorem bAt_bd (s : ByteArray) (i : Int) : 0 ≤ bAt s i ∧ bAt s i ≤ 255 := by have := bAt_lt s i; omega
theorem pow7 (i : Nat) : (2 : Int) ^ ((7 : Int) * (i : Nat)).toNat = 128 ^ i := by
  rw [show ((7 : Int) * (i : Nat)).toNat = 7 * i by omega, Int.pow_mul]; rfl
theorem accN_bd (s : ByteArray) (a : Int) : ∀ i, 0 ≤ accN s a i ∧ accN s a i < 128 ^ i
  | 0 => by simp [accN]
  | i + 1 => by
    have h := accN_bd s a i
    have hb := bAt_bd s (a + (i : Nat))
    simp only [accN, pow7, Int.pow_succ]
    have hp : (0 : Int) < 128 ^ i := Int.pow_pos (by decide)
    have hm : 0 ≤ bAt s (a + (i : Nat)) % 128 ∧ bAt s (a + (i : Nat)) % 128 ≤ 127 := by omega
    generalize bAt s (a + (i : Nat)) % 128 = m at hm
    have h1 : m * 128 ^ i ≤ 127 * 128 ^ i := Int.mul_le_mul_of_nonneg_right hm.2 (Int.le_of_lt hp)
    have h2 : 0 ≤ m * 128 ^ i := Int.mul_nonneg hm.1 (Int.le_of_lt hp)
    omega
theorem pow128_le {i : Nat} (h : i ≤ 6) : (128 : Int) ^ i ≤ 4398046511104 := by
  match i, h with
  | 0, _ | 1, _ | 2, _ | 3, _ | 4, _ | 5, _ | 6, _ => decide
  | i + 7, h => omega
theorem or_shift {n m : Int} {k : Nat} (h0 : 0 ≤ n) (h1 : n < 2 ^ k) (h2 : 0 ≤ m) (h3 : m * 2 ^ k < 4611686018427387904) (h4 : n < 4611686018427387904) : bitop .or .i64 n (m * 2 ^ k) = n + m * 2 ^ k := by
  obtain ⟨a, rfl⟩ := Int.eq_ofNat_of_zero_le h0
  obtain ⟨b, rfl⟩ := Int.eq_ofNat_of_zero_le h2
  have e : ((b : Int) * 2 ^ k) = ((2 ^ k * b : Nat) : Int) := by push_cast; exact Int.mul_comm _ _
  have e1 : ((2 : Int) ^ k) = ((2 ^ k : Nat) : Int) := by push_cast; rfl
  rw [e1] at h1
  rw [e] at h3 ⊢
  rw [or_i64 (by omega) (by omega), Nat.or_comm, ← Nat.two_pow_add_eq_or_of_lt (by omega)]
  push_cast; omega
theorem acc_step (s : ByteArray) (a : Int) {i : Nat} (h : i ≤ 5) : bitop .or .i64 (accN s a i) (bAt s (a + (i : Nat)) % 128 * 2 ^ ((7 : Int) * (i : Nat)).toNat) = accN s a (i + 1) := by
  have h1 := accN_bd s a i
  have h2 := accN_bd s a (i + 1)
  have hb := bAt_bd s (a + (i : Nat))
  have p6 := pow128_le (i := i) (by omega)
  have p7 := pow128_le (i := i + 1) (by omega)
  have hk : (2 : Int) ^ (7 * i) = 128 ^ i := by rw [Int.pow_mul]; rfl
  simp only [accN] at h2 ⊢
  rw [show ((7 : Int) * (i : Nat)).toNat = 7 * i by omega] at h2 ⊢
  exact or_shift h1.1 (by rw [hk]; exact h1.2) (by omega) (by omega) (by omega)
/-! ### Bytes of a text as a list -/
def byL (s : ByteArray) (p : Int) (k : Nat) : List Int := (List.range k).map fun j => bAt s (p + (j : Nat))
theorem byL_len (s : ByteArray) (p : Int) (k : Nat) : (byL s p k).length = k := by simp [byL]
theorem byL_succ (s : ByteArray) (p : Int) (k : Nat) : byL s p (k + 1) = byL s p k ++ [bAt s (p + (k : Nat))] := by simp [byL, List.range_succ]
theorem byL_get (s : ByteArray) (p : Int) {k j : Nat} (h : j < k) : (byL s p k)[j]? = some (bAt s (p + (j : Nat))) := by simp [byL, h]
def dl : List Int → Int
  | [] => 0
  | c :: r => c % 128 + 128 * dl r
theorem dl_app (c : Int) : ∀ l : List Int, dl (l ++ [c]) = dl l + c % 128 * 128 ^ l.length
  | [] => by simp [dl]
  | x :: l => by
    simp only [List.cons_append, dl, dl_app c l, List.length_cons, Int.pow_succ]
    have : 128 * (dl l + c % 128 * 128 ^ l.length) = 128 * dl l + c % 128 * (128 ^ l.length * 128) := by
      rw [Int.mul_add, Int.mul_comm 128 (c % 128 * 128 ^ l.length), Int.mul_assoc]
    omega
theorem acc_dl (s : ByteArray) (a : Int) : ∀ i, accN s a i = dl (byL s a i)
  | 0 => rfl
  | i + 1 => by rw [byL_succ, dl_app, ← acc_dl s a i, byL_len, accN, pow7]
theorem bAt_bstr_vb (l : List Int) (i : Nat) (h : i < l.length) (hb : ∀ c ∈ l, 0 ≤ c ∧ c ≤ 255) : bAt (bstr (vb l)) (i : Int) = l[i] := by
  have hb' := hb l[i] (List.getElem_mem h)
  have hp : pb (vb l) i = l[i] := by
    unfold pb cellAt vb; simp [List.getD, h, vI]
  rw [bAt_bstr' (vb l) i (by rw [vb_len]; exact h) (by rw [hp]; omega) (by rw [hp]; omega), hp]
theorem bAt_extract (s : ByteArray) {a b : Nat} (hb : b ≤ s.size) {i : Nat} (hi : a + i < b) : bAt (s.extract a b) (i : Int) = bAt s ((a + i : Nat) : Int) := by
  unfold bAt
  congr 2
  simp only [ByteArray.data_extract, Int.toNat_natCast, List.getD, ← Array.getElem?_toList, Array.toList_extract]
  simp only [List.extract_eq_take_drop, List.getElem?_take, List.getElem?_drop]
  rw [if_pos (by omega)]
theorem extract_bytes (s : ByteArray) {a : Int} {k : Nat} (h0 : 0 ≤ a) (h1 : a + k ≤ s.size) : s.extract a.toNat (a + k).toNat = bstr (vb (byL s a k)) := by
  have hsz : (s.extract a.toNat (a + k).toNat).size = k := by rw [ByteArray.size_extract]; omega
  refine bytes_ext (by rw [hsz, bstr_len, vb_len, byL_len]) fun c hc => ?_
  rw [hsz] at hc
  rw [bAt_extract s (by omega) (by omega), bAt_bstr_vb _ c (by rw [byL_len]; exact hc) (fun x hx => by
    obtain ⟨j, _, rfl⟩ := List.mem_map.1 hx; exact bAt_bd _ _)]
  simp only [byL, List.getElem_map, List.getElem_range]
  congr 1; omega
theorem bstr_inj {l m : List Int} (hl : ∀ c ∈ l, 0 ≤ c ∧ c ≤ 255) (hm : ∀ c ∈ m, 0 ≤ c ∧ c ≤ 255) (h : bstr (vb l) = bstr (vb m)) : l = m := by
  have hlen : l.length = m.length := by
    have := congrArg ByteArray.size h
    rwa [bstr_len, bstr_len, vb_len, vb_len] at this
  apply List.ext_getElem hlen
  intro i h1 h2
  rw [← bAt_bstr_vb l i h1 hl, ← bAt_bstr_vb m i h2 hm, h]
/-! ### Bytes that tell a number -/
def goodL : List Int → Prop
  | [] => False
  | [c] => 0 ≤ c ∧ c < 128
  | c :: r => 128 ≤ c ∧ c ≤ 255 ∧ goodL r
/-- No byte too many at the end. -/
def tight : List Int → Prop
  | [] => False
  | [c] => True
  | [_, d] => d ≠ 0
  | _ :: r => tight r
theorem goodL_pos {l : List Int} (h : goodL l) (ht : tight l) (hn : 2 ≤ l.length) : 128 ≤ dl l := by
  induction l with
  | nil => simp at hn
  | cons c r ih =>
    match r, h, ht, hn with
    | [], _, _, hn => simp at hn
    | [d], h, ht, _ =>
      simp only [goodL, tight] at h ht
      simp only [dl]; omega
    | d :: e :: r, h, ht, _ =>
      have := ih h.2.2 ht (by simp)
      have h1 := h.1
      simp only [dl] at this ⊢
      omega
theorem enc_dl : ∀ {f : Nat} {l : List Int}, goodL l → tight l → l.length ≤ f + 1 → enc f (dl l) = l
  | f, [c], h, _, _ => by
    simp only [goodL] at h
    have e : dl [c] = c := by simp [dl]; omega
    rw [e]
    cases f with
    | zero => rfl
    | succ f => simp only [enc]; rw [show decide (128 ≤ c) = false by simp; omega]; rfl
  | 0, c :: d :: r, _, _, hl => by simp at hl
  | f + 1, c :: d :: r, h, ht, hl => by
    have hp := goodL_pos h ht (by simp)
    have h1 := h.1
    have h2 := h.2.1
    simp only [enc]
    rw [show decide (128 ≤ dl (c :: d :: r)) = true by simp; exact hp]
    simp only [cond_true]
    have e1 : dl (c :: d :: r) % 128 + 128 = c := by simp only [dl]; omega
    have e2 : dl (c :: d :: r) / 128 = dl (d :: r) := by simp only [dl]; omega
    rw [e1, e2]
    congr 1
    have ht' : tight (d :: r) := by cases r with | nil => trivial | cons e r => exact ht
    exact enc_dl h.2.2 ht' (by simpa using hl)
theorem tight_enc : ∀ f n, 0 ≤ n → tight (enc f n)
  | 0, n, _ => trivial
  | f + 1, n, h0 => by
    simp only [enc]
    by_cases h : 128 ≤ n
    · simp only [h, decide_true, cond_true]
      have ih := tight_enc f (n / 128) (by omega)
      have hl := (enc_len f (n / 128)).1
      match he : enc f (n / 128), ih, hl with
      | [d], _, _ =>
        show d ≠ 0
        have : d = n / 128 := by
          cases f with
          | zero => simp [enc] at he; omega
          | succ f =>
            simp only [enc] at he
            by_cases h2 : 128 ≤ n / 128
            · simp only [h2, decide_true, cond_true, List.cons.injEq] at he
              have := (enc_len f (n / 128 / 128)).1
              rw [he.2] at this; simp at this
            · simp only [h2, decide_false, cond_false, List.cons.injEq, and_true] at he
              exact he.symm
        omega
      | d :: e :: r, ih, _ => exact ih
    · simp only [h, decide_false, cond_false]; trivial
theorem good_enc : ∀ f n, 0 ≤ n → n < lim f → goodL (enc f n)
  | 0, n, h0, h1 => by simp only [enc, goodL, lim] at *; omega
  | f + 1, n, h0, h1 => by
    simp only [enc]
    by_cases h : 128 ≤ n
    · simp only [h, decide_true, cond_true]
      have ih := good_enc f (n / 128) (by omega) (by simp only [lim] at h1; omega)
      have hl := (enc_len f (n / 128)).1
      match enc f (n / 128), ih, hl with
      | d :: r, ih, _ => exact ⟨by omega, by omega, ih⟩
    · simp only [h, decide_false, cond_false]
      exact ⟨h0, by omega⟩
theorem dl_enc : ∀ f n, 0 ≤ n → n < lim f → dl (enc f n) = n
  | 0, n, h0, h1 => by simp only [enc, dl, lim] at *; omega
  | f + 1, n, h0, h1 => by
    simp only [enc]
    by_cases h : 128 ≤ n
    · simp only [h, decide_true, cond_true, dl]
      rw [dl_enc f (n / 128) (by omega) (by simp only [lim] at h1; omega)]; omega
    · simp only [h, decide_false, cond_false, dl]; omega
theorem goodL_of : ∀ {l : List Int} {c : Int}, (∀ x ∈ l, 128 ≤ x ∧ x ≤ 255) → 0 ≤ c → c < 128 → goodL (l ++ [c])
  | [], c, _, h0, h1 => ⟨h0, h1⟩
  | x :: l, c, h, h0, h1 => by
    have ih := goodL_of (fun y hy => h y (List.mem_cons_of_mem _ hy)) h0 h1 (l := l)
    have hx := h x (List.mem_cons_self ..)
    match he : l ++ [c], ih with
    | d :: r, ih => rw [List.cons_append, he]; exact ⟨hx.1, hx.2, ih⟩
    | [], _ => simp at he
theorem tight_app : ∀ {l : List Int} {c : Int}, tight (l ++ [c]) ↔ (c ≠ 0 ∨ l = [])
  | [], c => by simp [tight]
  | [x], c => by simp [tight]
  | x :: y :: l, c => by
    have ih := tight_app (l := y :: l) (c := c)
    have : tight (x :: y :: l ++ [c]) ↔ tight (y :: l ++ [c]) := by
      cases l with
      | nil => simp [tight]
      | cons z l => simp [tight]
    rw [this, ih]; simp
theorem lim_pos {m : Int} {f : Nat} (h1 : m < lim f) (h : 128 ≤ m) : 0 < f := by
  cases f with
  | zero => simp only [lim] at h1; omega
  | succ f => omega
theorem lim_step {m : Int} {f : Nat} (h0 : 0 ≤ m) (h1 : m < lim f) (h : 128 ≤ m) : (0 ≤ m / 128 ∧ m / 128 < lim (f - 1)) ∧ enc f m = (m % 128 + 128) :: enc (f - 1) (m / 128) := by
  cases f with
  | zero => simp only [lim] at h1; omega
  | succ f =>
    simp only [lim] at h1
    refine ⟨⟨by omega, by rw [Nat.add_sub_cancel]; omega⟩, ?_⟩
    simp only [enc, Nat.add_sub_cancel]
    rw [show decide (128 ≤ m) = true by simpa using h]; rfl
theorem enc_small {m : Int} {f : Nat} (h : m < 128) : enc f m = [m] := by
  cases f with
  | zero => rfl
  | succ f => simp only [enc]; rw [show decide (128 ≤ m) = false by simp; omega]; rfl
theorem lim_le {f : Nat} (h : f ≤ 5) : lim f ≤ 4398046511104 := by
  match f, h with
  | 0, _ | 1, _ | 2, _ | 3, _ | 4, _ | 5, _ => decide
  | f + 6, h => omega
end Go.Proofs.Ytgicfkgiecgjoaa.RS
