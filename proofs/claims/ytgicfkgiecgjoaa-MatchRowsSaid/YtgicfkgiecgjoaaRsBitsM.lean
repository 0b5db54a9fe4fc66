/- Bits: the mathematics of chapter 3. -/
import Derived.Test.YtgicfkgiecgjoaaRsBits
set_option linter.unusedVariables false
set_option linter.unusedSimpArgs false
namespace Go.Proofs.Ytgicfkgiecgjoaa.RS
open Go Go.RowKit
theorem bPut_no {xs : List (List Value)} {n w : Int} (h : (bPut xs n w).2 = false) : (bPut xs n w).1 = [] := by
  unfold bPut at *
  generalize orB _ _ = c at *
  cases c <;> simp only [cond_true, cond_false] at * ; cases h
theorem bPut_ok {xs : List (List Value)} {n w : Int} (h : (bPut xs n w).2 = true) : 0 ≤ w ∧ w ≤ 30 ∧ 0 ≤ n ∧ n < 2 ^ w.toNat ∧ (bPut xs n w).1 = xs ++ appN n w.toNat := by
  unfold bPut at *
  cases hc : orB (orB (orB (decide (w < 0)) (decide (30 < w))) (decide (n < 0))) (decide ((1 : Int) * 2 ^ w.toNat ≤ n)) <;> rw [hc] at h <;> simp only [cond_true, cond_false] at *
  · simp only [orB, Bool.or_eq_false_iff, decide_eq_false_iff_not, Int.one_mul] at hc
    exact ⟨by omega, by omega, by omega, by omega, rfl⟩
  · cases h
theorem bPut_yes {xs : List (List Value)} {n w : Int} (h0 : 0 ≤ w) (h1 : w ≤ 30) (h2 : 0 ≤ n) (h3 : n < 2 ^ w.toNat) : bPut xs n w = (xs ++ appN n w.toNat, true) := by
  have hc : orB (orB (orB (decide (w < 0)) (decide (30 < w))) (decide (n < 0))) (decide ((1 : Int) * 2 ^ w.toNat ≤ n)) = false := by
    simp only [orB, Bool.or_eq_false_iff, decide_eq_false_iff_not, Int.one_mul]
    exact ⟨⟨⟨by omega, by omega⟩, by omega⟩, by omega⟩
  unfold bPut
  rw [hc]; rfl
theorem and1 {n : Int} (h0 : 0 ≤ n) (h1 : n < 4611686018427387904) : bitop .and .i64 n 1 = n % 2 := by
  obtain ⟨m, rfl⟩ := Int.eq_ofNat_of_zero_le h0
  rw [show (1 : Int) = ((1 : Nat) : Int) from rfl, and_i64 (by omega) (by omega), Nat.and_one_is_mod]
  rfl
theorem ediv_pow_le {n : Int} (h0 : 0 ≤ n) (k : Nat) : 0 ≤ n / 2 ^ k ∧ n / 2 ^ k ≤ n := ⟨Int.ediv_nonneg h0 (Int.le_of_lt (pow_pos' k)), Int.ediv_le_self _ h0⟩
theorem cell_get (xs : List (List Value)) (i o : Nat) : cellAt xs i o = (xs.getD i []).getD o undef := rfl
theorem bt_app (xs ys : List (List Value)) (i : Nat) : bt (xs ++ ys) i = if i < xs.length then bt xs i else bt ys (i - xs.length) := by
  unfold bt cellAt
  by_cases h : i < xs.length
  · rw [if_pos h]; simp [List.getD, List.getElem?_append_left h]
  · rw [if_neg h]; simp [List.getD, List.getElem?_append_right (by omega : xs.length ≤ i)]
theorem bt_appN {n : Int} (h0 : 0 ≤ n) (h1 : n < 4611686018427387904) : ∀ {k i : Nat}, i < k → bt (appN n k) i = decide (n / 2 ^ (k - 1 - i) % 2 = 1)
  | k + 1, 0, _ => by
    have := ediv_pow_le h0 k
    show decide (bitop .and .i64 (n / 2 ^ ((k : Nat) : Int).toNat) 1 = 1) = _
    rw [and1 (by simpa using this.1) (by simp; omega)]
    simp
  | k + 1, i + 1, h => by
    have := bt_appN h0 h1 (k := k) (i := i) (by omega)
    show bt (appN n k) i = _
    rw [this, show k + 1 - 1 - (i + 1) = k - 1 - i by omega]
theorem half_step (x : Int) : x / 2 * 2 + (bif decide (x % 2 = 1) then 1 else 0) = x := by
  by_cases h : x % 2 = 1
  · simp only [h, decide_true, cond_true]; omega
  · simp only [h, decide_false, cond_false]; omega
theorem takeN_bits {l : List (List Value)} {a : Nat} {n : Int} {w : Nat} (h0 : 0 ≤ n) (h1 : n < 2 ^ w) (h : ∀ i, i < w → bt l (a + i) = decide (n / 2 ^ (w - 1 - i) % 2 = 1)) : ∀ k, k ≤ w → takeN l (a : Int) k = n / 2 ^ (w - k)
  | 0, _ => by
    simp only [takeN, Nat.sub_zero]
    exact (Int.ediv_eq_zero_of_lt h0 h1).symm
  | k + 1, hk => by
    simp only [takeN]
    rw [takeN_bits h0 h1 h k (by omega), show ((a : Int) + ((k : Nat) : Int)).toNat = a + k by omega, h k (by omega)]
    have e : n / 2 ^ (w - k) = n / 2 ^ (w - 1 - k) / 2 := by
      rw [show w - k = (w - 1 - k) + 1 by omega, Int.pow_succ, Int.ediv_ediv_of_nonneg (Int.le_of_lt (pow_pos' _))]
    rw [e, half_step, show w - 1 - k = w - (k + 1) by omega]
/-- What is put is taken. -/
theorem bTake_put {xs zs : List (List Value)} {n : Int} {w : Nat} (h0 : 0 ≤ n) (h1 : n < 2 ^ w) (h2 : w ≤ 61) : takeN (xs ++ appN n w ++ zs) (xs.length : Int) w = n := by
  have h3 := pow_le61 h2
  rw [takeN_bits h0 h1 (fun i hi => ?_) w (Nat.le_refl _), Nat.sub_self, Int.pow_zero, Int.ediv_one]
  rw [bt_app, if_pos (by simp only [List.length_append, appN_len]; omega), bt_app, if_neg (by omega), show xs.length + i - xs.length = i by omega]
  exact bt_appN h0 (by omega) hi
/-! ### Bytes -/
theorem wrap_u8_nat {n : Nat} (h : n < 256) : IntKind.wrap .u8 (n : Int) = n := wrap_in (k := .u8) (by simp only [inK]; omega)
theorem or_u8 {m n : Nat} (hm : m < 256) (hn : n < 256) : bitop .or .u8 (m : Int) (n : Int) = ((m ||| n : Nat) : Int) := by
  have hlt : m ||| n < 2 ^ 8 := Nat.or_lt_two_pow (by simpa using hm) (by simpa using hn)
  have e : (BitVec.ofInt 8 (m : Int) ||| BitVec.ofInt 8 (n : Int)).toNat = m ||| n := by
    rw [BitVec.toNat_or]
    simp
    rw [Nat.mod_eq_of_lt hm, Nat.mod_eq_of_lt hn]
  show IntKind.wrap .u8 ((BitVec.ofInt 8 (m : Int) ||| BitVec.ofInt 8 (n : Int)).toNat : Int) = _
  rw [e, wrap_u8_nat (by simpa using hlt)]
theorem and_u8 {m n : Nat} (hm : m < 256) (hn : n < 256) : bitop .and .u8 (m : Int) (n : Int) = ((m &&& n : Nat) : Int) := by
  have hlt : m &&& n < 2 ^ 8 := Nat.and_lt_two_pow _ (by simpa using hn)
  have e : (BitVec.ofInt 8 (m : Int) &&& BitVec.ofInt 8 (n : Int)).toNat = m &&& n := by
    rw [BitVec.toNat_and]
    simp
    rw [Nat.mod_eq_of_lt hm, Nat.mod_eq_of_lt hn]
  show IntKind.wrap .u8 ((BitVec.ofInt 8 (m : Int) &&& BitVec.ofInt 8 (n : Int)).toNat : Int) = _
  rw [e, wrap_u8_nat (by simpa using hlt)]
theorem u8bit_nat (i : Nat) : u8bit (i : Int) = ((2 ^ (7 - i % 8) : Nat) : Int) := by
  unfold u8bit
  have h : ((i : Int) % 8).toNat = i % 8 := by omega
  rw [h]
  have h8 : i % 8 < 8 := Nat.mod_lt _ (by decide)
  generalize i % 8 = r at h8
  match r, h8 with
  | 0, _ | 1, _ | 2, _ | 3, _ | 4, _ | 5, _ | 6, _ | 7, _ => decide
theorem pow2_lt (r : Nat) : 2 ^ (7 - r) < 256 := by
  have : 2 ^ (7 - r) ≤ 2 ^ 7 := Nat.pow_le_pow_right (by decide) (by omega)
  have h : (2 : Nat) ^ 7 = 128 := by decide
  omega
theorem and_two_pow_ne (x i : Nat) : (x &&& 2 ^ i = 0) ↔ x.testBit i = false := by
  constructor
  · intro h
    have := congrArg (fun z => z.testBit i) h
    simp only [Nat.testBit_and, Nat.testBit_two_pow_self, Bool.and_true, Nat.zero_testBit] at this
    exact this
  · intro h
    apply Nat.eq_of_testBit_eq
    intro j
    simp only [Nat.testBit_and, Nat.zero_testBit]
    by_cases e : i = j
    · subst e; simp [h]
    · rw [Nat.testBit_two_pow_of_ne e]; simp
theorem bAt_lt (s : ByteArray) (i : Int) : (bAt s i).toNat < 256 ∧ 0 ≤ bAt s i := by
  unfold bAt; have := (s.data.toList.getD i.toNat 0).toNat_lt; omega
theorem ubit_eq (s : ByteArray) (i : Nat) : ubit s (i : Int) = (bAt s ((i : Int) / 8)).toNat.testBit (7 - i % 8) := by
  unfold ubit
  have h := bAt_lt s ((i : Int) / 8)
  rw [u8bit_nat, show bAt s ((i : Int) / 8) = (((bAt s ((i : Int) / 8)).toNat : Nat) : Int) by omega, and_u8 h.1 (pow2_lt _)]
  simp only [Int.toNat_natCast]
  generalize (bAt s ((i : Int) / 8)).toNat = x
  have := and_two_pow_ne x (7 - i % 8)
  cases hb : x.testBit (7 - i % 8)
  · simp [this.2 hb]
  · have hne : ¬ (x &&& 2 ^ (7 - i % 8) = 0) := fun e => by rw [this.1 e] at hb; cases hb
    exact decide_eq_true (by omega)
theorem unp_get (s : ByteArray) : ∀ k, k ≤ 8 * s.size → ∀ j, j < k → bt (unpN s k) j = ubit s (j : Int)
  | k + 1, hk, j, hj => by
    simp only [unpN]
    unfold bt cellAt
    by_cases e : j = k
    · subst e
      simp only [List.getD, Int.toNat_natCast]
      rw [List.getElem?_set_self (by rw [unpN_len]; omega)]; rfl
    · have := unp_get s k (by omega) j (by omega)
      unfold bt cellAt at this
      rw [← this]
      simp only [List.getD, Int.toNat_natCast]
      rw [List.getElem?_set_ne (by omega)]
theorem bUnpack_get (s : ByteArray) {j : Nat} (hj : j < 8 * s.size) : bt (bUnpack s) j = (bAt s ((j : Int) / 8)).toNat.testBit (7 - j % 8) := by
  rw [← ubit_eq]
  unfold bUnpack
  exact unp_get s _ (by omega) j (by omega)
def pb (ys : List (List Value)) (c : Nat) : Int := vI (cellAt ys c 0)
theorem pb_set {ys : List (List Value)} {c d : Nat} {v : Int} (hc : c < ys.length) : pb (ys.set c [Value.int .u8 v]) d = if d = c then v else pb ys d := by
  unfold pb cellAt
  by_cases e : d = c
  · subst e; rw [if_pos rfl]; simp [List.getD, hc, vI]
  · rw [if_neg e]; simp only [List.getD]; rw [List.getElem?_set_ne (by omega)]
theorem pack_inv (xs : List (List Value)) : ∀ k, k ≤ xs.length → ∀ c, c < (xs.length + 7) / 8 → 0 ≤ pb (packN xs k) c ∧ pb (packN xs k) c < 256 ∧ ∀ r, r < 8 → (pb (packN xs k) c).toNat.testBit (7 - r) = (decide (8 * c + r < k) && bt xs (8 * c + r))
  | 0, _, c, hc => by
    have : pb (packN xs 0) c = 0 := by
      unfold pb cellAt packN
      have h : c < (((xs.length : Int) + 7) / 8).toNat := by omega
      simp [List.getD, h, vI]
    rw [this]; simp
  | k + 1, hk, c, hc => by
    have ih := pack_inv xs k (by omega)
    simp only [packN]
    cases hb : bt xs k
    · simp only [cond_false]
      obtain ⟨h1, h2, h3⟩ := ih c hc
      refine ⟨h1, h2, fun r hr => ?_⟩
      rw [h3 r hr]
      by_cases e : 8 * c + r = k
      · rw [e, hb]; simp
      · congr 1; simp; omega
    · simp only [cond_true]
      have hk8 : (((k : Nat) : Int) / 8).toNat = k / 8 := by omega
      rw [hk8]
      have hlen : k / 8 < (packN xs k).length := by rw [packN_len]; omega
      obtain ⟨g1, g2, g3⟩ := ih (k / 8) (by omega)
      rw [pb_set hlen]
      by_cases e : c = k / 8
      · subst e
        rw [if_pos rfl, u8bit_nat]
        have hx : vI (cellAt (packN xs k) (k / 8) 0) = (((pb (packN xs k) (k / 8)).toNat : Nat) : Int) := by unfold pb at *; omega
        rw [hx, or_u8 (by omega) (pow2_lt _)]
        have hlt := Nat.or_lt_two_pow (n := 8) (show (pb (packN xs k) (k / 8)).toNat < 2 ^ 8 by omega) (show 2 ^ (7 - k % 8) < 2 ^ 8 from pow2_lt _)
        refine ⟨by omega, by simp at hlt ⊢; omega, fun r hr => ?_⟩
        rw [Int.toNat_natCast, Nat.testBit_or, g3 r hr]
        by_cases er : 8 * (k / 8) + r = k
        · have : 7 - k % 8 = 7 - r := by omega
          rw [this, Nat.testBit_two_pow_self, er, hb]; simp
        · rw [Nat.testBit_two_pow_of_ne (by omega), Bool.or_false]
          congr 1; simp; omega
      · rw [if_neg e]
        obtain ⟨h1, h2, h3⟩ := ih c hc
        refine ⟨h1, h2, fun r hr => ?_⟩
        rw [h3 r hr]
        congr 1; simp; omega
theorem bAt_bstr' (xs : List (List Value)) (i : Nat) (h : i < xs.length) (h0 : 0 ≤ pb xs i) (h1 : pb xs i < 256) : bAt (bstr xs) (i : Int) = pb xs i := by
  unfold bAt bstr strOfNums pb cellAt at *
  simp [List.getD, h] at *
  omega
theorem bPack_get (xs : List (List Value)) {c : Nat} (hc : c < (xs.length + 7) / 8) {r : Nat} (hr : r < 8) : (bAt (bPack xs) (c : Int)).toNat.testBit (7 - r) = (decide (8 * c + r < xs.length) && bt xs (8 * c + r)) := by
  obtain ⟨h1, h2, h3⟩ := pack_inv xs xs.length (Nat.le_refl _) c hc
  unfold bPack
  rw [bAt_bstr' _ c (by rw [packN_len]; omega) h1 h2]
  exact h3 r hr
theorem bPack_size (xs : List (List Value)) : (bPack xs).size = (xs.length + 7) / 8 := by rw [bPack_len]; omega
theorem unpack_pack (xs : List (List Value)) {j : Nat} (hj : j < (bUnpack (bPack xs)).length) : bt (bUnpack (bPack xs)) j = (decide (j < xs.length) && bt xs j) := by
  rw [bUnpack_len] at hj
  rw [bUnpack_get _ hj]
  rw [bPack_size] at hj
  have := bPack_get xs (c := j / 8) (by omega) (r := j % 8) (by omega)
  rw [show ((j : Int) / 8) = ((j / 8 : Nat) : Int) by omega, this, show 8 * (j / 8) + j % 8 = j by omega]
theorem byte_ext {x y : Int} (hx : 0 ≤ x ∧ x.toNat < 256) (hy : 0 ≤ y ∧ y.toNat < 256) (h : ∀ r, r < 8 → x.toNat.testBit (7 - r) = y.toNat.testBit (7 - r)) : x = y := by
  have : x.toNat = y.toNat := by
    apply Nat.eq_of_testBit_eq
    intro i
    by_cases e : i < 8
    · have := h (7 - i) (by omega)
      rwa [show 7 - (7 - i) = i by omega] at this
    · have p : 2 ^ 8 ≤ 2 ^ i := Nat.pow_le_pow_right (by decide) (by omega)
      have q : (2 : Nat) ^ 8 = 256 := by decide
      rw [Nat.testBit_lt_two_pow (by omega), Nat.testBit_lt_two_pow (by omega)]
  omega
theorem bytes_ext {s t : ByteArray} (hl : s.size = t.size) (h : ∀ c : Nat, c < s.size → bAt s (c : Int) = bAt t (c : Int)) : s = t := by
  apply ByteArray.ext
  apply Array.ext'
  apply List.ext_getElem
  · simpa using hl
  · intro i h1 h2
    have := h i (by simpa using h1)
    unfold bAt at this
    simp only [Int.toNat_natCast, List.getD, List.getElem?_eq_getElem h1, List.getElem?_eq_getElem h2, Option.getD_some] at this
    exact UInt8.toNat_inj.1 (by omega)
theorem pack_unpack (s : ByteArray) : bPack (bUnpack s) = s := by
  have hl : (bPack (bUnpack s)).size = s.size := by rw [bPack_size, bUnpack_len]; omega
  refine bytes_ext hl fun c hc => ?_
  rw [hl] at hc
  refine byte_ext ⟨(bAt_lt _ _).2, (bAt_lt _ _).1⟩ ⟨(bAt_lt _ _).2, (bAt_lt _ _).1⟩ fun r hr => ?_
  have hb := bUnpack_len s
  rw [bPack_get (bUnpack s) (by omega) hr, bUnpack_get s (by omega), show ((8 * c + r : Nat) : Int) / 8 = (c : Int) by omega, show (8 * c + r) % 8 = r by omega, decide_eq_true (by omega), Bool.true_and]
theorem ofTestBit (x i : Nat) : ((x : Int) / 2 ^ i % 2 = 1) ↔ x.testBit i = true := by
  rw [Nat.testBit, Nat.shiftRight_eq_div_pow, show ((x : Int) / 2 ^ i) = ((x / 2 ^ i : Nat) : Int) by push_cast; rfl]
  generalize x / 2 ^ i = y
  rw [show (1 &&& y != 0) = decide (y % 2 = 1) by rw [Nat.and_comm, Nat.and_one_is_mod]; cases Nat.mod_two_eq_zero_or_one y with | inl h => simp [h] | inr h => simp [h]]
  simp; omega
/-- BitsLong: the byte's bit is the bit. -/
theorem pack_bit {xs : List (List Value)} {a : Int} (h0 : 0 ≤ a) (h1 : a < (xs.length : Int)) : decide (bAt (bPack xs) (a / 8) / 2 ^ ((7 : Int) - a % 8).toNat % 2 = 1) = bt xs a.toNat := by
  obtain ⟨n, rfl⟩ := Int.eq_ofNat_of_zero_le h0
  have hb := bAt_lt (bPack xs) ((n : Int) / 8)
  have := bPack_get xs (c := n / 8) (by omega) (r := n % 8) (by omega)
  rw [show (((n / 8 : Nat) : Int)) = (n : Int) / 8 by omega, show 8 * (n / 8) + n % 8 = n by omega, decide_eq_true (by omega), Bool.true_and] at this
  rw [show ((7 : Int) - (n : Int) % 8).toNat = 7 - n % 8 by omega, show bAt (bPack xs) ((n : Int) / 8) = (((bAt (bPack xs) ((n : Int) / 8)).toNat : Nat) : Int) by omega]
  rw [Int.toNat_natCast, ← this]
  generalize (bAt (bPack xs) ((n : Int) / 8)).toNat = x
  have e := ofTestBit x (7 - n % 8)
  cases hx : x.testBit (7 - n % 8)
  · exact decide_eq_false (fun h => by rw [e.1 h] at hx; cases hx)
  · exact decide_eq_true (e.2 hx)
/-! ### Parts of a number -/
theorem appN_split {n : Int} (h0 : 0 ≤ n) (h1 : n < 2305843009213693952) (lo : Nat) (hlo : lo ≤ 61) : ∀ hi : Nat, sameB (appN n (hi + lo)) (appN (n / 2 ^ lo) hi ++ appN (n % 2 ^ lo) lo) = true := by
  intro hi
  refine sameB_iff.2 ⟨by simp [appN_len], fun i hi' => ?_⟩
  rw [appN_len] at hi'
  have hp := pow_pos' lo
  have hm : 0 ≤ n % 2 ^ lo := Int.emod_nonneg _ (by omega)
  have hm2 : n % 2 ^ lo ≤ n := by
    have := Int.emod_add_mul_ediv n (2 ^ lo)
    have := Int.mul_nonneg (Int.le_of_lt hp) (ediv_pow_le h0 lo).1
    omega
  have hd := ediv_pow_le h0 lo
  rw [bt_app, appN_len, bt_appN h0 (by omega) hi']
  by_cases e : i < hi
  · rw [if_pos e, bt_appN hd.1 (by omega) e, Int.ediv_ediv_of_nonneg (Int.le_of_lt hp), ← Int.pow_add, show lo + (hi - 1 - i) = hi + lo - 1 - i by omega]
  · rw [if_neg e, bt_appN hm (by omega) (by omega), show lo - 1 - (i - hi) = hi + lo - 1 - i by omega]
    have hlt : hi + lo - 1 - i < lo := by omega
    generalize hi + lo - 1 - i = r at hlt
    have e2 : (2 : Int) ^ lo = 2 ^ r * (2 * 2 ^ (lo - 1 - r)) := by
      rw [← Int.mul_assoc, ← Int.pow_succ, ← Int.pow_add, show r + 1 + (lo - 1 - r) = lo by omega]
    have hr := pow_pos' r
    congr 2
    have q : n = 2 ^ lo * (n / 2 ^ lo) + n % 2 ^ lo := (Int.mul_ediv_add_emod n _).symm
    generalize n % 2 ^ lo = m at *
    generalize n / 2 ^ lo = z at *
    subst q
    rw [e2, Int.mul_assoc, Int.add_comm, Int.add_mul_ediv_left _ _ (by omega), Int.mul_assoc, Int.add_mul_emod_self_left]
theorem bTake_zero {n : Int} {w k : Nat} (h0 : 0 ≤ n) (h1 : n < 2 ^ w) (h2 : w ≤ 61) (hk : k ≤ w) : takeN (appN n w) 0 k = n / 2 ^ (w - k) := by
  have h3 := pow_le61 h2
  exact takeN_bits (a := 0) h0 h1 (fun i hi => by rw [Nat.zero_add]; exact bt_appN h0 (by omega) hi) k hk
theorem takeN_low {n : Int} {w lo : Nat} (h0 : 0 ≤ n) (h1 : n < 2 ^ w) (h2 : w ≤ 61) (hlo : lo ≤ w) : takeN (appN n w) ((w - lo : Nat) : Int) lo = n % 2 ^ lo := by
  have h3 := pow_le61 h2
  have hp := pow_pos' lo
  have hm : 0 ≤ n % 2 ^ lo := Int.emod_nonneg _ (by omega)
  rw [takeN_bits hm (Int.emod_lt_of_pos _ hp) (fun i hi => ?_) lo (Nat.le_refl _), Nat.sub_self, Int.pow_zero, Int.ediv_one]
  rw [bt_appN h0 (by omega) (by omega), show w - 1 - (w - lo + i) = lo - 1 - i by omega]
  generalize hr : lo - 1 - i = r
  have e2 : (2 : Int) ^ lo = 2 ^ r * (2 * 2 ^ (lo - 1 - r)) := by
    rw [← Int.mul_assoc, ← Int.pow_succ, ← Int.pow_add, show r + 1 + (lo - 1 - r) = lo by omega]
  have hr := pow_pos' r
  congr 2
  have q : n = 2 ^ lo * (n / 2 ^ lo) + n % 2 ^ lo := (Int.mul_ediv_add_emod n _).symm
  generalize n % 2 ^ lo = m at *
  generalize n / 2 ^ lo = z at *
  subst q
  rw [e2, Int.mul_assoc, Int.add_comm, Int.add_mul_ediv_left _ _ (by omega), Int.mul_assoc, Int.add_mul_emod_self_left]
/-! ### Many numbers -/
def num (l : List (List Value)) (k o : Nat) : Int := vI (cellAt l k o)
def manyN (l : List (List Value)) : Nat → List (List Value)
  | 0 => []
  | k + 1 => manyN l k ++ appN (num l k 0) (num l k 1).toNat
theorem manyN_split (l : List (List Value)) (i : Nat) : ∀ L, i < L → ∃ zs, manyN l L = manyN l i ++ appN (num l i 0) (num l i 1).toNat ++ zs
  | L + 1, h => by
    by_cases e : i = L
    · subst e; exact ⟨[], by rw [List.append_nil]; rfl⟩
    · obtain ⟨zs, hz⟩ := manyN_split l i L (by omega)
      exact ⟨zs ++ appN (num l L 0) (num l L 1).toNat, by rw [manyN, hz]; simp⟩
theorem manyN_len (l : List (List Value)) (h : ∀ j : Nat, num l j 1 ≤ 30) : ∀ k, (manyN l k).length ≤ 30 * k
  | 0 => by simp [manyN]
  | k + 1 => by
    have := manyN_len l h k
    have := h k
    simp only [manyN, List.length_append, appN_len]; omega
theorem BB_take {xs d : List (List Value)} {n w : Int} (hd : ∃ zs, d = xs ++ appN n w.toNat ++ zs) (h0 : 0 ≤ w) (h1 : w ≤ 30) (h2 : 0 ≤ n) (h3 : n < 2 ^ w.toNat) : bTake3 d (xs.length : Int) w = (n, (xs.length : Int) + w, true) := by
  obtain ⟨zs, rfl⟩ := hd
  have hl : ((xs ++ appN n w.toNat ++ zs).length : Int) = xs.length + w + zs.length := by simp only [List.length_append, appN_len]; omega
  unfold bTake3 bTake
  rw [bTake_put h2 h3 (by omega)]
  have : orB (orB (orB (orB (decide (w < 0)) (decide (30 < w))) (decide ((xs.length : Int) < 0))) (decide (((xs ++ appN n w.toNat ++ zs).length : Int) < (xs.length : Int)))) (decide (((xs ++ appN n w.toNat ++ zs).length : Int) - (xs.length : Int) < w)) = false := by
    simp only [orB, Bool.or_eq_false_iff, decide_eq_false_iff_not]
    refine ⟨⟨⟨⟨?_, ?_⟩, ?_⟩, ?_⟩, ?_⟩ <;> omega
  rw [this]; rfl
theorem bt_take (u : List (List Value)) {n j : Nat} (h : j < n) : bt (u.take n) j = bt u j := by
  unfold bt cellAt; simp [List.getD, h]
theorem same_pre {u d : List (List Value)} (hl : d.length ≤ u.length) (h : ∀ j, j < d.length → bt u j = bt d j) : sameB ((u.take (d.length : Int).toNat).drop (0 : Int).toNat) d = true := by
  refine sameB_iff.2 ⟨by simp; omega, fun i hi => ?_⟩
  simp only [Int.toNat_zero, List.drop_zero, Int.toNat_natCast, List.length_take] at hi ⊢
  rw [bt_take u (by omega), h i (by omega)]
theorem take_hi {n w a : Int} (n0 : 0 ≤ n) (n1 : n < 2 ^ w.toNat) (a0 : 0 ≤ a) (a1 : a ≤ w) (w1 : w ≤ 30) : bTake3 (appN n w.toNat) 0 (w - a) = (n / 2 ^ a.toNat, 0 + (w - a), true) := by
  unfold bTake3 bTake
  rw [bTake_zero n0 n1 (by omega) (by omega), show w.toNat - (w - a).toNat = a.toNat by omega, appN_len]
  have : orB (orB (orB (orB (decide (w - a < 0)) (decide (30 < w - a))) (decide ((0 : Int) < 0))) (decide ((w.toNat : Int) < 0))) (decide ((w.toNat : Int) - 0 < w - a)) = false := by
    simp only [orB, Bool.or_eq_false_iff, decide_eq_false_iff_not]
    refine ⟨⟨⟨⟨?_, ?_⟩, ?_⟩, ?_⟩, ?_⟩ <;> omega
  rw [this]; rfl
theorem take_lo {n w a : Int} (n0 : 0 ≤ n) (n1 : n < 2 ^ w.toNat) (a0 : 0 ≤ a) (a1 : a ≤ w) (w1 : w ≤ 30) : bTake3 (appN n w.toNat) (0 + (w - a)) a = (n % 2 ^ a.toNat, (0 + (w - a)) + a, true) := by
  unfold bTake3 bTake
  have e : (0 + (w - a)) = ((w.toNat - a.toNat : Nat) : Int) := by omega
  rw [e, takeN_low n0 n1 (by omega) (by omega), appN_len]
  have : orB (orB (orB (orB (decide (a < 0)) (decide (30 < a))) (decide (((w.toNat - a.toNat : Nat) : Int) < 0))) (decide ((w.toNat : Int) < ((w.toNat - a.toNat : Nat) : Int)))) (decide ((w.toNat : Int) - ((w.toNat - a.toNat : Nat) : Int) < a)) = false := by
    simp only [orB, Bool.or_eq_false_iff, decide_eq_false_iff_not]
    refine ⟨⟨⟨⟨?_, ?_⟩, ?_⟩, ?_⟩, ?_⟩ <;> omega
  rw [this]; rfl
theorem manyN_le (l : List (List Value)) {i L : Nat} (h : i ≤ L) : (manyN l i).length ≤ (manyN l L).length := by
  by_cases e : i = L
  · subst e; exact Nat.le_refl _
  · obtain ⟨zs, hz⟩ := manyN_split l i L (by omega)
    rw [hz]; simp only [List.length_append]; omega
end Go.Proofs.Ytgicfkgiecgjoaa.RS
