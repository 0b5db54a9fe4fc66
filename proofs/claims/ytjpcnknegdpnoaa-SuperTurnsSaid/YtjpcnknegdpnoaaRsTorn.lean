/- Four bytes that stand together, changed, are always told by the sum; plain, no program. -/
import Derived.Test.YtjpcnknegdpnoaaRsPageM
set_option linter.unusedVariables false
set_option linter.unusedSimpArgs false
namespace Go.Proofs.Ytjpcnknegdpnoaa.RS
open Go Go.RowKit
theorem poly_top : (3988292384#32).getLsbD 31 = true := by decide
/-- A step whose result has its top bit clear only doubled. -/
theorem sb_back (v : BitVec 32) (h : (sb v).toNat < 2 ^ 31) : v.toNat = 2 * (sb v).toNat := by
  cases hb : v.getLsbD 0 with
  | true =>
    exfalso
    have h31 : (sb v).getLsbD 31 = true := by
      unfold sb
      rw [hb, if_pos rfl, BitVec.getLsbD_xor, BitVec.getLsbD_ushiftRight, poly_top, BitVec.getLsbD_of_ge v (1 + 31) (by omega)]; rfl
    rw [BitVec.getLsbD, Nat.testBit_lt_two_pow h] at h31
    cases h31
  | false =>
    rw [sb_even hb, BitVec.toNat_ushiftRight, Nat.shiftRight_eq_div_pow]
    rw [BitVec.getLsbD, Nat.testBit_zero] at hb
    have := of_decide_eq_false hb
    omega
theorem sbN_back (v : BitVec 32) : ∀ n, n ≤ 31 → (sbN n v).toNat < 2 ^ (32 - n) → v.toNat = 2 ^ n * (sbN n v).toNat
  | 0, _, _ => by simp [sbN]
  | n + 1, hn, h => by
    rw [sbN] at h
    have h1 : (2 : Nat) ^ (32 - (n + 1)) ≤ 2 ^ 31 := Nat.pow_le_pow_right (by decide) (by omega)
    have h2 := sb_back (sbN n v) (by omega)
    have h3 := sbN_back v n (by omega) (by rw [h2, show 32 - n = (32 - (n + 1)) + 1 by omega, Nat.pow_succ]; omega)
    rw [h3, h2, sbN, Nat.pow_succ, Nat.mul_assoc]
theorem sb8_back {v : BitVec 32} (h : (sbN 8 v).toNat < 16777216) : v.toNat = 256 * (sbN 8 v).toNat := sbN_back v 8 (by decide) h
theorem sb8_zero {v : BitVec 32} (h : sbN 8 v = 0#32) : v = 0#32 := by
  apply BitVec.eq_of_toNat_eq
  have := sb8_back (v := v) (by rw [h]; decide)
  rw [h] at this
  simpa using this
theorem sb8_fwd {v : BitVec 32} {k : Nat} (h : v.toNat = 256 * k) : (sbN 8 v).toNat = k := by
  have st : ∀ (w : BitVec 32) (m : Nat), w.toNat = 2 * m → (sb w).toNat = m := fun w m hw => by
    rw [sb_even (by rw [BitVec.getLsbD, Nat.testBit_zero]; exact decide_eq_false (by omega)), BitVec.toNat_ushiftRight, Nat.shiftRight_eq_div_pow]; omega
  have a1 := st v (128 * k) (by omega)
  have a2 := st _ (64 * k) (show (sb v).toNat = _ by omega)
  have a3 := st _ (32 * k) (show (sb (sb v)).toNat = _ by omega)
  have a4 := st _ (16 * k) (show (sb (sb (sb v))).toNat = _ by omega)
  have a5 := st _ (8 * k) (show (sb (sb (sb (sb v)))).toNat = _ by omega)
  have a6 := st _ (4 * k) (show (sb (sb (sb (sb (sb v))))).toNat = _ by omega)
  have a7 := st _ (2 * k) (show (sb (sb (sb (sb (sb (sb v)))))).toNat = _ by omega)
  exact st _ k (show (sb (sb (sb (sb (sb (sb (sb v))))))).toNat = _ by omega)
theorem xor_low {x d : BitVec 32} {k : Nat} (h : x.toNat = 256 * k) (hd : d.toNat < 256) : (x ^^^ d).toNat = 256 * k + d.toNat := by
  rw [BitVec.toNat_xor, h]
  have h1 : (256 * k ^^^ d.toNat) / 2 ^ 8 = k := by
    rw [Nat.xor_div_two_pow, show 256 * k / 2 ^ 8 = k by omega, show d.toNat / 2 ^ 8 = 0 by omega, Nat.xor_zero]
  have h2 : (256 * k ^^^ d.toNat) % 2 ^ 8 = d.toNat := by
    rw [Nat.xor_mod_two_pow, show 256 * k % 2 ^ 8 = 0 by omega, show d.toNat % 2 ^ 8 = d.toNat by omega, Nat.zero_xor]
  omega
theorem xor_xor (a b : BitVec 32) : (a ^^^ b) ^^^ b = a := by rw [BitVec.xor_assoc, BitVec.xor_self, BitVec.xor_zero]
theorem eq_of_xor {a b : BitVec 32} (h : a ^^^ b = 0#32) : a = b := by
  have := xor_xor a b
  rw [h, BitVec.zero_xor] at this
  exact this.symm
/-- Four bytes' changes that end in no change are none. -/
theorem burst4 {d0 d1 d2 d3 D1 D2 D3 : BitVec 32} (h0 : d0.toNat < 256) (h1 : d1.toNat < 256) (h2 : d2.toNat < 256) (h3 : d3.toNat < 256)
    (e1 : D1 = sbN 8 d0) (e2 : D2 = sbN 8 (D1 ^^^ d1)) (e3 : D3 = sbN 8 (D2 ^^^ d2)) (e4 : sbN 8 (D3 ^^^ d3) = 0#32) : d0 = 0#32 ∧ d1 = 0#32 ∧ d2 = 0#32 ∧ d3 = 0#32 := by
  have f3 : D3 = d3 := eq_of_xor (sb8_zero e4)
  have f2 := sb8_back (v := D2 ^^^ d2) (by rw [← e3, f3]; omega)
  rw [← e3] at f2
  have g2 := xor_low f2 h2
  rw [xor_xor] at g2
  have f1 := sb8_back (v := D1 ^^^ d1) (by rw [← e2, f3] at *; omega)
  rw [← e2] at f1
  have g1 := xor_low f1 h1
  rw [xor_xor] at g1
  rw [f3] at g2
  have f0 := sb8_back (v := d0) (by rw [← e1]; omega)
  rw [← e1] at f0
  have z : ∀ v : BitVec 32, v.toNat = 0 → v = 0#32 := fun v hv => BitVec.eq_of_toNat_eq (by rw [hv]; rfl)
  exact ⟨z _ (by omega), z _ (by omega), z _ (by omega), z _ (by omega)⟩
/-! ### The register along a text -/
def rg (s : ByteArray) (n : Nat) : BitVec 32 := vv (rcrcN s n)
def bv (s : ByteArray) (n : Nat) : BitVec 32 := vv (bAt s (n : Int))
theorem rg_succ (s : ByteArray) (n : Nat) : rg s (n + 1) = sbN 8 (rg s n ^^^ bv s n) := by
  unfold rg bv
  rw [rcrcN, rAdd, vv_refN (bitop_bd _ _ _), vv_bitop_xor]
theorem bv_lt (s : ByteArray) (n : Nat) : (bv s n).toNat < 256 := by
  have h := bAt_bd s n
  have e := of_vv (x := bAt s n) (by omega)
  unfold bv; omega
theorem xor_lt {a b : BitVec 32} (ha : a.toNat < 256) (hb : b.toNat < 256) : (a ^^^ b).toNat < 256 := by
  rw [BitVec.toNat_xor]; exact Nat.xor_lt_two_pow (n := 8) ha hb
theorem bv_eq {A B : ByteArray} {n : Nat} (h : bv A n = bv B n) : bAt A n = bAt B n := by
  have h1 := bAt_bd A n
  have h2 := bAt_bd B n
  exact vv_inj (by omega) (by omega) h
theorem diff_succ (A B : ByteArray) (n : Nat) : rg A (n + 1) ^^^ rg B (n + 1) = sbN 8 ((rg A n ^^^ rg B n) ^^^ (bv A n ^^^ bv B n)) := by
  rw [rg_succ, rg_succ, ← sbN_xor]
  congr 1
  rw [BitVec.xor_assoc, BitVec.xor_assoc]
  congr 1
  rw [← BitVec.xor_assoc, ← BitVec.xor_assoc, BitVec.xor_comm (bv A n)]
theorem rg_pre {A B : ByteArray} : ∀ n, (∀ i, i < n → bAt A (i : Nat) = bAt B (i : Nat)) → rg A n = rg B n
  | 0, _ => rfl
  | n + 1, h => by
    rw [rg_succ, rg_succ, rg_pre n fun i hi => h i (by omega)]
    unfold bv; rw [h n (by omega)]
theorem rg_down {A B : ByteArray} {m : Nat} : ∀ d, (∀ i, m ≤ i → i < m + d → bAt A (i : Nat) = bAt B (i : Nat)) → rg A (m + d) = rg B (m + d) → rg A m = rg B m
  | 0, _, h => h
  | d + 1, hb, h => by
    refine rg_down d (fun i h1 h2 => hb i h1 (by omega)) ?_
    have e := diff_succ A B (m + d)
    rw [show m + (d + 1) = m + d + 1 by omega] at h
    rw [h, BitVec.xor_self] at e
    have e2 := eq_of_xor (sb8_zero e.symm)
    have e3 : bv A (m + d) = bv B (m + d) := by unfold bv; rw [hb (m + d) (by omega) (by omega)]
    rw [e3, BitVec.xor_self] at e2
    exact eq_of_xor e2
/-- Texts with the same register at the end that differ only in four bytes that stand together do not differ. -/
theorem burst {A B : ByteArray} {p N : Nat} (hN : p + 4 ≤ N) (hd : ∀ i, i < N → (i < p ∨ p + 4 ≤ i) → bAt A (i : Nat) = bAt B (i : Nat)) (h : rg A N = rg B N) : ∀ i, i < N → bAt A (i : Nat) = bAt B (i : Nat) := by
  have h1 := rg_pre (A := A) (B := B) p fun i hi => hd i (by omega) (.inl hi)
  have h2 := rg_down (A := A) (B := B) (m := p + 4) (N - (p + 4)) (fun i a b => hd i (by omega) (.inr a)) (by rw [show p + 4 + (N - (p + 4)) = N by omega]; exact h)
  have e0 := diff_succ A B p
  have e1 := diff_succ A B (p + 1)
  have e2 := diff_succ A B (p + 2)
  have e3 := diff_succ A B (p + 3)
  rw [h1, BitVec.xor_self, BitVec.zero_xor] at e0
  rw [h2, BitVec.xor_self] at e3
  have q := burst4 (xor_lt (bv_lt A p) (bv_lt B p)) (xor_lt (bv_lt A (p + 1)) (bv_lt B (p + 1))) (xor_lt (bv_lt A (p + 2)) (bv_lt B (p + 2))) (xor_lt (bv_lt A (p + 3)) (bv_lt B (p + 3))) e0 e1 e2 e3.symm
  intro i hi
  by_cases hw : i < p ∨ p + 4 ≤ i
  · exact hd i hi hw
  · have : i = p ∨ i = p + 1 ∨ i = p + 2 ∨ i = p + 3 := by omega
    rcases this with rfl | rfl | rfl | rfl
    · exact bv_eq (eq_of_xor q.1)
    · exact bv_eq (eq_of_xor q.2.1)
    · exact bv_eq (eq_of_xor q.2.2.1)
    · exact bv_eq (eq_of_xor q.2.2.2)
/-! ### What is sealed ends in one register -/
theorem rcrcN_app (A B : ByteArray) : ∀ n, n ≤ A.size → rcrcN (A ++ B) n = rcrcN A n
  | 0, _ => rfl
  | n + 1, h => by rw [rcrcN, rcrcN, rcrcN_app A B n (by omega), bAt_app, if_pos (by omega)]
theorem fold4 {x b0 b1 b2 b3 : BitVec 32} (h0 : b0.toNat < 256) (h1 : b1.toNat < 256) (h2 : b2.toNat < 256) (h3 : b3.toNat < 256) :
    ∃ W : BitVec 32, W.toNat = b0.toNat + 256 * (b1.toNat + 256 * (b2.toNat + 256 * b3.toNat)) ∧ sbN 8 (sbN 8 (sbN 8 (sbN 8 (x ^^^ b0) ^^^ b1) ^^^ b2) ^^^ b3) = sbN 8 (sbN 8 (sbN 8 (sbN 8 (x ^^^ W)))) := by
  have sh : ∀ (k : Nat), k < 16777216 → ∃ w : BitVec 32, w.toNat = 256 * k ∧ (sbN 8 w).toNat = k := fun k hk => by
    refine ⟨BitVec.ofNat 32 (256 * k), by simp; omega, sb8_fwd (by simp; omega)⟩
  obtain ⟨w3, a3, c3⟩ := sh b3.toNat (by omega)
  have g3 : sbN 8 w3 = b3 := BitVec.eq_of_toNat_eq c3
  have s2 := xor_low a3 h2
  obtain ⟨w2, a2, c2⟩ := sh (w3 ^^^ b2).toNat (by omega)
  have g2 : sbN 8 w2 = w3 ^^^ b2 := BitVec.eq_of_toNat_eq c2
  have s1 := xor_low a2 h1
  obtain ⟨w1, a1, c1⟩ := sh (w2 ^^^ b1).toNat (by omega)
  have g1 : sbN 8 w1 = w2 ^^^ b1 := BitVec.eq_of_toNat_eq c1
  have s0 := xor_low a1 h0
  refine ⟨w1 ^^^ b0, by omega, ?_⟩
  have k1 : ∀ z : BitVec 32, sbN 8 z ^^^ b3 = sbN 8 (z ^^^ w3) := fun z => by rw [sbN_xor, g3]
  have k2 : ∀ z : BitVec 32, (sbN 8 z ^^^ b2) ^^^ w3 = sbN 8 (z ^^^ w2) := fun z => by rw [sbN_xor, g2, BitVec.xor_assoc, BitVec.xor_comm b2]
  have k3 : ∀ z : BitVec 32, (sbN 8 z ^^^ b1) ^^^ w2 = sbN 8 (z ^^^ w1) := fun z => by rw [sbN_xor, g1, BitVec.xor_assoc, BitVec.xor_comm b1]
  rw [k1, k2, k3, BitVec.xor_assoc, BitVec.xor_comm b0]
def resid : BitVec 32 := sbN 8 (sbN 8 (sbN 8 (sbN 8 (BitVec.allOnes 32))))
theorem seal_rg (c : ByteArray) : rg (cSeal c) (c.size + 4) = resid := by
  have hb := rcrcN_bd c c.size
  have hs := cSum_bd c
  have hat : ∀ i : Nat, i < 4 → bAt (cSeal c) ((c.size + i : Nat) : Int) = [cSum c % 256, cSum c / 256 % 256, cSum c / 65536 % 256, cSum c / 16777216].getD i 0 := fun i hi => by
    unfold cSeal
    rw [bAt_app, if_neg (by omega), show c.size + i - c.size = i by omega]
    have hl : le4 (cSum c) = bstr (vb [cSum c % 256, cSum c / 256 % 256, cSum c / 65536 % 256, cSum c / 16777216]) := rfl
    rw [hl, bAt_bstr_vb [cSum c % 256, cSum c / 256 % 256, cSum c / 65536 % 256, cSum c / 16777216] i hi (fun x hx => by simp at hx; omega)]
    simp [List.getD, hi]
  have h0 : bv (cSeal c) c.size = vv (cSum c % 256) := congrArg vv (hat 0 (by omega))
  have h1 : bv (cSeal c) (c.size + 1) = vv (cSum c / 256 % 256) := congrArg vv (hat 1 (by omega))
  have h2 : bv (cSeal c) (c.size + 2) = vv (cSum c / 65536 % 256) := congrArg vv (hat 2 (by omega))
  have h3 : bv (cSeal c) (c.size + 3) = vv (cSum c / 16777216) := congrArg vv (hat 3 (by omega))
  have hx : rg (cSeal c) c.size = vv (rcrcN c c.size) := by unfold rg cSeal; rw [rcrcN_app _ _ _ (Nat.le_refl _)]
  rw [rg_succ, rg_succ, rg_succ, rg_succ, hx]
  obtain ⟨W, hW, hf⟩ := fold4 (x := vv (rcrcN c c.size)) (bv_lt (cSeal c) c.size) (bv_lt (cSeal c) (c.size + 1)) (bv_lt (cSeal c) (c.size + 2)) (bv_lt (cSeal c) (c.size + 3))
  rw [hf]
  have hWv : W = vv (cSum c) := by
    apply BitVec.eq_of_toNat_eq
    rw [hW, h0, h1, h2, h3]
    have q := of_vv (x := cSum c) hs
    have q0 := of_vv (x := cSum c % 256) (by omega)
    have q1 := of_vv (x := cSum c / 256 % 256) (by omega)
    have q2 := of_vv (x := cSum c / 65536 % 256) (by omega)
    have q3 := of_vv (x := cSum c / 16777216) (by omega)
    omega
  have hones : vv (rcrcN c c.size) ^^^ W = BitVec.allOnes 32 := by
    rw [hWv]
    unfold cSum
    rw [← not_u32 hb, vv_bitop_xor, BitVec.xor_comm, BitVec.xor_assoc, BitVec.xor_self, BitVec.xor_zero]
    rfl
  rw [hones]; rfl
/-! ### Pieces -/
theorem head_ext (s : ByteArray) : (wBody s).extract 0 (wNum (s.size : Int)).size = wNum (s.size : Int) := by
  obtain ⟨r, hr⟩ := wBody_text s
  have q := extract_mid ByteArray.empty (wNum (s.size : Int)) (s ++ r)
  rw [empty_app] at q
  rw [hr, wText, ByteArray.append_assoc]
  simpa using q
theorem ext_bytes {X Y : ByteArray} {k : Nat} (hx : k ≤ X.size) (hy : k ≤ Y.size) (h : ∀ i : Nat, i < k → bAt X i = bAt Y i) : X.extract 0 k = Y.extract 0 k := by
  refine bytes_ext (by rw [ByteArray.size_extract, ByteArray.size_extract]; omega) fun c hc => ?_
  rw [ByteArray.size_extract] at hc
  rw [bAt_extract X hx (by omega), bAt_extract Y hy (by omega), Nat.zero_add]
  exact h c (by omega)
theorem told_head {X : ByteArray} {n : Int} (h0 : 0 ≤ n) (h1 : n < 1099511627776) (hk : (wNum n).size ≤ X.size) (h : X.extract 0 (wNum n).size = wNum n) : (wTake X 0).1 = n := by
  have e : X = wNum n ++ X.extract (wNum n).size X.size := by
    conv => lhs; rw [← ext_all X, extract_split X (a := 0) (b := (wNum n).size) (c := X.size) (by omega) hk (Nat.le_refl _), h]
  rw [e, told_num h0 h1]
theorem body_at (s : ByteArray) {i : Nat} (h : i < (wBody s).size) : bAt (wBody s) (i : Nat) = bAt (str (wLay s) (i / 32)) ((i % 32 : Nat) : Int) := by
  have hl := wLay_len s
  have hb := wBody_len s
  rw [wLay_str s (by omega), bAt_extract (wBody s) (by omega) (by omega), show 32 * (i / 32) + i % 32 = i by omega]
theorem rep1_at (n i : Nat) : bAt (rep1 n) (i : Nat) = 0 := by
  unfold bAt rep1
  simp [List.getD]
  by_cases h : i < n <;> simp [h]
theorem body_zero (s : ByteArray) {i : Nat} (h : (wText s).size + 4 ≤ i) : bAt (wBody s) (i : Nat) = 0 := by
  unfold wBody padT
  rw [bAt_app, if_neg (by rw [cSeal_len]; omega), rep1_at]
theorem rg_up {A B : ByteArray} {m : Nat} (h : rg A m = rg B m) : ∀ d, (∀ i, m ≤ i → i < m + d → bAt A (i : Nat) = bAt B (i : Nat)) → rg A (m + d) = rg B (m + d)
  | 0, _ => h
  | d + 1, hb => by
    rw [show m + (d + 1) = m + d + 1 by omega, rg_succ, rg_succ, rg_up h d fun i a b => hb i a (by omega)]
    unfold bv; rw [hb (m + d) (by omega) (by omega)]
theorem body_rg (s : ByteArray) : rg (wBody s) ((wText s).size + 4) = resid := by
  rw [← seal_rg (wText s)]
  unfold rg wBody padT
  rw [rcrcN_app _ _ _ (by rw [cSeal_len]; omega)]
/-- A piece changed in four bytes that stand together opens to nothing, or is not changed. -/
theorem torn_main {s t T : ByteArray} {a ba : Nat} (hs : (s.size : Int) ≤ 1000000) (ha : a < (wLay s).length) (hT : T.size = 32) (hba : ba + 4 ≤ 32) (hd : ∀ i : Nat, i < 32 → (i < ba ∨ ba + 4 ≤ i) → bAt T i = bAt (str (wLay s) a) i)
    (hh : (wNum (s.size : Int)).size ≤ 32 * a + ba) (h : Laid ((wLay s).set a [Value.string T]) t) (hlen : ((wLay s).length : Int) ≤ 1000000) : t = s ∧ sameT (wLay s) ((wLay s).set a [Value.string T]) = true := by
  have hM : ((wLay s).set a [Value.string T]).length = (wLay s).length := List.length_set
  have hstr : ∀ j, str ((wLay s).set a [Value.string T]) j = if j = a then T else str (wLay s) j := fun j => by
    rw [str_set]
    by_cases e : j = a
    · rw [if_pos ⟨e, ha⟩, if_pos e]
    · rw [if_neg (fun q => e q.1), if_neg e]
  have hat : ∀ j i : Nat, j < (wLay s).length → i < 32 → (32 * j + i < 32 * a + ba ∨ 32 * a + ba + 4 ≤ 32 * j + i) → bAt (str ((wLay s).set a [Value.string T]) j) i = bAt (str (wLay s) j) i := fun j i hj hi hw => by
    rw [hstr]
    by_cases e : j = a
    · rw [if_pos e, e]; exact hd i hi (by omega)
    · rw [if_neg e]
  have h32 : ∀ j, j < (wLay s).length → (str ((wLay s).set a [Value.string T]) j).size = 32 := fun j hj => by
    rw [hstr]; split
    · exact hT
    · exact wLay_32 s hj
  have hn6 := wNum_le (s.size : Int)
  have hsz : (t.size : Int) = s.size := by
    have e1 := laid_head (by rw [hM]; exact hlen) h
    have e2 : (wTake (str ((wLay s).set a [Value.string T]) 0) 0).1 = (s.size : Int) := told_head (by omega) (by omega) (by rw [h32 0 (by omega)]; omega) (by
      rw [ext_bytes (Y := str (wLay s) 0) (by rw [h32 0 (by omega)]; omega) (by rw [wLay_32 s (by omega)]; omega) (fun i hi => hat 0 i (by omega) (by omega) (by omega)), wLay_str s (by omega), Nat.mul_zero, Nat.zero_add]
      rw [ext_ext _ _ _ _ (by omega), Nat.zero_add, head_ext])
    rw [e1] at e2
    exact e2
  have hlt : (wLay t).length = (wLay s).length := by
    have q1 := need_lay s hs
    have q2 := need_lay t (by omega)
    rw [hsz] at q2
    omega
  have hts : (wText t).size = (wText s).size := by rw [(wText_le t).2, (wText_le s).2, hsz]; omega
  have l1 := wLay_len s
  have l2 := wLay_len t
  have b1 := wBody_len s
  have b2 := wBody_len t
  have hbs : (wBody t).size = (wBody s).size := by omega
  have w1 := (wText_le s).2
  have hreg : rg (wBody t) (wBody s).size = rg (wBody s) (wBody s).size := by
    have q : rg (wBody t) ((wText s).size + 4) = rg (wBody s) ((wText s).size + 4) := by rw [body_rg s, ← hts, body_rg t]
    have q2 := rg_up q ((wBody s).size - ((wText s).size + 4)) fun i a b => by rw [body_zero s a, body_zero t (by omega)]
    rwa [show (wText s).size + 4 + ((wBody s).size - ((wText s).size + 4)) = (wBody s).size by omega] at q2
  have hall := burst (A := wBody t) (B := wBody s) (p := 32 * a + ba) (N := (wBody s).size) (by omega) (fun i hi hw => by
    rw [body_at s hi, body_at t (by omega), h.2 (i / 32) (by omega)]
    exact hat (i / 32) (i % 32) (by omega) (by omega) (by omega)) hreg
  have hbody : wBody t = wBody s := bytes_ext hbs fun c hc => hall c (by omega)
  have hlay : wLay t = wLay s := by unfold wLay; rw [hbody]
  have hst : t = s := laid_one (l := wLay s) hlen ⟨by rw [hlay]; exact Nat.le_refl _, fun j _ => by rw [hlay]⟩ ⟨Nat.le_refl _, fun _ _ => rfl⟩
  exact ⟨hst, sameT_iff.2 ⟨hM.symm, fun j hj => by rw [← h.2 j (by omega), hlay]⟩⟩
theorem bAt_bstr_set (ys : List (List Value)) (k : Nat) (v : List Value) {i : Nat} (h : i ≠ k) : bAt (bstr (ys.set k v)) (i : Nat) = bAt (bstr ys) (i : Nat) := by
  unfold bAt bstr strOfNums
  congr 2
  simp only [List.map_map, List.map_set, Int.toNat_natCast, List.getD]
  rw [List.getElem?_set_ne (Ne.symm h)]
theorem torn_bytes (X : ByteArray) {ba : Int} (h0 : 0 ≤ ba) (v0 v1 v2 v3 : List Value) : (bstr (((((strVals X).set (ba + 0).toNat v0).set (ba + 1).toNat v1).set (ba + 2).toNat v2).set (ba + 3).toNat v3)).size = X.size ∧
    ∀ i : Nat, (i < ba.toNat ∨ ba.toNat + 4 ≤ i) → bAt (bstr (((((strVals X).set (ba + 0).toNat v0).set (ba + 1).toNat v1).set (ba + 2).toNat v2).set (ba + 3).toNat v3)) i = bAt X i := by
  refine ⟨by simp only [bstr_len, List.length_set, strVals_len], fun i hi => ?_⟩
  rw [bAt_bstr_set _ _ _ (by omega), bAt_bstr_set _ _ _ (by omega), bAt_bstr_set _ _ _ (by omega), bAt_bstr_set _ _ _ (by omega), bstr_strVals]
theorem torn_all {s : ByteArray} {a ba : Int} (v0 v1 v2 v3 : List Value) (hs : (s.size : Int) ≤ 1000000) (ha0 : 0 ≤ a) (ha : a < ((wLay s).length : Int)) (hb0 : 0 ≤ ba) (hb : ba ≤ 28) (hlen : ((wLay s).length : Int) ≤ 1000000)
    (hh : ((wNum (s.size : Int)).size : Int) ≤ 32 * a + ba) {M : List (List Value)} (hM : M = (wLay s).set a.toNat [Value.string (bstr (((((strVals (vS (cellAt (wLay s) a.toNat 0))).set (ba + 0).toNat v0).set (ba + 1).toNat v1).set (ba + 2).toNat v2).set (ba + 3).toNat v3))]) :
    andB (decide ((wOpen M).2 = sameT (wLay s) M)) (orB (!(wOpen M).2) (decide ((wOpen M).1 = s))) = true := by
  have hb1 := torn_bytes (vS (cellAt (wLay s) a.toNat 0)) hb0 v0 v1 v2 v3
  have h32 : (vS (cellAt (wLay s) a.toNat 0)).size = 32 := wLay_32 s (by omega)
  generalize hT : bstr (((((strVals (vS (cellAt (wLay s) a.toNat 0))).set (ba + 0).toNat v0).set (ba + 1).toNat v1).set (ba + 2).toNat v2).set (ba + 3).toNat v3) = T at hb1 hM
  subst hM
  have hML : ((wLay s).set a.toNat [Value.string T]).length = (wLay s).length := List.length_set
  cases h1 : (wOpen ((wLay s).set a.toNat [Value.string T])).2 with
  | true =>
    have h2 := wOpen_yes h1
    have q := torn_main (ba := ba.toNat) hs (by omega) (by rw [hb1.1, h32]) (by omega) (fun i _ hi => hb1.2 i hi) (by omega) h2 hlen
    rw [q.2, q.1]
    simp [andB, orB]
  | false =>
    cases h3 : sameT (wLay s) ((wLay s).set a.toNat [Value.string T]) with
    | false => rfl
    | true =>
      exfalso
      have h4 := sameT_iff.1 h3
      have h5 := wOpen_laid (l := (wLay s).set a.toNat [Value.string T]) (by rw [hML]; exact hlen) ⟨by omega, h4.2⟩
      rw [h5] at h1; cases h1
theorem wNum_two {n : Int} (h0 : 0 ≤ n) (h1 : n < 16384) : (wNum n).size ≤ 2 := by
  rw [wNum_size h0 (by omega)]
  have : ∀ f, (enc f (n / 128)).length ≤ 1 := fun f => by rw [enc_small (by omega)]; simp
  have h2 := this 4
  show (bif decide (128 ≤ n) then (n % 128 + 128) :: enc 4 (n / 128) else [n]).length ≤ 2
  cases decide (128 ≤ n) <;> simp only [cond_true, cond_false, List.length_cons, List.length_nil] <;> omega
theorem wNum_one {n : Int} (h0 : 0 ≤ n) (h1 : n < 128) : (wNum n).size = 1 := by
  rw [wNum_size h0 (by omega), enc_small h1]; rfl
end Go.Proofs.Ytjpcnknegdpnoaa.RS
