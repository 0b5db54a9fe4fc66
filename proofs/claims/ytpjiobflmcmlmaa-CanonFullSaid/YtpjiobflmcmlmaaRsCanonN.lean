/- RS: chapter 6: the table of codes that canon.New lays. -/
import Derived.Test.YtpjiobflmcmlmaaRsCanonM
import Derived.Test.YtpjiobflmcmlmaaRsXE
import Derived.Test.YtpjiobflmcmlmaaRsXN
set_option linter.unusedVariables false
set_option linter.unusedSimpArgs false
namespace Go.Proofs.Ytpjiobflmcmlmaa.RS
open Go Go.RowKit
def updX (x : Nat → List (List Value)) (k : Nat) (v : List (List Value)) : Nat → List (List Value) := fun j => bif Nat.beq j k then v else x j
def rowsX (E : TypeId) (x : Nat → List (List Value)) : List Res :=
  [.row true E [.int .i64] (x 0), .row true E [.int .i64] (x 1), .row true E [.int .i64] (x 2), .row true E [.int .i64] (x 3), .row true E [.int .i64] (x 4), .row true E [.int .i64] (x 5), .row true E [.int .i64] (x 6), .row true E [.int .i64] (x 7), .row true E [.int .i64] (x 8), .row true E [.int .i64] (x 9), .row true E [.int .i64] (x 10), .row true E [.int .i64] (x 11), .row true E [.int .i64] (x 12), .row true E [.int .i64] (x 13), .row true E [.int .i64] (x 14), .row true E [.int .i64] (x 15)]
def firstC (l : List (List Value)) (n : Nat) : List LV := (List.range 16).map fun i => .val (.int .i64 (bif Nat.ble i 1 then 0 else bif Nat.ble i n then baseL l i else 0))
def rowC (r : Nat) : List LV := (List.range 16).map fun k => .row (r + k)
/-- The cells of a table of codes: first[0..n] are there. -/
def tblC (c r n : Nat) (l : List (List Value)) : List LV := .row c :: (firstC l n ++ rowC r)
def bodyC (f : Func) : Code := match f.body with | some c => c | none => .skip
def seqL : Code → Code | .seq x _ => x | c => c
def blkB : Code → Code | .block _ x => x | c => c
def lopB : Code → Code | .loop x => x | c => c
def seqR : Code → Code | .seq _ y => y | c => c
theorem sym_upd {l : List (List Value)} {x : Nat → List (List Value)} {i : Int} (h0 : 0 ≤ i) (hx : ∀ k : Nat, k < 16 → x k = symN l k i.toNat) {n : Nat} (hn : vI (cellAt l i.toNat 0) = (n : Int)) :
    ∀ k : Nat, k < 16 → updX x n (x n ++ [[Value.int .i64 i]]) k = symN l k (i + 1).toNat := by
  intro k hk
  rw [show (i + 1).toNat = i.toNat + 1 by omega]
  unfold updX
  have hnum : num l i.toNat 0 = (n : Int) := hn
  by_cases e : k = n
  · subst e
    simp only [Nat.beq_refl, cond_true, symN, hnum, if_true]
    rw [hx k hk, show ((i.toNat : Nat) : Int) = i by omega]
  · have hb : Nat.beq k n = false := by
      cases hq : Nat.beq k n with
      | false => rfl
      | true => exact absurd (Nat.eq_of_beq_eq_true hq) e
    have hne : ¬ num l i.toNat 0 = (k : Int) := by omega
    simp only [hb, cond_false, symN, if_neg hne]
    exact hx k hk
theorem sym_len_le (l : List (List Value)) (n : Int) (k : Nat) : (symN l n k).length ≤ k := by
  have h1 := symN_len l n k
  have h2 := cntL_bd l n k
  omega
theorem sym_lens {l : List (List Value)} {x : Nat → List (List Value)} {i : Int} (h0 : 0 ≤ i) (hx : ∀ k : Nat, k < 16 → x k = symN l k i.toNat) (k : Nat) (hk : k < 16) : ((x k).length : Int) ≤ i := by
  rw [hx k hk]
  have := sym_len_le l k i.toNat
  omega
/-- One symbol of those of length n. -/
theorem sym_ok {l xs : List (List Value)} {n : Nat} {j : Int} (hx : xs = symN l n l.length) (h0 : 0 ≤ j) (hj : j < (xs.length : Int)) :
    0 ≤ vI (cellAt xs j.toNat 0) ∧ vI (cellAt xs j.toNat 0) < (l.length : Int) ∧ num l (vI (cellAt xs j.toNat 0)).toNat 0 = (n : Int) ∧ cntL l n (vI (cellAt xs j.toNat 0)).toNat = j := by
  subst hx
  have h1 := symN_len l n l.length
  obtain ⟨q, k1, k2, k3, k4⟩ := symN_at l n l.length j.toNat (by omega)
  have k4 : vI (cellAt (symN l n l.length) j.toNat 0) = (q : Int) := k4
  rw [k4]
  refine ⟨by omega, by omega, by simpa using k2, ?_⟩
  rw [Int.toNat_natCast, k3]
  omega
def hasS (l : List (List Value)) (n : Int) (j : Int) (i : Nat) : Bool := decide (1 ≤ num l i 0 ∧ (num l i 0 < n ∨ (num l i 0 = n ∧ cntL l n i < j)))
/-- The codes, when those of lengths below n are there, and the first j of length n. -/
def outS (l : List (List Value)) (n : Int) (j : Int) : List (List Value) := (List.range l.length).map fun i => bif hasS l n j i then cell2 (num l i 0) (codL l i) else cell2 0 0
theorem outS_len (l : List (List Value)) (n j : Int) : (outS l n j).length = l.length := by simp [outS]
theorem outS_congr {l : List (List Value)} {n m j k : Int} (h : ∀ i, i < l.length → hasS l n j i = hasS l m k i) : outS l n j = outS l m k := by
  unfold outS
  refine List.map_congr_left fun i hi => ?_
  rw [h i (List.mem_range.1 hi)]
theorem outS_init (l : List (List Value)) : List.replicate l.length (cell2 0 0) = outS l 1 0 := by
  unfold outS
  apply List.ext_getElem (by simp)
  intro i h1 h2
  have : hasS l 1 0 i = false := by
    unfold hasS
    simp only [decide_eq_false_iff_not]
    have := (cntL_bd l 1 i).1
    omega
  simp [this]
theorem outS_next (l : List (List Value)) (n : Nat) : outS l n (cntL l n l.length) = outS l ((n : Int) + 1) 0 := outS_congr fun i hi => by
  unfold hasS
  congr 1
  have h1 := (cntL_bd l ((n : Int) + 1) i).1
  apply propext
  constructor
  · rintro ⟨a, b⟩; exact ⟨a, by omega⟩
  · rintro ⟨a, b⟩
    refine ⟨a, ?_⟩
    by_cases e : num l i 0 = (n : Int)
    · exact .inr ⟨e, cntL_lt l e hi⟩
    · left; omega
theorem outS_set {l : List (List Value)} {n : Nat} (h1 : 1 ≤ n) {j : Int} {q : Nat} (hq : q < l.length) (hn : num l q 0 = (n : Int)) (hc : cntL l n q = j) : (outS l n j).set q (cell2 n (baseL l n + j)) = outS l n (j + 1) := by
  apply List.ext_getElem (by simp [outS_len])
  intro i a b
  rw [List.getElem_set]
  simp only [outS_len, List.length_set] at a b
  have hcod : codL l q = baseL l n + j := by unfold codL; rw [hn, hc]; simp
  have hne : q ≠ i → num l i 0 = n → cntL l n i ≠ j := fun hne hi e => by
    rcases Nat.lt_trichotomy q i with h | h | h
    · have := cntL_lt l hn h; omega
    · exact hne h
    · have := cntL_lt l hi h; omega
  split
  · rename_i e
    subst e
    have : hasS l n (j + 1) q = true := by unfold hasS; simp only [decide_eq_true_eq]; omega
    simp [outS, this, hn, hcod]
  · rename_i e
    have : hasS l n j i = hasS l n (j + 1) i := by
      unfold hasS
      congr 1
      apply propext
      constructor
      · rintro ⟨a, b⟩; exact ⟨a, by omega⟩
      · rintro ⟨a, b⟩
        refine ⟨a, ?_⟩
        rcases b with b | ⟨b, c⟩
        · exact .inl b
        · have := hne e b; right; exact ⟨b, by omega⟩
    simp [outS, this]
theorem outS_codes {l : List (List Value)} (hb : badL l = false) : outS l 16 0 = codesL l := by
  unfold codesL outS outN
  refine List.map_congr_left fun i hi => ?_
  have := (badL_no.1 hb).2.1 i (List.mem_range.1 hi)
  have h2 := (cntL_bd l 16 i).1
  have : hasS l 16 0 i = hasOut l 16 0 i := by
    unfold hasS hasOut
    congr 1
    apply propext
    constructor <;> rintro ⟨a, b⟩ <;> exact ⟨a, by omega⟩
  rw [this]
theorem base_dbl (l : List (List Value)) (n : Nat) (h : 1 ≤ n) : endL l (n - 1) * 2 = baseL l n := by unfold baseL; omega
theorem baseL_bd {l : List (List Value)} (h : kraftL l ≤ 32768) {n : Nat} (h1 : 1 ≤ n) (hn : n ≤ 15) : 0 ≤ baseL l n ∧ baseL l n ≤ 65536 := by
  have := endL_bd h (n := n - 1) (by omega)
  unfold baseL; omega
theorem end_base (l : List (List Value)) (n : Nat) (h : 1 ≤ n) {xs : List (List Value)} (hx : xs = symN l n l.length) : baseL l n + (xs.length : Int) = endL l n := by
  rw [endL_eq l h, hx, symN_len]
theorem outS_end (l : List (List Value)) (n : Nat) {xs : List (List Value)} (hx : xs = symN l n l.length) : outS l n (xs.length : Int) = outS l ((n : Int) + 1) 0 := by
  rw [← outS_next, hx, symN_len]
theorem append_code {l : List (List Value)} {s : Int} (h : wrOK l s) : bAppend [] (vI (cellAt (codesL l) s.toNat 1)) (vI (cellAt (codesL l) s.toNat 0)) = (wWrite l s).1 := by
  obtain ⟨h1, h2, h3, h4⟩ := h
  have hj : s.toNat < l.length := by omega
  have hr := (badL_no.1 h1).2.1 _ hj
  obtain ⟨e0, e1⟩ := codes_at hj hr
  rw [wWrite_yes ⟨h1, h2, h3, h4⟩, e0, e1, if_neg h4]
  rfl
theorem code_bd {l : List (List Value)} {s : Int} (h : wrOK l s) : 0 ≤ vI (cellAt (codesL l) s.toNat 1) ∧ vI (cellAt (codesL l) s.toNat 1) ≤ 9223372036854775807 ∧ 0 ≤ vI (cellAt (codesL l) s.toNat 0) ∧ vI (cellAt (codesL l) s.toNat 0) ≤ 15 := by
  obtain ⟨h1, h2, h3, h4⟩ := h
  have hj : s.toNat < l.length := by omega
  have hb := badL_no.1 h1
  have hr := hb.2.1 _ hj
  obtain ⟨e0, e1⟩ := codes_at hj hr
  rw [e0, e1, if_neg h4]
  have hp := codL_pow hb.2.2 hj (by omega) hr.2
  have : (2 : Int) ^ (num l s.toNat 0).toNat ≤ 1073741824 := pow_le30 (by omega)
  omega
theorem base1 (l : List (List Value)) : baseL l 1 = 0 := rfl
theorem tbl_iff {l : List (List Value)} {n : Nat} (h1 : 1 ≤ n) {c k : Int} (hk : k = c - baseL l n) : (0 ≤ k ∧ k < ((symN l n l.length).length : Int)) ↔ inL l n c := by
  have := symN_len l n l.length
  have := endL_eq l h1
  unfold inL
  omega
theorem tbl_hit {l b : List (List Value)} {a : Int} {n : Nat} {c k : Int} (hbad : badL l = false) (h1 : 1 ≤ n) (h2 : n ≤ 15) (h0 : 0 ≤ a) (h3 : a + n ≤ (b.length : Int)) (hc : c = takeN b a n) (hno : ∀ m : Nat, 1 ≤ (m : Int) → (m : Int) < n → ¬ inL l m (takeN b a m))
    (hk : k = c - baseL l n) (hk0 : 0 ≤ k) (hk1 : k < ((symN l n l.length).length : Int)) : wRead l b a = (vI (cellAt (symN l n l.length) k.toNat 0), a + n, true) := by
  have hin := (tbl_iff h1 hk).1 ⟨hk0, hk1⟩
  obtain ⟨k1, k2, k3, k4⟩ := sym_ok (n := n) (j := k) rfl hk0 hk1
  rw [hc] at hin hk
  rw [rd_found hbad h1 h2 h0 h3 hin (fun m m1 m2 => hno m (by omega) (by omega)) (j := (vI (cellAt (symN l n l.length) k.toNat 0)).toNat) (by omega) k3 (by unfold codL; rw [k3, k4]; simp; omega)]
  rw [show (((vI (cellAt (symN l n l.length) k.toNat 0)).toNat : Nat) : Int) = vI (cellAt (symN l n l.length) k.toNat 0) by omega]
theorem tbl_step {l b : List (List Value)} {a : Int} {n : Nat} {c k : Int} (h1 : 1 ≤ n) (hc : c = takeN b a n) (hno : ∀ m : Nat, 1 ≤ (m : Int) → (m : Int) < n → ¬ inL l m (takeN b a m)) (hk : k = c - baseL l n)
    (hm : ¬ (0 ≤ k ∧ k < ((symN l n l.length).length : Int))) : ∀ m : Nat, 1 ≤ (m : Int) → (m : Int) < ((n + 1 : Nat) : Int) → ¬ inL l m (takeN b a m) := by
  intro m m1 m2
  by_cases e : m = n
  · subst e
    rw [← hc]
    exact fun h => hm ((tbl_iff h1 hk).2 h)
  · exact hno m m1 (by omega)
theorem take_bit {b : List (List Value)} {a p n c : Int} (h1 : 1 ≤ n) (hp : p = a + n - 1) (hc : c = takeN b a (n - 1).toNat) : (bif vB (cellAt b p.toNat 0) then c * 2 + 1 else c * 2) = takeN b a n.toNat := by
  rw [show n.toNat = (n - 1).toNat + 1 by omega, takeN, ← hc, show a + (((n - 1).toNat : Nat) : Int) = p by omega]
  unfold bt
  cases vB (cellAt b p.toNat 0) <;> simp <;> omega
/-! ### What the laws say -/
/-- Symbols written, one behind the other. -/
def rowW (l s : List (List Value)) : Nat → List (List Value)
  | 0 => []
  | k + 1 => rowW l s k ++ (wWrite l (num s k 0)).1
theorem rowW_len (l s : List (List Value)) : ∀ k, (rowW l s k).length ≤ 15 * k
  | 0 => Nat.le_refl _
  | k + 1 => by
    have h1 := rowW_len l s k
    have h2 := wWrite_len l (num s k 0)
    simp only [rowW, List.length_append]
    omega
theorem rowW_split (l s : List (List Value)) (i : Nat) : ∀ d, ∃ zs, rowW l s (i + 1 + d) = rowW l s i ++ (wWrite l (num s i 0)).1 ++ zs
  | 0 => ⟨[], by simp [rowW]⟩
  | d + 1 => by
    obtain ⟨zs, h⟩ := rowW_split l s i d
    exact ⟨zs ++ (wWrite l (num s (i + 1 + d) 0)).1, by rw [show i + 1 + (d + 1) = i + 1 + d + 1 by omega, rowW, h]; simp⟩
theorem rowW_read {l s : List (List Value)} {n i : Nat} (hi : i < n) (hok : wrOK l (num s i 0)) : wRead l (rowW l s n) ((rowW l s i).length : Int) = (num s i 0, ((rowW l s (i + 1)).length : Int), true) := by
  obtain ⟨zs, h⟩ := rowW_split l s i (n - (i + 1))
  rw [show i + 1 + (n - (i + 1)) = n by omega] at h
  rw [h, read_written hok]
  simp [rowW]
theorem wWrite_ok {l : List (List Value)} {s : Int} (h : (wWrite l s).2 = true) : wrOK l s := by
  rcases wWrite_cases l s with ⟨e, _⟩ | ⟨e, _⟩
  · rw [e] at h; cases h
  · exact e
theorem pow_le_pow15 {n : Nat} (h : n ≤ 15) : (2 : Int) ^ n ≤ 32768 := by
  have : (2 : Nat) ^ n ≤ 2 ^ 15 := Nat.pow_le_pow_right (by decide) h
  have h2 : ((2 ^ n : Nat) : Int) ≤ ((2 ^ 15 : Nat) : Int) := by exact_mod_cast this
  simpa using h2
theorem wCodes_val (l : List (List Value)) (j : Nat) : 0 ≤ vI (cellAt (wCodes l).1 j 1) ∧ vI (cellAt (wCodes l).1 j 1) ≤ 32768 := by
  cases hb : badL l with
  | true => rw [wCodes_no hb]; simp [cellAt, vI, undef]
  | false =>
    rw [wCodes_yes hb]
    rcases codes_vals l j 1 with h | ⟨h1, h2, h3, h4⟩
    · rw [h]; decide
    · have hk := codL_pow (badL_no.1 hb).2.2 h1 h2 h3
      have := pow_le_pow15 (n := (num l j 0).toNat) (by omega)
      rcases h4 with h4 | h4 <;> rw [h4] <;> omega
theorem div_in {x y : Int} (h0 : 0 ≤ x) (h1 : x ≤ 32768) (hy : 0 < y) : inK .i64 (x / y) := by
  have h2 : 0 ≤ x / y := Int.ediv_nonneg h0 (by omega)
  have h3 : x / y ≤ x := Int.ediv_le_self _ h0
  simp only [inK]; omega
end Go.Proofs.Ytpjiobflmcmlmaa.RS
