/- Reading codes bit by bit is reading them one by one; plain, no program. -/
import Derived.Test.YtpjiobflmcmlmaaRsCanon
set_option linter.unusedVariables false
set_option linter.unusedSimpArgs false
namespace Go.Proofs.Ytpjiobflmcmlmaa.RS
open Go Go.RowKit
theorem takeN_cut (xs : List (List Value)) (a : Int) (n : Nat) : ∀ d, takeN xs a (n + d) / 2 ^ d = takeN xs a n
  | 0 => by simp
  | d + 1 => by
    have ih := takeN_cut xs a n d
    rw [← Nat.add_assoc, takeN, Int.pow_succ, Int.mul_comm (2 ^ d) 2, ← Int.ediv_ediv_of_nonneg (show (0 : Int) ≤ 2 by decide)]
    rw [show (takeN xs a (n + d) * 2 + (bif bt xs (a + ((n + d : Nat) : Int)).toNat then 1 else 0)) / 2 = takeN xs a (n + d) by
      cases bt xs (a + ((n + d : Nat) : Int)).toNat <;> simp only [cond_true, cond_false] <;> omega]
    exact ih
theorem hitR_iff {l b : List (List Value)} {a : Int} {i : Nat} : hitR l b a i = true ↔ (¬ num l i 0 = 0 ∧ (0 ≤ num l i 0 ∧ num l i 0 ≤ 30 ∧ 0 ≤ a ∧ a + num l i 0 ≤ (b.length : Int)) ∧ takeN b a (num l i 0).toNat = codL l i) := by
  unfold hitR
  by_cases hc : 0 ≤ num l i 0 ∧ num l i 0 ≤ 30 ∧ 0 ≤ a ∧ a + num l i 0 ≤ (b.length : Int)
  · rw [bTake_in hc]
    simp [andB, hc]
  · rw [bTake_out (by omega)]
    simp [andB]
    intro _ h1 h2 h3 h4
    exact absurd ⟨h1, h2, h3, h4⟩ hc
theorem hit_in {l b : List (List Value)} {a : Int} {i : Nat} (hbad : badL l = false) (hi : i < l.length) (h : hitR l b a i = true) : 1 ≤ num l i 0 ∧ num l i 0 ≤ 15 ∧ 0 ≤ a ∧ a + num l i 0 ≤ (b.length : Int) ∧ inL l (num l i 0).toNat (takeN b a (num l i 0).toNat) := by
  obtain ⟨h1, h2, h3⟩ := hitR_iff.1 h
  have hb := (badL_no.1 hbad).2.1 i hi
  refine ⟨by omega, by omega, h2.2.2.1, h2.2.2.2, ?_⟩
  rw [h3]
  exact codL_bd hi (by omega)
theorem rd_found {l b : List (List Value)} {a : Int} {n : Nat} (hbad : badL l = false) (h1 : 1 ≤ n) (h2 : n ≤ 15) (h0 : 0 ≤ a) (h3 : a + n ≤ (b.length : Int)) (hin : inL l n (takeN b a n)) (hno : ∀ m : Nat, 1 ≤ m → m < n → ¬ inL l m (takeN b a m)) {j : Nat} (hj : j < l.length) (hn : num l j 0 = n) (hc : codL l j = takeN b a n) :
    wRead l b a = ((j : Int), a + n, true) := by
  have hh : hitR l b a j = true := hitR_iff.2 ⟨by omega, by omega, by rw [hn, Int.toNat_natCast, hc]⟩
  rw [wRead_at hbad hj hh fun i hi => ?_, hn]
  cases hq : hitR l b a i with
  | false => rfl
  | true =>
    exfalso
    obtain ⟨k1, k2, k3, k4, k5⟩ := hit_in hbad (by omega) hq
    have k6 := (hitR_iff.1 hq).2.2
    rcases Nat.lt_trichotomy (num l i 0).toNat n with hl | he | hg
    · exact hno _ (by omega) hl k5
    · have : codL l i = codL l j := by rw [← k6, he, hc]
      have := codL_inj (l := l) (i := i) (j := j) (by omega) this
      omega
    · have c1 := cut_ge (l := l) (n := n) (m := (num l i 0).toNat) hg k5.1
      have c2 := takeN_cut b a n ((num l i 0).toNat - n)
      rw [show n + ((num l i 0).toNat - n) = (num l i 0).toNat by omega] at c2
      rw [c2] at c1
      have := hin.2
      omega
theorem rd_none {l b : List (List Value)} {a : Int} (hbad : badL l = false) (hno : ∀ m : Nat, 1 ≤ m → m ≤ 15 → 0 ≤ a → a + m ≤ (b.length : Int) → ¬ inL l m (takeN b a m)) : wRead l b a = (0, 0, false) := by
  refine wRead_none hbad fun j hj => ?_
  cases hq : hitR l b a j with
  | false => rfl
  | true =>
    exfalso
    obtain ⟨k1, k2, k3, k4, k5⟩ := hit_in hbad hj hq
    exact hno _ (by omega) (by omega) k3 (by omega) k5
/-- The indices of length n among the first k. -/
def symN (l : List (List Value)) (n : Int) : Nat → List (List Value)
  | 0 => []
  | k + 1 => if num l k 0 = n then symN l n k ++ [[Value.int .i64 (k : Int)]] else symN l n k
theorem symN_len (l : List (List Value)) (n : Int) : ∀ k, ((symN l n k).length : Int) = cntL l n k
  | 0 => rfl
  | k + 1 => by
    have ih := symN_len l n k
    simp only [symN, cntL]
    split
    · rw [List.length_append]; simp; omega
    · omega
theorem symN_at (l : List (List Value)) (n : Int) : ∀ (k : Nat) (r : Nat), (r : Int) < cntL l n k → ∃ j : Nat, j < k ∧ num l j 0 = n ∧ cntL l n j = r ∧ num (symN l n k) r 0 = j
  | 0, r, h => by simp [cntL] at h; omega
  | k + 1, r, h => by
    have hl := symN_len l n k
    simp only [cntL] at h
    by_cases hr : (r : Int) < cntL l n k
    · obtain ⟨j, h1, h2, h3, h4⟩ := symN_at l n k r hr
      refine ⟨j, by omega, h2, h3, ?_⟩
      simp only [symN]
      split
      · rw [← h4]
        unfold num cellAt
        simp [List.getD, List.getElem?_append_left (show r < (symN l n k).length by omega)]
      · exact h4
    · split at h
      · rename_i hk
        refine ⟨k, by omega, hk, by omega, ?_⟩
        simp only [symN, if_pos hk]
        have hrl : r = (symN l n k).length := by omega
        subst hrl
        unfold num cellAt
        simp [List.getD, vI]
      · omega
/-- A code that stands there is read. -/
theorem read_at {l b : List (List Value)} {a x : Int} (hok : wrOK l x) (h0 : 0 ≤ a) (h3 : a + num l x.toNat 0 ≤ (b.length : Int)) (ht : takeN b a (num l x.toNat 0).toNat = codL l x.toNat) : wRead l b a = (x, a + num l x.toNat 0, true) := by
  obtain ⟨k1, k2, k3, k4⟩ := hok
  have hb := (badL_no.1 k1).2.1 x.toNat (by omega)
  have hin := codL_bd (l := l) (j := x.toNat) (by omega) (by omega)
  have hc : ((num l x.toNat 0).toNat : Int) = num l x.toNat 0 := by omega
  have q := rd_found (l := l) (b := b) (a := a) (n := (num l x.toNat 0).toNat) k1 (by omega) (by omega) h0 (by omega) (by rw [ht]; exact hin) (fun m m1 m2 hm => by
    have c1 := cut_ge (l := l) (n := m) (m := (num l x.toNat 0).toNat) m2 (c := codL l x.toNat) hin.1
    have c2 := takeN_cut b a m ((num l x.toNat 0).toNat - m)
    rw [show m + ((num l x.toNat 0).toNat - m) = (num l x.toNat 0).toNat by omega, ht] at c2
    rw [c2] at c1
    have := hm.2
    omega) (j := x.toNat) (by omega) hc.symm (by rw [ht])
  rw [q, hc, show ((x.toNat : Nat) : Int) = x by omega]
/-- What is written is read, wherever it stands. -/
theorem read_written {l xs zs : List (List Value)} {x : Int} (hok : wrOK l x) : wRead l (xs ++ (wWrite l x).1 ++ zs) (xs.length : Int) = (x, (xs.length : Int) + ((wWrite l x).1.length : Nat), true) := by
  have k := hok
  obtain ⟨k1, k2, k3, k4⟩ := k
  have hbn := badL_no.1 k1
  have hb := hbn.2.1 x.toNat (by omega)
  have hp := codL_pow hbn.2.2 (j := x.toNat) (by omega) (by omega) hb.2
  rw [wWrite_yes hok]
  have hl : (appN (codL l x.toNat) (num l x.toNat 0).toNat).length = (num l x.toNat 0).toNat := appN_len _ _
  have t := BB_take (xs := xs) (d := xs ++ appN (codL l x.toNat) (num l x.toNat 0).toNat ++ zs) (n := codL l x.toNat) (w := num l x.toNat 0) ⟨zs, rfl⟩ (by omega) (by omega) hp.1 hp.2
  have hlen : (xs.length : Int) + num l x.toNat 0 ≤ ((xs ++ appN (codL l x.toNat) (num l x.toNat 0).toNat ++ zs).length : Int) := by simp only [List.length_append, hl]; omega
  rw [bTake_in ⟨by omega, by omega, by omega, hlen⟩] at t
  have t1 := congrArg Prod.fst t
  rw [read_at hok (by omega) hlen t1]
  simp only [hl]
  rw [show ((num l x.toNat 0).toNat : Int) = num l x.toNat 0 by omega]
theorem least {P : Nat → Prop} : ∀ (n : Nat), P n → ∃ m, m ≤ n ∧ P m ∧ ∀ k, k < m → ¬ P k := by
  intro n
  induction n using Nat.strongRecOn with
  | ind n ih =>
    intro h
    by_cases hc : ∃ k, k < n ∧ P k
    · obtain ⟨k, h1, h2⟩ := hc
      obtain ⟨m, a, b, c⟩ := ih k h1 h2
      exact ⟨m, by omega, b, c⟩
    · exact ⟨n, Nat.le_refl _, h, fun k hk hp => hc ⟨k, hk, hp⟩⟩
theorem takeN_2 (xs : List (List Value)) (a : Int) (n : Nat) : 2 * takeN xs a n ≤ takeN xs a (n + 1) := by
  rw [takeN]
  cases bt xs (a + (n : Nat)).toNat <;> simp only [cond_true, cond_false] <;> omega
/-- Where the codes fill all there is, fifteen bits begin with one. -/
theorem full_read {l b : List (List Value)} {a : Int} (hbad : badL l = false) (hk : kraftL l = 32768) (h0 : 0 ≤ a) (h3 : a + 15 ≤ (b.length : Int)) : (wRead l b a).2.2 = true ∧ a + 1 ≤ (wRead l b a).2.1 ∧ (wRead l b a).2.1 ≤ a + 15 := by
  have hP : takeN b a 15 < endL l 15 := by
    rw [endL_15, hk]
    have := takeN_bd b a 15
    have e : (2 : Int) ^ 15 = 32768 := by decide
    omega
  obtain ⟨n, n1, n2, n3⟩ := least (P := fun n => takeN b a n < endL l n) 15 hP
  have hn : 1 ≤ n := by
    rcases Nat.eq_zero_or_pos n with e | e
    · subst e; simp [takeN, endL] at n2
    · exact e
  have hin : inL l n (takeN b a n) := by
    refine ⟨?_, n2⟩
    have h4 := n3 (n - 1) (by omega)
    have h5 := takeN_2 b a (n - 1)
    rw [show n - 1 + 1 = n by omega] at h5
    unfold baseL
    omega
  obtain ⟨m, m1, ⟨m2, m3⟩, m4⟩ := least (P := fun n => 1 ≤ n ∧ inL l n (takeN b a n)) n ⟨hn, hin⟩
  obtain ⟨j, j1, j2, j3⟩ := inL_sym m2 m3
  rw [rd_found hbad m2 (by omega) h0 (by omega) m3 (fun k k1 k2 k3 => m4 k k2 ⟨k1, k3⟩) j1 j2 j3]
  exact ⟨rfl, by show a + 1 ≤ a + (m : Int); omega, by show a + (m : Int) ≤ a + 15; omega⟩
/-- Where they do not, bits of 1 alone begin with none. -/
theorem ones_read {l b : List (List Value)} {a : Int} (hbad : badL l = false) (hk : kraftL l ≠ 32768) (hb : ∀ n : Nat, 0 ≤ a → a + n ≤ (b.length : Int) → takeN b a n = 2 ^ n - 1) : wRead l b a = (0, 0, false) := by
  refine rd_none hbad fun m m1 m2 h0 h3 hin => ?_
  have hbn := badL_no.1 hbad
  have e := hb m h0 h3
  have h1 := endL_grow l m (15 - m)
  rw [show m + (15 - m) = 15 by omega, endL_15] at h1
  have hp : (0 : Int) < 2 ^ (15 - m) := Int.pow_pos (by decide)
  have h2 : (2 : Int) ^ m * 2 ^ (15 - m) = 32768 := by rw [← Int.pow_add, show m + (15 - m) = 15 by omega]; rfl
  have h4 : (2 : Int) ^ m ≤ endL l m := by have := hin.2; omega
  have h5 : (2 : Int) ^ m * 2 ^ (15 - m) ≤ endL l m * 2 ^ (15 - m) := Int.mul_le_mul_of_nonneg_right h4 (by omega)
  omega
theorem rises_eq {l : List (List Value)} {a b : Nat} (h : num l a 0 = num l b 0) : codL l a < codL l b ↔ a < b := by
  unfold codL
  rw [h]
  rcases Nat.lt_trichotomy a b with hl | he | hg
  · have := cntL_lt l (n := num l b 0) h hl
    constructor <;> intro _ <;> omega
  · subst he
    constructor <;> intro _ <;> omega
  · have := cntL_lt l (n := num l b 0) rfl hg
    constructor <;> intro _ <;> omega
theorem rises_lt {l : List (List Value)} {a b : Nat} (ha : a < l.length) (hb : b < l.length) (h1 : 1 ≤ num l a 0) (h2 : num l a 0 < num l b 0) : codL l a < codL l b / 2 ^ (num l b 0 - num l a 0).toNat := by
  have p := codL_bd ha h1
  have q := codL_bd hb (by omega)
  have c := cut_ge (l := l) (n := (num l a 0).toNat) (m := (num l b 0).toNat) (by omega) q.1
  rw [show (num l b 0 - num l a 0).toNat = (num l b 0).toNat - (num l a 0).toNat by omega]
  omega
end Go.Proofs.Ytpjiobflmcmlmaa.RS
