/- Chapter 6's laws in plain Lean. -/
import Derived.Test.YtpjiobflmcmlmaaXH
set_option linter.unusedVariables false
set_option linter.unusedSimpArgs false
namespace Go.Proofs.Ytpjiobflmcmlmaa
open Go Go.Proofs.Ytpjiobflmcmlmaa.RS Go.RowKit
theorem sameB_refl (xs : List (List Value)) : sameB xs xs = true := sameB_all rfl fun _ _ => rfl
theorem sameC_refl (xs : List (List Value)) : sameC xs xs = true := sameC_all rfl fun _ _ => ⟨rfl, rfl⟩
theorem tells_true (l b : List (List Value)) (xs xa : Int) : T7.F_CanonTells l b xs xa = true := by
  unfold T7.F_CanonTells
  cases h : orB (decide ((300 : Int) < (l.length : Int))) (decide ((1000 : Int) < (b.length : Int))) with
  | true => rfl
  | false => simp [sameC_refl, sameB_refl, andB]
theorem takeN_congr {xs ys : List (List Value)} : ∀ {n : Nat}, (∀ j, j < n → bt xs j = bt ys j) → takeN xs 0 n = takeN ys 0 n
  | 0, _ => rfl
  | n + 1, h => by
    simp only [takeN]
    rw [takeN_congr (n := n) (fun j hj => h j (by omega)), show ((0 : Int) + (n : Nat)).toNat = n by omega, h n (by omega)]
theorem back_true (l : List (List Value)) (xs xa : Int) (m : List (List Value)) : T7.F_CanonBack l xs xa m = true := by
  unfold T7.F_CanonBack
  cases h : orB (decide ((300 : Int) < (l.length : Int))) (decide ((1000 : Int) < (m.length : Int))) with
  | true => rfl
  | false =>
    rw [cond_false]
    rcases wWrite_cases l xs with ⟨e, _⟩ | ⟨hok, e⟩
    · rw [e]; rfl
    · have hr := read_written (xs := []) (zs := m) hok
      simp only [List.length_nil, Int.natCast_zero, Int.zero_add] at hr
      have hln : (wWrite l xs).1.length = (num l xs.toNat 0).toNat := by rw [e]; exact appN_len _ _
      have hb := (badL_no.1 hok.1).2.1 xs.toNat (by have := hok.2.1; have := hok.2.2.1; omega)
      have e2 : (wWrite l xs).2 = true := by rw [e]
      rw [hr, e2]
      have h4 : ((wWrite l xs).1.length : Int) = vI (cellAt l xs.toNat 0) := by
        have : vI (cellAt l xs.toNat 0) = num l xs.toNat 0 := rfl
        omega
      have h5 : orB (orB (orB (!true) (decide (¬ xs = xs))) (decide (¬ ((wWrite l xs).1.length : Int) = ((wWrite l xs).1.length : Int)))) (decide (¬ ((wWrite l xs).1.length : Int) = vI (cellAt l xs.toNat 0))) = false := by simp [orB, h4]
      rw [show (!true) = false from rfl] at h5 ⊢
      rw [cond_false]
      show (bif orB (orB (orB false (decide (¬ xs = xs))) (decide (¬ ((wWrite l xs).1.length : Int) = ((wWrite l xs).1.length : Int)))) (decide (¬ ((wWrite l xs).1.length : Int) = vI (cellAt l xs.toNat 0))) then false else _) = true
      rw [h5, cond_false]
      rcases wWrite_cases l xa with ⟨f, _⟩ | ⟨hok2, f⟩
      · rw [f]; rfl
      · have f2 : (wWrite l xa).2 = true := by rw [f]
        rw [f2]
        by_cases hne : xs = xa
        · simp [orB, hne]
        · by_cases hlt : ((wWrite l xa).1.length : Int) < ((wWrite l xs).1.length : Int)
          · simp [orB, hlt]
          · have hs : sameB ((((wWrite l xa).1).take ((wWrite l xs).1.length : Int).toNat).drop (0 : Int).toNat) (wWrite l xs).1 = false := by
              cases hq : sameB ((((wWrite l xa).1).take ((wWrite l xs).1.length : Int).toNat).drop (0 : Int).toNat) (wWrite l xs).1 with
              | false => rfl
              | true =>
                exfalso
                obtain ⟨q1, q2⟩ := sameB_iff.1 hq
                simp only [Int.toNat_natCast, show (0 : Int).toNat = 0 from rfl, List.drop_zero] at q1 q2
                have hlen : ((wWrite l xa).1.take (wWrite l xs).1.length).length = (wWrite l xs).1.length := by simp; omega
                have hc : takeN (wWrite l xa).1 0 (num l xs.toNat 0).toNat = codL l xs.toNat := by
                  have hp := codL_pow (badL_no.1 hok.1).2.2 (j := xs.toNat) (by have := hok.2.1; have := hok.2.2.1; omega) (by have := hok.2.2.2; omega) hb.2
                  have h6 : takeN (wWrite l xs).1 0 (num l xs.toNat 0).toNat = codL l xs.toNat := by
                    rw [e]
                    have := bTake_zero (w := (num l xs.toNat 0).toNat) (k := (num l xs.toNat 0).toNat) hp.1 hp.2 (by omega) (Nat.le_refl _)
                    rw [this]; simp
                  rw [← h6]
                  refine takeN_congr fun j hj => ?_
                  have := q2 j (by omega)
                  rw [bt_take _ (by omega)] at this
                  exact this
                have r1 := read_at (b := (wWrite l xa).1) (a := 0) hok (by omega) (by omega) hc
                have r2 := read_written (xs := []) (zs := []) hok2
                simp only [List.nil_append, List.append_nil, List.length_nil, Int.natCast_zero] at r2
                rw [r1] at r2
                exact hne (congrArg Prod.fst r2)
            rw [hs]
            simp [orB]
theorem full_true (l : List (List Value)) (b0 b1 b2 b3 b4 b5 b6 b7 b8 b9 b10 b11 b12 b13 b14 : Bool) : T7.F_CanonFull l b0 b1 b2 b3 b4 b5 b6 b7 b8 b9 b10 b11 b12 b13 b14 = true := by
  unfold T7.F_CanonFull
  cases h : orB (!((wCodes l).2)) (decide ((300 : Int) < (l.length : Int))) with
  | true =>
    rw [cond_true]
    cases hb : badL l with
    | true => rw [wCodes_no hb]; rfl
    | false => rw [wCodes_yes hb]; rfl
  | false =>
    rw [cond_false]
    have hb : badL l = false := by
      have q := wCodes_ok l
      cases hb : badL l with
      | false => rfl
      | true => rw [q, hb] at h; simp [orB] at h
    by_cases hk : kraftL l = 32768
    · rw [decide_eq_true hk, cond_true]
      generalize hrow : (((((((((((((((([] : List (List Value)) ++ ([[Value.bool b0]])) ++ ([[Value.bool b1]])) ++ ([[Value.bool b2]])) ++ ([[Value.bool b3]])) ++ ([[Value.bool b4]])) ++ ([[Value.bool b5]])) ++ ([[Value.bool b6]])) ++ ([[Value.bool b7]])) ++ ([[Value.bool b8]])) ++ ([[Value.bool b9]])) ++ ([[Value.bool b10]])) ++ ([[Value.bool b11]])) ++ ([[Value.bool b12]])) ++ ([[Value.bool b13]])) ++ ([[Value.bool b14]])) = row
      have hl : row.length = 15 := by subst hrow; rfl
      obtain ⟨k1, k2, k3⟩ := full_read (b := row) (a := 0) hb hk (by omega) (by omega)
      rw [k1]
      simp [andB]
      omega
    · rw [decide_eq_false hk, cond_false]
      rw [ones_read hb hk fun n h0 hn => ?_]
      · rfl
      · have hn : n ≤ 15 := by
          have : (0 : Int) + n ≤ ((15 : Nat) : Int) := hn
          omega
        have hall : ∀ n : Nat, n ≤ 15 → takeN ((((((((((((((((([] : List (List Value)) ++ ([[Value.bool true]])) ++ ([[Value.bool true]])) ++ ([[Value.bool true]])) ++ ([[Value.bool true]])) ++ ([[Value.bool true]])) ++ ([[Value.bool true]])) ++ ([[Value.bool true]])) ++ ([[Value.bool true]])) ++ ([[Value.bool true]])) ++ ([[Value.bool true]])) ++ ([[Value.bool true]])) ++ ([[Value.bool true]])) ++ ([[Value.bool true]])) ++ ([[Value.bool true]])) ++ ([[Value.bool true]]))) 0 n = 2 ^ n - 1 := by
          intro n hn
          match n, hn with
          | 0, _ => rfl
          | 1, _ => rfl
          | 2, _ => rfl
          | 3, _ => rfl
          | 4, _ => rfl
          | 5, _ => rfl
          | 6, _ => rfl
          | 7, _ => rfl
          | 8, _ => rfl
          | 9, _ => rfl
          | 10, _ => rfl
          | 11, _ => rfl
          | 12, _ => rfl
          | 13, _ => rfl
          | 14, _ => rfl
          | 15, _ => rfl
          | n + 16, hn => omega
        exact hall n hn
theorem rises_true (l : List (List Value)) (a b : Int) : T7.F_CanonRises l a b = true := by
  unfold T7.F_CanonRises
  cases hb : badL l with
  | true => rw [wCodes_no hb]; simp [orB]
  | false =>
    have hbn := badL_no.1 hb
    have hcl : (wCodes l).1.length = l.length := by rw [wCodes_yes hb]; exact outN_len _ _ _
    have h2 : (wCodes l).2 = true := by rw [wCodes_yes hb]
    rw [hcl, h2]
    cases h : orB (orB (orB (orB (orB (!true) (decide (¬ (l.length : Int) = (l.length : Int)))) (decide (a < (0 : Int)))) (decide (b < (0 : Int)))) (decide ((l.length : Int) ≤ a))) (decide ((l.length : Int) ≤ b)) with
    | true => simp [orB]
    | false =>
      rw [cond_false]
      simp [orB] at h
      have ha := hbn.2.1 a.toNat (by omega)
      have hb' := hbn.2.1 b.toNat (by omega)
      have na : vI (cellAt l a.toNat 0) = num l a.toNat 0 := rfl
      have nb : vI (cellAt l b.toNat 0) = num l b.toNat 0 := rfl
      rw [wCodes_yes hb, na, nb]
      obtain ⟨a0, a1⟩ := codes_at (l := l) (j := a.toNat) (by omega) ha
      obtain ⟨b0, b1⟩ := codes_at (l := l) (j := b.toNat) (by omega) hb'
      cases h3 : orB (orB (decide (num l a.toNat 0 = (0 : Int))) (decide (num l b.toNat 0 = (0 : Int)))) (decide (a = b)) with
      | true =>
        rw [cond_true]
        show orB (decide (¬ num l a.toNat 0 = 0)) (decide (eqLV [.val (.int .i64 (vI (cellAt (codesL l) a.toNat 0))), .val (.int .i64 (vI (cellAt (codesL l) a.toNat 1)))] [.val (.int .i64 (0 : Int)), .val (.int .i64 (0 : Int))] = true)) = true
        by_cases hz : num l a.toNat 0 = 0
        · rw [a0, a1, if_pos hz, hz]; rfl
        · simp [orB, hz]
      | false =>
        rw [cond_false]
        simp [orB] at h3
        have pa := codL_pow hbn.2.2 (j := a.toNat) (by omega) (by omega) ha.2
        have pb := codL_pow hbn.2.2 (j := b.toNat) (by omega) (by omega) hb'.2
        rw [a0, a1, b1, if_neg h3.1.1, if_neg h3.1.2]
        have h4 : orB (orB (decide (¬ num l a.toNat 0 = num l a.toNat 0)) (decide (codL l a.toNat < (0 : Int)))) (decide ((2 : Int) ^ (num l a.toNat 0).toNat ≤ codL l a.toNat)) = false := by
          rw [decide_eq_false (show ¬ codL l a.toNat < 0 by omega), decide_eq_false (show ¬ (2 : Int) ^ (num l a.toNat 0).toNat ≤ codL l a.toNat by omega)]; simp [orB]
        rw [h4, cond_false]
        by_cases he : num l a.toNat 0 = num l b.toNat 0
        · rw [decide_eq_true he, cond_true]
          have := rises_eq he
          have h5 : (codL l a.toNat < codL l b.toNat) ↔ a < b := by rw [this]; omega
          simp only [decide_eq_true_eq]
          exact decide_eq_decide.2 h5
        · rw [decide_eq_false he, cond_false]
          by_cases hlt : num l b.toNat 0 < num l a.toNat 0
          · simp [orB, hlt]
          · have := rises_lt (l := l) (a := a.toNat) (b := b.toNat) (by omega) (by omega) (by omega) (by omega)
            rw [decide_eq_true this]; simp [orB]
end Go.Proofs.Ytpjiobflmcmlmaa
