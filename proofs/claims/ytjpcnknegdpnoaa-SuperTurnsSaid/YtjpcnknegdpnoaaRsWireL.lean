/- Numbers, texts and lists as bytes: the laws of chapter 10, plain. -/
import Derived.Test.YtjpcnknegdpnoaaRsWireM
set_option linter.unusedVariables false
set_option linter.unusedSimpArgs false
namespace Go.Proofs.Ytjpcnknegdpnoaa.RS
open Go Go.RowKit
theorem bAt_app (s t : ByteArray) (i : Nat) : bAt (s ++ t) (i : Int) = if i < s.size then bAt s (i : Int) else bAt t ((i - s.size : Nat) : Int) := by
  unfold bAt
  have hs : s.data.toList.length = s.size := by simp
  by_cases h : i < s.size
  · rw [if_pos h]
    congr 2
    simp only [ByteArray.data_append, Int.toNat_natCast, List.getD, Array.toList_append]
    rw [List.getElem?_append_left (by omega)]
  · rw [if_neg h]
    congr 2
    simp only [ByteArray.data_append, Int.toNat_natCast, List.getD, Array.toList_append]
    rw [List.getElem?_append_right (by omega), hs]
theorem byL_bstr (l : List Int) (hb : ∀ c ∈ l, 0 ≤ c ∧ c ≤ 255) (A C : ByteArray) : byL (A ++ bstr (vb l) ++ C) (A.size : Int) l.length = l := by
  apply List.ext_getElem
  · rw [byL_len]
  · intro i h1 h2
    simp only [byL, List.getElem_map, List.getElem_range]
    rw [show ((A.size : Int) + (i : Nat)) = ((A.size + i : Nat) : Int) by omega, bAt_app, if_pos (by simp only [ByteArray.size_append, bstr_len, vb_len]; omega), bAt_app, if_neg (by omega), show A.size + i - A.size = i by omega, bAt_bstr_vb l i h2 hb]
theorem told_at {A C : ByteArray} {n : Int} (h0 : 0 ≤ n) (h1 : n < 1099511627776) : wTake (A ++ wNum n ++ C) (A.size : Int) = (n, (A.size : Int) + ((wNum n).size : Nat), true) := by
  refine wTake_told h0 h1 (by omega) (by simp only [ByteArray.size_append]; omega) ?_
  rw [wNum_size h0 h1, wNum_ok h0 h1]
  exact byL_bstr _ (enc_bytes 5 n h0 (by rw [lim5]; omega)) A C
theorem extract_mid (A B C : ByteArray) : (A ++ B ++ C).extract A.size (A.size + B.size) = B := by
  have hsz : ((A ++ B ++ C).extract A.size (A.size + B.size)).size = B.size := by
    rw [ByteArray.size_extract]; simp only [ByteArray.size_append]; omega
  refine bytes_ext hsz fun c hc => ?_
  rw [hsz] at hc
  rw [bAt_extract _ (by simp only [ByteArray.size_append]; omega) (by omega), bAt_app, if_pos (by simp only [ByteArray.size_append]; omega), bAt_app, if_neg (by omega), show A.size + c - A.size = c by omega]
theorem extract_split (s : ByteArray) {a b c : Nat} (h1 : a ≤ b) (h2 : b ≤ c) (h3 : c ≤ s.size) : s.extract a c = s.extract a b ++ s.extract b c := by
  have hl : (s.extract a c).size = c - a := by rw [ByteArray.size_extract]; omega
  have hm : (s.extract a b).size = b - a := by rw [ByteArray.size_extract]; omega
  have hr : (s.extract b c).size = c - b := by rw [ByteArray.size_extract]; omega
  refine bytes_ext (by rw [hl, ByteArray.size_append, hm, hr]; omega) fun i hi => ?_
  rw [hl] at hi
  rw [bAt_extract s h3 (by omega), bAt_app]
  by_cases h : i < (s.extract a b).size
  · rw [if_pos h, bAt_extract s (by omega) (by omega)]
  · rw [if_neg h, bAt_extract s h3 (by omega)]
    congr 2; omega
theorem empty_app (s : ByteArray) : ByteArray.empty ++ s = s := by simp
/-! ### Lists -/
def catN (l : List (List Value)) : Nat → ByteArray
  | 0 => ByteArray.empty
  | k + 1 => catN l k ++ wNum (num l k 0)
theorem intsN_cat (l : List (List Value)) : ∀ k, intsN l k = wNum (l.length : Int) ++ catN l k
  | 0 => by simp [intsN, catN]
  | k + 1 => by rw [intsN, intsN_cat l k, catN, ByteArray.append_assoc]
theorem catN_congr {l m : List (List Value)} : ∀ k, (∀ j, j < k → num l j 0 = num m j 0) → catN l k = catN m k
  | 0, _ => rfl
  | k + 1, h => by rw [catN, catN, catN_congr k (fun j hj => h j (by omega)), h k (by omega)]
theorem catN_split (l : List (List Value)) (k : Nat) : ∀ L, k < L → ∃ r, catN l L = catN l k ++ wNum (num l k 0) ++ r
  | L + 1, h => by
    by_cases e : k = L
    · subst e; exact ⟨ByteArray.empty, by simp [catN]⟩
    · obtain ⟨r, hr⟩ := catN_split l k L (by omega)
      exact ⟨r ++ wNum (num l L 0), by rw [catN, hr]; simp [ByteArray.append_assoc]⟩
theorem num_app (l : List (List Value)) (x : List Value) (j o : Nat) (h : j < l.length) : num (l ++ [x]) j o = num l j o := by
  unfold num cellAt; simp [List.getD, List.getElem?_append_left h]
theorem num_last (l : List (List Value)) (n : Int) : num (l ++ [[Value.int .i64 n]]) l.length 0 = n := by
  unfold num cellAt; simp [List.getD, vI]
theorem tkI_once {s : ByteArray} {a : Int} (h0 : 0 ≤ a) (h1 : a ≤ (s.size : Int)) : ∀ k, (tkI s a k).2.2 = true → a ≤ (tkI s a k).2.1 ∧ s.extract a.toNat (tkI s a k).2.1.toNat = catN (tkI s a k).1 k ∧ ∀ j, j < k → 0 ≤ num (tkI s a k).1 j 0 ∧ num (tkI s a k).1 j 0 < 1099511627776
  | 0, _ => ⟨Int.le_refl _, by
      simp only [tkI, catN]
      rw [empty_iff, ByteArray.size_extract]; omega, fun j hj => by omega⟩
  | k + 1, h => by
    have hlen := tkI_len (s := s) (a := a) k
    have hbd := tkI_bd h0 h1 k
    simp only [tkI] at h ⊢
    cases hk : (tkI s a k).2.2 with
    | false => rw [hk] at h; cases h
    | true =>
      rw [hk] at h
      obtain ⟨i1, i2, i3⟩ := tkI_once h0 h1 k hk
      have hlen := hlen hk
      cases ht : (wTake s (tkI s a k).2.1).2.2 with
      | false => rw [ht] at h; cases h
      | true =>
        simp only [cond_true]
        obtain ⟨w1, w2, w3, w4, w5, w6⟩ := wTake_once ht
        generalize hL : (tkI s a k).1 = L at *
        generalize hp : (tkI s a k).2.1 = p at *
        refine ⟨by omega, ?_, fun j hj => ?_⟩
        · rw [extract_split s (b := p.toNat) (by omega) (by omega) (by omega), i2, w6, catN, catN_congr k (fun j hj => (num_app L _ j 0 (by omega)).symm)]
          congr 1
          rw [← hlen, num_last]
        · by_cases e : j = k
          · subst e; rw [← hlen, num_last]; exact ⟨w4, w5⟩
          · rw [num_app L _ j 0 (by omega)]; exact i3 j (by omega)
theorem wTakeInts_once {s : ByteArray} {a : Int} (h : (wTakeInts s a).2.2 = true) : 0 ≤ a ∧ a ≤ (wTakeInts s a).2.1 ∧ (wTakeInts s a).2.1 ≤ (s.size : Int) ∧ wInts (wTakeInts s a).1 = s.extract a.toNat (wTakeInts s a).2.1.toNat ∧ (wInts (wTakeInts s a).1 ≠ ByteArray.empty) := by
  cases hc : orB (!(wTake s a).2.2) (decide ((s.size : Int) - (wTake s a).2.1 < (wTake s a).1)) with
  | true => rw [wTI_c hc] at h; cases h
  | false =>
    have hbd := wTakeInts_bd s a
    rw [wTI_n hc] at h hbd ⊢
    simp only [orB, Bool.or_eq_false_iff, Bool.not_eq_false', decide_eq_false_iff_not] at hc
    obtain ⟨w1, w2, w3, w4, w5, w6⟩ := wTake_once hc.1
    have hlen := tkI_len _ h
    obtain ⟨t1, t2, t3⟩ := tkI_once (s := s) (a := (wTake s a).2.1) (by omega) w3 _ h
    have hw : wInts (tkI s (wTake s a).2.1 (wTake s a).1.toNat).1 = intsN (tkI s (wTake s a).2.1 (wTake s a).1.toNat).1 (tkI s (wTake s a).2.1 (wTake s a).1.toNat).1.length := wInts_yes fun j hj => wNum_ne.2 (t3 j (by omega))
    refine ⟨w1, by omega, hbd.2.1, ?_, ?_⟩
    · rw [hw, intsN_cat, hlen, show (((wTake s a).1.toNat : Nat) : Int) = (wTake s a).1 by omega, ← t2, ← w6, ← extract_split s (by omega) (by omega) (by omega)]
    · rw [hw, Ne, empty_iff]
      exact intsN_pos _ fun j hj => wNum_ne.2 (t3 j (by omega))
theorem wTakeInts_hk (s : ByteArray) (a : Int) (j o : Nat) : -9223372036854775808 ≤ vI (cellAt (wTakeInts s a).1 j o) ∧ vI (cellAt (wTakeInts s a).1 j o) ≤ 9223372036854775807 := by
  refine okI_hk ?_ j o
  have key : ∀ (p : Int) k, okI (tkI s p k).1 = true := by
    intro p k
    induction k with
    | zero => rfl
    | succ k ih =>
      simp only [tkI]
      cases (tkI s p k).2.2 <;> simp only [cond_true, cond_false]
      · rfl
      · have hb := wTake_bd s (tkI s p k).2.1
        cases (wTake s (tkI s p k).2.1).2.2 <;> simp only [cond_true, cond_false]
        · rfl
        · unfold okI at ih ⊢
          rw [List.all_append, ih]
          simp only [List.all_cons, List.all_nil, Bool.and_true, Bool.true_and, vI, Bool.and_eq_true]
          exact ⟨decide_eq_true (by omega), decide_eq_true (by omega)⟩
  cases hc : orB (!(wTake s a).2.2) (decide ((s.size : Int) - (wTake s a).2.1 < (wTake s a).1)) with
  | true => rw [wTI_c hc]; rfl
  | false => rw [wTI_n hc]; exact key _ _
/-- The numbers of a list, laid anew. -/
def ivs (l : List (List Value)) : Nat → List (List Value)
  | 0 => []
  | k + 1 => ivs l k ++ [[Value.int .i64 (num l k 0)]]
theorem ivs_len (l : List (List Value)) : ∀ k, (ivs l k).length = k
  | 0 => rfl
  | k + 1 => by simp [ivs, ivs_len l k]
theorem ivs_num (l : List (List Value)) : ∀ k j, j < k → num (ivs l k) j 0 = num l j 0
  | k + 1, j, h => by
    simp only [ivs]
    by_cases e : j = k
    · subst e
      have := num_last (ivs l j) (num l j 0)
      rwa [ivs_len] at this
    · rw [num_app _ _ _ _ (by rw [ivs_len]; omega)]; exact ivs_num l k j (by omega)
theorem sameI_ivs (l : List (List Value)) : sameI l (ivs l l.length) = true := sameI_iff.2 ⟨by rw [ivs_len], fun i hi => (ivs_num l _ i hi).symm⟩
theorem sameI_ivs' (l : List (List Value)) : sameI (ivs l l.length) l = true := sameI_iff.2 ⟨by rw [ivs_len], fun i hi => ivs_num l _ i (by rwa [ivs_len] at hi)⟩
theorem tkI_told {A C : ByteArray} {l : List (List Value)} {L : Nat} (hv : ∀ j, j < L → 0 ≤ num l j 0 ∧ num l j 0 < 1099511627776) : ∀ k, k ≤ L → tkI (A ++ catN l L ++ C) (A.size : Int) k = (ivs l k, (A.size : Int) + ((catN l k).size : Nat), true)
  | 0, _ => by simp [tkI, ivs, catN]
  | k + 1, hk => by
    obtain ⟨r, hr⟩ := catN_split l k L (by omega)
    have h := hv k (by omega)
    simp only [tkI]
    rw [tkI_told hv k (by omega)]
    simp only [cond_true]
    have e : A ++ catN l L ++ C = (A ++ catN l k) ++ wNum (num l k 0) ++ (r ++ C) := by rw [hr]; simp [ByteArray.append_assoc]
    have hsz : ((A.size : Int) + ((catN l k).size : Nat)) = ((A ++ catN l k).size : Int) := by rw [ByteArray.size_append]; omega
    rw [hsz, e, told_at h.1 h.2]
    simp only [cond_true, ivs, catN, ByteArray.size_append]
    refine Prod.ext rfl (Prod.ext ?_ rfl)
    simp only []; omega
theorem num_le_size (l : List (List Value)) : ∀ k, (∀ j, j < k → 0 ≤ num l j 0 ∧ num l j 0 < 1099511627776) → k ≤ (catN l k).size
  | 0, _ => Nat.zero_le _
  | k + 1, h => by
    have := num_le_size l k (fun j hj => h j (by omega))
    have hk := h k (by omega)
    have hs := wNum_size hk.1 hk.2
    have := (enc_len 5 (num l k 0)).1
    simp only [catN, ByteArray.size_append]; omega
theorem wInts_cases (l : List (List Value)) (hlen : (l.length : Int) < 1099511627776) : wInts l = ByteArray.empty ∨ ((∀ j, j < l.length → 0 ≤ num l j 0 ∧ num l j 0 < 1099511627776) ∧ wInts l = wNum (l.length : Int) ++ catN l l.length) := by
  by_cases h : ∀ j, j < l.length → wNum (num l j 0) ≠ ByteArray.empty
  · right
    refine ⟨fun j hj => wNum_ne.1 (h j hj), ?_⟩
    rw [wInts_yes h, intsN_cat]
  · left
    unfold wInts; rw [decide_eq_false h]; rfl
/-- A list that is told is taken, whatever stands ahead and behind. -/
theorem wTakeInts_told {A C : ByteArray} {l : List (List Value)} (hlen : (l.length : Int) < 1099511627776) (h : wInts l ≠ ByteArray.empty) : wTakeInts (A ++ wInts l ++ C) (A.size : Int) = (ivs l l.length, (A.size : Int) + ((wInts l).size : Nat), true) := by
  rcases wInts_cases l hlen with e | ⟨hv, e⟩
  · exact absurd e h
  · have e2 : A ++ wInts l ++ C = A ++ wNum (l.length : Int) ++ (catN l l.length ++ C) := by rw [e]; simp [ByteArray.append_assoc]
    have hT := told_at (A := A) (C := catN l l.length ++ C) (n := (l.length : Int)) (by omega) hlen
    have e3 : A ++ wNum (l.length : Int) ++ (catN l l.length ++ C) = (A ++ wNum (l.length : Int)) ++ catN l l.length ++ C := by simp [ByteArray.append_assoc]
    have hsz := num_le_size l _ hv
    rw [e2]
    have hc : orB (!(wTake (A ++ wNum (l.length : Int) ++ (catN l l.length ++ C)) (A.size : Int)).2.2) (decide (((A ++ wNum (l.length : Int) ++ (catN l l.length ++ C)).size : Int) - (wTake (A ++ wNum (l.length : Int) ++ (catN l l.length ++ C)) (A.size : Int)).2.1 < (wTake (A ++ wNum (l.length : Int) ++ (catN l l.length ++ C)) (A.size : Int)).1)) = false := by
      rw [hT]
      simp only [orB, Bool.not_true, Bool.false_or, decide_eq_false_iff_not, ByteArray.size_append]
      omega
    rw [wTI_n hc, hT, e3]
    simp only [Int.toNat_natCast]
    have hA : ((A.size : Int) + ((wNum (l.length : Int)).size : Nat)) = ((A ++ wNum (l.length : Int)).size : Int) := by rw [ByteArray.size_append]; omega
    rw [hA, tkI_told hv l.length (Nat.le_refl _), e]
    refine Prod.ext rfl (Prod.ext ?_ rfl)
    simp only [ByteArray.size_append]; omega
theorem wTakeText_told {A C c : ByteArray} (h : (c.size : Int) < 1099511627776) : wTakeText (A ++ wText c ++ C) (A.size : Int) = (c, (A.size : Int) + ((wText c).size : Nat), true) := by
  have e : A ++ wText c ++ C = A ++ wNum (c.size : Int) ++ (c ++ C) := by unfold wText; simp [ByteArray.append_assoc]
  have hT := told_at (A := A) (C := c ++ C) (n := (c.size : Int)) (by omega) h
  unfold wTakeText
  rw [e, hT]
  have hc : orB (!true) (decide (((A ++ wNum (c.size : Int) ++ (c ++ C)).size : Int) - ((A.size : Int) + ((wNum (c.size : Int)).size : Nat)) < (c.size : Int))) = false := by
    simp only [orB, Bool.not_true, Bool.false_or, decide_eq_false_iff_not, ByteArray.size_append]; omega
  simp only [hc, cond_false]
  refine Prod.ext ?_ (Prod.ext ?_ rfl)
  · simp only []
    have := extract_mid (A ++ wNum (c.size : Int)) c C
    rw [show ((A.size : Int) + ((wNum (c.size : Int)).size : Nat)).toNat = (A ++ wNum (c.size : Int)).size by rw [ByteArray.size_append]; omega, show ((A.size : Int) + ((wNum (c.size : Int)).size : Nat) + (c.size : Int)).toNat = (A ++ wNum (c.size : Int)).size + c.size by rw [ByteArray.size_append]; omega]
    rw [← ByteArray.append_assoc]; exact this
  · simp only [(wText_le c).2]; omega
theorem enc_mono : ∀ f n p, 0 ≤ n → n ≤ p → (enc f n).length ≤ (enc f p).length
  | 0, n, p, _, _ => by simp [enc]
  | f + 1, n, p, h0, h1 => by
    simp only [enc]
    by_cases h : 128 ≤ n
    · rw [show decide (128 ≤ n) = true by simpa using h, show decide (128 ≤ p) = true by simp; omega]
      simp only [cond_true, List.length_cons]
      have := enc_mono f (n / 128) (p / 128) (by omega) (by omega)
      omega
    · rw [show decide (128 ≤ n) = false by simp; omega]
      cases decide (128 ≤ p) <;> simp
/-- No number's bytes begin with another one's. -/
theorem wNum_prefix {n p : Int} (hn : wNum n ≠ ByteArray.empty) (hp : wNum p ≠ ByteArray.empty) (hl : (wNum n).size ≤ (wNum p).size) : (wNum p).extract 0 (wNum n).size = wNum n ↔ n = p := by
  constructor
  · intro h
    obtain ⟨n0, n1⟩ := wNum_ne.1 hn
    obtain ⟨p0, p1⟩ := wNum_ne.1 hp
    have h1 := told_at (A := ByteArray.empty) (C := ByteArray.empty) p0 p1
    have e : ByteArray.empty ++ wNum p ++ ByteArray.empty = wNum p := by simp
    rw [e] at h1
    have hx := extract_bytes (wNum p) (a := 0) (k := (wNum n).size) (by omega) (by omega)
    have hb : byL (wNum p) 0 (wNum n).size = enc 5 n := by
      apply bstr_inj (byL_bytes _ _ _) (enc_bytes 5 n n0 (by rw [lim5]; omega))
      rw [← hx, ← wNum_ok n0 n1]
      simpa using h
    have h2 := wTake_told n0 n1 (Int.le_refl 0) (by omega) hb
    have h1' : wTake (wNum p) 0 = _ := h1
    rw [h2] at h1'
    exact (congrArg Prod.fst h1')
  · rintro rfl
    simp
theorem wInts_congr {l m : List (List Value)} (h : sameI l m = true) : wInts l = wInts m := by
  obtain ⟨h1, h2⟩ := sameI_iff.1 h
  unfold wInts
  have : (∀ i, i < l.length → wNum (num l i 0) ≠ ByteArray.empty) ↔ (∀ i, i < m.length → wNum (num m i 0) ≠ ByteArray.empty) := by
    constructor
    · intro hh i hi; rw [← h2 i (by omega)]; exact hh i (by omega)
    · intro hh i hi; rw [h2 i hi]; exact hh i (by omega)
  rw [show decide (∀ i, i < l.length → wNum (num l i 0) ≠ ByteArray.empty) = decide (∀ i, i < m.length → wNum (num m i 0) ≠ ByteArray.empty) from decide_eq_decide.2 this]
  rw [intsN_cat, intsN_cat, ← h1, catN_congr l.length h2]
theorem wInts_inj {l m : List (List Value)} (hl : (l.length : Int) < 1099511627776) (hm : (m.length : Int) < 1099511627776) (h : wInts l ≠ ByteArray.empty) (e : wInts l = wInts m) : sameI l m = true := by
  have h1 := wTakeInts_told (A := ByteArray.empty) (C := ByteArray.empty) hl h
  have h2 := wTakeInts_told (A := ByteArray.empty) (C := ByteArray.empty) hm (e ▸ h)
  rw [e, h2] at h1
  have hi := congrArg Prod.fst h1
  simp only [] at hi
  have hlen : m.length = l.length := by have := congrArg List.length hi; rwa [ivs_len, ivs_len] at this
  refine sameI_iff.2 ⟨hlen.symm, fun i hi' => ?_⟩
  rw [← ivs_num l l.length i hi', ← hi, ivs_num m m.length i (by omega)]
end Go.Proofs.Ytjpcnknegdpnoaa.RS
