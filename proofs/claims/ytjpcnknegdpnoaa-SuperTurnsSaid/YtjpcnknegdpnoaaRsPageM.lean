/- What is laid is opened, and nothing else; plain, no program. -/
import Derived.Test.YtjpcnknegdpnoaaRsPage
set_option linter.unusedVariables false
set_option linter.unusedSimpArgs false
namespace Go.Proofs.Ytjpcnknegdpnoaa.RS
open Go Go.RowKit
def Laid (l : List (List Value)) (s : ByteArray) : Prop := (wLay s).length ≤ l.length ∧ ∀ j, j < (wLay s).length → str (wLay s) j = str l j
theorem fstT_iff {l : List (List Value)} {s : ByteArray} : fstT l s = false ↔ Laid l s := by
  unfold fstT Laid
  by_cases h : (l.length : Int) < ((wLay s).length : Int)
  · rw [decide_eq_true h]; simp [orB]; omega
  · rw [decide_eq_false h]
    have hk : (l.take (wLay s).length).length = (wLay s).length := by rw [List.length_take]; omega
    simp only [orB, cond_false, Bool.false_or, List.drop_zero, Bool.not_eq_false', sameT_iff]
    constructor
    · rintro ⟨_, h2⟩
      exact ⟨by omega, fun j hj => by rw [h2 j hj, str_take l _ j hj]⟩
    · rintro ⟨_, h2⟩
      exact ⟨by omega, fun j hj => by rw [h2 j hj, str_take l _ j hj]⟩
theorem joinN_congr {l m : List (List Value)} : ∀ k, (∀ j, j < k → str l j = str m j) → joinN l k = joinN m k
  | 0, _ => rfl
  | k + 1, h => by rw [joinN, joinN, joinN_congr k fun j hj => h j (by omega), h k (by omega)]
theorem joinN_split (l : List (List Value)) : ∀ (d k : Nat), ∃ r, joinN l (k + d) = joinN l k ++ r
  | 0, k => ⟨ByteArray.empty, by simp⟩
  | d + 1, k => by
    obtain ⟨r, h⟩ := joinN_split l d k
    exact ⟨r ++ str l (k + d), by rw [← Nat.add_assoc, joinN, h, ByteArray.append_assoc]⟩
theorem joinN_lay (s : ByteArray) : ∀ k, k ≤ (wLay s).length → joinN (wLay s) k = (wBody s).extract 0 (32 * k)
  | 0, _ => by rw [joinN, Nat.mul_zero]; apply ByteArray.ext; simp [ByteArray.data_extract]
  | k + 1, h => by
    rw [joinN, joinN_lay s k (by omega), wLay_str s (by omega)]
    have hl := wLay_len s
    rw [show 32 * (k + 1) = 32 * k + 32 by omega, ← extract_split (wBody s) (by omega) (by omega) (by omega)]
theorem join_lay (s : ByteArray) : joinN (wLay s) (wLay s).length = wBody s := by
  rw [joinN_lay s _ (Nat.le_refl _), wLay_len]
  have h := (wBody_len s).1
  rw [show 32 * ((wBody s).size / 32) = (wBody s).size by omega, ext_all]
theorem laid_join {l : List (List Value)} {s : ByteArray} (h : Laid l s) : joinN l (wLay s).length = wBody s := by
  rw [← joinN_congr _ h.2, join_lay]
theorem wBody_text (s : ByteArray) : ∃ r, wBody s = wText s ++ r := by
  refine ⟨le4 (cSum (wText s)) ++ rep1 ((32 - (cSeal (wText s)).size % 32) % 32), ?_⟩
  unfold wBody padT
  conv => lhs; arg 1; rw [cSeal]
  rw [ByteArray.append_assoc]
theorem laid_size {l : List (List Value)} {s : ByteArray} (h : Laid l s) : s.size + 4 ≤ 32 * l.length ∧ s.size + 4 ≤ 32 * (wLay s).length := by
  have h1 := h.1
  have h2 := wBody_len s
  rw [wLay_len] at h1 ⊢
  omega
theorem told_text {t r : ByteArray} (h : (t.size : Int) < 1099511627776) : wTakeText (wText t ++ r) 0 = (t, ((wText t).size : Int), true) := by
  have q := wTakeText_told (A := ByteArray.empty) (C := r) h
  rw [empty_app] at q
  simpa using q
theorem told_num {n : Int} {r : ByteArray} (h0 : 0 ≤ n) (h1 : n < 1099511627776) : wTake (wNum n ++ r) 0 = (n, ((wNum n).size : Int), true) := by
  have q := told_at (A := ByteArray.empty) (C := r) h0 h1
  rw [empty_app] at q
  simpa using q
theorem rText_laid {l : List (List Value)} {s : ByteArray} (hl : (l.length : Int) ≤ 1000000) (h : Laid l s) : rText l = (s, ((wText s).size : Int), true) := by
  obtain ⟨r, hr⟩ := joinN_split l (l.length - (wLay s).length) (wLay s).length
  obtain ⟨r', hr'⟩ := wBody_text s
  have h1 := h.1
  have h2 := laid_size h
  unfold rText
  rw [show (wLay s).length + (l.length - (wLay s).length) = l.length by omega] at hr
  rw [hr, laid_join h, hr', ByteArray.append_assoc]
  exact told_text (by omega)
theorem wROpen_laid {l : List (List Value)} {s : ByteArray} (hl : (l.length : Int) ≤ 1000000) (h : Laid l s) : wROpen l = (s, true) := by
  have e := rText_laid hl h
  rw [wROpen_3 (by rw [e]; rfl) (by rw [e]; exact fstT_iff.2 h), e]
theorem wROpen_cases (l : List (List Value)) : wROpen l = noT ∨ ∃ s, wROpen l = (s, true) ∧ Laid l s := by
  cases h1 : !(rText l).2.2 with
  | true => exact .inl (wROpen_1 h1)
  | false =>
    cases h2 : fstT l (rText l).1 with
    | true => exact .inl (wROpen_2 h1 h2)
    | false => exact .inr ⟨_, wROpen_3 h1 h2, fstT_iff.1 h2⟩
theorem wOpen_cases (l : List (List Value)) : wOpen l = noT ∨ ∃ s, wOpen l = (s, true) ∧ Laid l s := by
  cases h1 : decide ((l.length : Int) = 0) with
  | true => exact .inl (wOpen_1 h1)
  | false =>
    cases h2 : opC2 l with
    | true => exact .inl (wOpen_2 h1 h2)
    | false =>
      cases h3 : !(opText l).2.2 with
      | true => exact .inl (wOpen_3 h1 h2 h3)
      | false =>
        cases h4 : fstT l (opText l).1 with
        | true => exact .inl (wOpen_4 h1 h2 h3 h4)
        | false => exact .inr ⟨_, wOpen_5 h1 h2 h3 h4, fstT_iff.1 h4⟩
/-- The first piece tells how long the text is. -/
theorem laid_head {l : List (List Value)} {s : ByteArray} (hl : (l.length : Int) ≤ 1000000) (h : Laid l s) : wTake (str l 0) 0 = ((s.size : Int), ((wNum (s.size : Int)).size : Int), true) := by
  have h2 := laid_size h
  have h3 := (wLay_le s).1
  have h4 := wBody_len s
  have h5 := wNum_le (s.size : Int)
  obtain ⟨r, hr⟩ := wBody_text s
  rw [← h.2 0 (by omega), wLay_str s (by omega)]
  have e : (wBody s).extract 0 (wNum (s.size : Int)).size = wNum (s.size : Int) := by
    have q := extract_mid ByteArray.empty (wNum (s.size : Int)) (s ++ r)
    rw [empty_app] at q
    rw [hr, wText, ByteArray.append_assoc]
    simpa using q
  rw [Nat.mul_zero, Nat.zero_add, extract_split (wBody s) (a := 0) (b := (wNum (s.size : Int)).size) (c := 32) (by omega) (by omega) (by omega), e]
  exact told_num (by omega) (by omega)
theorem wOpen_laid {l : List (List Value)} {s : ByteArray} (hl : (l.length : Int) ≤ 1000000) (h : Laid l s) : wOpen l = (s, true) := by
  have e := laid_head hl h
  have h1 := h.1
  have h2 := laid_size h
  have h3 := (wLay_le s).1
  have hn : wNeed (s.size : Int) ≤ ((wLay s).length : Int) := by
    by_cases hs : (s.size : Int) ≤ 1000000
    · rw [← need_lay s hs]; omega
    · rw [wNeed_1 (by simp [orB]; omega)]; omega
  have hm : opMany l = ((wLay s).length : Int) ∨ opMany l = (l.length : Int) := by
    unfold opMany
    rw [e]
    by_cases hs : (s.size : Int) ≤ 1000000
    · left; rw [decide_eq_true hs, cond_true, need_lay s hs]
    · right; rw [decide_eq_false hs, cond_false]
  have ht : opText l = (s, ((wText s).size : Int), true) := by
    obtain ⟨r', hr'⟩ := wBody_text s
    have hk : ∃ d, joinN (opHead l) (opHead l).length = wBody s ++ d := by
      have hlen : (opHead l).length = (wLay s).length + ((opHead l).length - (wLay s).length) := by
        unfold opHead; rw [List.drop_zero, List.length_take]; omega
      obtain ⟨d, hd⟩ := joinN_split (opHead l) ((opHead l).length - (wLay s).length) (wLay s).length
      refine ⟨d, ?_⟩
      rw [← hlen] at hd
      rw [hd, joinN_congr (m := l) _ (fun j hj => by unfold opHead; rw [List.drop_zero, str_take l _ j (by omega)]), laid_join h]
    obtain ⟨d, hd⟩ := hk
    unfold opText
    rw [hd, hr', ByteArray.append_assoc]
    exact told_text (by omega)
  rw [wOpen_5 (decide_eq_false (by omega)) (by
    unfold opC2
    rw [e]
    have a1 : decide ((l.length : Int) < wNeed (s.size : Int)) = false := decide_eq_false (by omega)
    have a2 : decide (32 * (l.length : Int) < (s.size : Int)) = false := decide_eq_false (by omega)
    simp only [a1, a2]
    cases decide ((1000000 : Int) < (s.size : Int)) <;> rfl) (by rw [ht]; rfl) (by rw [ht]; exact fstT_iff.2 h), ht]
theorem wOpen_yes {l : List (List Value)} (h : (wOpen l).2 = true) : Laid l (wOpen l).1 := by
  rcases wOpen_cases l with e | ⟨s, e, hl⟩
  · rw [e] at h; cases h
  · rw [e]; exact hl
theorem wOpen_no {l : List (List Value)} (h : (wOpen l).2 = false) : wOpen l = noT := by
  rcases wOpen_cases l with e | ⟨s, e, hl⟩
  · exact e
  · rw [e] at h; cases h
theorem open_same {l : List (List Value)} (hl : (l.length : Int) ≤ 1000000) : wOpen l = wROpen l := by
  rcases wOpen_cases l with e | ⟨s, e, h⟩
  · rcases wROpen_cases l with e' | ⟨s, e', h⟩
    · rw [e, e']
    · rw [wOpen_laid hl h, e']
  · rw [e, wROpen_laid hl h]
theorem laid_self (s : ByteArray) (m : List (List Value)) : Laid (wLay s ++ m) s := ⟨by rw [List.length_append]; omega, fun j hj => by rw [str_app, if_pos hj]⟩
theorem laid_one {l : List (List Value)} {s t : ByteArray} (hl : (l.length : Int) ≤ 1000000) (h1 : Laid l s) (h2 : Laid l t) : s = t := by
  have := wOpen_laid hl h1
  rw [wOpen_laid hl h2] at this
  exact (congrArg Prod.fst this).symm
/-- A piece less opens to nothing. -/
theorem less_no {s : ByteArray} (hs : (s.size : Int) ≤ 2000) : (wOpen ((wLay s).take ((wLay s).length - 1))).2 = false := by
  have hle := wLay_le s
  cases h : (wOpen ((wLay s).take ((wLay s).length - 1))).2 with
  | false => rfl
  | true =>
    exfalso
    have hl := wOpen_yes h
    generalize (wOpen ((wLay s).take ((wLay s).length - 1))).1 = t at hl
    have hlen := hl.1
    rw [List.length_take] at hlen
    have h2 : Laid (wLay s ++ []) t := ⟨by simp; omega, fun j hj => by rw [hl.2 j hj, str_take _ _ j (by omega), List.append_nil]⟩
    have := laid_one (by simp; omega) h2 (laid_self s [])
    subst this
    omega
theorem sameT_refl (xs : List (List Value)) : sameT xs xs = true := sameT_iff.2 ⟨rfl, fun _ _ => rfl⟩
theorem laid_iff {l : List (List Value)} {s : ByteArray} : Laid l s ↔ ((wLay s).length ≤ l.length ∧ sameT (wLay s) (l.take (wLay s).length) = true) := by
  rw [sameT_iff]
  constructor
  · rintro ⟨h1, h2⟩
    exact ⟨h1, by rw [List.length_take]; omega, fun j hj => by rw [h2 j hj, str_take l _ j hj]⟩
  · rintro ⟨h1, _, h2⟩
    exact ⟨h1, fun j hj => by rw [h2 j hj, str_take l _ j hj]⟩
end Go.Proofs.Ytjpcnknegdpnoaa.RS
