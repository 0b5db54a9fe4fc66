/- RS: chapter 4: what was split expands to what it was; runs of one byte. -/
import Derived.Test.YtgicfkgiecgjoaaRsMatchM
set_option linter.unusedVariables false
set_option linter.unusedSimpArgs false
namespace Go.Proofs.Ytgicfkgiecgjoaa.RS
open Go Go.RowKit
theorem bstr_of (s : ByteArray) : bstr (strVals s) = s := by
  apply ByteArray.ext
  have h : ∀ l : List UInt8, l.map (fun b => UInt8.ofNat (vI ([Value.int .u8 b.toNat].getD 0 undef)).toNat) = l := by
    intro l
    induction l with
    | nil => rfl
    | cons a r ih => rw [List.map_cons, ih]; simp [vI]
  simp only [bstr, strOfNums, strVals, List.map_map]
  have := h s.data.toList
  simp only [Function.comp_def] at *
  rw [this]
theorem cell_take {xs : List (List Value)} {k j o : Nat} (h : j < k) : cellAt (xs.take k) j o = cellAt xs j o := by simp [cellAt, List.getD, List.getElem?_take, h]
theorem take_next (s : ByteArray) {p : Int} (h0 : 0 ≤ p) (h1 : p < (s.size : Int)) : (strVals s).take (p + 1).toNat = (strVals s).take p.toNat ++ [[Value.int .u8 (bAt s p)]] := by
  have hl : p.toNat < (strVals s).length := by rw [strVals_len]; omega
  have hl2 : p.toNat < s.data.toList.length := by simpa [strVals] using hl
  rw [show (p + 1).toNat = p.toNat + 1 by omega, ← List.take_append_getElem hl]
  congr 2
  simp only [strVals, List.getElem_map, bAt, List.getD, List.getElem?_eq_getElem hl2, Option.getD_some]
theorem take_len (s : ByteArray) {p : Int} (h0 : 0 ≤ p) (h1 : p ≤ (s.size : Int)) : (((strVals s).take p.toNat).length : Int) = p := by rw [List.length_take, strVals_len]; omega
theorem cp_pfx {s : ByteArray} {d : Int} : ∀ (k : Nat) {p : Int}, 1 ≤ d → d ≤ p → p + k ≤ (s.size : Int) → (∀ j : Nat, j < k → bAt s (p + j) = bAt s (p + j - d)) → cpN d k ((strVals s).take p.toNat) = (strVals s).take (p + k).toNat
  | 0, p, h1, h2, h3, h4 => by simp [cpN]
  | k + 1, p, h1, h2, h3, h4 => by
    have hl := take_len s (p := p) (by omega) (by omega)
    rw [cpN, cell_take (by omega), sv_at _ (by omega), show ((((strVals s).take p.toNat).length : Int) - d).toNat = (p - d).toNat by omega, show (((p - d).toNat : Nat) : Int) = p - d by omega]
    have h5 := h4 0 (by omega)
    simp only [Int.natCast_zero, Int.add_zero] at h5
    rw [← h5, ← take_next s (by omega) (by omega), cp_pfx k h1 (by omega) (by omega) (fun j hj => by have := h4 (j + 1) (by omega); rw [show p + ((j + 1 : Nat) : Int) = p + 1 + j by omega] at this; exact this)]
    congr 1; omega
theorem tok_at (pre rest : List (List Value)) (b d n : Int) : num (pre ++ tokR b d n :: rest) pre.length 0 = b ∧ num (pre ++ tokR b d n :: rest) pre.length 1 = d ∧ num (pre ++ tokR b d n :: rest) pre.length 2 = n := by
  simp [num, cellAt, tokR, List.getD, vI]
theorem xp_one {pre rest ys : List (List Value)} {m b d n : Int} (hx : xpN (pre ++ tokR b d n :: rest) m pre.length = some ys) : xpN (pre ++ tokR b d n :: rest) m (pre.length + 1) = bif okT b d n m ys.length then some (cpN d n.toNat (litT b n ys)) else none := by
  obtain ⟨h1, h2, h3⟩ := tok_at pre rest b d n
  rw [xpN, hx]; simp only [h1, h2, h3]
theorem xp_dead {l : List (List Value)} {m : Int} {k : Nat} (h : xpN l m k = none) (hk : k ≤ l.length) : xpN l m l.length = none := by
  have := xpN_none h (l.length - k)
  rwa [show k + (l.length - k) = l.length by omega] at this
theorem xp_go (s : ByteArray) (l : List (List Value)) (m : Int) : ∀ (f : Nat) (p : Int) (pre : List (List Value)), 0 ≤ p → p ≤ (s.size : Int) → (s.size : Int) - p ≤ f → l = pre ++ splF s ((s.size : Int) - p).toNat p → xpN l m pre.length = some ((strVals s).take p.toNat) →
    ((s.size : Int) ≤ m → xpN l m l.length = some (strVals s)) ∧ (p ≤ m → m < (s.size : Int) → xpN l m l.length = none)
  | 0, p, pre, h0, h1, h2, hl, hx => by
    have e : p = (s.size : Int) := by omega
    rw [spl_end (by omega), List.append_nil] at hl
    subst hl
    refine ⟨fun _ => ?_, fun _ _ => by omega⟩
    rw [hx, List.take_of_length_le (by rw [strVals_len]; omega)]
  | f + 1, p, pre, h0, h1, h2, hl, hx => by
    by_cases hp : p < (s.size : Int)
    case neg =>
      rw [spl_end hp, List.append_nil] at hl
      subst hl
      refine ⟨fun _ => ?_, fun _ _ => by omega⟩
      rw [hx, List.take_of_length_le (by rw [strVals_len]; omega)]
    have hlen := take_len s h0 h1
    by_cases hz : (wLong s p).1 = 0
    · rw [spl_lit hp hz] at hl
      have hb := bAt_in s p
      have hx1 := xp_one (hl ▸ hx)
      rw [← hl] at hx1
      by_cases hm : p + 1 ≤ m
      · have hok : okT (bAt s p) 0 0 m ((strVals s).take p.toNat).length = true := okT_iff.2 ⟨wMay_iff.2 (.inl ⟨rfl, rfl, hb⟩), by omega, by omega⟩
        rw [hok, cond_true] at hx1
        have hx2 : xpN l m (pre ++ [tokR (bAt s p) 0 0]).length = some ((strVals s).take (p + 1).toNat) := by
          rw [List.length_append, take_next s h0 hp]; exact hx1
        have := xp_go s l m f (p + 1) (pre ++ [tokR (bAt s p) 0 0]) (by omega) (by omega) (by omega) (by rw [List.append_assoc]; exact hl) hx2
        exact ⟨this.1, fun _ h4 => this.2 hm h4⟩
      · have hok : okT (bAt s p) 0 0 m ((strVals s).take p.toNat).length = false := by
          cases e : okT (bAt s p) 0 0 m ((strVals s).take p.toNat).length with
          | false => rfl
          | true => have := okT_iff.1 e; omega
        rw [hok, cond_false] at hx1
        exact ⟨fun h4 => by omega, fun _ _ => xp_dead hx1 (by rw [hl, List.length_append, List.length_cons]; omega)⟩
    · rw [spl_copy hp hz] at hl
      have hw := (wLong_bd s p).resolve_left (fun h => hz (by rw [h]))
      have hx1 := xp_one (hl ▸ hx)
      rw [← hl] at hx1
      generalize hn : (wLong s p).1 = n at *
      generalize hd : (wLong s p).2 = d at *
      obtain ⟨w1, w2, w3, w4, w5, w6⟩ := hw
      have hsz : p + n ≤ (s.size : Int) := by rw [w6]; exact wAl_size (by omega)
      by_cases hm : p + n ≤ m
      · have hok : okT 0 d n m ((strVals s).take p.toNat).length = true := okT_iff.2 ⟨wMay_iff.2 (.inr ⟨by omega, rfl, w3, w4, w1, w2⟩), by omega, by omega⟩
        rw [hok, cond_true] at hx1
        have hcp : cpN d n.toNat (litT 0 n ((strVals s).take p.toNat)) = (strVals s).take (p + n).toNat := by
          rw [litT, decide_eq_false (by omega), cond_false, cp_pfx n.toNat w3 w5 (by omega) (fun j hj => (cnd_iff.1 (wAl_cnd (by omega))).2)]
          congr 1; omega
        rw [hcp] at hx1
        have hx2 : xpN l m (pre ++ [tokR 0 d n]).length = some ((strVals s).take (p + n).toNat) := by rw [List.length_append]; exact hx1
        have := xp_go s l m f (p + n) (pre ++ [tokR 0 d n]) (by omega) hsz (by omega) (by rw [List.append_assoc]; exact hl) hx2
        exact ⟨this.1, fun _ h4 => this.2 hm h4⟩
      · have hok : okT 0 d n m ((strVals s).take p.toNat).length = false := by
          cases e : okT 0 d n m ((strVals s).take p.toNat).length with
          | false => rfl
          | true => have := okT_iff.1 e; omega
        rw [hok, cond_false] at hx1
        exact ⟨fun h4 => by omega, fun _ _ => xp_dead hx1 (by rw [hl, List.length_append, List.length_cons]; omega)⟩
theorem xp_split (s : ByteArray) (m : Int) : ((s.size : Int) ≤ m → xpN (wSplit s) m (wSplit s).length = some (strVals s)) ∧ (0 ≤ m → m < (s.size : Int) → xpN (wSplit s) m (wSplit s).length = none) :=
  xp_go s (wSplit s) m s.size 0 [] (by omega) (by omega) (by omega) (by simp [wSplit]) (by simp [xpN])
/-- What was split expands to what it was. -/
theorem back_all (s : ByteArray) : wExpand (wSplit s) (s.size : Int) = (s, true) := by
  have := (xp_split s (s.size : Int)).1 (by omega)
  unfold wExpand; rw [this]; show (bstr (strVals s), true) = _; rw [bstr_of]
theorem back_less (s : ByteArray) (h : 0 < s.size) : (wExpand (wSplit s) ((s.size : Int) - 1)).2 = false := by
  have := (xp_split s ((s.size : Int) - 1)).2 (by omega) (by omega)
  unfold wExpand; rw [this]
theorem spl_may (s : ByteArray) : ∀ (f : Nat) (p : Int), 0 ≤ p → ∀ t ∈ splF s f p, ∃ b d n, t = tokR b d n ∧ wMay b d n = true
  | 0, p, h0, t, ht => by cases ht
  | f + 1, p, h0, t, ht => by
    have hb := wLong_nn s p
    simp only [splF] at ht
    cases hp : decide (p < (s.size : Int)) with
    | false => rw [hp] at ht; cases ht
    | true =>
      rw [hp, cond_true] at ht
      cases hz : decide ((wLong s p).1 = 0) with
      | true =>
        rw [hz, cond_true] at ht
        rcases List.mem_cons.1 ht with rfl | ht
        · exact ⟨_, _, _, rfl, wMay_iff.2 (.inl ⟨rfl, rfl, bAt_in s p⟩)⟩
        · exact spl_may s f (p + 1) (by omega) t ht
      | false =>
        rw [hz, cond_false] at ht
        have hz := of_decide_eq_false hz
        have hw := (wLong_bd s p).resolve_left (fun h => hz (by rw [h]))
        rcases List.mem_cons.1 ht with rfl | ht
        · exact ⟨_, _, _, rfl, wMay_iff.2 (.inr ⟨by omega, rfl, by omega, by omega, by omega, by omega⟩)⟩
        · exact spl_may s f _ (by omega) t ht
theorem split_at (s : ByteArray) {j : Nat} (hj : j < (wSplit s).length) : ∃ b d n, (wSplit s)[j] = tokR b d n ∧ wMay b d n = true := spl_may s _ 0 (by omega) _ (List.getElem_mem hj)
theorem split_may (s : ByteArray) {j : Nat} (hj : j < (wSplit s).length) : wMay (vI (cellAt (wSplit s) j 0)) (vI (cellAt (wSplit s) j 1)) (vI (cellAt (wSplit s) j 2)) = true := by
  obtain ⟨b, d, n, h1, h2⟩ := split_at s hj
  have : ∀ o, cellAt (wSplit s) j o = (tokR b d n).getD o undef := fun o => by simp only [cellAt, List.getD, List.getElem?_eq_getElem hj, h1, Option.getD_some]
  rw [this, this, this]; exact h2
theorem split_hk (s : ByteArray) : ∀ j o : Nat, -9223372036854775808 ≤ vI (cellAt (wSplit s) j o) ∧ vI (cellAt (wSplit s) j o) ≤ 9223372036854775807 := by
  intro j o
  by_cases hj : j < (wSplit s).length
  · obtain ⟨b, d, n, h1, h2⟩ := split_at s hj
    have : cellAt (wSplit s) j o = (tokR b d n).getD o undef := by simp only [cellAt, List.getD, List.getElem?_eq_getElem hj, h1, Option.getD_some]
    rw [this]
    have := wMay_iff.1 h2
    match o with
    | 0 => show -9223372036854775808 ≤ b ∧ b ≤ 9223372036854775807; omega
    | 1 => show -9223372036854775808 ≤ d ∧ d ≤ 9223372036854775807; omega
    | 2 => show -9223372036854775808 ≤ n ∧ n ≤ 9223372036854775807; omega
    | o + 3 => show -9223372036854775808 ≤ vI undef ∧ vI undef ≤ 9223372036854775807; decide
  · have : cellAt (wSplit s) j o = undef := by simp [cellAt, List.getD, List.getElem?_eq_none (Nat.le_of_not_lt hj)]
    rw [this]; decide
theorem back_end (s : ByteArray) : andB (andB (andB (wExpand (wSplit s) (s.size : Int)).2 (decide ((wExpand (wSplit s) (s.size : Int)).1 = s))) (decide (((wSplit s).length : Int) ≤ (s.size : Int)))) (orB (!(wExpand (wSplit s) ((s.size : Int) - 1)).2) (decide (s = ByteArray.empty))) = true := by
  have hl := wSplit_len s
  rw [back_all s, decide_eq_true (show (s, true).1 = s from rfl), decide_eq_true (show ((wSplit s).length : Int) ≤ (s.size : Int) by omega)]
  by_cases e : s.size = 0
  · have : s = ByteArray.empty := by
      apply ByteArray.ext
      have h : s.data.size = 0 := e
      exact Array.eq_empty_of_size_eq_zero h
    rw [decide_eq_true this]; cases (wExpand (wSplit s) ((s.size : Int) - 1)).2 <;> rfl
  · rw [back_less s (by omega)]; rfl
/-! ### Runs of one byte -/
section
variable {s : ByteArray} {c : Int} (hc : ∀ j : Int, 0 ≤ j → j < (s.size : Int) → bAt s j = c)
include hc
theorem run_al {a d : Int} (h1 : 1 ≤ d) (h2 : d ≤ a) (h3 : a ≤ (s.size : Int)) : wAl s a d = min 18 ((s.size : Int) - a) := by
  have hb := wAl_bd s a d
  have hle : 0 < wAl s a d → a + wAl s a d ≤ (s.size : Int) := wAl_size
  by_cases hlt : wAl s a d < 18
  · have := wAl_stop hlt
    by_cases hx : a + wAl s a d < (s.size : Int)
    · rw [cnd_iff.2 (by rw [show (((wAl s a d).toNat : Nat) : Int) = wAl s a d by omega]; exact ⟨hx, by rw [hc _ (by omega) hx, hc _ (by omega) (by omega)]⟩)] at this
      cases this
    · omega
  · omega
theorem run_best {a : Int} (h3 : a < (s.size : Int)) : ∀ D : Nat, 1 ≤ D → (D : Int) ≤ a → bestN s a D = (min 18 ((s.size : Int) - a), 1)
  | 0, h, _ => by omega
  | 1, _, h2 => by
    have := run_al hc (a := a) (d := 1) (by omega) (by omega) (by omega)
    show (bif decide ((0 : Int) < wAl s a 1) then (wAl s a 1, (1 : Int)) else bestN s a 0) = _
    rw [this, decide_eq_true (by omega), cond_true]
  | D + 2, _, h2 => by
    have ih := run_best h3 (D + 1) (by omega) (by omega)
    have := run_al hc (a := a) (d := ((D + 1 : Nat) : Int) + 1) (by omega) (by omega) (by omega)
    rw [bestN, ih, this, decide_eq_false (by show ¬ _ < _; omega), cond_false]
theorem run_long {a : Int} (h1 : 1 ≤ a) (h3 : a < (s.size : Int)) : wLong s a = bif decide ((s.size : Int) - a < 3) then (0, 0) else (min 18 ((s.size : Int) - a), 1) := by
  unfold wLong thr
  rw [run_best hc h3 _ (by omega) (by omega)]
  by_cases h : (s.size : Int) - a < 3
  · rw [decide_eq_true h, decide_eq_true (by show min _ _ < _; omega)]; first | done | rfl
  · rw [decide_eq_false h, decide_eq_false (by show ¬ min _ _ < _; omega)]; first | done | rfl
theorem run_count : ∀ (f : Nat) (p : Int), 1 ≤ p → p ≤ (s.size : Int) → (s.size : Int) - p ≤ f → ((splF s ((s.size : Int) - p).toNat p).length : Int) = ((s.size : Int) - p) / 18 + (bif decide (3 ≤ ((s.size : Int) - p) % 18) then 1 else ((s.size : Int) - p) % 18)
  | 0, p, h1, h2, h3 => by
    rw [spl_end (by omega), show (s.size : Int) - p = 0 by omega]; rfl
  | f + 1, p, h1, h2, h3 => by
    by_cases hp : p < (s.size : Int)
    case neg => rw [spl_end (by omega), show (s.size : Int) - p = 0 by omega]; rfl
    have hw := run_long hc h1 hp
    by_cases h : (s.size : Int) - p < 3
    · rw [decide_eq_true h, cond_true] at hw
      rw [spl_lit hp (by rw [hw]), List.length_cons]
      have ih := run_count f (p + 1) (by omega) (by omega) (by omega)
      rw [decide_eq_false (by omega), cond_false] at ih ⊢
      omega
    · rw [decide_eq_false h, cond_false] at hw
      rw [spl_copy hp (by rw [hw]; show ¬ min _ _ = _; omega), List.length_cons, hw]
      have ih := run_count f (p + min 18 ((s.size : Int) - p)) (by omega) (by omega) (by omega)
      simp only [Int.natCast_add, Int.natCast_one, ih]
      by_cases h18 : (s.size : Int) - p < 18
      · rw [show (s.size : Int) - (p + min 18 ((s.size : Int) - p)) = 0 by omega, decide_eq_true (show 3 ≤ ((s.size : Int) - p) % 18 by omega)]
        simp only [cond_true, show (decide ((3 : Int) ≤ 0 % 18)) = false from rfl, cond_false]; omega
      · rw [show (s.size : Int) - (p + min 18 ((s.size : Int) - p)) = (s.size : Int) - p - 18 by omega, show ((s.size : Int) - p - 18) % 18 = ((s.size : Int) - p) % 18 by omega]
        omega
omit hc in
theorem run_split (h : 0 < s.size) : wSplit s = tokR (bAt s 0) 0 0 :: splF s ((s.size : Int) - 1).toNat 1 := by
  have h0 : wLong s 0 = (0, 0) := rfl
  have := spl_lit (s := s) (a := 0) (by omega) (by rw [h0])
  rw [show ((s.size : Int) - 0).toNat = s.size by omega] at this
  exact this
theorem run_len (h : 0 < s.size) : ((wSplit s).length : Int) = 1 + ((s.size : Int) - 1) / 18 + (bif decide (3 ≤ ((s.size : Int) - 1) % 18) then 1 else ((s.size : Int) - 1) % 18) := by
  rw [run_split h, List.length_cons]
  have := run_count hc s.size 1 (by omega) (by omega) (by omega)
  simp only [Int.natCast_add, Int.natCast_one, this]; omega
theorem run_dist (h : 4 ≤ s.size) : vI (cellAt (wSplit s) (1 : Int).toNat 1) = 1 ∧ 2 ≤ (wSplit s).length := by
  have hw := run_long hc (a := 1) (by omega) (by omega)
  rw [decide_eq_false (by omega), cond_false] at hw
  rw [run_split (by omega), spl_copy (by omega) (by rw [hw]; show ¬ min _ _ = _; omega), hw]
  exact ⟨rfl, by simp only [List.length_cons]; omega⟩
end
theorem run_rep {c n : Int} (hc : 0 ≤ c ∧ c ≤ 255) : ∀ j : Int, 0 ≤ j → j < ((bstr (List.replicate n.toNat [Value.int .u8 c])).size : Int) → bAt (bstr (List.replicate n.toNat [Value.int .u8 c])) j = c := by
  intro j h0 h1
  rw [bstr_len, List.length_replicate] at h1
  have hp : pb (List.replicate n.toNat [Value.int .u8 c]) j.toNat = c := by
    unfold pb cellAt
    simp only [List.getD, List.getElem?_replicate, if_pos (show j.toNat < n.toNat by omega), Option.getD_some]; rfl
  have := bAt_bstr' (List.replicate n.toNat [Value.int .u8 c]) j.toNat (by rw [List.length_replicate]; omega) (by omega) (by omega)
  rw [show ((j.toNat : Nat) : Int) = j by omega] at this
  rw [this, hp]
end Go.Proofs.Ytgicfkgiecgjoaa.RS
