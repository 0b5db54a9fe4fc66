/- RS: chapter 4: splitting and expanding. -/
import Derived.Test.YtgicfkgiecgjoaaRsMatch
import Derived.Test.YtgicfkgiecgjoaaRsScope
set_option linter.unusedVariables false
set_option linter.unusedSimpArgs false
namespace Go.Proofs.Ytgicfkgiecgjoaa.RS
open Go Go.RowKit
def absTo (st : St) (h : Nat) (A' : Abs) : Option St := match st.hp[h]? with | some (.abs own _) => some ⟨st.tm, st.hp.set h (.abs own A'), st.og⟩ | _ => none
/-- A resource told in other words. -/
theorem W.absTo {C : Ctx} {st st' : St} {c : Code} {Q : Exit → Act → World → Prop} (h0 : Nat) {own : Bool} {A A' : Abs} (hst : st.hp[h0]? = some (.abs own A)) (hok : ∀ w v, A.ok w v → A'.ok w v) (hl : A'.lies = A.lies) (he : Go.Proofs.Ytgicfkgiecgjoaa.RS.absTo st h0 A' = some st') (hw : W C c Q st') : W C c Q st := fun a w ⟨g, hs⟩ => hw a w ⟨g, by
  unfold Go.Proofs.Ytgicfkgiecgjoaa.RS.absTo at he
  rw [hst] at he
  obtain rfl := Option.some.inj he
  have hlt0 : h0 < st.hp.length := (List.getElem?_eq_some_iff.1 hst).1
  have hget : ∀ {h : Nat} {r' : Res}, (st.hp.set h0 (.abs own A'))[h]? = some r' → ∃ r, st.hp[h]? = some r ∧ r.own = r'.own ∧ (∀ v, r'.at v = r.at v) ∧ (r.ok g w (g h) → r'.ok g w (g h)) := by
    intro h r' hh
    by_cases e : h0 = h
    · subst e
      rw [List.getElem?_set_self hlt0] at hh
      obtain rfl := Option.some.inj hh
      exact ⟨_, hst, rfl, fun v => by show A'.lies v = A.lies v; rw [hl], hok w _⟩
    · rw [List.getElem?_set_ne e] at hh
      exact ⟨r', hh, rfl, fun _ => rfl, id⟩
  refine ⟨hs.defers, hs.size, hs.slots, ⟨fun h r' (hh : (st.hp.set h0 (.abs own A'))[h]? = some r') => ?_, fun h h' r1 r2 b hne (h1 : (st.hp.set h0 (.abs own A'))[h]? = some r1) (h2 : (st.hp.set h0 (.abs own A'))[h']? = some r2) ho hb => ?_⟩, hs.frm, fun h r' b (hh : (st.hp.set h0 (.abs own A'))[h]? = some r') ho hb => ?_, hs.og⟩
  · obtain ⟨r, k1, k2, k3, k4⟩ := hget hh
    exact k4 (hs.mem.ok h r k1)
  · obtain ⟨q1, k1, k2, k3, k4⟩ := hget h1
    obtain ⟨q2, l1, l2, l3, l4⟩ := hget h2
    rw [l3]
    exact hs.mem.sep h h' q1 q2 b hne k1 l1 (by rw [k2]; exact ho) (by rw [← k3]; exact hb)
  · obtain ⟨r, k1, k2, k3, k4⟩ := hget hh
    exact hs.own h r b k1 (by rw [k2]; exact ho) (by rw [← k3]; exact hb)⟩
theorem GA_mono {P : Program} {K E : TypeId} {b n n' : Nat} {G G' : Value → List (List Value)} (hn : n ≤ n') (hG : ∀ k, G' k = G k) : ∀ w v, (GA P K E b n G).ok w v → (GA P K E b n' G').ok w v := by
  obtain rfl : G' = G := funext hG
  rintro w v ⟨es, clock, h, e⟩
  exact ⟨es, clock, ⟨h.hb, Nat.le_trans h.size hn, h.stamped, h.keys, h.rows, h.none, h.sep, h.apart⟩, e⟩
theorem wKey_in (s : ByteArray) (a : Int) : (0 ≤ (wKey s a).1 ∧ (wKey s a).1 ≤ 255) ∧ (0 ≤ (wKey s a).2.1 ∧ (wKey s a).2.1 ≤ 255) ∧ (0 ≤ (wKey s a).2.2.1 ∧ (wKey s a).2.2.1 ≤ 255) := by
  by_cases h : (s.size : Int) < a + 3
  · rw [wKey_no h]; decide
  · rw [wKey_yes h]; exact ⟨bAt_in s _, bAt_in s _, bAt_in s _⟩
abbrev keyV (s : ByteArray) (a : Int) : Value := .agg #[.int .u8 (wKey s a).1, .int .u8 (wKey s a).2.1, .int .u8 (wKey s a).2.2.1]
theorem wKey_ok {s : ByteArray} {a : Int} : (wKey s a).2.2.2 = true ↔ a + 3 ≤ (s.size : Int) := by
  by_cases h : (s.size : Int) < a + 3
  · rw [wKey_no h]; simp; omega
  · rw [wKey_yes h]; simp; omega
theorem keyV_eq {s : ByteArray} {a : Int} (h : a + 3 ≤ (s.size : Int)) : keyV s a = keyAt s a := by unfold keyV keyAt; rw [wKey_yes (by omega)]
theorem occ_key {s : ByteArray} {p : Int} (h0 : 0 ≤ p) (hk : (wKey s p).2.2.2 = true) : occ s (keyV s p) (p + 1).toNat = occ s (keyV s p) p.toNat ++ [[Value.int .i64 p]] ∧ ∀ k, k ≠ keyV s p → occ s k (p + 1).toNat = occ s k p.toNat := by
  have hs := wKey_ok.1 hk
  have := occ_add (s := s) (p := p.toNat) (by omega)
  rw [show ((p.toNat : Nat) : Int) = p by omega, ← keyV_eq hs] at this
  rw [show (p + 1).toNat = p.toNat + 1 by omega]
  exact this
theorem occ_nokey {s : ByteArray} {p : Int} (h0 : 0 ≤ p) (hk : (wKey s p).2.2.2 = false) (k : Value) : occ s k (p + 1).toNat = occ s k p.toNat := by
  rw [show (p + 1).toNat = p.toNat + 1 by omega]
  refine occ_same (fun h => ?_) k
  rw [wKey_ok.2 (by omega)] at hk; cases hk
theorem occ_len1 {s : ByteArray} {k : Value} {p : Int} {x : List Value} (h : p ≤ 500000) : (occ s k p.toNat).length + [x].length ≤ 1000000 := by
  have := occ_len s k p.toNat
  simp only [List.length_cons, List.length_nil]; omega
section
variable {s : ByteArray} {a i : Int} {D : Nat} {b d : Int}
theorem sI_start (h0 : 0 ≤ a) (h3 : a + 3 ≤ (s.size : Int)) : Srch s a.toNat (((occ s (keyV s a) a.toNat).length : Int) - 1) 0 0 0 := by
  have := srch_start (s := s) (a := a.toNat)
  rw [show ((a.toNat : Nat) : Int) = a by omega, ← keyV_eq h3] at this
  exact this
theorem sI_bd (h0 : 0 ≤ a) (h3 : a + 3 ≤ (s.size : Int)) (hi0 : 0 ≤ i) (hi : i < ((occ s (keyV s a) a.toNat).length : Int)) : 0 ≤ vI (cellAt (occ s (keyV s a) a.toNat) i.toNat 0) ∧ vI (cellAt (occ s (keyV s a) a.toNat) i.toNat 0) < a := by
  rw [keyV_eq h3] at hi ⊢
  have ea : ((a.toNat : Nat) : Int) = a := by omega
  obtain ⟨q, h1, h2, h4, h5⟩ := srch_at (s := s) (a := a.toNat) (i := i) hi0 (by rw [ea]; exact hi)
  rw [ea] at h5
  rw [h5]; omega
theorem sI_step (h0 : 0 ≤ a) (h3 : a + 3 ≤ (s.size : Int)) (hS : Srch s a.toNat i D b d) (hi0 : 0 ≤ i) (hi : i < ((occ s (keyV s a) a.toNat).length : Int)) (hf : a - vI (cellAt (occ s (keyV s a) a.toNat) i.toNat 0) ≤ 255) {b' d' : Int}
    (hb : (b < wAl s a (a - vI (cellAt (occ s (keyV s a) a.toNat) i.toNat 0)) ∧ b' = wAl s a (a - vI (cellAt (occ s (keyV s a) a.toNat) i.toNat 0)) ∧ d' = a - vI (cellAt (occ s (keyV s a) a.toNat) i.toNat 0)) ∨ (¬ b < wAl s a (a - vI (cellAt (occ s (keyV s a) a.toNat) i.toNat 0)) ∧ b' = b ∧ d' = d)) :
    Srch s a.toNat (i - 1) (a - vI (cellAt (occ s (keyV s a) a.toNat) i.toNat 0)).toNat b' d' := by
  have ea : ((a.toNat : Nat) : Int) = a := by omega
  rw [keyV_eq h3] at hi hf hb ⊢
  obtain ⟨q, h1, h2, h4, h5⟩ := srch_at (s := s) (a := a.toNat) (i := i) hi0 (by rw [ea]; exact hi)
  rw [ea] at h5
  rw [h5] at hf hb ⊢
  have := srch_step (by omega) hS h1 h2 h4 (by omega) (b' := b') (d' := d') (by rw [ea]; exact hb)
  rw [show (a - (q : Int)).toNat = a.toNat - q by omega]
  exact this
theorem sI_end (h0 : 0 ≤ a) (h3 : a + 3 ≤ (s.size : Int)) (hS : Srch s a.toNat i D b d) (hi : i < ((occ s (keyV s a) a.toNat).length : Int)) (hx : i < 0 ∨ 255 < a - vI (cellAt (occ s (keyV s a) a.toNat) i.toNat 0)) : wLong s a = (b, d) := by
  have ea : ((a.toNat : Nat) : Int) = a := by omega
  rw [keyV_eq h3] at hi hx
  have := srch_end (by omega) hS (by rw [ea]; exact hi) (by
    rw [ea]
    by_cases e : i < 0
    · exact .inl e
    · exact .inr ⟨by omega, hx.resolve_left e⟩)
  rw [ea] at this
  exact this
theorem sI_short (h0 : 0 ≤ a) (h : ¬ a + 3 ≤ (s.size : Int)) : wLong s a = (0, 0) := by
  have ea : ((a.toNat : Nat) : Int) = a := by omega
  have := short_none (s := s) (a := a.toNat) (by omega)
  rw [ea] at this; exact this
theorem sv_at (t : ByteArray) {j : Nat} (h : j < t.size) : vI (cellAt (strVals t) j 0) = bAt t (j : Int) := by
  have h' : j < t.data.toList.length := by simpa using h
  simp [strVals, cellAt, bAt, List.getD, List.getElem?_eq_getElem h', vI]
theorem ext_byte (h0 : 0 ≤ a ∧ a + 3 ≤ (s.size : Int)) {j : Nat} (hj : j < 3) : vI (cellAt (strVals (s.extract a.toNat (a + 3).toNat)) j 0) = bAt s (a + j) := by
  have hsz : (s.extract a.toNat (a + 3).toNat).size = 3 := by rw [ByteArray.size_extract]; omega
  rw [sv_at _ (by omega), bAt_extract s (by omega) (by omega)]
  congr 1; omega
end
/-! ### Tokens -/
def tokR (b d n : Int) : List Value := [.int .i64 b, .int .i64 d, .int .i64 n]
def splF (s : ByteArray) : Nat → Int → List (List Value)
  | 0, _ => []
  | f + 1, a => bif decide (a < (s.size : Int)) then (bif decide ((wLong s a).1 = 0) then tokR (bAt s a) 0 0 :: splF s f (a + 1) else tokR 0 (wLong s a).2 (wLong s a).1 :: splF s f (a + (wLong s a).1)) else []
def wSplit (s : ByteArray) : List (List Value) := splF s s.size 0
theorem wLong_nn (s : ByteArray) (a : Int) : 0 ≤ (wLong s a).1 ∧ (wLong s a).1 ≤ 18 ∧ 0 ≤ (wLong s a).2 ∧ (wLong s a).2 ≤ 255 := by
  rcases wLong_bd s a with h | h
  · rw [h]; decide
  · omega
theorem splF_fuel (s : ByteArray) : ∀ (f : Nat) (a : Int), (s.size : Int) - a ≤ f → splF s f a = splF s ((s.size : Int) - a).toNat a
  | 0, a, h => by rw [show ((s.size : Int) - a).toNat = 0 by omega]
  | f + 1, a, h => by
    by_cases ha : a < (s.size : Int)
    · rw [show ((s.size : Int) - a).toNat = ((s.size : Int) - a - 1).toNat + 1 by omega]
      simp only [splF, decide_eq_true ha, cond_true]
      have hb := wLong_nn s a
      have e1 := splF_fuel s f (a + 1) (by omega)
      have e3 : splF s ((s.size : Int) - a - 1).toNat (a + 1) = splF s ((s.size : Int) - (a + 1)).toNat (a + 1) := by rw [show ((s.size : Int) - a - 1).toNat = ((s.size : Int) - (a + 1)).toNat by omega]
      by_cases hz : (wLong s a).1 = 0
      · rw [decide_eq_true hz, cond_true, cond_true, e1, e3]
      · have e2 := splF_fuel s f (a + (wLong s a).1) (by omega)
        have e4 := splF_fuel s ((s.size : Int) - a - 1).toNat (a + (wLong s a).1) (by omega)
        rw [decide_eq_false hz, cond_false, cond_false, e2, e4]
    · rw [show ((s.size : Int) - a).toNat = 0 by omega]
      simp [splF, decide_eq_false ha]
  termination_by f a => f
theorem spl_lit {s : ByteArray} {a : Int} (ha : a < (s.size : Int)) (hz : (wLong s a).1 = 0) : splF s ((s.size : Int) - a).toNat a = tokR (bAt s a) 0 0 :: splF s ((s.size : Int) - (a + 1)).toNat (a + 1) := by
  rw [show ((s.size : Int) - a).toNat = ((s.size : Int) - (a + 1)).toNat + 1 by omega]
  simp only [splF, decide_eq_true ha, cond_true, decide_eq_true hz]
theorem spl_copy {s : ByteArray} {a : Int} (ha : a < (s.size : Int)) (hz : ¬ (wLong s a).1 = 0) : splF s ((s.size : Int) - a).toNat a = tokR 0 (wLong s a).2 (wLong s a).1 :: splF s ((s.size : Int) - (a + (wLong s a).1)).toNat (a + (wLong s a).1) := by
  have hb := wLong_nn s a
  rw [show ((s.size : Int) - a).toNat = ((s.size : Int) - a - 1).toNat + 1 by omega]
  simp only [splF, decide_eq_true ha, cond_true, decide_eq_false hz, cond_false]
  rw [splF_fuel s ((s.size : Int) - a - 1).toNat _ (by omega)]
theorem spl_end {s : ByteArray} {a : Int} (ha : ¬ a < (s.size : Int)) : splF s ((s.size : Int) - a).toNat a = [] := by rw [show ((s.size : Int) - a).toNat = 0 by omega]; rfl
theorem splF_len (s : ByteArray) : ∀ (f : Nat) (a : Int), (splF s f a).length ≤ f
  | 0, a => Nat.le_refl _
  | f + 1, a => by
    have h1 := splF_len s f (a + 1)
    have h2 := splF_len s f (a + (wLong s a).1)
    simp only [splF]
    cases decide (a < (s.size : Int)) <;> cases decide ((wLong s a).1 = 0) <;> simp <;> omega
theorem wSplit_len (s : ByteArray) : (wSplit s).length ≤ s.size := splF_len s _ _
/-! ### Expanding -/
def wMay (b d n : Int) : Bool := bif decide (n = 0) then andB (andB (decide (d = 0)) (decide (0 ≤ b))) (decide (b ≤ 255)) else andB (andB (andB (andB (decide (b = 0)) (decide (1 ≤ d))) (decide (d ≤ 255))) (decide (3 ≤ n))) (decide (n ≤ 18))
theorem wMay_iff {b d n : Int} : wMay b d n = true ↔ (n = 0 ∧ d = 0 ∧ 0 ≤ b ∧ b ≤ 255) ∨ (¬ n = 0 ∧ b = 0 ∧ 1 ≤ d ∧ d ≤ 255 ∧ 3 ≤ n ∧ n ≤ 18) := by
  unfold wMay
  by_cases h : n = 0 <;> simp [h, andB, and_assoc]
def cpN (d : Int) : Nat → List (List Value) → List (List Value)
  | 0, ys => ys
  | k + 1, ys => cpN d k (ys ++ [[Value.int .u8 (vI (cellAt ys ((ys.length : Int) - d).toNat 0))]])
theorem cpN_len (d : Int) : ∀ (k : Nat) (ys : List (List Value)), (cpN d k ys).length = ys.length + k
  | 0, ys => rfl
  | k + 1, ys => by simp only [cpN, cpN_len d k, List.length_append, List.length_cons, List.length_nil]; omega
def okT (b d n m : Int) (len : Nat) : Bool := andB (andB (wMay b d n) (decide (d ≤ (len : Int)))) (decide (max n 1 ≤ m - (len : Int)))
def litT (b n : Int) (ys : List (List Value)) : List (List Value) := bif decide (n = 0) then ys ++ [[Value.int .u8 b]] else ys
def xpN (l : List (List Value)) (m : Int) : Nat → Option (List (List Value))
  | 0 => some []
  | k + 1 => match xpN l m k with
    | some ys => bif okT (num l k 0) (num l k 1) (num l k 2) m ys.length then some (cpN (num l k 1) (num l k 2).toNat (litT (num l k 0) (num l k 2) ys)) else none
    | none => none
def wExpand (l : List (List Value)) (m : Int) : ByteArray × Bool := match xpN l m l.length with | some ys => (bstr ys, true) | none => (ByteArray.empty, false)
theorem xpN_none {l : List (List Value)} {m : Int} {k : Nat} (h : xpN l m k = none) : ∀ d, xpN l m (k + d) = none
  | 0 => h
  | d + 1 => by rw [show k + (d + 1) = k + d + 1 by omega, xpN, xpN_none h d]
theorem wExpand_no {l : List (List Value)} {m i : Int} {ys : List (List Value)} (h0 : 0 ≤ i) (hi : i < (l.length : Int)) (hy : xpN l m i.toNat = some ys) (hn : okT (num l i.toNat 0) (num l i.toNat 1) (num l i.toNat 2) m ys.length = false) : wExpand l m = (ByteArray.empty, false) := by
  have h1 : xpN l m (i.toNat + 1) = none := by rw [xpN, hy]; simp [hn]
  have := xpN_none h1 (l.length - (i.toNat + 1))
  rw [show i.toNat + 1 + (l.length - (i.toNat + 1)) = l.length by omega] at this
  unfold wExpand; rw [this]
theorem wExpand_yes {l : List (List Value)} {m : Int} {ys : List (List Value)} (hy : xpN l m l.length = some ys) : wExpand l m = (bstr ys, true) := by unfold wExpand; rw [hy]
theorem ex_step {l : List (List Value)} {m i : Int} {ys : List (List Value)} (h0 : 0 ≤ i) (hy : xpN l m i.toNat = some ys) (hn : okT (num l i.toNat 0) (num l i.toNat 1) (num l i.toNat 2) m ys.length = true) : xpN l m (i + 1).toNat = some (cpN (num l i.toNat 1) (num l i.toNat 2).toNat (litT (num l i.toNat 0) (num l i.toNat 2) ys)) := by
  rw [show (i + 1).toNat = i.toNat + 1 by omega, xpN, hy]; simp [hn]
theorem xpN_len {l : List (List Value)} {m : Int} : ∀ {k : Nat} {ys : List (List Value)}, xpN l m k = some ys → ys = [] ∨ (ys.length : Int) ≤ m
  | 0, ys, h => by simp [xpN] at h; exact .inl h
  | k + 1, ys, h => by
    simp only [xpN] at h
    split at h
    · rename_i zs hz
      cases ho : okT (num l k 0) (num l k 1) (num l k 2) m zs.length with
      | false => rw [ho] at h; cases h
      | true =>
        rw [ho] at h
        obtain rfl := Option.some.inj h
        right
        simp only [okT, andB, Bool.and_eq_true, decide_eq_true_eq] at ho
        have hm := wMay_iff.1 ho.1.1
        rw [cpN_len]
        unfold litT
        rcases hm with h | h
        · rw [decide_eq_true h.1, cond_true]; simp only [List.length_append, List.length_cons, List.length_nil]; omega
        · rw [decide_eq_false h.1, cond_false]; omega
    · cases h
theorem okT_iff {b d n m : Int} {len : Nat} : okT b d n m len = true ↔ wMay b d n = true ∧ d ≤ (len : Int) ∧ max n 1 ≤ m - (len : Int) := by unfold okT andB; simp [and_assoc]
theorem okT_no {b d n m : Int} {len : Nat} (h : orB (orB (!(wMay b d n)) (decide ((len : Int) < d))) (decide (m - (len : Int) < max n 1)) = true) : okT b d n m len = false := by
  cases e : okT b d n m len with
  | false => rfl
  | true =>
    obtain ⟨h1, h2, h3⟩ := okT_iff.1 e
    rw [h1, decide_eq_false (by omega), decide_eq_false (by omega)] at h
    cases h
theorem okT_yes {b d n m : Int} {len : Nat} (h : orB (orB (!(wMay b d n)) (decide ((len : Int) < d))) (decide (m - (len : Int) < max n 1)) = false) : okT b d n m len = true := by
  simp only [orB, Bool.or_eq_false_iff, Bool.not_eq_false', decide_eq_false_iff_not] at h
  exact okT_iff.2 ⟨h.1.1, by omega, by omega⟩
theorem litT_len (b n : Int) (ys : List (List Value)) : ys.length ≤ (litT b n ys).length ∧ (litT b n ys).length ≤ ys.length + 1 := by
  unfold litT; cases decide (n = 0) <;> simp
/-! ### The program's own Longest -/
theorem bestN_if {s : ByteArray} {a i : Int} (h1 : 1 ≤ i) : bestN s a (i + 1 - 1).toNat = bif decide ((bestN s a (i - 1).toNat).1 < wAl s a i) then (wAl s a i, i) else bestN s a (i - 1).toNat := by
  rw [show (i + 1 - 1).toNat = (i - 1).toNat + 1 by omega, bestN, show (((i - 1).toNat : Nat) : Int) + 1 = i by omega]
theorem long_lo {s : ByteArray} {a b : Int} (h : b = (bestN s a (min a 255).toNat).1) (hb : b < 3) : wLong s a = (0, 0) := by unfold wLong thr; rw [← h, decide_eq_true hb]; rfl
theorem long_hi {s : ByteArray} {a b d : Int} (h : b = (bestN s a (min a 255).toNat).1) (h' : d = (bestN s a (min a 255).toNat).2) (hb : ¬ b < 3) : wLong s a = (b, d) := by unfold wLong thr; rw [← h, decide_eq_false hb, cond_false]; exact Prod.ext h.symm h'.symm
/-! ### Two lists of tokens -/
def sameT (xs ys : List (List Value)) : Bool := decide (xs.length = ys.length ∧ ∀ i, i < xs.length → num xs i 0 = num ys i 0 ∧ num xs i 1 = num ys i 1 ∧ num xs i 2 = num ys i 2)
theorem sameT_len {xs ys : List (List Value)} (h : ¬ (xs.length : Int) = (ys.length : Int)) : sameT xs ys = false := decide_eq_false fun hh => h (by rw [hh.1])
theorem eqLV3_iff {a b c x y z : Int} : eqLV [.val (.int .i64 a), .val (.int .i64 b), .val (.int .i64 c)] [.val (.int .i64 x), .val (.int .i64 y), .val (.int .i64 z)] = true ↔ a = x ∧ b = y ∧ c = z := by simp [eqLV, eqc]
theorem sameT_at {xs ys : List (List Value)} {i : Int} (h0 : 0 ≤ i) (hi : i < (xs.length : Int)) (h : ¬ (num xs i.toNat 0 = num ys i.toNat 0 ∧ num xs i.toNat 1 = num ys i.toNat 1 ∧ num xs i.toNat 2 = num ys i.toNat 2)) : sameT xs ys = false := decide_eq_false fun hh => h (hh.2 i.toNat (by omega))
theorem sameT_all {xs ys : List (List Value)} (hl : (xs.length : Int) = (ys.length : Int)) (h : ∀ i, i < xs.length → num xs i 0 = num ys i 0 ∧ num xs i 1 = num ys i 1 ∧ num xs i 2 = num ys i 2) : sameT xs ys = true := decide_eq_true ⟨by omega, h⟩
end Go.Proofs.Ytgicfkgiecgjoaa.RS
