/- The turns of chapter 12; plain, no program. -/
import Derived.Test.YtjpcnknegdpnoaaRsSuper
set_option linter.unusedVariables false
set_option linter.unusedSimpArgs false
namespace Go.Proofs.Ytjpcnknegdpnoaa.RS
open Go Go.RowKit
theorem choose_cases (a b : ByteArray) : wChoose a b = (0, 0, 0, 0, false) ∨ (∃ g r z, wSOpen a = (g, r, z, true) ∧ ((wSOpen b).2.2.2 = false ∨ (wSOpen b).1 ≤ g) ∧ wChoose a b = (g, r, z, 0, true)) ∨
    (∃ g r z, wSOpen b = (g, r, z, true) ∧ ((wSOpen a).2.2.2 = false ∨ (wSOpen a).1 < g) ∧ wChoose a b = (g, r, z, 1, true)) := by
  rcases sopen_cases a with ea | ⟨g, r, z, ea, _, _⟩
  · rcases sopen_cases b with eb | ⟨g, r, z, eb, _, _⟩
    · exact .inl (wChoose_no (by rw [ea]; rfl) (by rw [eb]; rfl))
    · exact .inr (.inr ⟨g, r, z, eb, .inl (by rw [ea]; rfl), wChoose_b eb (.inl (by rw [ea]; rfl))⟩)
  · rcases sopen_cases b with eb | ⟨g', r', z', eb, _, _⟩
    · exact .inr (.inl ⟨g, r, z, ea, .inl (by rw [eb]; rfl), wChoose_a ea (.inl (by rw [eb]; rfl))⟩)
    · by_cases h : g' ≤ g
      · exact .inr (.inl ⟨g, r, z, ea, .inr (by rw [eb]; exact h), wChoose_a ea (.inr (by rw [eb]; exact h))⟩)
      · exact .inr (.inr ⟨g', r', z', eb, .inr (by rw [ea]; show g < g'; omega), wChoose_b eb (.inr (by rw [ea]; show g < g'; omega))⟩)
theorem eqLV3 (a b c : Int) : eqLV [.val (.int .i64 a), .val (.int .i64 b), .val (.int .i64 c)] [.val (.int .i64 a), .val (.int .i64 b), .val (.int .i64 c)] = true := by simp [eqLV, eqc]
theorem eqLV3_iff {a b c x y z : Int} : eqLV [.val (.int .i64 a), .val (.int .i64 b), .val (.int .i64 c)] [.val (.int .i64 x), .val (.int .i64 y), .val (.int .i64 z)] = true ↔ a = x ∧ b = y ∧ c = z := by simp [eqLV, eqc]
def turnC (a b : ByteArray) (g r z : Int) (k : ByteArray) : Bool := orB (orB (orB (!((wChoose a b).2.2.2.2)) (decide ((wSup g r z) = ByteArray.empty))) (decide (g ≤ (wChoose a b).1))) ((wSOpen k).2.2.2)
theorem turn_0 {a b k : ByteArray} {g r z : Int} (hn : (wChoose a b).2.2.2.1 = 0) (h2 : turnC a b g r z k = false) :
    (andB (andB (andB (andB (andB ((wChoose a (wSup g r z)).2.2.2.2) (decide (eqLV [.val (.int .i64 ((wChoose a (wSup g r z)).1)), .val (.int .i64 ((wChoose a (wSup g r z)).2.1)), .val (.int .i64 ((wChoose a (wSup g r z)).2.2.1))] [.val (.int .i64 g), .val (.int .i64 r), .val (.int .i64 z)] = true))) (decide (((wChoose a (wSup g r z)).2.2.2.1) = (1 : Int)))) ((wChoose a k).2.2.2.2)) (decide (eqLV [.val (.int .i64 ((wChoose a k).1)), .val (.int .i64 ((wChoose a k).2.1)), .val (.int .i64 ((wChoose a k).2.2.1))] [.val (.int .i64 ((wChoose a b).1)), .val (.int .i64 ((wChoose a b).2.1)), .val (.int .i64 ((wChoose a b).2.2.1))] = true))) (decide (((wChoose a k).2.2.2.1) = (0 : Int)))) = true := by
  unfold turnC at h2
  simp [orB] at h2
  obtain ⟨⟨⟨h3, h4⟩, h5⟩, h6⟩ := h2
  have hs := (sup_open h4).1
  rcases choose_cases a b with e | ⟨g', r', z', ea, eb, e⟩ | ⟨g', r', z', ea, eb, e⟩
  · rw [e] at h3; cases h3
  · rw [e] at h5
    have e1 := wChoose_b (a := a) (b := wSup g r z) hs (.inr (by rw [ea]; exact h5))
    have e2 := wChoose_a (a := a) (b := k) ea (.inl h6)
    rw [e1, e2, e]
    simp [andB, eqLV3]
  · rw [e] at hn; cases hn
theorem turn_1 {a b k : ByteArray} {g r z : Int} (hn : (wChoose a b).2.2.2.1 = 1) (h2 : turnC a b g r z k = false) :
    (andB (andB (andB (andB (andB ((wChoose (wSup g r z) b).2.2.2.2) (decide (eqLV [.val (.int .i64 ((wChoose (wSup g r z) b).1)), .val (.int .i64 ((wChoose (wSup g r z) b).2.1)), .val (.int .i64 ((wChoose (wSup g r z) b).2.2.1))] [.val (.int .i64 g), .val (.int .i64 r), .val (.int .i64 z)] = true))) (decide (((wChoose (wSup g r z) b).2.2.2.1) = (0 : Int)))) ((wChoose k b).2.2.2.2)) (decide (eqLV [.val (.int .i64 ((wChoose k b).1)), .val (.int .i64 ((wChoose k b).2.1)), .val (.int .i64 ((wChoose k b).2.2.1))] [.val (.int .i64 ((wChoose a b).1)), .val (.int .i64 ((wChoose a b).2.1)), .val (.int .i64 ((wChoose a b).2.2.1))] = true))) (decide (((wChoose k b).2.2.2.1) = (1 : Int)))) = true := by
  unfold turnC at h2
  simp [orB] at h2
  obtain ⟨⟨⟨h3, h4⟩, h5⟩, h6⟩ := h2
  have hs := (sup_open h4).1
  rcases choose_cases a b with e | ⟨g', r', z', ea, eb, e⟩ | ⟨g', r', z', ea, eb, e⟩
  · rw [e] at h3; cases h3
  · rw [e] at hn; cases hn
  · rw [e] at h5
    have e1 := wChoose_a (a := wSup g r z) (b := b) hs (.inr (by rw [ea]; show g' ≤ g; have h5 : g' < g := h5; omega))
    have e2 := wChoose_b (a := k) (b := b) ea (.inl h6)
    rw [e1, e2, e]
    simp [andB, eqLV3]
/-- What was laid, changed in four bytes that stand together. -/
theorem sup_torn {g r z at_ : Int} (v0 v1 v2 v3 : List Value) (h : wSup g r z ≠ ByteArray.empty) (h1 : 1 ≤ at_) (h2 : at_ ≤ 28) {c : ByteArray}
    (hc : c = bstr (((((strVals (wSup g r z)).set (at_ + 0).toNat v0).set (at_ + 1).toNat v1).set (at_ + 2).toNat v2).set (at_ + 3).toNat v3)) :
    andB (decide ((wSOpen c).2.2.2 = decide (c = wSup g r z))) (orB (!(wSOpen c).2.2.2) (decide (eqLV [.val (.int .i64 (wSOpen c).1), .val (.int .i64 (wSOpen c).2.1), .val (.int .i64 (wSOpen c).2.2.1)] [.val (.int .i64 g), .val (.int .i64 r), .val (.int .i64 z)] = true))) = true := by
  have hb := torn_bytes (wSup g r z) (show 0 ≤ at_ by omega) v0 v1 v2 v3
  rw [← hc] at hb
  have hlen := supLay_len g r z
  have hone : wLay (wInts (supT g r z)) = one (wSup g r z) := by
    have e := wSup_5 (wSup_ne h)
    unfold one
    rw [e]
    unfold wLay at hlen ⊢
    rw [pcs_len] at hlen
    rw [hlen]; rfl
  have h24 := supT_len g r z
  have hw1 := wNum_one (n := ((wInts (supT g r z)).size : Int)) (by omega) (by omega)
  have key : c = wSup g r z ∨ wSOpen c = noS := by
    rcases sopen_cases c with e | ⟨g', r', z', e, hs, hn⟩
    · exact .inr e
    · left
      have hl := sup_laid (g := g') (a := r') (z := z') (by rw [hs]; exact hn)
      rw [hs] at hl
      have hset : (wLay (wInts (supT g r z))).set 0 [Value.string c] = one c := by rw [hone]; rfl
      have q := torn_main (s := wInts (supT g r z)) (T := c) (a := 0) (ba := at_.toNat) (by omega) (by omega) (by rw [hb.1, wSup_32 h]) (by omega) (fun i _ hi => by rw [hone]; exact hb.2 i hi) (by omega) (by rw [hset]; exact hl) (by omega)
      have q2 := (sameT_iff.1 q.2).2 0 (by omega)
      rw [hset, hone] at q2
      exact q2.symm
  rcases key with rfl | e
  · rw [(sup_open h).1]
    simp [andB, orB, eqLV3]
  · have hne : c ≠ wSup g r z := fun hh => by rw [hh, (sup_open h).1] at e; cases e
    rw [e, decide_eq_false hne]
    rfl
end Go.Proofs.Ytjpcnknegdpnoaa.RS
