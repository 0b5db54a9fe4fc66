/- Which image counts: what the functions of chapter 12 compute; plain, no program. -/
import Derived.Test.YtjpcnknegdpnoaaRsTorn
set_option linter.unusedVariables false
set_option linter.unusedSimpArgs false
namespace Go.Proofs.Ytjpcnknegdpnoaa.RS
open Go Go.RowKit
def supT (g a z : Int) : List (List Value) := [[.int .i64 g], [.int .i64 a], [.int .i64 z]]
def supC (g a z : Int) : Bool := orB (orB (orB (orB (decide (g < 1)) (decide (a < 0))) (decide (1 < a))) (decide (z < 0))) (decide (1000000 < z))
def supD (g a z : Int) : Bool := orB (orB (orB (orB (decide (g < 1)) (decide (1099511627776 ≤ g))) (andB (decide (¬ a = 0)) (decide (¬ a = 1)))) (decide (z < 0))) (decide (1000000 < z))
def wSup (g a z : Int) : ByteArray := bif supC g a z then ByteArray.empty else bif decide (wInts (supT g a z) = ByteArray.empty) then ByteArray.empty else str (wLay (wInts (supT g a z))) 0
theorem wSup_1 {g a z : Int} (h : supC g a z = true) : wSup g a z = ByteArray.empty := by unfold wSup; rw [h]; rfl
theorem wSup_2 {g a z : Int} (h : supC g a z = false) (h2 : decide (wInts (supT g a z) = ByteArray.empty) = true) : wSup g a z = ByteArray.empty := by unfold wSup; rw [h, h2]; rfl
theorem wSup_3 {g a z : Int} (h : supC g a z = false) (h2 : decide (wInts (supT g a z) = ByteArray.empty) = false) : wSup g a z = str (wLay (wInts (supT g a z))) 0 := by unfold wSup; rw [h, h2]; rfl
theorem supT_num (g a z : Int) : num (supT g a z) 0 0 = g ∧ num (supT g a z) 1 0 = a ∧ num (supT g a z) 2 0 = z := ⟨rfl, rfl, rfl⟩
theorem supT_hk {g a z : Int} (hg : inK .i64 g) (ha : inK .i64 a) (hz : inK .i64 z) (j o : Nat) : -9223372036854775808 ≤ vI (cellAt (supT g a z) j o) ∧ vI (cellAt (supT g a z) j o) ≤ 9223372036854775807 := by
  simp only [inK] at hg ha hz
  match j, o with
  | 0, 0 => exact hg
  | 1, 0 => exact ha
  | 2, 0 => exact hz
  | 0, o + 1 | 1, o + 1 | 2, o + 1 | j + 3, o => exact ⟨by simp [cellAt, supT, vI, undef], by simp [cellAt, supT, vI, undef]⟩
theorem supT_ne {g a z : Int} : wInts (supT g a z) ≠ ByteArray.empty ↔ (0 ≤ g ∧ g < 1099511627776) ∧ (0 ≤ a ∧ a < 1099511627776) ∧ (0 ≤ z ∧ z < 1099511627776) := by
  constructor
  · intro h
    rcases wInts_cases (supT g a z) (show ((3 : Nat) : Int) < 1099511627776 by decide) with e | ⟨e, _⟩
    · exact absurd e h
    · exact ⟨e 0 (show 0 < 3 by decide), e 1 (show 1 < 3 by decide), e 2 (show 2 < 3 by decide)⟩
  · rintro ⟨h0, h1, h2⟩
    rw [wInts_yes (fun j hj => wNum_ne.2 (by
      match j, hj with
      | 0, _ => exact h0
      | 1, _ => exact h1
      | 2, _ => exact h2
      | j + 3, hj => exact absurd hj (by simp [supT])))]
    intro e
    have q := intsN_pos (supT g a z) (fun j hj => wNum_ne.2 (by
      match j, hj with
      | 0, _ => exact h0
      | 1, _ => exact h1
      | 2, _ => exact h2
      | j + 3, hj => exact absurd hj (by simp [supT])))
    rw [e] at q
    exact q rfl
theorem supD_iff {g a z : Int} : supD g a z = false ↔ (supC g a z = false ∧ wInts (supT g a z) ≠ ByteArray.empty) := by
  rw [supT_ne]
  unfold supD supC
  simp only [orB, andB]
  constructor
  · intro h; simp at h ⊢; omega
  · intro h; simp at h ⊢; omega
theorem wSup_4 {g a z : Int} (h : supD g a z = true) : wSup g a z = ByteArray.empty := by
  cases h1 : supC g a z with
  | true => exact wSup_1 h1
  | false =>
    by_cases h2 : wInts (supT g a z) = ByteArray.empty
    · exact wSup_2 h1 (decide_eq_true h2)
    · rw [supD_iff.2 ⟨h1, h2⟩] at h; cases h
theorem wSup_5 {g a z : Int} (h : supD g a z = false) : wSup g a z = str (wLay (wInts (supT g a z))) 0 := by
  have q := supD_iff.1 h
  exact wSup_3 q.1 (decide_eq_false q.2)
theorem supT_len (g a z : Int) : ((wInts (supT g a z)).size : Int) ≤ 24 := by
  have := wInts_le (supT g a z)
  rw [show (supT g a z).length = 3 from rfl] at this
  omega
theorem supLay_len (g a z : Int) : (wLay (wInts (supT g a z))).length = 1 := by
  have h1 := supT_len g a z
  have h2 := wBody_len (wInts (supT g a z))
  have h3 := wNum_one (n := ((wInts (supT g a z)).size : Int)) (by omega) (by omega)
  rw [wLay_len]
  omega
theorem wSup_size (g a z : Int) : (wSup g a z).size ≤ 32 := by
  cases h : supD g a z with
  | true => rw [wSup_4 h]; exact Nat.zero_le _
  | false => rw [wSup_5 h, wLay_32 _ (by rw [supLay_len]; decide)]; exact Nat.le_refl _
theorem wSup_ne {g a z : Int} (h : wSup g a z ≠ ByteArray.empty) : supD g a z = false := by
  cases h1 : supD g a z with
  | true => exact absurd (wSup_4 h1) h
  | false => rfl
theorem wSup_32 {g a z : Int} (h : wSup g a z ≠ ByteArray.empty) : (wSup g a z).size = 32 := by
  rw [wSup_5 (wSup_ne h), wLay_32 _ (by rw [supLay_len]; decide)]
/-! ### Opened -/
def one (s : ByteArray) : List (List Value) := [[Value.string s]]
theorem one_str (s : ByteArray) : str (one s) 0 = s := rfl
theorem one_hj {s : ByteArray} {m : Nat} (h : s.size ≤ m) (j : Nat) : (str (one s) j).size ≤ m := by
  match j with
  | 0 => exact h
  | j + 1 => rw [str_out _ _ (by simp [one])]; exact Nat.zero_le _
abbrev Sup := Int × Int × Int × Bool
def noS : Sup := (0, 0, 0, false)
def soT (s : ByteArray) : List (List Value) × Int × Bool := wTakeInts (wOpen (one s)).1 0
def soR (s : ByteArray) : List (List Value) × Int × Bool := wTakeInts (wROpen (one s)).1 0
def soC (s : ByteArray) : Bool := orB (orB (!(soT s).2.2) (decide (¬ (soT s).2.1 = ((wOpen (one s)).1.size : Int)))) (decide (¬ ((soT s).1.length : Int) = 3))
def soL (l : List (List Value)) : ByteArray := wSup (vI (cellAt l 0 0)) (vI (cellAt l 1 0)) (vI (cellAt l 2 0))
def soX (l : List (List Value)) : Sup := (vI (cellAt l 0 0), vI (cellAt l 1 0), vI (cellAt l 2 0), true)
def wSOpen (s : ByteArray) : Sup := bif !(wOpen (one s)).2 then noS else bif soC s then noS else bif decide (¬ soL (soT s).1 = s) then noS else soX (soT s).1
theorem wSOpen_1 {s : ByteArray} (h : (!(wOpen (one s)).2) = true) : wSOpen s = noS := by unfold wSOpen; rw [h]; rfl
theorem wSOpen_2 {s : ByteArray} (h : (!(wOpen (one s)).2) = false) (h2 : soC s = true) : wSOpen s = noS := by unfold wSOpen; rw [h, h2]; rfl
theorem wSOpen_3 {s : ByteArray} (h : (!(wOpen (one s)).2) = false) (h2 : soC s = false) (h3 : decide (¬ soL (soT s).1 = s) = true) : wSOpen s = noS := by unfold wSOpen; rw [h, h2, h3]; rfl
theorem wSOpen_4 {s : ByteArray} (h : (!(wOpen (one s)).2) = false) (h2 : soC s = false) (h3 : decide (¬ soL (soT s).1 = s) = false) : wSOpen s = soX (soT s).1 := by unfold wSOpen; rw [h, h2, h3]; rfl
def soD (s : ByteArray) : Bool := orB (orB (!(wROpen (one s)).2) (!(soR s).2.2)) (decide (¬ ((soR s).1.length : Int) = 3))
def soE (s : ByteArray) : Bool := orB (decide (soL (soR s).1 = ByteArray.empty)) (decide (¬ soL (soR s).1 = s))
def wRSOpen (s : ByteArray) : Sup := bif soD s then noS else bif soE s then noS else soX (soR s).1
theorem wRSOpen_1 {s : ByteArray} (h : soD s = true) : wRSOpen s = noS := by unfold wRSOpen; rw [h]; rfl
theorem wRSOpen_2 {s : ByteArray} (h : soD s = false) (h2 : soE s = true) : wRSOpen s = noS := by unfold wRSOpen; rw [h, h2]; rfl
theorem wRSOpen_3 {s : ByteArray} (h : soD s = false) (h2 : soE s = false) : wRSOpen s = soX (soR s).1 := by unfold wRSOpen; rw [h, h2]; rfl
/-! ### What is laid is opened, and nothing else -/
theorem sup_laid {g a z : Int} (h : wSup g a z ≠ ByteArray.empty) : Laid (one (wSup g a z)) (wInts (supT g a z)) := by
  have hl := supLay_len g a z
  refine ⟨by rw [hl]; exact Nat.le_refl _, fun j hj => ?_⟩
  rw [hl] at hj
  obtain rfl : j = 0 := by omega
  rw [one_str, wSup_5 (wSup_ne h)]
theorem sup_take {g a z : Int} (h : wSup g a z ≠ ByteArray.empty) : wTakeInts (wInts (supT g a z)) 0 = (ivs (supT g a z) 3, ((wInts (supT g a z)).size : Int), true) := by
  have q := wTakeInts_told (A := ByteArray.empty) (C := ByteArray.empty) (l := supT g a z) (show ((3 : Nat) : Int) < 1099511627776 by decide) (supD_iff.1 (wSup_ne h)).2
  rw [empty_app] at q
  simpa [supT] using q
theorem sup_x (g a z : Int) : soX (ivs (supT g a z) 3) = (g, a, z, true) ∧ soL (ivs (supT g a z) 3) = wSup g a z := by
  have e0 : vI (cellAt (ivs (supT g a z) 3) 0 0) = g := (ivs_num (supT g a z) 3 0 (by decide))
  have e1 : vI (cellAt (ivs (supT g a z) 3) 1 0) = a := (ivs_num (supT g a z) 3 1 (by decide))
  have e2 : vI (cellAt (ivs (supT g a z) 3) 2 0) = z := (ivs_num (supT g a z) 3 2 (by decide))
  unfold soX soL
  rw [e0, e1, e2]
  exact ⟨rfl, rfl⟩
theorem sup_open {g a z : Int} (h : wSup g a z ≠ ByteArray.empty) : wSOpen (wSup g a z) = (g, a, z, true) ∧ wRSOpen (wSup g a z) = (g, a, z, true) := by
  have e1 := wOpen_laid (l := one (wSup g a z)) (show ((1 : Nat) : Int) ≤ 1000000 by decide) (sup_laid h)
  have e2 := wROpen_laid (l := one (wSup g a z)) (show ((1 : Nat) : Int) ≤ 1000000 by decide) (sup_laid h)
  have e3 : soT (wSup g a z) = (ivs (supT g a z) 3, ((wInts (supT g a z)).size : Int), true) := by unfold soT; rw [e1]; exact sup_take h
  have e4 : soR (wSup g a z) = (ivs (supT g a z) 3, ((wInts (supT g a z)).size : Int), true) := by unfold soR; rw [e2]; exact sup_take h
  have x := sup_x g a z
  constructor
  · rw [wSOpen_4 (by rw [e1]; rfl) (by unfold soC; rw [e3, e1]; simp [orB, ivs_len]) (by rw [e3, x.2]; simp), e3, x.1]
  · rw [wRSOpen_3 (by unfold soD; rw [e4, e2]; simp [orB, ivs_len]) (by unfold soE; rw [e4, x.2]; simp [orB, h]), e4, x.1]
theorem one_ne {s t : ByteArray} (h : Laid (one s) t) : s ≠ ByteArray.empty := by
  have h1 := (wLay_le t).1
  have h2 := wLay_32 t (j := 0) (by omega)
  rw [h.2 0 (by omega), one_str] at h2
  rintro rfl
  cases h2
theorem sopen_cases (s : ByteArray) : wSOpen s = noS ∨ ∃ g a z, wSOpen s = (g, a, z, true) ∧ wSup g a z = s ∧ s ≠ ByteArray.empty := by
  cases h : !(wOpen (one s)).2 with
  | true => exact .inl (wSOpen_1 h)
  | false =>
    cases h2 : soC s with
    | true => exact .inl (wSOpen_2 h h2)
    | false =>
      cases h3 : decide (¬ soL (soT s).1 = s) with
      | true => exact .inl (wSOpen_3 h h2 h3)
      | false =>
        refine .inr ⟨_, _, _, wSOpen_4 h h2 h3, ?_, one_ne (wOpen_yes (by simpa using h))⟩
        exact Classical.not_not.1 (of_decide_eq_false h3)
theorem rsopen_cases (s : ByteArray) : wRSOpen s = noS ∨ ∃ g a z, wRSOpen s = (g, a, z, true) ∧ wSup g a z = s ∧ s ≠ ByteArray.empty := by
  cases h : soD s with
  | true => exact .inl (wRSOpen_1 h)
  | false =>
    cases h2 : soE s with
    | true => exact .inl (wRSOpen_2 h h2)
    | false =>
      unfold soE at h2
      simp [orB] at h2
      exact .inr ⟨_, _, _, wRSOpen_3 h (by unfold soE; simp [orB]; exact h2), h2.2, fun e => h2.1 (by rw [h2.2]; exact e)⟩
theorem sopen_same (s : ByteArray) : wSOpen s = wRSOpen s := by
  rcases sopen_cases s with e | ⟨g, a, z, e, h, hn⟩
  · rcases rsopen_cases s with e' | ⟨g, a, z, e', h, hn⟩
    · rw [e, e']
    · subst h; rw [(sup_open hn).1, (sup_open hn).2]
  · subst h; rw [(sup_open hn).1, (sup_open hn).2]
theorem sopen_yes {s : ByteArray} (h : (wSOpen s).2.2.2 = true) : wSup (wSOpen s).1 (wSOpen s).2.1 (wSOpen s).2.2.1 = s ∧ s ≠ ByteArray.empty := by
  rcases sopen_cases s with e | ⟨g, a, z, e, h1, hn⟩
  · rw [e] at h; cases h
  · rw [e]; exact ⟨h1, hn⟩
theorem sopen_no {s : ByteArray} (h : (wSOpen s).2.2.2 = false) : wSOpen s = noS := by
  rcases sopen_cases s with e | ⟨g, a, z, e, h1, hn⟩
  · exact e
  · rw [e] at h; cases h
theorem sopen_empty : wSOpen ByteArray.empty = noS := by
  rcases sopen_cases ByteArray.empty with e | ⟨g, a, z, e, h1, hn⟩
  · exact e
  · exact absurd rfl hn
theorem sopen_bd (s : ByteArray) : (1 ≤ (wSOpen s).1 ∨ wSOpen s = noS) ∧ 0 ≤ (wSOpen s).1 ∧ (wSOpen s).1 < 1099511627776 ∧ 0 ≤ (wSOpen s).2.1 ∧ (wSOpen s).2.1 ≤ 1 ∧ 0 ≤ (wSOpen s).2.2.1 ∧ (wSOpen s).2.2.1 ≤ 1000000 := by
  rcases sopen_cases s with e | ⟨g, a, z, e, h1, hn⟩
  · rw [e]; exact ⟨.inr rfl, by decide⟩
  · rw [e]
    have h2 := wSup_ne (g := g) (a := a) (z := z) (by rw [h1]; exact hn)
    unfold supD at h2
    simp [orB, andB] at h2
    simp only []
    omega
/-! ### Which counts -/
abbrev Cho := Int × Int × Int × Int × Bool
def wChoose (a b : ByteArray) : Cho :=
  bif andB (wSOpen a).2.2.2 (orB (!(wSOpen b).2.2.2) (decide ((wSOpen b).1 ≤ (wSOpen a).1))) then ((wSOpen a).1, (wSOpen a).2.1, (wSOpen a).2.2.1, 0, true)
  else bif (wSOpen b).2.2.2 then ((wSOpen b).1, (wSOpen b).2.1, (wSOpen b).2.2.1, 1, true) else (0, 0, 0, 0, false)
theorem wChoose_n (a b : ByteArray) : (wChoose a b).2.2.2.1 = 0 ∨ (wChoose a b).2.2.2.1 = 1 := by
  unfold wChoose
  cases andB (wSOpen a).2.2.2 (orB (!(wSOpen b).2.2.2) (decide ((wSOpen b).1 ≤ (wSOpen a).1))) <;> cases (wSOpen b).2.2.2 <;> simp
theorem wChoose_a {a b : ByteArray} {g r z : Int} (h : wSOpen a = (g, r, z, true)) (h2 : (wSOpen b).2.2.2 = false ∨ (wSOpen b).1 ≤ g) : wChoose a b = (g, r, z, 0, true) := by
  unfold wChoose
  rw [h]
  have : andB true (orB (!(wSOpen b).2.2.2) (decide ((wSOpen b).1 ≤ g))) = true := by
    rcases h2 with h2 | h2
    · rw [h2]; rfl
    · rw [decide_eq_true h2]; cases (wSOpen b).2.2.2 <;> rfl
  simp only [this, cond_true]
theorem wChoose_b {a b : ByteArray} {g r z : Int} (h : wSOpen b = (g, r, z, true)) (h2 : (wSOpen a).2.2.2 = false ∨ (wSOpen a).1 < g) : wChoose a b = (g, r, z, 1, true) := by
  unfold wChoose
  rw [h]
  have : andB (wSOpen a).2.2.2 (orB (!true) (decide (g ≤ (wSOpen a).1))) = false := by
    rcases h2 with h2 | h2
    · rw [h2]; rfl
    · rw [decide_eq_false (by omega)]; cases (wSOpen a).2.2.2 <;> rfl
  simp only [this, cond_false, cond_true]
theorem wChoose_no {a b : ByteArray} (h : (wSOpen a).2.2.2 = false) (h2 : (wSOpen b).2.2.2 = false) : wChoose a b = (0, 0, 0, 0, false) := by
  unfold wChoose
  rw [h, h2]; rfl
theorem wCh_1 {a b : ByteArray} (h : andB (wSOpen a).2.2.2 (orB (!(wSOpen b).2.2.2) (decide ((wSOpen b).1 ≤ (wSOpen a).1))) = true) : wChoose a b = ((wSOpen a).1, (wSOpen a).2.1, (wSOpen a).2.2.1, 0, true) := by unfold wChoose; rw [h]; rfl
theorem wCh_2 {a b : ByteArray} (h : andB (wSOpen a).2.2.2 (orB (!(wSOpen b).2.2.2) (decide ((wSOpen b).1 ≤ (wSOpen a).1))) = false) (h2 : (wSOpen b).2.2.2 = true) : wChoose a b = ((wSOpen b).1, (wSOpen b).2.1, (wSOpen b).2.2.1, 1, true) := by unfold wChoose; rw [h, h2]; rfl
theorem wCh_3 {a b : ByteArray} (h : andB (wSOpen a).2.2.2 (orB (!(wSOpen b).2.2.2) (decide ((wSOpen b).1 ≤ (wSOpen a).1))) = false) (h2 : (wSOpen b).2.2.2 = false) : wChoose a b = (0, 0, 0, 0, false) := by unfold wChoose; rw [h, h2]; rfl
theorem rCh_1 {a b : ByteArray} (h : andB (wSOpen a).2.2.2 (wSOpen b).2.2.2 = true) (h2 : decide ((wSOpen a).1 < (wSOpen b).1) = true) : wChoose a b = ((wSOpen b).1, (wSOpen b).2.1, (wSOpen b).2.2.1, 1, true) := by
  cases p : (wSOpen a).2.2.2 <;> cases q : (wSOpen b).2.2.2 <;> rw [p, q] at h <;> try cases h
  have h3 := of_decide_eq_true h2
  exact wCh_2 (by rw [p, q, decide_eq_false (by omega)]; rfl) q
theorem rCh_2 {a b : ByteArray} (h : andB (wSOpen a).2.2.2 (wSOpen b).2.2.2 = true) (h2 : decide ((wSOpen a).1 < (wSOpen b).1) = false) : wChoose a b = ((wSOpen a).1, (wSOpen a).2.1, (wSOpen a).2.2.1, 0, true) := by
  cases p : (wSOpen a).2.2.2 <;> cases q : (wSOpen b).2.2.2 <;> rw [p, q] at h <;> try cases h
  have h3 := of_decide_eq_false h2
  exact wCh_1 (by rw [p, q, decide_eq_true (by omega)]; rfl)
theorem rCh_3 {a b : ByteArray} (h : andB (wSOpen a).2.2.2 (wSOpen b).2.2.2 = false) (p : (wSOpen a).2.2.2 = true) : wChoose a b = ((wSOpen a).1, (wSOpen a).2.1, (wSOpen a).2.2.1, 0, true) := by
  cases q : (wSOpen b).2.2.2 <;> rw [p, q] at h <;> try cases h
  exact wCh_1 (by rw [p, q]; rfl)
theorem rCh_4 {a b : ByteArray} (p : (wSOpen a).2.2.2 = false) (q : (wSOpen b).2.2.2 = true) : wChoose a b = ((wSOpen b).1, (wSOpen b).2.1, (wSOpen b).2.2.1, 1, true) := wCh_2 (by rw [p]; rfl) q
theorem rCh_5 {a b : ByteArray} (p : (wSOpen a).2.2.2 = false) (q : (wSOpen b).2.2.2 = false) : wChoose a b = (0, 0, 0, 0, false) := wCh_3 (by rw [p]; rfl) q
theorem wROpen_len {l : List (List Value)} {m : Nat} (h : ∀ j, (str l j).size ≤ m) : (wROpen l).1.size ≤ m * l.length := by
  have hq : (rText l).1.size ≤ m * l.length := Nat.le_trans (wTakeText_bd _ 0).2.2 (joinN_le h _)
  unfold wROpen
  generalize rText l = d at hq
  cases !d.2.2 <;> cases fstT l d.1 <;> simp only [cond_true, cond_false] <;> first | exact Nat.zero_le _ | exact hq
end Go.Proofs.Ytjpcnknegdpnoaa.RS
