/- Sealed texts in pieces of 32 bytes: what the functions of chapter 11 compute; plain, no program. -/
import Derived.Test.YtjpcnknegdpnoaaRsShelf
import Derived.Test.YtjpcnknegdpnoaaRsCrc
import Derived.Test.YtjpcnknegdpnoaaRsWireL
set_option linter.unusedVariables false
set_option linter.unusedSimpArgs false
namespace Go.Proofs.Ytjpcnknegdpnoaa.RS
open Go Go.RowKit
theorem rep1_len (c : Nat) : (rep1 c).size = c := by simp [rep1, ByteArray.size]
theorem rep1_succ (c : Nat) : rep1 c ++ (⟨#[0]⟩ : ByteArray) = rep1 (c + 1) := by
  apply ByteArray.ext
  rw [ByteArray.data_append]
  simp only [rep1]
  rw [List.replicate_succ']
  exact List.push_toArray _ _
def padT (s : ByteArray) : ByteArray := s ++ rep1 ((32 - s.size % 32) % 32)
theorem padT_len (s : ByteArray) : (padT s).size % 32 = 0 ∧ s.size ≤ (padT s).size ∧ (padT s).size < s.size + 32 := by
  unfold padT; rw [ByteArray.size_append, rep1_len]; omega
def pcs (t : ByteArray) : Nat → List (List Value)
  | 0 => []
  | k + 1 => pcs t k ++ [[Value.string (t.extract (32 * k) (32 * k + 32))]]
theorem pcs_len (t : ByteArray) : ∀ k, (pcs t k).length = k
  | 0 => rfl
  | k + 1 => by simp [pcs, pcs_len t k]
def wBody (s : ByteArray) : ByteArray := padT (cSeal (wText s))
theorem wBody_len (s : ByteArray) : (wBody s).size % 32 = 0 ∧ (wNum (s.size : Int)).size + s.size + 4 ≤ (wBody s).size ∧ (wBody s).size < (wNum (s.size : Int)).size + s.size + 36 := by
  have h := padT_len (cSeal (wText s))
  have h2 := wText_le s
  rw [cSeal_len] at h
  unfold wBody
  omega
def wLay (s : ByteArray) : List (List Value) := pcs (wBody s) ((wBody s).size / 32)
theorem wLay_len (s : ByteArray) : (wLay s).length = (wBody s).size / 32 := pcs_len _ _
theorem wLay_le (s : ByteArray) : 1 ≤ (wLay s).length ∧ (wLay s).length ≤ s.size + 2 := by
  have h := wBody_len s
  have h2 := wText_le s
  have h3 := wNum_le (s.size : Int)
  rw [wLay_len]
  omega
/-- A row of texts like another. -/
def sameT (xs ys : List (List Value)) : Bool := decide (xs.length = ys.length ∧ ∀ i, i < xs.length → str xs i = str ys i)
theorem sameT_len {xs ys : List (List Value)} (h : ¬ (xs.length : Int) = (ys.length : Int)) : sameT xs ys = false := decide_eq_false fun hh => h (by rw [hh.1])
theorem sameT_at {xs ys : List (List Value)} {i : Int} (h0 : 0 ≤ i) (hi : i < (xs.length : Int)) (h : ¬ str xs i.toNat = str ys i.toNat) : sameT xs ys = false := decide_eq_false fun hh => h (hh.2 i.toNat (by omega))
theorem sameT_all {xs ys : List (List Value)} (hl : (xs.length : Int) = (ys.length : Int)) (h : ∀ i, i < xs.length → str xs i = str ys i) : sameT xs ys = true := decide_eq_true ⟨by omega, h⟩
theorem sameT_iff {xs ys : List (List Value)} : sameT xs ys = true ↔ xs.length = ys.length ∧ ∀ i, i < xs.length → str xs i = str ys i := decide_eq_true_iff
def wNeed (n : Int) : Int := bif orB (decide (n < 0)) (decide (1000000 < n)) then 0 else (((((wNum n).size : Int) + n) + 4) + 32 - 1) / 32
def wSect (n : Int) : Int := bif decide (n ≤ 0) then 0 else ((n - 1) / 32) + 1
theorem wNeed_1 {n : Int} (h : orB (decide (n < 0)) (decide (1000000 < n)) = true) : wNeed n = 0 := by unfold wNeed; rw [h]; rfl
theorem wNeed_2 {n : Int} (h : orB (decide (n < 0)) (decide (1000000 < n)) = false) : wNeed n = (((((wNum n).size : Int) + n) + 4) + 32 - 1) / 32 := by unfold wNeed; rw [h]; rfl
theorem wNeed_3 {n : Int} (h : orB (decide (n < 0)) (decide (1000000 < n)) = false) : wNeed n = wSect ((((wNum n).size : Int) + n) + 4) := by
  rw [wNeed_2 h]
  simp [orB] at h
  unfold wSect
  rw [decide_eq_false (by omega), cond_false]
  omega
def opMany (l : List (List Value)) : Int := bif decide ((wTake (str l 0) 0).1 ≤ 1000000) then wNeed (wTake (str l 0) 0).1 else (l.length : Int)
def opHead (l : List (List Value)) : List (List Value) := (l.take (opMany l).toNat).drop 0
def opText (l : List (List Value)) : ByteArray × Int × Bool := wTakeText (joinN (opHead l) (opHead l).length) 0
def opC2 (l : List (List Value)) : Bool := orB (orB (!(wTake (str l 0) 0).2.2) (decide ((l.length : Int) < wNeed (wTake (str l 0) 0).1))) (andB (decide (1000000 < (wTake (str l 0) 0).1)) (decide (32 * (l.length : Int) < (wTake (str l 0) 0).1)))
def fstT (l : List (List Value)) (s : ByteArray) : Bool := orB (decide ((l.length : Int) < ((wLay s).length : Int))) (!(sameT (wLay s) ((l.take (wLay s).length).drop 0)))
def noT : ByteArray × Bool := (ByteArray.empty, false)
def wOpen (l : List (List Value)) : ByteArray × Bool :=
  bif decide ((l.length : Int) = 0) then noT else bif opC2 l then noT else bif !(opText l).2.2 then noT else bif fstT l (opText l).1 then noT else ((opText l).1, true)
theorem wOpen_1 {l : List (List Value)} (h1 : decide ((l.length : Int) = 0) = true) : wOpen l = noT := by unfold wOpen; rw [h1]; rfl
theorem wOpen_2 {l : List (List Value)} (h1 : decide ((l.length : Int) = 0) = false) (h2 : opC2 l = true) : wOpen l = noT := by unfold wOpen; rw [h1, h2]; rfl
theorem wOpen_3 {l : List (List Value)} (h1 : decide ((l.length : Int) = 0) = false) (h2 : opC2 l = false) (h3 : (!(opText l).2.2) = true) : wOpen l = noT := by unfold wOpen; rw [h1, h2, h3]; rfl
theorem wOpen_4 {l : List (List Value)} (h1 : decide ((l.length : Int) = 0) = false) (h2 : opC2 l = false) (h3 : (!(opText l).2.2) = false) (h4 : fstT l (opText l).1 = true) : wOpen l = noT := by unfold wOpen; rw [h1, h2, h3, h4]; rfl
theorem wOpen_5 {l : List (List Value)} (h1 : decide ((l.length : Int) = 0) = false) (h2 : opC2 l = false) (h3 : (!(opText l).2.2) = false) (h4 : fstT l (opText l).1 = false) : wOpen l = ((opText l).1, true) := by unfold wOpen; rw [h1, h2, h3, h4]; rfl
def rText (l : List (List Value)) : ByteArray × Int × Bool := wTakeText (joinN l l.length) 0
def wROpen (l : List (List Value)) : ByteArray × Bool := bif !(rText l).2.2 then noT else bif fstT l (rText l).1 then noT else ((rText l).1, true)
theorem wROpen_1 {l : List (List Value)} (h1 : (!(rText l).2.2) = true) : wROpen l = noT := by unfold wROpen; rw [h1]; rfl
theorem wROpen_2 {l : List (List Value)} (h1 : (!(rText l).2.2) = false) (h2 : fstT l (rText l).1 = true) : wROpen l = noT := by unfold wROpen; rw [h1, h2]; rfl
theorem wROpen_3 {l : List (List Value)} (h1 : (!(rText l).2.2) = false) (h2 : fstT l (rText l).1 = false) : wROpen l = ((rText l).1, true) := by unfold wROpen; rw [h1, h2]; rfl
theorem fstT_1 {l : List (List Value)} {s : ByteArray} (h : decide ((l.length : Int) < ((wLay s).length : Int)) = true) : fstT l s = true := by unfold fstT; rw [h]; rfl
theorem fstT_2 {l : List (List Value)} {s : ByteArray} (h : decide ((l.length : Int) < ((wLay s).length : Int)) = false) : fstT l s = !(sameT (wLay s) ((l.take (wLay s).length).drop 0)) := by unfold fstT; rw [h]; rfl
theorem joinN_le {l : List (List Value)} {m : Nat} (h : ∀ j : Nat, (str l j).size ≤ m) : ∀ k, (joinN l k).size ≤ m * k
  | 0 => by simp [joinN]
  | k + 1 => by
    rw [joinN, ByteArray.size_append, Nat.mul_succ]
    have := joinN_le h k
    have := h k
    omega
theorem cellAt_take (l : List (List Value)) (k j o : Nat) (h : j < k) : cellAt (l.take k) j o = cellAt l j o := by
  unfold cellAt
  congr 1
  simp only [List.getD, List.getElem?_take, if_pos h]
theorem str_take (l : List (List Value)) (k j : Nat) (h : j < k) : str (l.take k) j = str l j := by unfold str; rw [cellAt_take l k j 0 h]
theorem str_out (l : List (List Value)) (j : Nat) (h : l.length ≤ j) : str l j = ByteArray.empty := by
  unfold str cellAt
  simp [List.getD, List.getElem?_eq_none h, vS, undef]
theorem joinN_head {l : List (List Value)} {m : Nat} (h : ∀ j : Nat, (str l j).size ≤ m) (k : Nat) : (joinN ((l.take k).drop 0) ((l.take k).drop 0).length).size ≤ m * l.length := by
  rw [List.drop_zero]
  have h2 := joinN_le (l := l.take k) (m := m) (fun j => by
    by_cases hj : j < k
    · rw [str_take l k j hj]; exact h j
    · rw [str_out _ _ (by rw [List.length_take]; omega)]; exact Nat.zero_le _) (l.take k).length
  refine Nat.le_trans h2 (Nat.mul_le_mul_left m ?_)
  rw [List.length_take]; omega
theorem need_bd (n : Int) : 0 ≤ wNeed n ∧ wNeed n ≤ 31251 := by
  have := wNum_le n
  cases h : orB (decide (n < 0)) (decide (1000000 < n)) with
  | true => rw [wNeed_1 h]; omega
  | false =>
    rw [wNeed_2 h]
    simp [orB] at h
    omega
theorem many_bd {c L : Int} (h0 : 0 ≤ wNeed c) (h1 : wNeed c ≤ L) : 0 ≤ (bif decide (c ≤ 1000000) then wNeed c else L) ∧ (bif decide (c ≤ 1000000) then wNeed c else L) ≤ L := by
  cases decide (c ≤ 1000000) <;> simp only [cond_true, cond_false] <;> omega
def okS (l : List (List Value)) : Bool := l.all fun x => decide ((vS (x.getD 0 undef)).size ≤ 1000000)
theorem okS_hk {l : List (List Value)} (h : okS l = true) (j : Nat) : (str l j).size ≤ 1000000 := by
  by_cases hj : j < l.length
  · have h2 := List.all_eq_true.1 h l[j] (List.getElem_mem hj)
    have h3 := of_decide_eq_true h2
    unfold str cellAt
    rwa [show l.getD j [] = l[j] by simp [List.getD, hj]]
  · rw [str_out l j (by omega)]; exact Nat.zero_le _
def smallT (l : List (List Value)) : Bool := decide ((l.length : Int) ≤ 60) && l.all fun x => decide ((vS (x.getD 0 undef)).size ≤ 200)
theorem str_get (l : List (List Value)) (j : Nat) (hj : j < l.length) : str l j = vS (l[j].getD 0 undef) := by
  unfold str cellAt
  rw [show l.getD j [] = l[j] by simp [List.getD, hj]]
theorem smallT_hj {l : List (List Value)} (h : smallT l = true) : (l.length : Int) ≤ 60 ∧ ∀ j, (str l j).size ≤ 200 := by
  unfold smallT at h
  rw [Bool.and_eq_true, decide_eq_true_eq] at h
  refine ⟨h.1, fun j => ?_⟩
  by_cases hj : j < l.length
  · have h2 := of_decide_eq_true (List.all_eq_true.1 h.2 l[j] (List.getElem_mem hj))
    rwa [str_get l j hj]
  · rw [str_out l j (by omega)]; exact Nat.zero_le _
theorem smallT_no {l : List (List Value)} {i : Int} (h0 : 0 ≤ i) (h1 : i < (l.length : Int)) (h : (200 : Int) < ((vS (cellAt l i.toNat 0)).size : Int)) : smallT l = false := by
  cases hs : smallT l with
  | false => rfl
  | true => have := (smallT_hj hs).2 i.toNat; unfold str at this; omega
theorem smallT_yes {l : List (List Value)} (h : ∀ j : Nat, j < l.length → ((vS (cellAt l j 0)).size : Int) ≤ 200) : smallT l = decide ((l.length : Int) ≤ 60) := by
  unfold smallT
  rw [show (l.all fun x => decide ((vS (x.getD 0 undef)).size ≤ 200)) = true from List.all_eq_true.2 fun x hx => by
    obtain ⟨j, hj, rfl⟩ := List.getElem_of_mem hx
    have h2 := h j hj
    have h3 := str_get l j hj
    unfold str at h3
    rw [h3] at h2
    exact decide_eq_true (by omega)]
  simp
theorem hj_nil {m : Nat} (j : Nat) : (str [] j).size ≤ m := by rw [str_out [] j (Nat.zero_le _)]; exact Nat.zero_le _
theorem str_app (l m : List (List Value)) (j : Nat) : str (l ++ m) j = if j < l.length then str l j else str m (j - l.length) := by
  unfold str cellAt
  by_cases h : j < l.length
  · rw [if_pos h]; simp [List.getD, List.getElem?_append_left h]
  · rw [if_neg h]; simp [List.getD, List.getElem?_append_right (Nat.le_of_not_lt h)]
theorem hj_app {xs ys : List (List Value)} {m : Nat} (h1 : ∀ j, (str xs j).size ≤ m) (h2 : ∀ j, (str ys j).size ≤ m) (j : Nat) : (str (xs ++ ys) j).size ≤ m := by
  rw [str_app]; split
  · exact h1 _
  · exact h2 _
theorem hj_take {xs : List (List Value)} {m : Nat} (h : ∀ j, (str xs j).size ≤ m) (k : Nat) (j : Nat) : (str ((xs.take k).drop 0) j).size ≤ m := by
  rw [List.drop_zero]
  by_cases hj : j < k
  · rw [str_take xs k j hj]; exact h j
  · rw [str_out _ _ (by rw [List.length_take]; omega)]; exact Nat.zero_le _
theorem str_set (l : List (List Value)) (k : Nat) (s : ByteArray) (j : Nat) : str (l.set k [Value.string s]) j = if j = k ∧ k < l.length then s else str l j := by
  unfold str cellAt
  by_cases h : j = k
  · subst h
    by_cases hl : j < l.length
    · rw [if_pos ⟨rfl, hl⟩]; simp [List.getD, hl, vS]
    · rw [if_neg (by omega), List.set_eq_of_length_le (Nat.le_of_not_lt hl)]
  · rw [if_neg (by omega)]; simp [List.getD, List.getElem?_set_ne (Ne.symm h)]
theorem hj_set {xs : List (List Value)} {m k : Nat} {s : ByteArray} (h : ∀ j, (str xs j).size ≤ m) (hs : s.size ≤ m) (j : Nat) : (str (xs.set k [Value.string s]) j).size ≤ m := by
  rw [str_set]; split
  · exact hs
  · exact h j
theorem pcs_str (t : ByteArray) : ∀ k j, j < k → str (pcs t k) j = t.extract (32 * j) (32 * j + 32)
  | 0, j, h => by omega
  | k + 1, j, h => by
    rw [pcs, str_app, pcs_len]
    by_cases hj : j < k
    · rw [if_pos hj, pcs_str t k j hj]
    · rw [if_neg hj, show j = k by omega, Nat.sub_self]; rfl
theorem wLay_str (s : ByteArray) {j : Nat} (h : j < (wLay s).length) : str (wLay s) j = (wBody s).extract (32 * j) (32 * j + 32) := pcs_str _ _ _ (by rwa [wLay_len] at h)
theorem wLay_32 (s : ByteArray) {j : Nat} (h : j < (wLay s).length) : (str (wLay s) j).size = 32 := by
  rw [wLay_str s h, ByteArray.size_extract]
  rw [wLay_len] at h
  omega
theorem wLay_hj (s : ByteArray) (j : Nat) : (str (wLay s) j).size ≤ 1000000 := by
  by_cases h : j < (wLay s).length
  · rw [wLay_32 s h]; omega
  · rw [str_out _ _ (by omega)]; exact Nat.zero_le _
theorem need_lay (s : ByteArray) (h : (s.size : Int) ≤ 1000000) : ((wLay s).length : Int) = wNeed (s.size : Int) := by
  rw [wNeed_2 (by simp [orB]; omega), wLay_len]
  have := wBody_len s
  omega
theorem needs_all {n m : Int} (h0 : 0 ≤ n) (h1 : n ≤ m) (h2 : m ≤ 1000000) : wNeed n ≤ wNeed m ∧ n + 4 < 32 * wNeed n := by
  rw [wNeed_2 (by simp [orB]; omega), wNeed_2 (by simp [orB]; omega)]
  have e1 := wNum_size (n := n) h0 (by omega)
  have e2 := wNum_size (n := m) (by omega) (by omega)
  have := enc_mono 5 n m h0 h1
  have := enc_len 5 n
  omega
theorem wOpen_len {l : List (List Value)} {m : Nat} (h : ∀ j, (str l j).size ≤ m) : (wOpen l).1.size ≤ m * l.length := by
  have hq : (opText l).1.size ≤ m * l.length := Nat.le_trans (wTakeText_bd _ 0).2.2 (joinN_head h _)
  unfold wOpen
  generalize opText l = d at hq
  cases decide ((l.length : Int) = 0) <;> cases opC2 l <;> cases !d.2.2 <;> cases fstT l d.1 <;> simp only [cond_true, cond_false] <;> first | exact Nat.zero_le _ | exact hq
/-! ### For the walks -/
theorem ext_ext (s : ByteArray) (a b c : Nat) (h : a + c ≤ b) : (s.extract a b).extract 0 c = s.extract a (a + c) := by
  apply ByteArray.ext
  simp only [ByteArray.data_extract, Array.extract_extract]
  congr 1
  omega
theorem ext_tail (s : ByteArray) (a c : Nat) (h : a + c ≤ s.size) : (s.extract a s.size).extract c (s.extract a s.size).size = s.extract (a + c) s.size := by
  apply ByteArray.ext
  have : (s.extract a s.size).size = s.size - a := by rw [ByteArray.size_extract]; omega
  rw [this]
  simp only [ByteArray.data_extract, Array.extract_extract]
  congr 1
  omega
theorem ext_all (s : ByteArray) : s.extract 0 s.size = s := by
  apply ByteArray.ext
  simp only [ByteArray.data_extract, ByteArray.size, Array.extract_size]
theorem padT_add {s : ByteArray} {n : Int} (hn : n = (s.size : Int) % 32) (h : 0 < n) : s ++ rep1 (32 - n).toNat = padT s := by
  unfold padT
  rw [show (32 - n).toNat = (32 - s.size % 32) % 32 by omega]
theorem padT_no {s : ByteArray} (h : ¬ 0 < (s.size : Int) % 32) : padT s = s := by
  unfold padT
  rw [show (32 - s.size % 32) % 32 = 0 by omega]
  apply ByteArray.ext
  simp [rep1]
theorem padT_if (s : ByteArray) : (bif decide (0 < (s.size : Int) % 32) then s ++ rep1 (32 - (s.size : Int) % 32).toNat else s) = padT s := by
  by_cases h : 0 < (s.size : Int) % 32
  · rw [decide_eq_true h, cond_true]; exact padT_add rfl h
  · rw [decide_eq_false h, cond_false, padT_no h]
end Go.Proofs.Ytjpcnknegdpnoaa.RS
