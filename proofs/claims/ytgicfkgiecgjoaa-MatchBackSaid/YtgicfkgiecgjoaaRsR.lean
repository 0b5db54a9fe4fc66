/- RS, part R: regions that draw their order: operations that only read, in any order; behind them, in the text's order, those that wait for all before. -/
import Derived.Test.YtgicfkgiecgjoaaRsQ
import Derived.Deep.Quiet
set_option linter.unusedVariables false
set_option linter.unusedSimpArgs false
namespace Go.Proofs.Ytgicfkgiecgjoaa.RS
open Go Go.RowKit
/-! ### 1. The order: a head in any order, then a tail -/
section
variable {P : Program} {ops pre : Array Oper} {Q : Exit → Act → World → Prop} {md : Region.Mode}
def backB (md : Region.Mode) (ops : Array Oper) : Bool := (List.range ops.size).all fun i => match ops[i]? with
  | some o => o.after.all fun e => !Region.binds md e || Nat.blt e.on i
  | none => true
def tailB (md : Region.Mode) (ops : Array Oper) (n : Nat) : Bool := (List.range ops.size).all fun i => Nat.blt i n || match ops[i]? with
  | some o => (List.range i).all fun j => o.after.any fun e => Region.binds md e && Nat.beq e.on j
  | none => true
def headG (ops : Array Oper) (n : Nat) : Bool := (List.range n).all fun i => match ops[i]? with
  | some o => (match o.guard with | some (j, _) => Nat.blt j n | none => true)
  | none => true
theorem backB_get (h : backB md ops = true) {i : Nat} {o : Oper} (ho : ops[i]? = some o) : ∀ e ∈ o.after, Region.binds md e = true → e.on < i := by
  intro e he hb
  simp only [backB, List.all_eq_true, List.mem_range] at h
  have := h i (Array.getElem?_eq_some_iff.1 ho).1
  rw [ho] at this
  have := Array.all_eq_true_iff_forall_mem.1 this e he
  simp only [hb, Bool.not_true, Bool.false_or] at this
  exact blt_lt this
theorem tailB_get {n : Nat} (h : tailB md ops n = true) {i : Nat} {o : Oper} (ho : ops[i]? = some o) (hi : n ≤ i) {j : Nat} (hj : j < i) : ∃ e ∈ o.after, Region.binds md e = true ∧ e.on = j := by
  simp only [tailB, List.all_eq_true, List.mem_range, Bool.or_eq_true] at h
  have := (h i (Array.getElem?_eq_some_iff.1 ho).1).resolve_left (fun hb => by have := blt_lt hb; omega)
  rw [ho] at this
  simp only [List.all_eq_true, List.mem_range] at this
  obtain ⟨e, he, hb⟩ := Array.any_eq_true'.1 (this j hj)
  simp only [Bool.and_eq_true] at hb
  exact ⟨e, he, hb.1, Nat.eq_of_beq_eq_true hb.2⟩
theorem getD_tf {l : Array Bool} {i : Nat} (h : i < l.size) : l.getD i true = l.getD i false := by simp [Array.getD, h]
theorem wpAny_tail (hb : backB md ops = true) {n : Nat} (htl : tailB md ops n = true) : ∀ (m k fuel : Nat) (listed : Array Bool) (a : Act) (w : World), k + m = ops.size → n ≤ k → m ≤ fuel → listed.size = ops.size → (∀ j, j < ops.size → listed.getD j false = decide (j < k)) →
    wpOps P ops Q (List.range' k m) a w → wpAny P md ops Q fuel listed a w := by
  intro m
  induction m with
  | zero =>
    intro k fuel listed a w hk hn hf hs hl h
    have hr : Region.ready md ops listed = [] := by
      rw [List.eq_nil_iff_forall_not_mem]
      intro i hi
      obtain ⟨h1, o, ho, _⟩ := mem_ready.1 hi
      have hlt := (Array.getElem?_eq_some_iff.1 ho).1
      rw [getD_tf (by omega), hl i hlt, decide_eq_false_iff_not] at h1
      omega
    exact wpAny_done hr (by simpa [wpOps] using h) fuel
  | succ m ih =>
    intro k fuel listed a w hk hn hf hs hl h
    obtain ⟨fuel, rfl⟩ : ∃ f, fuel = f + 1 := ⟨fuel - 1, by omega⟩
    have hklt : k < ops.size := by omega
    have hko : ops[k]? = some ops[k] := Array.getElem?_eq_getElem hklt
    have hkr : k ∈ Region.ready md ops listed := mem_ready.2 ⟨by rw [getD_tf (by omega), hl k hklt]; simp, _, hko, fun e he hbi => by
      have := backB_get hb hko e he hbi
      rw [hl _ (by omega)]; simpa using this⟩
    refine ⟨fun h0 => (by rw [h0] at hkr; cases hkr), fun i hi => ?_⟩
    have hik : i = k := by
      obtain ⟨h1, o, ho, hall⟩ := mem_ready.1 hi
      have hlt := (Array.getElem?_eq_some_iff.1 ho).1
      rw [getD_tf (by omega), hl i hlt, decide_eq_false_iff_not] at h1
      apply Classical.byContradiction
      intro hne
      obtain ⟨e, he, hbi, hon⟩ := tailB_get htl ho (by omega) (show k < i by omega)
      have := hall e he hbi
      rw [hon, hl k hklt] at this
      simp at this
    subst hik
    rw [List.range'_succ, wpOps_cons] at h
    refine wpOp_mono (fun a w h => ih (i + 1) fuel _ a w (by omega) (by omega) (by omega) (by simpa using hs) (fun j hj => ?_) h) h
    by_cases e : i = j
    · subst e
      simp [Array.getD, hs, hj]
    · rw [getD_set_ne false e, hl j hj]
      congr 1
      exact propext ⟨fun h => by omega, fun h => by omega⟩
theorem ready_all (hb : backB md pre = true) {l : Array Bool} (hs : l.size = pre.size) (h : Region.ready md pre l = []) : ∀ j, j < pre.size → l.getD j false = true := by
  intro j
  induction j using Nat.strongRecOn with
  | ind j ih =>
    intro hj
    apply Classical.byContradiction
    intro hf
    have hjo : pre[j]? = some pre[j] := Array.getElem?_eq_getElem hj
    have : j ∈ Region.ready md pre l := mem_ready.2 ⟨by rw [getD_tf (by omega)]; simpa using hf, _, hjo, fun e he hbi => by
      have := backB_get hb hjo e he hbi
      exact ih _ this (by omega)⟩
    rw [h] at this
    cases this
theorem wpAny_head (hb : backB md ops = true) (hbp : backB md pre = true) {n m : Nat} (hn : pre.size = n) (hsz : ops.size = n + m) (hpre : ∀ i, i < n → pre[i]? = ops[i]?) (htl : tailB md ops n = true) (hg : headG ops n = true) {D : World → Prop} {Qa : Act → Prop}
    (hQ : ∀ a w, D w → Qa a → wpOps P ops Q (List.range' n m) a w) : ∀ (fuel : Nat) (lp listed : Array Bool) (a : Act) (w : World), lp.size = n → listed.size = ops.size → (∀ j, j < n → listed.getD j false = lp.getD j false) → (∀ j, n ≤ j → j < ops.size → listed.getD j false = false) → D w →
      wpAnyQ P md pre D Qa fuel lp a → wpAny P md ops Q (fuel + m) listed a w := by
  have fin : ∀ (fuel : Nat) (lp listed : Array Bool) (a : Act) (w : World), lp.size = n → listed.size = ops.size → (∀ j, j < n → listed.getD j false = lp.getD j false) → (∀ j, n ≤ j → j < ops.size → listed.getD j false = false) → D w → Region.ready md pre lp = [] → Qa a → wpAny P md ops Q (fuel + m) listed a w := by
    intro fuel lp listed a w h1 h2 h3 h4 hD hr h
    refine wpAny_tail hb htl m n (fuel + m) listed a w (by omega) (Nat.le_refl _) (by omega) h2 (fun j hj => ?_) (hQ a w hD h)
    rcases Nat.lt_or_ge j n with hl | hl
    · rw [h3 j hl, ready_all hbp (by omega) hr j (by omega)]; simp [hl]
    · rw [h4 j hl hj]; simp; omega
  intro fuel
  induction fuel with
  | zero => intro lp listed a w h1 h2 h3 h4 hD h; exact fin 0 lp listed a w h1 h2 h3 h4 hD h.1 h.2
  | succ fuel ih =>
    intro lp listed a w h1 h2 h3 h4 hD h
    by_cases hr : Region.ready md pre lp = []
    · exact fin (fuel + 1) lp listed a w h1 h2 h3 h4 hD hr (h.1 hr)
    · have heq : ∀ i, i ∈ Region.ready md ops listed ↔ i ∈ Region.ready md pre lp := by
        intro i
        rw [mem_ready, mem_ready]
        rcases Nat.lt_or_ge i n with hl | hl
        · rw [getD_tf (by omega), getD_tf (by omega), h3 i hl, hpre i hl]
          refine and_congr_right fun _ => exists_congr fun o => and_congr_right fun ho => ?_
          refine forall_congr' fun e => forall_congr' fun he => forall_congr' fun hbi => ?_
          rw [h3 _ (Nat.lt_trans (backB_get hb ho e he hbi) hl)]
        · refine ⟨fun ⟨_, o, ho, hall⟩ => ?_, fun ⟨_, o, ho, _⟩ => ?_⟩
          · exfalso
            apply hr
            rw [List.eq_nil_iff_forall_not_mem]
            intro k hk
            obtain ⟨k1, ok, hok, _⟩ := mem_ready.1 hk
            have hkn := (Array.getElem?_eq_some_iff.1 hok).1
            obtain ⟨e, he, hbi, hon⟩ := tailB_get htl ho hl (show k < i by omega)
            have := hall e he hbi
            rw [getD_tf (by omega)] at k1
            rw [hon, h3 k (by omega), k1] at this
            cases this
          · have := (Array.getElem?_eq_some_iff.1 ho).1; omega
      rw [show fuel + 1 + m = (fuel + m) + 1 by omega]
      refine ⟨fun h0 => ?_, fun i hi => ?_⟩
      · exfalso
        apply hr
        rw [List.eq_nil_iff_forall_not_mem]
        intro k hk
        have := (heq k).2 hk
        rw [h0] at this
        cases this
      · have hi' := (heq i).1 hi
        have hq := h.2 i hi'
        obtain ⟨_, o, ho, _⟩ := mem_ready.1 hi'
        have hin := (Array.getElem?_eq_some_iff.1 ho).1
        have hoo : ops[i]? = some o := by rw [← hpre i (by omega)]; exact ho
        have hK : ∀ a w', D w' → wpAnyQ P md pre D Qa fuel (lp.setIfInBounds i true) a → wpAny P md ops Q (fuel + m) (listed.setIfInBounds i true) a w' := fun a w' hD' h => by
          refine ih _ _ a w' (by simpa using h1) (by simpa using h2) (fun j hj => ?_) (fun j hj hj' => ?_) hD' h
          · by_cases e : i = j
            · subst e; simp [Array.getD, h1, h2, hj, show i < ops.size by omega]
            · rw [getD_set_ne false e, getD_set_ne false e, h3 j hj]
          · rw [getD_set_ne false (by omega), h4 j hj hj']
        have hy : Region.wanted o (yielded ops a.tmps) = Region.wanted o (yielded pre a.tmps) := by
          unfold Region.wanted
          cases hgo : o.guard with
          | none => rfl
          | some gw =>
            obtain ⟨j, want⟩ := gw
            simp only [headG, List.all_eq_true, List.mem_range] at hg
            have := hg i (by omega)
            rw [hoo] at this
            simp only [hgo] at this
            have hjn := blt_lt this
            simp only [yielded, hpre j hjn]
        unfold qOp at hq
        simp only [ho] at hq
        unfold wpOp
        simp only [hoo, hy]
        split
        · rename_i hw
          simp only [hw, if_true] at hq
          exact .inl (Oper.wp_of_quiet hD hK hq)
        · rename_i hw
          simp only [hw] at hq
          exact hK _ _ hD hq
/-- A region that draws: its head, of operations that are quiet, is walked once; its tail waits. -/
theorem wp_region_cut {id n m : Nat} {a : Act} {w : World} {D : World → Prop} {Qa : Act → Prop} (hm : P.follows .mixedOrders = true) (hb : backB .any ops = true) (hbp : backB .any pre = true) (hlex : Region.lexB .any pre = true) (hn : pre.size = n) (hsz : ops.size = n + m) (hpre : ∀ i, i < n → pre[i]? = ops[i]?)
    (htl : tailB .any ops n = true) (hg : headG ops n = true) (hD : D { w with drawn := w.drawn + 1 }) (hQ : ∀ a w, D w → Qa a → wpOps P ops Q (List.range' n m) a w) (h : wpQuiet P pre D Qa pre.toList a) : (Code.region id ops true).wp P Q a w := by
  simp only [Region.lexB, Bool.and_eq_true] at hlex
  have h1 := wpAnyQ_lex (C := D) (md := .any) hlex.1 pre.toList 0 (Array.replicate pre.size false) a (by simp) (by simpa using hlex.2) h
  refine wp_region_any hm ?_
  rw [hsz]
  have h2 := wpAny_head (Q := Q) hb hbp hn hsz hpre htl hg hQ pre.toList.length (Array.replicate pre.size false) (Array.replicate ops.size false) a _ (by simpa using hn) (by simp) (fun j hj => by simp [Array.getD, hn, hj, show j < ops.size by omega]) (fun j _ hj => by simp [Array.getD, hj]) hD h1
  rw [hsz] at h2
  simpa [hn] using h2
end
end Go.Proofs.Ytgicfkgiecgjoaa.RS
