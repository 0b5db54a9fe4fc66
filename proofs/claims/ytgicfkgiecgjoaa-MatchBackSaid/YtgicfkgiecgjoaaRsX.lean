/- RS, part X: the rule for regions of part W. -/
import Derived.Test.YtgicfkgiecgjoaaRsW
set_option linter.unusedVariables false
set_option linter.unusedSimpArgs false
namespace Go.Proofs.Ytgicfkgiecgjoaa.RS
open Go Go.RowKit
def hops (P : Program) (tt : TT) (nt : Nat) (all : Array Oper) (b : St) (tab : List HOp) : Nat → List An → List Oper → Option (List HOp × List Prop)
  | _, _, [] => some ([], [])
  | k, ans, o :: os => match hop1 P tt nt all b tab k (hd ans) o with
    | some (h, ob) => match hops P tt nt all b tab (k + 1) (tl ans) os with
      | some (hs, obs) => some (h :: hs, ob ++ obs)
      | none => none
    | none => none
theorem hops_get {P : Program} {tt : TT} {nt : Nat} {all : Array Oper} {b : St} {tab : List HOp} : ∀ {os : List Oper} {k : Nat} {ans : List An} {hs : List HOp} {obs : List Prop}, hops P tt nt all b tab k ans os = some (hs, obs) →
    hs.length = os.length ∧ ∀ (j : Nat) (o : Oper), os[j]? = some o → ∃ h an ob, hs[j]? = some h ∧ hop1 P tt nt all b tab (k + j) an o = some (h, ob) ∧ ∀ q ∈ ob, q ∈ obs
  | [], k, ans, hs, obs, h => by
    simp only [hops, Option.some.injEq, Prod.mk.injEq] at h
    obtain ⟨rfl, rfl⟩ := h
    exact ⟨rfl, fun j o h => by simp at h⟩
  | o :: os, k, ans, hs, obs, h => by
    simp only [hops] at h
    split at h
    case h_2 => cases h
    rename_i h0 ob h1
    split at h
    case h_2 => cases h
    rename_i hs' obs' h2
    simp only [Option.some.injEq, Prod.mk.injEq] at h
    obtain ⟨rfl, rfl⟩ := h
    obtain ⟨k1, k2⟩ := hops_get h2
    refine ⟨by simp [k1], fun j o' hj => ?_⟩
    cases j with
    | zero =>
      simp at hj
      subst hj
      exact ⟨h0, _, ob, rfl, h1, fun q hq => List.mem_append_left _ hq⟩
    | succ j =>
      obtain ⟨h', an, ob', e1, e2, e3⟩ := k2 j o' (by simpa using hj)
      exact ⟨h', an, ob', by simpa using e1, by rw [show k + (j + 1) = k + 1 + j by omega]; exact e2, fun q hq => List.mem_append_right _ (e3 q hq)⟩
def tailT (ops : Array Oper) (n : Nat) : Bool := (List.range ops.size).all fun i => Nat.blt i n || (List.range i).all fun j => reachO ops ops.size i j
section
variable {P : Program} {ops : Array Oper} {Q : Exit → Act → World → Prop}
def ClosedA (ops : Array Oper) (listed : Array Bool) : Prop := ∀ (j : Nat) (o : Oper), ops[j]? = some o → listed.getD j false = true → ∀ e ∈ o.after, Region.binds .any e = true → listed.getD e.on false = true
theorem reach_listed {listed : Array Bool} (hc : ClosedA ops listed) : ∀ (f i j : Nat), reachO ops f i j = true → (∀ o, ops[i]? = some o → ∀ e ∈ o.after, Region.binds .any e = true → listed.getD e.on false = true) → listed.getD j false = true
  | f + 1, i, j, h, hd => by
    simp only [reachO] at h
    split at h
    case h_2 => cases h
    rename_i o ho
    obtain ⟨e, he, hb⟩ := Array.any_eq_true'.1 h
    simp only [Bool.and_eq_true, Bool.or_eq_true] at hb
    have hl := hd o ho e he hb.1
    rcases hb.2 with h1 | h1
    · rw [← Nat.eq_of_beq_eq_true h1]; exact hl
    · exact reach_listed hc f e.on j h1 (fun o' ho' => hc e.on o' ho' hl)
theorem tailT_get {n : Nat} (h : tailT ops n = true) {i j : Nat} (hi : i < ops.size) (hn : n ≤ i) (hj : j < i) : reachO ops ops.size i j = true := by
  simp only [tailT, List.all_eq_true, List.mem_range, Bool.or_eq_true] at h
  exact ((h i hi).resolve_left (fun hb => by have := blt_lt hb; omega)) j hj
theorem wpAny_tailT (hb : backB .any ops = true) {n : Nat} (htl : tailT ops n = true) : ∀ (m k fuel : Nat) (listed : Array Bool) (a : Act) (w : World), k + m = ops.size → n ≤ k → m ≤ fuel → listed.size = ops.size → (∀ j, j < ops.size → listed.getD j false = decide (j < k)) →
    wpOps P ops Q (List.range' k m) a w → wpAny P .any ops Q fuel listed a w := by
  intro m
  induction m with
  | zero =>
    intro k fuel listed a w hk hn hf hs hl h
    have hr : Region.ready .any ops listed = [] := by
      rw [List.eq_nil_iff_forall_not_mem]
      intro i hi
      obtain ⟨h1, o, ho, _⟩ := mem_ready.1 hi
      have hlt := (Array.getElem?_eq_some_iff.1 ho).1
      rw [getD_tf (by omega), hl i hlt, decide_eq_false_iff_not] at h1
      omega
    exact wpAny_done hr (by simpa [wpOps] using h) fuel
  | succ m ih =>
    intro k fuel listed a w hk hn hf hs hl h
    obtain ⟨fuel, rfl⟩ : ∃ f, fuel = f + 1 := ⟨fuel - 1, by omega⟩
    have hklt : k < ops.size := by omega
    have hko : ops[k]? = some ops[k] := Array.getElem?_eq_getElem hklt
    have hkr : k ∈ Region.ready .any ops listed := mem_ready.2 ⟨by rw [getD_tf (by omega), hl k hklt]; simp, _, hko, fun e he hbi => by
      have := backB_get hb hko e he hbi
      rw [hl _ (by omega)]; simpa using this⟩
    have hcl : ClosedA ops listed := fun j o ho hj e he hbi => by
      have h1 := backB_get hb ho e he hbi
      have h2 := (Array.getElem?_eq_some_iff.1 ho).1
      rw [hl j h2, decide_eq_true_eq] at hj
      rw [hl _ (by omega), decide_eq_true_eq]; omega
    refine ⟨fun h0 => (by rw [h0] at hkr; cases hkr), fun i hi => ?_⟩
    have hik : i = k := by
      obtain ⟨h1, o, ho, hall⟩ := mem_ready.1 hi
      have hlt := (Array.getElem?_eq_some_iff.1 ho).1
      rw [getD_tf (by omega), hl i hlt, decide_eq_false_iff_not] at h1
      apply Classical.byContradiction
      intro hne
      have := reach_listed hcl _ _ _ (tailT_get htl hlt (by omega) (show k < i by omega)) (fun o' ho' => by rw [ho] at ho'; obtain rfl := Option.some.inj ho'; exact hall)
      rw [hl k hklt] at this
      simp at this
    subst hik
    rw [List.range'_succ, wpOps_cons] at h
    refine wpOp_mono (fun a w h => ih (i + 1) fuel _ a w (by omega) (by omega) (by omega) (by simpa using hs) (fun j hj => ?_) h) h
    by_cases e : i = j
    · subst e
      simp [Array.getD, hs, hj]
    · rw [getD_set_ne false e, hl j hj]
      congr 1
      exact propext ⟨fun h => by omega, fun h => by omega⟩
end
def lfn (listed : Array Bool) : Nat → Bool := fun i => listed.getD i false
theorem lfn_set {listed : Array Bool} {i : Nat} (h : i < listed.size) : lfn (listed.setIfInBounds i true) = plus (lfn listed) i := by
  funext j
  simp only [lfn, plus]
  by_cases e : i = j
  · subst e
    simp [Array.getD, h]
  · rw [getD_set_ne false e]
    have : Nat.beq j i = false := by
      cases hb : Nat.beq j i with
      | false => rfl
      | true => exact absurd (Nat.eq_of_beq_eq_true hb).symm e
    rw [this, Bool.or_false]
section
variable {C : Ctx} {b : St} {tab : List HOp} {ops : Array Oper} {Q : Exit → Act → World → Prop} {ans : List An} {obs : List Prop}
theorem SatG.start {g : Gam} {a : Act} {w : World} (hs : SatG C b g a w) {p : Nat → Bool} (hp : ∀ i, p i = false) : SatG C (stY b tab p) g a w := by
  have key : ∀ {h : Nat} {r : Res}, (stY b tab p).hp[h]? = some r → r = .gone ∨ b.hp[h]? = some r := fun h => by
    rcases hp_cases h with ⟨_, h1⟩ | ⟨_, h1⟩ | ⟨k, t, _, _, h2, _⟩
    · exact .inr h1
    · exact .inl h1
    · rw [hp] at h2; cases h2
  refine ⟨hs.defers, hs.size, fun e he => ?_, ⟨fun h r hh => ?_, fun h h' r r' bb hne hh hh' ho hb => ?_⟩, hs.frm, fun h r bb hh ho hb => ?_, hs.og⟩
  · rcases List.mem_append.1 he with he | he
    · exact hs.slots e he
    · obtain ⟨k, h, x, h1, h2, h3, rfl⟩ := entsOf_mem he
      rw [hp] at h2; cases h2
  · rcases key hh with rfl | k1
    · trivial
    · exact hs.mem.ok h r k1
  · rcases key hh with rfl | k1
    · cases ho
    · rcases key hh' with rfl | k2
      · simp [Res.at]
      · exact hs.mem.sep h h' r r' bb hne k1 k2 ho hb
  · rcases key hh with rfl | k1
    · cases ho
    · exact hs.own h r bb k1 ho hb
/-- How many of the head have not come up. -/
def left (listed : Array Bool) : Nat → Nat
  | 0 => 0
  | n + 1 => left listed n + (bif listed.getD n false then 0 else 1)
theorem left_zero {listed : Array Bool} : ∀ {n : Nat}, left listed n = 0 → ∀ j, j < n → listed.getD j false = true
  | n + 1, h, j, hj => by
    simp only [left] at h
    by_cases e : j = n
    · subst e
      cases hb : listed.getD j false with
      | true => rfl
      | false => rw [hb] at h; simp at h
    · exact left_zero (n := n) (by omega) j (by omega)
theorem left_set {listed : Array Bool} {i : Nat} (hs : i < listed.size) (hu : listed.getD i false = false) : ∀ {n : Nat}, (i < n → left (listed.setIfInBounds i true) n + 1 = left listed n) ∧ (n ≤ i → left (listed.setIfInBounds i true) n = left listed n)
  | 0 => ⟨fun h => by omega, fun _ => rfl⟩
  | n + 1 => by
    obtain ⟨h1, h2⟩ := left_set hs hu (n := n)
    refine ⟨fun h => ?_, fun h => ?_⟩
    · simp only [left]
      by_cases e : i = n
      · subst e
        rw [h2 (Nat.le_refl _), hu]
        have : (listed.setIfInBounds i true).getD i false = true := by simp [Array.getD, hs]
        rw [this]
        simp
      · rw [getD_set_ne false e]
        have := h1 (by omega)
        omega
    · simp only [left]
      rw [getD_set_ne false (by omega), h2 (by omega)]
theorem wpAny_headY (ht : C.tt.ok C.P) {n m : Nat} (hb : backB .any ops = true) (htl : tailT ops n = true) (hsz : ops.size = n + m) (hlen : tab.length = n) (hT : TabOK b tab ops) (hh : hops C.P C.tt C.nt ops b tab 0 ans (ops.toList.take n) = some (tab, obs)) (ho : ∀ q ∈ obs, q)
    (hQ : ∀ a w, Sat C (stY b tab (fun i => Nat.blt i n)) a w → wpOps C.P ops Q (List.range' n m) a w) : ∀ (u : Nat) (fuel : Nat) (listed : Array Bool) (a : Act) (w : World), left listed n = u → u + m ≤ fuel → listed.size = ops.size → (∀ j, n ≤ j → j < ops.size → listed.getD j false = false) → ClosedA ops listed →
      Sat C (stY b tab (lfn listed)) a w → wpAny C.P .any ops Q fuel listed a w := by
  have hops' := hops_get hh
  have hget : ∀ {i : Nat}, i < n → (ops.toList.take n)[i]? = ops[i]? := fun h => by simp [List.getElem?_take, h]
  intro u
  induction u with
  | zero =>
    intro fuel listed a w hu hf hs htf hc hsat
    have hall := left_zero hu
    have hlf : ∀ j, j < ops.size → listed.getD j false = decide (j < n) := fun j hj => by
      rcases Nat.lt_or_ge j n with hl | hl
      · rw [hall j hl]; simp [hl]
      · rw [htf j hl hj]; simp; omega
    refine wpAny_tailT hb htl m n fuel listed a w (by omega) (Nat.le_refl _) (by omega) hs hlf (hQ a w ?_)
    have : lfn listed = fun i => Nat.blt i n := by
      funext i
      simp only [lfn]
      rcases Nat.lt_or_ge i ops.size with h | h
      · rw [hlf i h]
        cases hbl : Nat.blt i n with
        | true => simpa using blt_lt hbl
        | false =>
          simp only [decide_eq_false_iff_not]
          intro hlt
          have : Nat.blt i n = true := Nat.ble_eq_true_of_le hlt
          rw [hbl] at this; cases this
      · have h1 : listed.getD i false = false := by simp [Array.getD, show ¬ i < listed.size by omega]
        rw [h1]
        cases hbl : Nat.blt i n with
        | false => rfl
        | true => have := blt_lt hbl; omega
    rw [← this]
    exact hsat
  | succ u ih =>
    intro fuel listed a w hu hf hs htf hc hsat
    obtain ⟨fuel, rfl⟩ : ∃ f, fuel = f + 1 := ⟨fuel - 1, by omega⟩
    have hall0 : ¬ ∀ j, j < n → listed.getD j false = true := fun h => by
      have : ∀ k, k ≤ n → left listed k = 0 := by
        intro k
        induction k with
        | zero => intro _; rfl
        | succ k ihk => intro hk; simp only [left]; rw [ihk (by omega), h k (by omega)]; rfl
      rw [this n (Nat.le_refl _)] at hu
      omega
    have hclosedT : Closed ops (lfn listed) := fun j i hp hd => reach_listed hc _ _ _ hd (fun o' ho' e he hbi => hc j o' ho' hp e he hbi)
    have hhead : ∀ i ∈ Region.ready .any ops listed, i < n := fun i hi => by
      obtain ⟨h1, o, ho', hall⟩ := mem_ready.1 hi
      have hlt := (Array.getElem?_eq_some_iff.1 ho').1
      apply Classical.byContradiction
      intro hge
      exact hall0 fun j hj => reach_listed hc _ _ _ (tailT_get htl hlt (by omega) (show j < i by omega)) (fun o' ho'' => by rw [ho'] at ho''; obtain rfl := Option.some.inj ho''; exact hall)
    refine ⟨fun h0 => ?_, fun i hi => ?_⟩
    · exfalso
      apply hall0
      intro j
      induction j using Nat.strongRecOn with
      | ind j ihj =>
        intro hj
        apply Classical.byContradiction
        intro hfj
        have hjo : ops[j]? = some (ops[j]'(by omega)) := Array.getElem?_eq_getElem (by omega)
        have : j ∈ Region.ready .any ops listed := mem_ready.2 ⟨by rw [getD_tf (by omega)]; simpa using hfj, _, hjo, fun e he hbi => by
          have := backB_get hb hjo e he hbi
          exact ihj _ this (by omega)⟩
        rw [h0] at this
        cases this
    · have hin := hhead i hi
      obtain ⟨h1, o, ho', hall⟩ := mem_ready.1 hi
      rw [getD_tf (by omega)] at h1
      obtain ⟨t, an, ob, k1, k2, k3⟩ := hops'.2 i o (by rw [hget hin]; exact ho')
      rw [Nat.zero_add] at k2
      obtain ⟨g, hsat⟩ := hsat
      unfold wpOp
      simp only [ho']
      have hstep := hop_step (Q := Q) (K := wpAny C.P .any ops Q fuel (listed.setIfInBounds i true)) (all := ops) ht hT hclosedT k1 k2 (fun q hq => ho q (k3 q hq)) h1 (fun j hd => reach_listed hc _ _ _ hd (fun o'' ho'' e he hbi => by rw [ho'] at ho''; obtain rfl := Option.some.inj ho''; exact hall e he hbi)) hsat (fun a' w' hs' => by
          refine ih fuel _ a' w' ?_ (by omega) (by simpa using hs) (fun j hj hj' => ?_) ?_ ?_
          · have := (left_set (n := n) (by omega) h1).1 hin; omega
          · rw [getD_set_ne false (by omega)]; exact htf j hj hj'
          · intro j o' hjo hlj e he hbi
            by_cases ej : i = j
            · subst ej
              rw [ho'] at hjo
              obtain rfl := Option.some.inj hjo
              exact getD_set_true (hall e he hbi)
            · rw [getD_set_ne false ej] at hlj
              exact getD_set_true (hc j o' hjo hlj e he hbi)
          · rw [lfn_set (by omega)]; exact hs')
      split
      · rename_i hw
        rw [if_pos hw] at hstep
        exact .inl hstep
      · rename_i hw
        rw [if_neg hw] at hstep
        exact hstep
def regionY (P : Program) (tt : TT) (nt : Nat) (b : St) (tab : List HOp) (ops : Array Oper) (n : Nat) (ans : List An) (slots hs : List Nat) : Option (St × List Prop × List HOp) :=
  match hops P tt nt ops b tab 0 ans (ops.toList.take n) with
  | some (tab', obs1) => match runX P tt nt ops (stY b tab (fun i => Nat.blt i n)) (ans.drop n) (ops.toList.drop n) with
    | some (st', obs) => match st'.keep slots hs with
      | some st'' => some (st'', obs1 ++ obs, tab')
      | none => none
    | none => none
  | none => none
def ordY (b : St) (tab : List HOp) (ops : Array Oper) (n : Nat) : Bool :=
  backB .any ops && tailT ops n && Nat.ble n ops.toList.length && Nat.beq tab.length n && tabB b tab ops
theorem W.regionY {id : Nat} (hm : C.P.follows .mixedOrders = true) (ht : C.tt.ok C.P) (n : Nat) (tab : List HOp) (hord : ordY b tab ops n = true) (ans : List An) (slots hs : List Nat) (st' : St) (obs : List Prop) (h : Go.Proofs.Ytgicfkgiecgjoaa.RS.regionY C.P C.tt C.nt b tab ops n ans slots hs = some (st', obs, tab)) (ho : AllP obs)
    (hk : ∀ a w, Sat C st' a w → Q .normal a w) : W C (.region id ops true) Q b := by
  rintro a w ⟨g, hsat⟩
  unfold Go.Proofs.Ytgicfkgiecgjoaa.RS.regionY at h
  split at h
  case h_2 => cases h
  rename_i tab' obs1 h1
  split at h
  case h_2 => cases h
  rename_i st2 obs2 h2
  split at h
  case h_2 => cases h
  rename_i st3 h3
  simp only [Option.some.injEq, Prod.mk.injEq] at h
  obtain ⟨rfl, rfl, rfl⟩ := h
  have ho := AllP.get ho
  simp only [ordY, Bool.and_eq_true] at hord
  obtain ⟨⟨⟨⟨o1, o2⟩, o3⟩, o4⟩, o5⟩ := hord
  have hle : n ≤ ops.size := by simpa using Nat.le_of_ble_eq_true o3
  refine wp_region_any hm ?_
  refine wpAny_headY (m := ops.size - n) ht o1 o2 (by omega) (Nat.eq_of_beq_eq_true o4) (tabB_ok o5) h1 (fun q hq => ho q (List.mem_append_left _ hq)) (fun a' w' hs' => ?_) _ _ _ a _ rfl ?_ (by simp) (fun j _ hj => by simp [Array.getD, hj]) (fun j o _ hj => ?_) ⟨g, ?_⟩
  · have hl : (ops.toList.drop n).length = ops.size - n := by simp
    rw [← hl, wpOps_eq_wpList (ops.toList.drop n) n (fun j => by simp)]
    exact runX_ok ht _ _ _ _ h2 (fun q hq => ho q (List.mem_append_right _ hq)) a' w' hs' fun a w ⟨g, hs⟩ => hk a w ⟨_, hs.keep h3⟩
  · have : ∀ k, left (Array.replicate ops.size false) k ≤ k := by
      intro k
      induction k with
      | zero => exact Nat.le_refl _
      | succ k ihk => simp only [left]; cases (Array.replicate ops.size false).getD k false <;> simp <;> omega
    have := this n
    omega
  · exfalso
    have : (Array.replicate ops.size false).getD j false = false := by
      simp only [Array.getD]
      split <;> simp
    rw [this] at hj
    cases hj
  · have hno : ∀ i, lfn (Array.replicate ops.size false) i = false := fun i => by
      simp only [lfn, Array.getD]
      split <;> simp
    exact (hsat.std (Std.drew w)).start hno
theorem W.sy {id : Nat} {y : Code} (hm : C.P.follows .mixedOrders = true) (ht : C.tt.ok C.P) (n : Nat) (tab : List HOp) (hord : ordY b tab ops n = true) (ans : List An) (slots hs : List Nat) (st' : St) (obs : List Prop) (h : Go.Proofs.Ytgicfkgiecgjoaa.RS.regionY C.P C.tt C.nt b tab ops n ans slots hs = some (st', obs, tab)) (ho : AllP obs) (hk : W C y Q st') : W C (.seq (.region id ops true) y) Q b :=
  W.seq (W.regionY hm ht n tab hord ans slots hs st' obs h ho hk)
end
end Go.Proofs.Ytgicfkgiecgjoaa.RS
