/- RS, part XE: a region that draws, with one operation that changes what was there, anywhere on the way. -/
import Derived.Test.YtpjiobflmcmlmaaRsXS
import Derived.Test.YtpjiobflmcmlmaaRsY
set_option linter.unusedVariables false
set_option linter.unusedSimpArgs false
namespace Go.Proofs.Ytpjiobflmcmlmaa.RS
open Go Go.RowKit
section
variable {C : Ctx} {b : St} {tab tab1 : List HOp} {ops : Array Oper} {Q : Exit → Act → World → Prop} {ans : List An} {obs obs1 : List Prop}
def zb (b b1 : St) (s : Nat) (p : Nat → Bool) : St := bif p s then b1 else b
theorem wpAny_headE (ht : C.tt.ok C.P) {b1 : St} {n m s : Nat} (hb : backB .any ops = true) (htl : tailT ops n = true) (hsz : ops.size = n + m) (hlen : tab.length = n) (hT : TabOK b tab ops) (hT1 : TabOK b1 tab1 ops)
    (hsn : s < n) {os : Oper} (hos : ops[s]? = some os) (hgd : os.guard = none)
    (heff : ∀ (p : Nat → Bool), Closed ops p → (∀ i, depsOf ops s i = true → p i = true) → p s = false → (∀ i, n ≤ i → p i = false) → ∀ (g : Gam) (a : Act) (w : World), SatG C (stY b tab p) g a w → ∀ (K : Act → World → Prop), (∀ a w, Sat C (stY b1 tab1 (plus p s)) a w → K a w) → os.wp C.P a w K Q)
    (hh : hopsZ C.P C.tt C.nt ops b tab (fun k => Nat.beq k s || depsOf ops k s) 0 ans (ops.toList.take n) = some (tab, obs)) (hh1 : hopsZ C.P C.tt C.nt ops b1 tab1 (fun k => Nat.beq k s || depsOf ops s k) 0 ans (ops.toList.take n) = some (tab1, obs1)) (ho : ∀ q ∈ obs, q) (ho1 : ∀ q ∈ obs1, q)
    (hQ : ∀ a w, Sat C (stY b1 tab1 (fun i => Nat.blt i n)) a w → wpOps C.P ops Q (List.range' n m) a w) : ∀ (u : Nat) (fuel : Nat) (listed : Array Bool) (a : Act) (w : World), left listed n = u → u + m ≤ fuel → listed.size = ops.size → (∀ j, n ≤ j → j < ops.size → listed.getD j false = false) → ClosedA ops listed →
      Sat C (stY (zb b b1 s (lfn listed)) (zt tab tab1 s (lfn listed)) (lfn listed)) a w → wpAny C.P .any ops Q fuel listed a w := by
  have hops0 := hopsZ_get hh
  have hops1 := hopsZ_get hh1
  have hget : ∀ {i : Nat}, i < n → (ops.toList.take n)[i]? = ops[i]? := fun h => by simp [List.getElem?_take, h]
  intro u
  induction u with
  | zero =>
    intro fuel listed a w hu hf hs htf hc hsat
    have hall := left_zero hu
    have hlf : ∀ j, j < ops.size → listed.getD j false = decide (j < n) := fun j hj => by
      rcases Nat.lt_or_ge j n with hl | hl
      · rw [hall j hl]; simp [hl]
      · rw [htf j hl hj]; simp; omega
    refine wpAny_tailT hb htl m n fuel listed a w (by omega) (Nat.le_refl _) (by omega) hs hlf (hQ a w ?_)
    have hl : lfn listed = fun i => Nat.blt i n := by
      funext i
      simp only [lfn]
      rcases Nat.lt_or_ge i ops.size with h | h
      · rw [hlf i h]
        cases hbl : Nat.blt i n with
        | true => simpa using blt_lt hbl
        | false =>
          simp only [decide_eq_false_iff_not]
          intro hlt
          have : Nat.blt i n = true := Nat.ble_eq_true_of_le hlt
          rw [hbl] at this; cases this
      · have h1 : listed.getD i false = false := by simp [Array.getD, show ¬ i < listed.size by omega]
        rw [h1]
        cases hbl : Nat.blt i n with
        | false => rfl
        | true => have := blt_lt hbl; omega
    rw [← hl]
    have hz : zt tab tab1 s (lfn listed) = tab1 := by
      unfold zt
      rw [show lfn listed s = true from hall s hsn]; rfl
    have hzb : zb b b1 s (lfn listed) = b1 := by
      unfold zb
      rw [show lfn listed s = true from hall s hsn]; rfl
    rw [hz, hzb] at hsat
    exact hsat
  | succ u ih =>
    intro fuel listed a w hu hf hs htf hc hsat
    obtain ⟨fuel, rfl⟩ : ∃ f, fuel = f + 1 := ⟨fuel - 1, by omega⟩
    have hall0 : ¬ ∀ j, j < n → listed.getD j false = true := fun h => by
      have : ∀ k, k ≤ n → left listed k = 0 := by
        intro k
        induction k with
        | zero => intro _; rfl
        | succ k ihk => intro hk; simp only [left]; rw [ihk (by omega), h k (by omega)]; rfl
      rw [this n (Nat.le_refl _)] at hu
      omega
    have hclosedT : Closed ops (lfn listed) := fun j i hp hd => reach_listed hc _ _ _ hd (fun o' ho' e he hbi => hc j o' ho' hp e he hbi)
    have hhead : ∀ i ∈ Region.ready .any ops listed, i < n := fun i hi => by
      obtain ⟨h1, o, ho', hall⟩ := mem_ready.1 hi
      have hlt := (Array.getElem?_eq_some_iff.1 ho').1
      apply Classical.byContradiction
      intro hge
      exact hall0 fun j hj => reach_listed hc _ _ _ (tailT_get htl hlt (by omega) (show j < i by omega)) (fun o' ho'' => by rw [ho'] at ho''; obtain rfl := Option.some.inj ho''; exact hall)
    refine ⟨fun h0 => ?_, fun i hi => ?_⟩
    · exfalso
      apply hall0
      intro j
      induction j using Nat.strongRecOn with
      | ind j ihj =>
        intro hj
        apply Classical.byContradiction
        intro hfj
        have hjo : ops[j]? = some (ops[j]'(by omega)) := Array.getElem?_eq_getElem (by omega)
        have : j ∈ Region.ready .any ops listed := mem_ready.2 ⟨by rw [getD_tf (by omega)]; simpa using hfj, _, hjo, fun e he hbi => by
          have := backB_get hb hjo e he hbi
          exact ihj _ this (by omega)⟩
        rw [h0] at this
        cases this
    · have hin := hhead i hi
      obtain ⟨h1, o, ho', hall⟩ := mem_ready.1 hi
      rw [getD_tf (by omega)] at h1
      have hdeps : ∀ j, depsOf ops i j = true → lfn listed j = true := fun j hd => reach_listed hc _ _ _ hd (fun o'' ho'' e he hbi => by rw [ho'] at ho''; obtain rfl := Option.some.inj ho''; exact hall e he hbi)
      obtain ⟨g, hsat⟩ := hsat
      have cont : ∀ a' w', Sat C (stY (zb b b1 s (plus (lfn listed) i)) (zt tab tab1 s (plus (lfn listed) i)) (plus (lfn listed) i)) a' w' → wpAny C.P .any ops Q fuel (listed.setIfInBounds i true) a' w' := fun a' w' hs' => by
        refine ih fuel _ a' w' ?_ (by omega) (by simpa using hs) (fun j hj hj' => ?_) ?_ ?_
        · have := (left_set (n := n) (by omega) h1).1 hin; omega
        · rw [getD_set_ne false (by omega)]; exact htf j hj hj'
        · intro j o' hjo hlj e he hbi
          by_cases ej : i = j
          · subst ej
            rw [ho'] at hjo
            obtain rfl := Option.some.inj hjo
            exact getD_set_true (hall e he hbi)
          · rw [getD_set_ne false ej] at hlj
            exact getD_set_true (hc j o' hjo hlj e he hbi)
        · rw [lfn_set (by omega)]; exact hs'
      unfold wpOp
      simp only [ho']
      by_cases eis : i = s
      · subst eis
        rw [hos] at ho'
        obtain rfl := Option.some.inj ho'
        have hps : lfn listed i = false := h1
        have hz : zt tab tab1 i (lfn listed) = tab := by unfold zt; rw [hps]; rfl
        have hzb : zb b b1 i (lfn listed) = b := by unfold zb; rw [hps]; rfl
        rw [hz, hzb] at hsat
        have hw : Region.wanted os (yielded ops a.tmps) = true := by simp [Region.wanted, hgd]
        have hout : ∀ j, n ≤ j → lfn listed j = false := fun j hj => by
          by_cases h : j < ops.size
          · exact htf j hj h
          · simp [lfn, Array.getD, show ¬ j < listed.size by omega]
        have hstep := heff (lfn listed) hclosedT hdeps hps hout g a w hsat (wpAny C.P .any ops Q fuel (listed.setIfInBounds i true)) (fun a' w' hs' => cont a' w' (by
          have hz2 : zt tab tab1 i (plus (lfn listed) i) = tab1 := by unfold zt plus; simp
          have hz3 : zb b b1 i (plus (lfn listed) i) = b1 := by unfold zb plus; simp
          rw [hz2, hz3]; exact hs'))
        split
        · exact .inl hstep
        · rename_i hnw; exact absurd hw hnw
      · have hzp : zt tab tab1 s (plus (lfn listed) i) = zt tab tab1 s (lfn listed) := by
          unfold zt plus
          have : Nat.beq s i = false := by
            cases hbq : Nat.beq s i with
            | false => rfl
            | true => exact absurd (Nat.eq_of_beq_eq_true hbq).symm eis
          rw [this, Bool.or_false]
        have hzbp : zb b b1 s (plus (lfn listed) i) = zb b b1 s (lfn listed) := by
          unfold zb plus
          have : Nat.beq s i = false := by
            cases hbq : Nat.beq s i with
            | false => rfl
            | true => exact absurd (Nat.eq_of_beq_eq_true hbq).symm eis
          rw [this, Bool.or_false]
        have hbeq : Nat.beq i s = false := by
          cases hbq : Nat.beq i s with
          | false => rfl
          | true => exact absurd (Nat.eq_of_beq_eq_true hbq) eis
        have main : ∀ (bb : St) (tb : List HOp) (t : HOp) (an : An) (ob : List Prop), zb b b1 s (lfn listed) = bb → zt tab tab1 s (lfn listed) = tb → TabOK bb tb ops → tb[i]? = some t → hop1 C.P C.tt C.nt ops bb tb i an o = some (t, ob) → (∀ q ∈ ob, q) → if Region.wanted o (yielded ops a.tmps) then o.wp C.P a w (wpAny C.P .any ops Q fuel (listed.setIfInBounds i true)) Q else wpAny C.P .any ops Q fuel (listed.setIfInBounds i true) (a.put o.dst undef) w := fun bb tb t an ob hbb htb hTb k1 k2 k3 => by
          rw [htb, hbb] at hsat
          exact hop_step (all := ops) ht hTb hclosedT k1 k2 k3 h1 hdeps hsat (fun a' w' hs' => cont a' w' (by rw [hzp, hzbp, htb, hbb]; exact hs'))
        have hstep : if Region.wanted o (yielded ops a.tmps) then o.wp C.P a w (wpAny C.P .any ops Q fuel (listed.setIfInBounds i true)) Q else wpAny C.P .any ops Q fuel (listed.setIfInBounds i true) (a.put o.dst undef) w := by
          cases hps : lfn listed s with
          | false =>
            have hnd : depsOf ops i s = false := by
              cases hd : depsOf ops i s with
              | false => rfl
              | true => rw [hdeps s hd] at hps; cases hps
            obtain ⟨t, an, ob, k1, k2, k3⟩ := hops0 i o (by rw [hget hin]; exact ho') (by rw [Nat.zero_add, hbeq, hnd]; rfl)
            rw [Nat.zero_add] at k2
            exact main b tab t an ob (by unfold zb; rw [hps]; rfl) (by unfold zt; rw [hps]; rfl) hT k1 k2 (fun q hq => ho q (k3 q hq))
          | true =>
            have hnd : depsOf ops s i = false := by
              cases hd : depsOf ops s i with
              | false => rfl
              | true =>
                have := hclosedT s i hps hd
                have h1' : lfn listed i = false := h1
                rw [this] at h1'; cases h1'
            obtain ⟨t, an, ob, k1, k2, k3⟩ := hops1 i o (by rw [hget hin]; exact ho') (by rw [Nat.zero_add, hbeq, hnd]; rfl)
            rw [Nat.zero_add] at k2
            exact main b1 tab1 t an ob (by unfold zb; rw [hps]; rfl) (by unfold zt; rw [hps]; rfl) hT1 k1 k2 (fun q hq => ho1 q (k3 q hq))
        split
        · rename_i hw
          rw [if_pos hw] at hstep
          exact .inl hstep
        · rename_i hw
          rw [if_neg hw] at hstep
          exact hstep
/-- What may have come up when s does: lists of yes and no. -/
def subsC (ops : Array Oper) (s : Nat) : Nat → Nat → List (List Bool)
  | 0, _ => [[]]
  | k + 1, i => (bif !(Nat.beq i s) && !(depsOf ops i s) then (subsC ops s k (i + 1)).map (true :: ·) else []) ++ (bif depsOf ops s i then [] else (subsC ops s k (i + 1)).map (false :: ·))
def bsf (bs : List Bool) : Nat → Bool := fun j => bs.getD j false
def closedL (ops : Array Oper) (n : Nat) (bs : List Bool) : Bool := (List.range n).all fun j => !(bsf bs j) || (List.range n).all fun i => !(depsOf ops j i) || bsf bs i
def subsL (ops : Array Oper) (s n : Nat) : List (List Bool) := (subsC ops s n 0).filter (closedL ops n)
theorem subsC_mem {p : Nat → Bool} {s : Nat} (h1 : ∀ i, p i = true → i ≠ s ∧ depsOf ops i s = false) (h2 : ∀ i, depsOf ops s i = true → p i = true) : ∀ (k i : Nat), (List.range' i k).map p ∈ subsC ops s k i
  | 0, i => by simp [subsC]
  | k + 1, i => by
    have ih := subsC_mem h1 h2 k (i + 1)
    simp only [List.range'_succ, List.map_cons, subsC, List.mem_append]
    cases hp : p i with
    | true =>
      left
      obtain ⟨a, b⟩ := h1 i hp
      have hb : Nat.beq i s = false := by
        cases hq : Nat.beq i s with
        | false => rfl
        | true => exact absurd (Nat.eq_of_beq_eq_true hq) a
      rw [hb, b]
      exact List.mem_map.2 ⟨_, ih, rfl⟩
    | false =>
      right
      have hd : depsOf ops s i = false := by
        cases hq : depsOf ops s i with
        | false => rfl
        | true => rw [h2 i hq] at hp; cases hp
      rw [hd]
      exact List.mem_map.2 ⟨_, ih, rfl⟩
theorem bsf_map {p : Nat → Bool} {n : Nat} (h : ∀ i, n ≤ i → p i = false) : bsf ((List.range' 0 n).map p) = p := by
  funext j
  unfold bsf
  rcases Nat.lt_or_ge j n with hj | hj
  · simp [List.getD, hj]
  · rw [h j hj]; simp [List.getD, hj]
theorem subsL_mem {p : Nat → Bool} {s n : Nat} (hc : Closed ops p) (h2 : ∀ i, depsOf ops s i = true → p i = true) (hs : p s = false) (hn : ∀ i, n ≤ i → p i = false) : (List.range' 0 n).map p ∈ subsL ops s n := by
  refine List.mem_filter.2 ⟨subsC_mem (fun i hi => ⟨fun e => (by rw [e, hs] at hi; cases hi), ?_⟩) h2 n 0, ?_⟩
  · cases hq : depsOf ops i s with
    | false => rfl
    | true => rw [hc i s hi hq] at hs; cases hs
  · unfold closedL
    rw [bsf_map hn]
    simp only [List.all_eq_true, List.mem_range, Bool.or_eq_true, Bool.not_eq_true']
    intro j hj
    by_cases hp : p j = true
    · right
      intro i hi
      cases hq : depsOf ops j i with
      | false => exact .inl rfl
      | true => exact .inr (hc j i hp hq)
    · left; simpa using hp
def effR (P : Program) (tt : TT) (nt : Nat) (b b1 : St) (tab tab1 : List HOp) (s : Nat) (an : An) (o : Oper) (hs : List Nat) (bs : List Bool) : Option (St × List Prop) :=
  match exec1 P tt (stY b tab (bsf bs)) [] an o.op with
  | some (r, st', obs) => match fin nt o.dst r st' obs with
    | some (st2, obs2) => match st2.keep ((stY b1 tab1 (plus (bsf bs) s)).tm.map (·.1)) hs with
      | some st3 => bif ogLe b1.og st3.og then some (⟨st3.tm, st3.hp, b1.og⟩, obs2) else none
      | none => none
    | none => none
  | none => none
theorem eff_of (ht : C.tt.ok C.P) {b1 : St} {n s : Nat} {os : Oper} {an : An} {hs : List Nat} {obs2 : List Prop} (he : (subsL ops s n).map (effR C.P C.tt C.nt b b1 tab tab1 s an os hs) = (subsL ops s n).map fun bs => some (stY b1 tab1 (plus (bsf bs) s), obs2)) (ho : ∀ q ∈ obs2, q) :
    ∀ (p : Nat → Bool), Closed ops p → (∀ i, depsOf ops s i = true → p i = true) → p s = false → (∀ i, n ≤ i → p i = false) → ∀ (g : Gam) (a : Act) (w : World), SatG C (stY b tab p) g a w → ∀ (K : Act → World → Prop), (∀ a w, Sat C (stY b1 tab1 (plus p s)) a w → K a w) → os.wp C.P a w K Q := by
  intro p hc h2 hps hn g a w hsat K hK
  have hm := subsL_mem hc h2 hps hn
  have e : effR C.P C.tt C.nt b b1 tab tab1 s an os hs ((List.range' 0 n).map p) = some (stY b1 tab1 (plus (bsf ((List.range' 0 n).map p)) s), obs2) := by
    obtain ⟨i, hi, hx⟩ := List.getElem_of_mem hm
    have := congrArg (fun l => l[i]?) he
    simp only [List.getElem?_map, List.getElem?_eq_getElem hi, Option.map_some, Option.some.injEq] at this
    rwa [hx] at this
  rw [bsf_map hn] at e
  unfold effR at e
  rw [bsf_map hn] at e
  split at e
  case h_2 => cases e
  rename_i r st1 obs0 h1
  split at e
  case h_2 => cases e
  rename_i st2 obs' h3
  split at e
  case h_2 => cases e
  rename_i st3 h4
  simp only [cond_eq_ite] at e
  split at e
  case isFalse => cases e
  rename_i hle
  simp only [Option.some.injEq, Prod.mk.injEq] at e
  obtain ⟨e, rfl⟩ := e
  obtain ⟨rfl, hgo⟩ := fin_ok (a := a) h3 (K := K) (fun a w ⟨g, hs⟩ => hK a w ⟨_, by
    rw [← e]
    have hk := hs.keep h4
    exact ⟨hk.defers, hk.size, hk.slots, hk.mem, hk.frm, hk.own, fun h j hh => hk.og h j (ogLe_get hle hh)⟩⟩)
  exact exec1_ok ht hsat (cx_nil a) h1 ho hgo
def regionE (P : Program) (tt : TT) (nt : Nat) (b b1 : St) (tab tab1 : List HOp) (s : Nat) (ops : Array Oper) (n : Nat) (ans : List An) (slots hs : List Nat) : Option (St × List Prop × List HOp × List HOp) :=
  match hopsZ P tt nt ops b tab (fun k => Nat.beq k s || depsOf ops k s) 0 ans (ops.toList.take n) with
  | some (tA, obs) => match hopsZ P tt nt ops b1 tab1 (fun k => Nat.beq k s || depsOf ops s k) 0 ans (ops.toList.take n) with
    | some (tB, obs1) => match runX P tt nt ops (stY b1 tab1 (fun i => Nat.blt i n)) (ans.drop n) (ops.toList.drop n) with
      | some (st', obs3) => match st'.keep slots hs with
        | some st'' => some (st'', obs ++ (obs1 ++ obs3), tA, tB)
        | none => none
      | none => none
    | none => none
  | none => none
def ordE (b b1 : St) (tab tab1 : List HOp) (ops : Array Oper) (n s : Nat) : Bool :=
  backB .any ops && tailT ops n && Nat.ble n ops.toList.length && Nat.beq tab.length n && tabB b tab ops && tabB b1 tab1 ops && Nat.blt s n
theorem W.regionE {id : Nat} (hm : C.P.follows .mixedOrders = true) (ht : C.tt.ok C.P) (n : Nat) (b1 : St) (tab tab1 : List HOp) (s : Nat) (os : Oper) (an : An) (hds : List Nat) (obs2 : List Prop) (hord : ordE b b1 tab tab1 ops n s = true) (hos : ops[s]? = some os) (hgd : os.guard = none)
    (he : (subsL ops s n).map (effR C.P C.tt C.nt b b1 tab tab1 s an os hds) = (subsL ops s n).map fun bs => some (stY b1 tab1 (plus (bsf bs) s), obs2)) (ho2 : AllP obs2) (ans : List An) (slots hs : List Nat) (st' : St) (obs : List Prop)
    (h : Go.Proofs.Ytpjiobflmcmlmaa.RS.regionE C.P C.tt C.nt b b1 tab tab1 s ops n ans slots hs = some (st', obs, tab, tab1)) (ho : AllP obs)
    (hk : ∀ a w, Sat C st' a w → Q .normal a w) : W C (.region id ops true) Q b := by
  rintro a w ⟨g, hsat⟩
  unfold Go.Proofs.Ytpjiobflmcmlmaa.RS.regionE at h
  split at h
  case h_2 => cases h
  rename_i tA obsA h1
  split at h
  case h_2 => cases h
  rename_i tB obsB h1'
  split at h
  case h_2 => cases h
  rename_i st2 obs3 h2
  split at h
  case h_2 => cases h
  rename_i st3 h3
  simp only [Option.some.injEq, Prod.mk.injEq] at h
  obtain ⟨rfl, rfl, rfl, rfl⟩ := h
  have ho := AllP.get ho
  have ho2 := AllP.get ho2
  simp only [ordE, Bool.and_eq_true] at hord
  obtain ⟨⟨⟨⟨⟨⟨o1, o2⟩, o3⟩, o4⟩, o5⟩, o6⟩, o7⟩ := hord
  have hle : n ≤ ops.size := by simpa using Nat.le_of_ble_eq_true o3
  refine wp_region_any hm ?_
  refine wpAny_headE (m := ops.size - n) ht o1 o2 (by omega) (Nat.eq_of_beq_eq_true o4) (tabB_ok o5) (tabB_ok o6) (blt_lt o7) hos hgd (eff_of ht he ho2) h1 h1' (fun q hq => ho q (List.mem_append_left _ hq)) (fun q hq => ho q (List.mem_append_right _ (List.mem_append_left _ hq)))
    (fun a' w' hs' => ?_) _ _ _ a _ rfl ?_ (by simp) (fun j _ hj => by simp [Array.getD, hj]) (fun j o _ hj => ?_) ⟨g, ?_⟩
  · have hl : (ops.toList.drop n).length = ops.size - n := by simp
    rw [← hl, wpOps_eq_wpList (ops.toList.drop n) n (fun j => by simp)]
    exact runX_ok ht _ _ _ _ h2 (fun q hq => ho q (List.mem_append_right _ (List.mem_append_right _ hq))) a' w' hs' fun a w ⟨g, hs⟩ => hk a w ⟨_, hs.keep h3⟩
  · have : ∀ k, left (Array.replicate ops.size false) k ≤ k := by
      intro k
      induction k with
      | zero => exact Nat.le_refl _
      | succ k ihk => simp only [left]; cases (Array.replicate ops.size false).getD k false <;> simp <;> omega
    have := this n
    omega
  · exfalso
    have : (Array.replicate ops.size false).getD j false = false := by
      simp only [Array.getD]
      split <;> simp
    rw [this] at hj
    cases hj
  · have hno : ∀ i, lfn (Array.replicate ops.size false) i = false := fun i => by
      simp only [lfn, Array.getD]
      split <;> simp
    have hz : zt tA tB s (lfn (Array.replicate ops.size false)) = tA := by unfold zt; rw [hno]; rfl
    have hzb : zb b b1 s (lfn (Array.replicate ops.size false)) = b := by unfold zb; rw [hno]; rfl
    rw [hz, hzb]
    exact (hsat.std (Std.drew w)).start hno
theorem W.se {id : Nat} {y : Code} (hm : C.P.follows .mixedOrders = true) (ht : C.tt.ok C.P) (n : Nat) (b1 : St) (tab tab1 : List HOp) (s : Nat) (os : Oper) (an : An) (hds : List Nat) (obs2 : List Prop) (hord : ordE b b1 tab tab1 ops n s = true) (hos : ops[s]? = some os) (hgd : os.guard = none)
    (he : (subsL ops s n).map (effR C.P C.tt C.nt b b1 tab tab1 s an os hds) = (subsL ops s n).map fun bs => some (stY b1 tab1 (plus (bsf bs) s), obs2)) (ho2 : AllP obs2) (ans : List An) (slots hs : List Nat) (st' : St) (obs : List Prop)
    (h : Go.Proofs.Ytpjiobflmcmlmaa.RS.regionE C.P C.tt C.nt b b1 tab tab1 s ops n ans slots hs = some (st', obs, tab, tab1)) (ho : AllP obs) (hk : W C y Q st') : W C (.seq (.region id ops true) y) Q b :=
  W.seq (W.regionE hm ht n b1 tab tab1 s os an hds obs2 hord hos hgd he ho2 ans slots hs st' obs h ho hk)
end
end Go.Proofs.Ytpjiobflmcmlmaa.RS
