/- RS, part XS: a region that draws, lays new blocks, and fills one of them on the way. -/
import Derived.Test.YtpjiobflmcmlmaaRsX
set_option linter.unusedVariables false
set_option linter.unusedSimpArgs false
namespace Go.Proofs.Ytpjiobflmcmlmaa.RS
open Go Go.RowKit
def hopsZ (P : Program) (tt : TT) (nt : Nat) (all : Array Oper) (b : St) (tab : List HOp) (skip : Nat → Bool) : Nat → List An → List Oper → Option (List HOp × List Prop)
  | _, _, [] => some ([], [])
  | k, ans, o :: os => match (bif skip k then (match tab[k]? with | some h => some (h, []) | none => none) else hop1 P tt nt all b tab k (hd ans) o) with
    | some (h, ob) => match hopsZ P tt nt all b tab skip (k + 1) (tl ans) os with
      | some (hs, obs) => some (h :: hs, ob ++ obs)
      | none => none
    | none => none
theorem hopsZ_get {P : Program} {tt : TT} {nt : Nat} {all : Array Oper} {b : St} {tab : List HOp} {skip : Nat → Bool} : ∀ {os : List Oper} {k : Nat} {ans : List An} {hs : List HOp} {obs : List Prop}, hopsZ P tt nt all b tab skip k ans os = some (hs, obs) →
    ∀ (j : Nat) (o : Oper), os[j]? = some o → skip (k + j) = false → ∃ h an ob, hs[j]? = some h ∧ hop1 P tt nt all b tab (k + j) an o = some (h, ob) ∧ ∀ q ∈ ob, q ∈ obs
  | [], k, ans, hs, obs, h => fun j o h => by simp at h
  | o :: os, k, ans, hs, obs, h => by
    simp only [hopsZ] at h
    split at h
    case h_2 => cases h
    rename_i h0 ob h1
    split at h
    case h_2 => cases h
    rename_i hs' obs' h2
    simp only [Option.some.injEq, Prod.mk.injEq] at h
    obtain ⟨rfl, rfl⟩ := h
    have k2 := hopsZ_get h2
    intro j o' hj hsk
    cases j with
    | zero =>
      simp at hj
      subst hj
      rw [Nat.add_zero] at hsk
      rw [hsk] at h1
      exact ⟨h0, _, ob, rfl, h1, fun q hq => List.mem_append_left _ hq⟩
    | succ j =>
      obtain ⟨h', an, ob', e1, e2, e3⟩ := k2 j o' (by simpa using hj) (by rw [show k + 1 + j = k + (j + 1) by omega]; exact hsk)
      exact ⟨h', an, ob', by simpa using e1, by rw [show k + (j + 1) = k + 1 + j by omega]; exact e2, fun q hq => List.mem_append_right _ (e3 q hq)⟩
section
variable {C : Ctx} {b : St} {tab : List HOp} {ops : Array Oper} {g : Gam} {a : Act} {w : World}
theorem SatG.weak {st st2 : St} (hs : SatG C st g a w) (h1 : ∀ e ∈ st2.tm, e ∈ st.tm) (h2 : ∀ (h : Nat) (r : Res), st2.hp[h]? = some r → r = .gone ∨ st.hp[h]? = some r) (h3 : st2.og = st.og) : SatG C st2 g a w := by
  refine ⟨hs.defers, hs.size, fun e he => hs.slots e (h1 e he), ⟨fun h r hr => ?_, fun h h' r r' bb hne hr hr' ho hb => ?_⟩, hs.frm, fun h r bb hr ho hb => ?_, by rw [h3]; exact hs.og⟩
  · rcases h2 h r hr with rfl | k
    · trivial
    · exact hs.mem.ok h r k
  · rcases h2 h r hr with rfl | k1
    · cases ho
    · rcases h2 h' r' hr' with rfl | k2
      · simp [Res.at]
      · exact hs.mem.sep h h' r r' bb hne k1 k2 ho hb
  · rcases h2 h r hr with rfl | k
    · cases ho
    · exact hs.own h r bb k ho hb
/-- The store comes up. -/
theorem store_step (ht : C.tt.ok C.P) {p : Nat → Bool} {s k0 ds d0 : Nat} {e0 : Option (Option (Nat × Bool) × AV)} {r0 r1 : Res} (hts : tab[s]? = some ⟨ds, none, none⟩) (ht0 : tab[k0]? = some ⟨d0, e0, some r0⟩) (hk0 : depsOf ops s k0 = true) (hdp : ∀ i, depsOf ops s i = true → p i = true)
    {o : Oper} {T : TypeId} {ad x : Operand} (hop : o.op = .store T ad x) (hdst : o.dst = none) {obs : List Prop}
    (hev : evalStore C.tt (stY b tab (depsOf ops s)).hp T (lkE (stY b tab (depsOf ops s)).tm [] ad) (lkE (stY b tab (depsOf ops s)).tm [] x) = some ((stY b tab (depsOf ops s)).hp.set (b.hp.length + k0) r1, obs)) (ho : ∀ q ∈ obs, q)
    (hs : SatG C (stY b tab p) g a w) {Q : Exit → Act → World → Prop} {K : Act → World → Prop} (hK : ∀ a w, Sat C (stY b (tab.set k0 ⟨d0, e0, some r1⟩) (plus p s)) a w → K a w) : o.wp C.P a w K Q := by
  have hsub := hs.sub hdp
  have hl := lkE_ok hsub.slots (cx_nil a)
  obtain ⟨w', h1, h2⟩ := evalStore_ok ht hsub.mem hev ho (fun b hb => hl ad b hb) (fun b hb => hl x b hb)
  have hrun : (execOp a.eval o).run C.P w = .ok .skip w' := by
    simp only [execOp, hop, Sem.run_bind, h1, Result.andThen_ok, Sem.run_pure]
  unfold Oper.wp
  rw [hrun]
  show K (a.put o.dst undef) w'
  rw [hdst]
  obtain ⟨h, r, r', hh, hset, q1, q2, q3, q4, q5, q6⟩ := h2.ex
  have hlt := (List.getElem?_eq_some_iff.1 hh).1
  have hfull : (stY b tab p).hp[h]? = some r := by
    rcases hp_cases hh with ⟨_, h3⟩ | ⟨_, rfl⟩ | ⟨k, t, rfl, h3, h4, h5⟩
    · exact hp_base h3
    · cases q1
    · exact hp_at h3 (hdp _ h4) h5
  have hS := hs.stored (w' := w') (hp' := (stY b tab p).hp.set h r') ⟨h, r, r', hfull, rfl, q1, q2, q3, q4, q5, q6⟩
  refine hK _ _ ⟨g, ?_⟩
  have hput : a.put none undef = a := rfl
  rw [hput]
  have hklt : k0 < tab.length := (List.getElem?_eq_some_iff.1 ht0).1
  have hd0 : (stY b tab (depsOf ops s)).hp[b.hp.length + k0]? = some r0 := hp_at ht0 hk0 rfl
  have hp0 : (stY b tab p).hp[b.hp.length + k0]? = some r0 := hp_at ht0 (hdp _ hk0) rfl
  have hltf : h < (stY b tab p).hp.length := (List.getElem?_eq_some_iff.1 hfull).1
  have hlt0 : b.hp.length + k0 < (stY b tab (depsOf ops s)).hp.length := (List.getElem?_eq_some_iff.1 hd0).1
  -- what is written stands in the block
  have hnew : ((stY b tab p).hp.set h r')[b.hp.length + k0]? = some r1 := by
    have e : ((stY b tab (depsOf ops s)).hp.set h r')[b.hp.length + k0]? = some r1 := by rw [← hset, List.getElem?_set_self hlt0]
    by_cases hne : h = b.hp.length + k0
    · subst hne
      rw [List.getElem?_set_self hlt] at e
      rw [List.getElem?_set_self hltf, e]
    · rw [List.getElem?_set_ne hne] at e ⊢
      rw [hd0] at e
      rw [hp0, e]
  have hold : ∀ (j : Nat) (q : Res), j ≠ b.hp.length + k0 → (stY b tab p).hp[j]? = some q → ((stY b tab p).hp.set h r')[j]? = some q := fun j q hj hq => by
    by_cases hne : h = j
    · subst hne
      have e : ((stY b tab (depsOf ops s)).hp.set h r')[h]? = (stY b tab (depsOf ops s)).hp[h]? := by rw [← hset, List.getElem?_set_ne (Ne.symm hj)]
      rw [List.getElem?_set_self hlt, hh] at e
      rw [hfull] at hq
      rw [List.getElem?_set_self hltf, e, hq]
    · rw [List.getElem?_set_ne hne]; exact hq
  refine hS.weak (fun e he => ?_) (fun j q hq => ?_) rfl
  · rcases List.mem_append.1 he with he | he
    · exact List.mem_append_left _ he
    · obtain ⟨k, t, x', h3, h4, h5, rfl⟩ := entsOf_mem he
      rw [Nat.zero_add] at h4
      refine List.mem_append_right _ ?_
      by_cases ek : k0 = k
      · subst ek
        rw [List.getElem?_set_self hklt] at h3
        obtain rfl := Option.some.inj h3
        exact mem_entsOf (h := ⟨d0, e0, some r0⟩) h5 ht0 (by rw [Nat.zero_add]; exact hdp _ hk0)
      · rw [List.getElem?_set_ne ek] at h3
        by_cases es : k = s
        · subst es
          rw [hts] at h3
          obtain rfl := Option.some.inj h3
          cases h5
        · have hpk : p k = true := by
            simp only [plus, Bool.or_eq_true] at h4
            exact h4.resolve_right fun e => es (Nat.eq_of_beq_eq_true e)
          exact mem_entsOf h5 h3 (by rw [Nat.zero_add]; exact hpk)
  · rcases hp_cases hq with ⟨h0, h3⟩ | ⟨_, h3⟩ | ⟨k, t, rfl, h3, h4, h5⟩
    · exact .inr (hold j q (by omega) (hp_base h3))
    · exact .inl h3
    · right
      by_cases ek : k0 = k
      · subst ek
        rw [List.getElem?_set_self hklt] at h3
        obtain rfl := Option.some.inj h3
        obtain rfl := Option.some.inj h5
        exact hnew
      · rw [List.getElem?_set_ne ek] at h3
        by_cases es : k = s
        · subst es
          rw [hts] at h3
          obtain rfl := Option.some.inj h3
          cases h5
        · have hpk : p k = true := by
            simp only [plus, Bool.or_eq_true] at h4
            exact h4.resolve_right fun e => es (Nat.eq_of_beq_eq_true e)
          exact hold _ q (by omega) (hp_at h3 hpk h5)
end
section
variable {C : Ctx} {b : St} {tab tab1 : List HOp} {ops : Array Oper} {Q : Exit → Act → World → Prop} {ans : List An} {obs obs1 obs2 : List Prop}
def zt (tab tab1 : List HOp) (s : Nat) (p : Nat → Bool) : List HOp := bif p s then tab1 else tab
theorem wpAny_headZ (ht : C.tt.ok C.P) {n m s k0 ds d0 : Nat} {e0 : Option (Option (Nat × Bool) × AV)} {r0 r1 : Res} (hb : backB .any ops = true) (htl : tailT ops n = true) (hsz : ops.size = n + m) (hlen : tab.length = n) (hT : TabOK b tab ops) (hT1 : TabOK b tab1 ops)
    (hsn : s < n) (hts : tab[s]? = some ⟨ds, none, none⟩) (ht0 : tab[k0]? = some ⟨d0, e0, some r0⟩) (htab1 : tab1 = tab.set k0 ⟨d0, e0, some r1⟩) (hk0 : depsOf ops s k0 = true)
    {os : Oper} {T : TypeId} {ad x : Operand} (hos : ops[s]? = some os) (hop : os.op = .store T ad x) (hdst : os.dst = none) (hgd : os.guard = none)
    (hev : evalStore C.tt (stY b tab (depsOf ops s)).hp T (lkE (stY b tab (depsOf ops s)).tm [] ad) (lkE (stY b tab (depsOf ops s)).tm [] x) = some ((stY b tab (depsOf ops s)).hp.set (b.hp.length + k0) r1, obs2))
    (hh : hopsZ C.P C.tt C.nt ops b tab (fun k => Nat.beq k s || depsOf ops k s) 0 ans (ops.toList.take n) = some (tab, obs)) (hh1 : hopsZ C.P C.tt C.nt ops b tab1 (fun k => Nat.beq k s || depsOf ops s k) 0 ans (ops.toList.take n) = some (tab1, obs1)) (ho : ∀ q ∈ obs, q) (ho1 : ∀ q ∈ obs1, q) (ho2 : ∀ q ∈ obs2, q)
    (hQ : ∀ a w, Sat C (stY b tab1 (fun i => Nat.blt i n)) a w → wpOps C.P ops Q (List.range' n m) a w) : ∀ (u : Nat) (fuel : Nat) (listed : Array Bool) (a : Act) (w : World), left listed n = u → u + m ≤ fuel → listed.size = ops.size → (∀ j, n ≤ j → j < ops.size → listed.getD j false = false) → ClosedA ops listed →
      Sat C (stY b (zt tab tab1 s (lfn listed)) (lfn listed)) a w → wpAny C.P .any ops Q fuel listed a w := by
  have hops0 := hopsZ_get hh
  have hops1 := hopsZ_get hh1
  have hget : ∀ {i : Nat}, i < n → (ops.toList.take n)[i]? = ops[i]? := fun h => by simp [List.getElem?_take, h]
  intro u
  induction u with
  | zero =>
    intro fuel listed a w hu hf hs htf hc hsat
    have hall := left_zero hu
    have hlf : ∀ j, j < ops.size → listed.getD j false = decide (j < n) := fun j hj => by
      rcases Nat.lt_or_ge j n with hl | hl
      · rw [hall j hl]; simp [hl]
      · rw [htf j hl hj]; simp; omega
    refine wpAny_tailT hb htl m n fuel listed a w (by omega) (Nat.le_refl _) (by omega) hs hlf (hQ a w ?_)
    have hl : lfn listed = fun i => Nat.blt i n := by
      funext i
      simp only [lfn]
      rcases Nat.lt_or_ge i ops.size with h | h
      · rw [hlf i h]
        cases hbl : Nat.blt i n with
        | true => simpa using blt_lt hbl
        | false =>
          simp only [decide_eq_false_iff_not]
          intro hlt
          have : Nat.blt i n = true := Nat.ble_eq_true_of_le hlt
          rw [hbl] at this; cases this
      · have h1 : listed.getD i false = false := by simp [Array.getD, show ¬ i < listed.size by omega]
        rw [h1]
        cases hbl : Nat.blt i n with
        | false => rfl
        | true => have := blt_lt hbl; omega
    rw [← hl]
    have hz : zt tab tab1 s (lfn listed) = tab1 := by
      unfold zt
      rw [show lfn listed s = true from hall s hsn]; rfl
    rw [hz] at hsat
    exact hsat
  | succ u ih =>
    intro fuel listed a w hu hf hs htf hc hsat
    obtain ⟨fuel, rfl⟩ : ∃ f, fuel = f + 1 := ⟨fuel - 1, by omega⟩
    have hall0 : ¬ ∀ j, j < n → listed.getD j false = true := fun h => by
      have : ∀ k, k ≤ n → left listed k = 0 := by
        intro k
        induction k with
        | zero => intro _; rfl
        | succ k ihk => intro hk; simp only [left]; rw [ihk (by omega), h k (by omega)]; rfl
      rw [this n (Nat.le_refl _)] at hu
      omega
    have hclosedT : Closed ops (lfn listed) := fun j i hp hd => reach_listed hc _ _ _ hd (fun o' ho' e he hbi => hc j o' ho' hp e he hbi)
    have hhead : ∀ i ∈ Region.ready .any ops listed, i < n := fun i hi => by
      obtain ⟨h1, o, ho', hall⟩ := mem_ready.1 hi
      have hlt := (Array.getElem?_eq_some_iff.1 ho').1
      apply Classical.byContradiction
      intro hge
      exact hall0 fun j hj => reach_listed hc _ _ _ (tailT_get htl hlt (by omega) (show j < i by omega)) (fun o' ho'' => by rw [ho'] at ho''; obtain rfl := Option.some.inj ho''; exact hall)
    refine ⟨fun h0 => ?_, fun i hi => ?_⟩
    · exfalso
      apply hall0
      intro j
      induction j using Nat.strongRecOn with
      | ind j ihj =>
        intro hj
        apply Classical.byContradiction
        intro hfj
        have hjo : ops[j]? = some (ops[j]'(by omega)) := Array.getElem?_eq_getElem (by omega)
        have : j ∈ Region.ready .any ops listed := mem_ready.2 ⟨by rw [getD_tf (by omega)]; simpa using hfj, _, hjo, fun e he hbi => by
          have := backB_get hb hjo e he hbi
          exact ihj _ this (by omega)⟩
        rw [h0] at this
        cases this
    · have hin := hhead i hi
      obtain ⟨h1, o, ho', hall⟩ := mem_ready.1 hi
      rw [getD_tf (by omega)] at h1
      have hdeps : ∀ j, depsOf ops i j = true → lfn listed j = true := fun j hd => reach_listed hc _ _ _ hd (fun o'' ho'' e he hbi => by rw [ho'] at ho''; obtain rfl := Option.some.inj ho''; exact hall e he hbi)
      obtain ⟨g, hsat⟩ := hsat
      have cont : ∀ a' w', Sat C (stY b (zt tab tab1 s (plus (lfn listed) i)) (plus (lfn listed) i)) a' w' → wpAny C.P .any ops Q fuel (listed.setIfInBounds i true) a' w' := fun a' w' hs' => by
        refine ih fuel _ a' w' ?_ (by omega) (by simpa using hs) (fun j hj hj' => ?_) ?_ ?_
        · have := (left_set (n := n) (by omega) h1).1 hin; omega
        · rw [getD_set_ne false (by omega)]; exact htf j hj hj'
        · intro j o' hjo hlj e he hbi
          by_cases ej : i = j
          · subst ej
            rw [ho'] at hjo
            obtain rfl := Option.some.inj hjo
            exact getD_set_true (hall e he hbi)
          · rw [getD_set_ne false ej] at hlj
            exact getD_set_true (hc j o' hjo hlj e he hbi)
        · rw [lfn_set (by omega)]; exact hs'
      unfold wpOp
      simp only [ho']
      by_cases eis : i = s
      · subst eis
        rw [hos] at ho'
        obtain rfl := Option.some.inj ho'
        have hps : lfn listed i = false := h1
        have hz : zt tab tab1 i (lfn listed) = tab := by unfold zt; rw [hps]; rfl
        rw [hz] at hsat
        have hw : Region.wanted os (yielded ops a.tmps) = true := by simp [Region.wanted, hgd]
        have hstep := store_step (Q := Q) (K := wpAny C.P .any ops Q fuel (listed.setIfInBounds i true)) ht hts ht0 hk0 hdeps hop hdst hev ho2 hsat (fun a' w' hs' => cont a' w' (by
          have hz2 : zt tab tab1 i (plus (lfn listed) i) = tab1 := by unfold zt plus; simp
          rw [hz2, htab1]; exact hs'))
        split
        · exact .inl hstep
        · rename_i hnw; exact absurd hw hnw
      · have hzp : zt tab tab1 s (plus (lfn listed) i) = zt tab tab1 s (lfn listed) := by
          unfold zt plus
          have : Nat.beq s i = false := by
            cases hbq : Nat.beq s i with
            | false => rfl
            | true => exact absurd (Nat.eq_of_beq_eq_true hbq).symm eis
          rw [this, Bool.or_false]
        have hbeq : Nat.beq i s = false := by
          cases hbq : Nat.beq i s with
          | false => rfl
          | true => exact absurd (Nat.eq_of_beq_eq_true hbq) eis
        have main : ∀ (tb : List HOp) (t : HOp) (an : An) (ob : List Prop), zt tab tab1 s (lfn listed) = tb → TabOK b tb ops → tb[i]? = some t → hop1 C.P C.tt C.nt ops b tb i an o = some (t, ob) → (∀ q ∈ ob, q) → if Region.wanted o (yielded ops a.tmps) then o.wp C.P a w (wpAny C.P .any ops Q fuel (listed.setIfInBounds i true)) Q else wpAny C.P .any ops Q fuel (listed.setIfInBounds i true) (a.put o.dst undef) w := fun tb t an ob htb hTb k1 k2 k3 => by
          rw [htb] at hsat
          exact hop_step (all := ops) ht hTb hclosedT k1 k2 k3 h1 hdeps hsat (fun a' w' hs' => cont a' w' (by rw [hzp, htb]; exact hs'))
        have hstep : if Region.wanted o (yielded ops a.tmps) then o.wp C.P a w (wpAny C.P .any ops Q fuel (listed.setIfInBounds i true)) Q else wpAny C.P .any ops Q fuel (listed.setIfInBounds i true) (a.put o.dst undef) w := by
          cases hps : lfn listed s with
          | false =>
            have hnd : depsOf ops i s = false := by
              cases hd : depsOf ops i s with
              | false => rfl
              | true => rw [hdeps s hd] at hps; cases hps
            obtain ⟨t, an, ob, k1, k2, k3⟩ := hops0 i o (by rw [hget hin]; exact ho') (by rw [Nat.zero_add, hbeq, hnd]; rfl)
            rw [Nat.zero_add] at k2
            exact main tab t an ob (by unfold zt; rw [hps]; rfl) hT k1 k2 (fun q hq => ho q (k3 q hq))
          | true =>
            have hnd : depsOf ops s i = false := by
              cases hd : depsOf ops s i with
              | false => rfl
              | true =>
                have := hclosedT s i hps hd
                have h1' : lfn listed i = false := h1
                rw [this] at h1'; cases h1'
            obtain ⟨t, an, ob, k1, k2, k3⟩ := hops1 i o (by rw [hget hin]; exact ho') (by rw [Nat.zero_add, hbeq, hnd]; rfl)
            rw [Nat.zero_add] at k2
            exact main tab1 t an ob (by unfold zt; rw [hps]; rfl) hT1 k1 k2 (fun q hq => ho1 q (k3 q hq))
        split
        · rename_i hw
          rw [if_pos hw] at hstep
          exact .inl hstep
        · rename_i hw
          rw [if_neg hw] at hstep
          exact hstep
def regionZ (P : Program) (tt : TT) (nt : Nat) (b : St) (tab tab1 : List HOp) (s k0 : Nat) (r1 : Res) (ops : Array Oper) (n : Nat) (ans : List An) (slots hs : List Nat) : Option (St × List Prop × List HOp × List HOp × List HOp × List Res) :=
  match tab[k0]?, tab[s]?, ops[s]? with
  | some ⟨d0, e0, some _⟩, some ⟨_, none, none⟩, some os => match os.op, os.dst, os.guard with
    | .store T ad x, none, none => match evalStore tt (stY b tab (depsOf ops s)).hp T (lkE (stY b tab (depsOf ops s)).tm [] ad) (lkE (stY b tab (depsOf ops s)).tm [] x) with
      | some (hp', obs2) => match hopsZ P tt nt ops b tab (fun k => Nat.beq k s || depsOf ops k s) 0 ans (ops.toList.take n) with
        | some (tA, obs) => match hopsZ P tt nt ops b tab1 (fun k => Nat.beq k s || depsOf ops s k) 0 ans (ops.toList.take n) with
          | some (tB, obs1) => match runX P tt nt ops (stY b tab1 (fun i => Nat.blt i n)) (ans.drop n) (ops.toList.drop n) with
            | some (st', obs3) => match st'.keep slots hs with
              | some st'' => some (st'', obs ++ (obs1 ++ (obs2 ++ obs3)), tA, tB, tab.set k0 ⟨d0, e0, some r1⟩, hp')
              | none => none
            | none => none
          | none => none
        | none => none
      | none => none
    | _, _, _ => none
  | _, _, _ => none
def ordZ (b : St) (tab tab1 : List HOp) (ops : Array Oper) (n s k0 : Nat) : Bool :=
  backB .any ops && tailT ops n && Nat.ble n ops.toList.length && Nat.beq tab.length n && tabB b tab ops && tabB b tab1 ops && Nat.blt s n && depsOf ops s k0
theorem W.regionZ {id : Nat} (hm : C.P.follows .mixedOrders = true) (ht : C.tt.ok C.P) (n : Nat) (tab tab1 : List HOp) (s k0 : Nat) (r1 : Res) (hord : ordZ b tab tab1 ops n s k0 = true) (ans : List An) (slots hs : List Nat) (st' : St) (obs : List Prop)
    (h : Go.Proofs.Ytpjiobflmcmlmaa.RS.regionZ C.P C.tt C.nt b tab tab1 s k0 r1 ops n ans slots hs = some (st', obs, tab, tab1, tab1, (stY b tab (depsOf ops s)).hp.set (b.hp.length + k0) r1)) (ho : AllP obs)
    (hk : ∀ a w, Sat C st' a w → Q .normal a w) : W C (.region id ops true) Q b := by
  rintro a w ⟨g, hsat⟩
  unfold Go.Proofs.Ytpjiobflmcmlmaa.RS.regionZ at h
  split at h
  case h_2 => cases h
  rename_i d0 e0 r0 ds os ht0 hts hos
  split at h
  case h_2 => cases h
  rename_i T ad x hop hdst hgd
  split at h
  case h_2 => cases h
  rename_i hp' obs2 hev
  split at h
  case h_2 => cases h
  rename_i tA obsA h1
  split at h
  case h_2 => cases h
  rename_i tB obsB h1'
  split at h
  case h_2 => cases h
  rename_i st2 obs3 h2
  split at h
  case h_2 => cases h
  rename_i st3 h3
  simp only [Option.some.injEq, Prod.mk.injEq] at h
  obtain ⟨rfl, rfl, rfl, rfl, ht1, rfl⟩ := h
  have ho := AllP.get ho
  simp only [ordZ, Bool.and_eq_true] at hord
  obtain ⟨⟨⟨⟨⟨⟨⟨o1, o2⟩, o3⟩, o4⟩, o5⟩, o6⟩, o7⟩, o8⟩ := hord
  have hle : n ≤ ops.size := by simpa using Nat.le_of_ble_eq_true o3
  refine wp_region_any hm ?_
  refine wpAny_headZ (m := ops.size - n) ht o1 o2 (by omega) (Nat.eq_of_beq_eq_true o4) (tabB_ok o5) (tabB_ok o6) (blt_lt o7) hts ht0 ht1.symm o8 hos hop hdst hgd hev h1 h1' (fun q hq => ho q (List.mem_append_left _ hq)) (fun q hq => ho q (List.mem_append_right _ (List.mem_append_left _ hq)))
    (fun q hq => ho q (List.mem_append_right _ (List.mem_append_right _ (List.mem_append_left _ hq)))) (fun a' w' hs' => ?_) _ _ _ a _ rfl ?_ (by simp) (fun j _ hj => by simp [Array.getD, hj]) (fun j o _ hj => ?_) ⟨g, ?_⟩
  · have hl : (ops.toList.drop n).length = ops.size - n := by simp
    rw [← hl, wpOps_eq_wpList (ops.toList.drop n) n (fun j => by simp)]
    exact runX_ok ht _ _ _ _ h2 (fun q hq => ho q (List.mem_append_right _ (List.mem_append_right _ (List.mem_append_right _ hq)))) a' w' hs' fun a w ⟨g, hs⟩ => hk a w ⟨_, hs.keep h3⟩
  · have : ∀ k, left (Array.replicate ops.size false) k ≤ k := by
      intro k
      induction k with
      | zero => exact Nat.le_refl _
      | succ k ihk => simp only [left]; cases (Array.replicate ops.size false).getD k false <;> simp <;> omega
    have := this n
    omega
  · exfalso
    have : (Array.replicate ops.size false).getD j false = false := by
      simp only [Array.getD]
      split <;> simp
    rw [this] at hj
    cases hj
  · have hno : ∀ i, lfn (Array.replicate ops.size false) i = false := fun i => by
      simp only [lfn, Array.getD]
      split <;> simp
    exact (hsat.std (Std.drew w)).start hno
theorem W.sz {id : Nat} {y : Code} (hm : C.P.follows .mixedOrders = true) (ht : C.tt.ok C.P) (n : Nat) (tab tab1 : List HOp) (s k0 : Nat) (r1 : Res) (hord : ordZ b tab tab1 ops n s k0 = true) (ans : List An) (slots hs : List Nat) (st' : St) (obs : List Prop)
    (h : Go.Proofs.Ytpjiobflmcmlmaa.RS.regionZ C.P C.tt C.nt b tab tab1 s k0 r1 ops n ans slots hs = some (st', obs, tab, tab1, tab1, (stY b tab (depsOf ops s)).hp.set (b.hp.length + k0) r1)) (ho : AllP obs) (hk : W C y Q st') : W C (.seq (.region id ops true) y) Q b :=
  W.seq (W.regionZ hm ht n tab tab1 s k0 r1 hord ans slots hs st' obs h ho hk)
end
end Go.Proofs.Ytpjiobflmcmlmaa.RS
