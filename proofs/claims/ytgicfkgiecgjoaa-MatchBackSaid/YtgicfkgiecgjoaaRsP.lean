/- RS, part P: guards; a region in the text's order; rules for code. -/
import Derived.Test.YtgicfkgiecgjoaaRsO
import Derived.Deep.LoopGhost
set_option linter.unusedVariables false
set_option linter.unusedSimpArgs false
namespace Go.Proofs.Ytgicfkgiecgjoaa.RS
open Go Go.RowKit
def ctxOf (tm : List Ent) : Nat → Nat × Bool → List (Nat × Bool)
  | 0, x => [x]
  | n + 1, x => x :: (match look tm x.1 with
    | some (some gw, _) => ctxOf tm n gw
    | _ => [])
def condP (tm : List Ent) : Nat → Nat × Bool → Prop
  | 0, _ => True
  | n + 1, x => match look tm x.1 with
    | some (none, av) => (match asB av with | some p => p = x.2 | none => True)
    | some (some gw, av) => condP tm n gw ∧ (match asB av with | some p => p = x.2 | none => True)
    | none => True
def fin (nt : Nat) (dst : Option Tmp) (r : Option AV) (st : St) (obs : List Prop) : Option (St × List Prop) :=
  match dst with
  | none => some (st, obs)
  | some d => bif Nat.blt d nt then match r with
      | some av => some (⟨putE st.tm d none av, st.hp, st.og⟩, obs)
      | none => some (⟨delE d st.tm, st.hp, st.og⟩, obs)
    else none
def stepO (P : Program) (tt : TT) (nt : Nat) (all : Array Oper) (st : St) (an : An) (o : Oper) : Option (St × List Prop) :=
  match o.guard with
  | none => match exec1 P tt st [] an o.op with
    | some (r, st', obs) => fin nt o.dst r st' obs
    | none => none
  | some (j, want) => match (all[j]?).bind (·.dst) with
    | none => none
    | some s => match an.g with
      | 1 => match look st.tm s with
        | some (none, av) => match asB av with
          | some p => match exec1 P tt st [] an o.op with
            | some (r, st', obs) => fin nt o.dst r st' ((p = want) :: obs)
            | none => none
          | none => none
        | _ => none
      | 2 => match look st.tm s with
        | some (none, av) => match asB av with
          | some p => fin nt o.dst none st [p = !want]
          | none => none
        | _ => none
      | _ => match o.dst with
        | some d => bif Nat.blt d nt && isNot d s then match evalP tt st (ctxOf st.tm 6 (s, want)) an.m o.op with
            | some (av, obs) => some (⟨putE st.tm d (some (s, want)) av, st.hp, st.og⟩, obs.map fun q => condP st.tm 7 (s, want) → q)
            | none => none
          else none
        | none => none
section
variable {C : Ctx} {st st' : St} {g : Gam} {a : Act} {w : World} {obs : List Prop} {Q : Exit → Act → World → Prop}
theorem cx_nil (a : Act) : CxOK [] a := fun _ _ h => by cases h
theorem ctx_ok (hs : ∀ e ∈ st.tm, slotOK g a e) : ∀ (n : Nat) (x : Nat × Bool), a.tmps[x.1]? = some (.bool x.2) → CxOK (ctxOf st.tm n x) a
  | 0, x, h => (cx_nil a).cons h
  | n + 1, x, h => by
    simp only [ctxOf]
    split
    · rename_i gw av e
      have := hs _ (look_mem e)
      obtain ⟨v, h1, h2⟩ := this
      simp only [gdOK] at h2
      have h3 : a.tmps[gw.1]? = some (.bool gw.2) := by
        apply Classical.byContradiction
        intro hn
        have := h2.2 hn
        rw [h] at h1
        rw [← Option.some.inj h1] at this
        cases this
      exact (ctx_ok hs n gw h3).cons h
    · exact (cx_nil a).cons h
theorem cond_ok (hs : ∀ e ∈ st.tm, slotOK g a e) : ∀ (n : Nat) (x : Nat × Bool), a.tmps[x.1]? = some (.bool x.2) → condP st.tm n x
  | 0, x, h => trivial
  | n + 1, x, h => by
    simp only [condP]
    split
    · rename_i av e
      split
      · rename_i p hp
        obtain ⟨v, h1, h2⟩ := hs _ (look_mem e)
        have := asB_rep hp h2
        subst this
        rw [h] at h1
        injection h1 with h1
        injection h1 with h1
        exact h1.symm
      · trivial
    · rename_i gw av e
      obtain ⟨v, h1, h2⟩ := hs _ (look_mem e)
      simp only [gdOK] at h2
      have h3 : a.tmps[gw.1]? = some (.bool gw.2) := by
        apply Classical.byContradiction
        intro hn
        have := h2.2 hn
        rw [h] at h1
        rw [← Option.some.inj h1] at this
        cases this
      refine ⟨cond_ok hs n gw h3, ?_⟩
      split
      · rename_i p hp
        have := asB_rep hp (h2.1 h3)
        subst this
        rw [h] at h1
        injection h1 with h1
        injection h1 with h1
        exact h1.symm
      · trivial
    · trivial
theorem put_defers (a : Act) (d : Option Tmp) (v : Value) : (a.put d v).defers = a.defers := by cases d <;> rfl
theorem put_size (a : Act) (d : Option Tmp) (v : Value) : (a.put d v).tmps.size = a.tmps.size := by cases d <;> simp [Act.put]
theorem SatG.slots' (hs : SatG C st g a w) {tm : List Ent} {a' : Act} (hd : a'.defers = a.defers) (hsz : a'.tmps.size = a.tmps.size) (h : ∀ e ∈ tm, slotOK g a' e) : SatG C ⟨tm, st.hp, st.og⟩ g a' w :=
  ⟨hd.trans hs.defers, hsz.trans hs.size, h, hs.mem, hs.frm, hs.own, hs.og⟩
theorem slots_del {tm : List Ent} {d : Nat} {v : Value} (hs : ∀ e ∈ tm, slotOK g a e) : ∀ e ∈ delE d tm, slotOK g (a.put (some d) v) e := by
  intro e he
  obtain ⟨h1, h2, h3⟩ := delE_mem he
  obtain ⟨u, hu, hok⟩ := hs e h1
  refine ⟨u, by rw [put_other h2]; exact hu, ?_⟩
  cases hg : e.2.1 with
  | none => rw [hg] at hok; exact hok
  | some gw =>
    rw [hg] at hok
    simp only [gdOK, put_other (h3 gw hg)]
    exact hok
theorem fin_ok {r : Option AV} {dst : Option Tmp} {st1 : St} {obs1 : List Prop} (hf : fin C.nt dst r st1 obs1 = some (st', obs)) {K : Act → World → Prop} (hk : ∀ a w, Sat C st' a w → K a w) : obs = obs1 ∧ Goes C st1 a r dst K := by
  unfold fin at hf
  cases dst with
  | none =>
    simp only [Option.some.injEq, Prod.mk.injEq] at hf
    obtain ⟨rfl, rfl⟩ := hf
    exact ⟨rfl, fun v w' g' h _ _ => hk _ _ ⟨g', h⟩⟩
  | some d =>
    simp only [cond_eq_ite] at hf
    split at hf
    case isFalse => cases hf
    rename_i hd
    cases r with
    | some av =>
      simp only [Option.some.injEq, Prod.mk.injEq] at hf
      obtain ⟨rfl, rfl⟩ := hf
      refine ⟨rfl, fun v w' g' h hr _ => hk _ _ ⟨g', h.slots' (put_defers _ _ _) (put_size _ _ _) (slots_put h.slots (by rw [h.size]; exact blt_lt hd) (fun gw e => by cases e) (hr av rfl))⟩⟩
    | none =>
      simp only [Option.some.injEq, Prod.mk.injEq] at hf
      obtain ⟨rfl, rfl⟩ := hf
      exact ⟨rfl, fun v w' g' h _ _ => hk _ _ ⟨g', h.slots' (put_defers _ _ _) (put_size _ _ _) (slots_del h.slots)⟩⟩
theorem yielded_eq {ops : Array Oper} {j s : Nat} (h : (ops[j]?).bind (·.dst) = some s) (a : Act) (b : Bool) : (yielded ops a.tmps j == some b) = true ↔ a.tmps[s]? = some (.bool b) := by
  unfold yielded
  rw [h]
  simp only [Option.bind_some]
  cases e : a.tmps[s]? with
  | none => simp
  | some v => cases v <;> simp
theorem stepO_ok (ht : C.tt.ok C.P) (hs : SatG C st g a w) {ops : Array Oper} {an : An} {o : Oper} (h : stepO C.P C.tt C.nt ops st an o = some (st', obs)) (ho : ∀ q ∈ obs, q) {rest : List Oper} (hk : ∀ a w, Sat C st' a w → wpList C.P ops Q rest a w) :
    wpList C.P ops Q (o :: rest) a w := by
  refine wpList_step fun K hK => ?_
  have hk : ∀ a w, Sat C st' a w → K a w := fun a w h => hK a w (hk a w h)
  unfold stepO at h
  split at h
  · rename_i hg
    rw [if_pos (by simp [Region.wanted, hg])]
    split at h
    case h_2 => cases h
    rename_i r st1 obs1 he
    obtain ⟨rfl, hgo⟩ := fin_ok (a := a) h hk
    exact exec1_ok ht hs (cx_nil a) he ho hgo
  · rename_i j want hg
    split at h
    case h_1 => cases h
    rename_i s hj
    have hwant : Region.wanted o (yielded ops a.tmps) = true ↔ a.tmps[s]? = some (.bool want) := by
      simp only [Region.wanted, hg]; exact yielded_eq hj a want
    have hslot : ∀ {av : AV} {p : Bool}, look st.tm s = some (none, av) → asB av = some p → a.tmps[s]? = some (.bool p) := fun e hp => by
      obtain ⟨v, h1, h2⟩ := hs.slots _ (look_mem e)
      have := asB_rep hp h2
      subst this
      exact h1
    split at h
    · split at h
      case h_2 => cases h
      rename_i av hlook
      split at h
      case h_2 => cases h
      rename_i p hp
      split at h
      case h_2 => cases h
      rename_i r st1 obs1 he
      obtain ⟨rfl, hgo⟩ := fin_ok (a := a) h hk
      have hpw : p = want := ho _ (List.mem_cons_self ..)
      rw [if_pos (hwant.2 (by rw [hslot hlook hp, hpw]))]
      exact exec1_ok ht hs (cx_nil a) he (fun q hq => ho q (List.mem_cons_of_mem _ hq)) hgo
    · split at h
      case h_2 => cases h
      rename_i av hlook
      split at h
      case h_2 => cases h
      rename_i p hp
      obtain ⟨rfl, hgo⟩ := fin_ok (a := a) h hk
      have hpw : p = !want := ho _ (List.mem_singleton.2 rfl)
      rw [if_neg]
      · exact hgo undef w g hs (fun av e => by cases e) (fun _ => rfl)
      · rw [hwant, hslot hlook hp, hpw]
        cases want <;> simp
    · split at h
      case h_2 => cases h
      rename_i d hd
      simp only [cond_eq_ite] at h
      split at h
      case isFalse => cases h
      rename_i hb
      simp only [Bool.and_eq_true] at hb
      split at h
      case h_2 => cases h
      rename_i av obs1 he
      simp only [Option.some.injEq, Prod.mk.injEq] at h
      obtain ⟨rfl, rfl⟩ := h
      have hne : s ≠ d := isNot_ne hb.2
      have hdl : d < a.tmps.size := by rw [hs.size]; exact blt_lt hb.1
      split
      · rename_i hw
        have hc := hwant.1 hw
        have hcond := cond_ok hs.slots 7 (s, want) hc
        refine evalP_goes ht hs (ctx_ok hs.slots 6 (s, want) hc) he (fun q hq => ho _ (List.mem_map.2 ⟨q, hq, rfl⟩) hcond) (fun v w' g' h hr _ => ?_)
        rw [hd]
        refine hk _ _ ⟨g', h.slots' (put_defers _ _ _) (put_size _ _ _) (slots_put h.slots hdl (fun gw e => by obtain rfl := Option.some.inj e; exact hne) ⟨fun _ => hr av rfl, fun hn => absurd hc hn⟩)⟩
      · rename_i hw
        rw [hd]
        refine hk _ _ ⟨g, hs.slots' (put_defers _ _ _) (put_size _ _ _) (slots_put hs.slots hdl (fun gw e => by obtain rfl := Option.some.inj e; exact hne) ⟨fun hc => absurd (hwant.2 hc) hw, fun _ => rfl⟩)⟩
end
/-! ### A region -/
def runL (P : Program) (tt : TT) (nt : Nat) (all : Array Oper) : St → List An → List Oper → Option (St × List Prop)
  | st, _, [] => some (st, [])
  | st, [], o :: os => match stepO P tt nt all st {} o with
    | some (st', ob) => match runL P tt nt all st' [] os with
      | some (st'', obs) => some (st'', ob ++ obs)
      | none => none
    | none => none
  | st, an :: ans, o :: os => match stepO P tt nt all st an o with
    | some (st', ob) => match runL P tt nt all st' ans os with
      | some (st'', obs) => some (st'', ob ++ obs)
      | none => none
    | none => none
/-- What is kept of a state: slots; handles, in a new order. -/
def hidx : List Nat → Nat → Option Nat
  | [], _ => none
  | x :: r, h => bif Nat.beq x h then some 0 else match hidx r h with | some j => some (j + 1) | none => none
def keepT (f : Nat → Option Nat) (tm : List Ent) : List Nat → Option (List Ent)
  | [] => some []
  | s :: r => match look tm s, keepT f tm r with
    | some (none, av), some es => match av.ren f with
      | some av' => some ((s, none, av') :: es)
      | none => none
    | _, _ => none
def keepR (f : Nat → Option Nat) (hp : List Res) : List Nat → Option (List Res)
  | [] => some []
  | h :: r => match hp[h]?, keepR f hp r with
    | some x, some xs => match x.ren f with
      | some y => some (y :: xs)
      | none => none
    | _, _ => none
def keepO (og : List (Option Nat)) : List Nat → List (Option Nat)
  | [] => []
  | h :: r => (match og[h]? with | some x => x | none => none) :: keepO og r
def distinct : List Nat → Bool
  | [] => true
  | x :: r => r.all (isNot x) && distinct r
def St.keep (st : St) (slots hs : List Nat) : Option St :=
  bif distinct hs then match keepT (hidx hs) st.tm slots, keepR (hidx hs) st.hp hs with
    | some tm, some hp => some ⟨tm, hp, keepO st.og hs⟩
    | _, _ => none
  else none
def region (P : Program) (tt : TT) (nt : Nat) (st : St) (ops : Array Oper) (ans : List An) (slots hs : List Nat) : Option (St × List Prop) :=
  match runL P tt nt ops st ans ops.toList with
  | some (st', obs) => match st'.keep slots hs with
    | some st'' => some (st'', obs)
    | none => none
  | none => none
theorem hidx_get : ∀ {hs : List Nat} {h j : Nat}, hidx hs h = some j → hs[j]? = some h
  | x :: r, h, j, hh => by
    simp only [hidx, cond_eq_ite] at hh
    split at hh
    · rename_i e
      obtain rfl := Option.some.inj hh
      rw [Nat.eq_of_beq_eq_true e]; rfl
    · split at hh
      · rename_i k hk; obtain rfl := Option.some.inj hh; simpa using hidx_get hk
      · cases hh
theorem distinct_ne : ∀ {hs : List Nat} {i j h : Nat}, distinct hs = true → hs[i]? = some h → hs[j]? = some h → i = j
  | x :: r, 0, 0, h, _, _, _ => rfl
  | x :: r, 0, j + 1, h, hd, h1, h2 => by
    simp only [distinct, Bool.and_eq_true, List.all_eq_true] at hd
    simp at h1 h2
    have := isNot_ne (hd.1 h (List.mem_of_getElem? h2))
    exact absurd h1.symm this
  | x :: r, i + 1, 0, h, hd, h1, h2 => by
    simp only [distinct, Bool.and_eq_true, List.all_eq_true] at hd
    simp at h1 h2
    have := isNot_ne (hd.1 h (List.mem_of_getElem? h1))
    exact absurd h2.symm this
  | x :: r, i + 1, j + 1, h, hd, h1, h2 => by
    simp only [distinct, Bool.and_eq_true] at hd
    simp at h1 h2
    rw [distinct_ne hd.2 h1 h2]
  | [], _, _, _, _, h1, _ => by simp at h1
section
variable {C : Ctx} {st st' : St} {g : Gam} {a : Act} {w : World} {obs : List Prop} {Q : Exit → Act → World → Prop}
theorem keepT_mem {f : Nat → Option Nat} {tm : List Ent} : ∀ {slots : List Nat} {es : List Ent}, keepT f tm slots = some es → ∀ e ∈ es, ∃ av, (e.1, none, av) ∈ tm ∧ e.2.1 = none ∧ av.ren f = some e.2.2
  | [], es, h, e, he => by obtain rfl := Option.some.inj h; cases he
  | s :: r, es, h, e, he => by
    simp only [keepT] at h
    split at h
    case h_2 => cases h
    rename_i av es' h1 h2
    split at h
    case h_2 => cases h
    rename_i av' h3
    obtain rfl := Option.some.inj h
    rcases List.mem_cons.1 he with rfl | he
    · exact ⟨av, look_mem h1, rfl, h3⟩
    · exact keepT_mem h2 e he
theorem keepR_get {f : Nat → Option Nat} {hp : List Res} : ∀ {hs : List Nat} {xs : List Res}, keepR f hp hs = some xs → ∀ (j : Nat) (y : Res), xs[j]? = some y → ∃ h x, hs[j]? = some h ∧ hp[h]? = some x ∧ x.ren f = some y
  | [], xs, h, j, y, hy => by obtain rfl := Option.some.inj h; simp at hy
  | h0 :: r, xs, h, j, y, hy => by
    simp only [keepR] at h
    split at h
    case h_2 => cases h
    rename_i x xs' h1 h2
    split at h
    case h_2 => cases h
    rename_i y0 h3
    obtain rfl := Option.some.inj h
    cases j with
    | zero => simp at hy; subst hy; exact ⟨h0, x, rfl, h1, h3⟩
    | succ j => simpa using keepR_get h2 j y (by simpa using hy)
theorem keepO_get {og : List (Option Nat)} : ∀ {hs : List Nat} {k j : Nat}, (keepO og hs)[k]? = some (some j) → ∃ h, hs[k]? = some h ∧ og[h]? = some (some j)
  | [], k, j, h => by simp [keepO] at h
  | h0 :: r, 0, j, h => by
    simp only [keepO, List.getElem?_cons_zero, Option.some.injEq] at h
    refine ⟨h0, rfl, ?_⟩
    split at h
    · rename_i e; rw [e, h]
    · cases h
  | h0 :: r, k + 1, j, h => by
    simp only [keepO, List.getElem?_cons_succ] at h
    simpa using keepO_get h
theorem SatG.keep (hs : SatG C st g a w) {slots hds : List Nat} (h : st.keep slots hds = some st') : SatG C st' (fun j => g (hds.getD j 0)) a w := by
  unfold St.keep at h
  simp only [cond_eq_ite] at h
  split at h
  case isFalse => cases h
  rename_i hdis
  split at h
  case h_2 => cases h
  rename_i tm hp h1 h2
  obtain rfl := Option.some.inj h
  have hf : ∀ h k, hidx hds h = some k → (fun j => g (hds.getD j 0)) k = g h := fun h k e => by
    have := hidx_get e
    simp [List.getD, this]
  refine ⟨hs.defers, hs.size, fun e he => ?_, ⟨fun j r hr => ?_, fun j j' r1 r2 b hne hr1 hr2 ho hb => ?_⟩, hs.frm, fun j r b hr ho hb => ?_, fun k j hk => ?_⟩
  · obtain ⟨av, k1, k2, k3⟩ := keepT_mem h1 e he
    obtain ⟨v, k4, k5⟩ := hs.slots _ k1
    refine ⟨v, k4, ?_⟩
    rw [k2]
    exact arep_ren hf k3 k5
  · obtain ⟨h0, x, k1, k2, k3⟩ := keepR_get h2 j r hr
    have := (ok_ren hf k3 (hs.mem.ok h0 x k2)).1
    simpa [List.getD, k1] using this
  · obtain ⟨h0, x, k1, k2, k3⟩ := keepR_get h2 j r1 hr1
    obtain ⟨h0', x', k1', k2', k3'⟩ := keepR_get h2 j' r2 hr2
    have e1 := ok_ren hf k3 (hs.mem.ok h0 x k2)
    have e2 := ok_ren hf k3' (hs.mem.ok h0' x' k2')
    have g1 : g (hds.getD j 0) = g h0 := by simp [List.getD, k1]
    have g2 : g (hds.getD j' 0) = g h0' := by simp [List.getD, k1']
    simp only [g1, e1.2.1] at hb
    simp only [g2, e2.2.1]
    rw [e1.2.2] at ho
    exact hs.mem.sep h0 h0' x x' b (fun e => hne (by subst e; exact distinct_ne hdis k1 k1')) k2 k2' ho hb
  · obtain ⟨h0, x, k1, k2, k3⟩ := keepR_get h2 j r hr
    have e1 := ok_ren hf k3 (hs.mem.ok h0 x k2)
    have g1 : g (hds.getD j 0) = g h0 := by simp [List.getD, k1]
    simp only [g1, e1.2.1] at hb
    rw [e1.2.2] at ho
    exact hs.own h0 x b k2 ho hb
  · obtain ⟨h0, k1, k2⟩ := keepO_get hk
    have g1 : g (hds.getD k 0) = g h0 := by simp [List.getD, k1]
    simp only [g1]
    exact hs.og h0 j k2
theorem runL_ok (ht : C.tt.ok C.P) {ops : Array Oper} (l : List Oper) : ∀ (ans : List An) (st : St) (obs : List Prop), runL C.P C.tt C.nt ops st ans l = some (st', obs) → (∀ q ∈ obs, q) → ∀ (a : Act) (w : World), Sat C st a w → (∀ a w, Sat C st' a w → Q .normal a w) → wpList C.P ops Q l a w := by
  induction l with
  | nil =>
    intro ans st obs h ho a w hs hk
    have : st = st' := by cases ans <;> (simp only [runL, Option.some.injEq, Prod.mk.injEq] at h; exact h.1)
    subst this
    exact hk a w hs
  | cons o l ih =>
    intro ans st obs h ho a w hs hk
    obtain ⟨g, hs⟩ := hs
    cases ans with
    | nil =>
      simp only [runL] at h
      split at h
      case h_2 => cases h
      rename_i st1 ob h1
      split at h
      case h_2 => cases h
      rename_i st2 obs2 h2
      simp only [Option.some.injEq, Prod.mk.injEq] at h
      obtain ⟨rfl, rfl⟩ := h
      exact stepO_ok ht hs h1 (fun q hq => ho q (List.mem_append_left _ hq)) fun a w hs' => ih _ _ _ h2 (fun q hq => ho q (List.mem_append_right _ hq)) a w hs' hk
    | cons an ans =>
      simp only [runL] at h
      split at h
      case h_2 => cases h
      rename_i st1 ob h1
      split at h
      case h_2 => cases h
      rename_i st2 obs2 h2
      simp only [Option.some.injEq, Prod.mk.injEq] at h
      obtain ⟨rfl, rfl⟩ := h
      exact stepO_ok ht hs h1 (fun q hq => ho q (List.mem_append_left _ hq)) fun a w hs' => ih _ _ _ h2 (fun q hq => ho q (List.mem_append_right _ hq)) a w hs' hk

/-! ### Rules for code -/
def W (C : Ctx) (c : Code) (Q : Exit → Act → World → Prop) (st : St) : Prop := ∀ a w, Sat C st a w → c.wp C.P Q a w
/-- All of a list of propositions. -/
def AllP : List Prop → Prop
  | [] => True
  | p :: r => p ∧ AllP r
theorem AllP.get : ∀ {l : List Prop}, AllP l → ∀ q ∈ l, q
  | p :: r, h, q, hq => by
    rcases List.mem_cons.1 hq with rfl | hq
    · exact h.1
    · exact AllP.get h.2 q hq
theorem W.region {id : Nat} {ops : Array Oper} (ht : C.tt.ok C.P) (ans : List An) (slots hs : List Nat) (st' : St) (obs : List Prop) (h : Go.Proofs.Ytgicfkgiecgjoaa.RS.region C.P C.tt C.nt st ops ans slots hs = some (st', obs)) (ho : AllP obs)
    (hk : ∀ a w, Sat C st' a w → Q .normal a w) : W C (.region id ops false) Q st := by
  intro a w hsat
  unfold Go.Proofs.Ytgicfkgiecgjoaa.RS.region at h
  split at h
  case h_2 => cases h
  rename_i st1 obs1 h1
  split at h
  case h_2 => cases h
  rename_i st2 h2
  simp only [Option.some.injEq, Prod.mk.injEq] at h
  obtain ⟨rfl, rfl⟩ := h
  exact wp_region_list (runL_ok ht _ _ _ _ h1 (AllP.get ho) a w hsat fun a w ⟨g, hs⟩ => hk a w ⟨_, hs.keep h2⟩)
theorem W.seq {x y : Code} (h : W C x (Exit.then (y.wp C.P Q) Q) st) : W C (.seq x y) Q st := fun a w hs => wp_seq (h a w hs)
theorem W.skip (h : ∀ a w, Sat C st a w → Q .normal a w) : W C .skip Q st := fun a w hs => wp_skip (h a w hs)
theorem W.exit {id : Nat} (h : ∀ a w, Sat C st a w → Q (.exit id) a w) : W C (.exit id) Q st := fun a w hs => wp_exit (h a w hs)
theorem W.ret (h : ∀ a w, Sat C st a w → Q .ret a w) : W C .ret Q st := fun a w hs => wp_ret (h a w hs)
theorem W.block {id : Nat} {c : Code} (h : W C c (Exit.inBlock id Q) st) : W C (.block id c) Q st := fun a w hs => wp_block (h a w hs)
theorem W.cond {s : Nat} {x y : Code} {p : Bool} (hl : (look st.tm s).bind (fun e => match e.1 with | none => asB e.2 | some _ => none) = some p) (ht : p = true → W C x Q st) (hf : p = false → W C y Q st) : W C (.cond (.tmp s) x y) Q st := by
  rintro a w ⟨g, hs⟩
  obtain ⟨e, h1, h2⟩ := bind_some hl
  obtain ⟨gd, av⟩ := e
  cases gd with
  | some _ => cases h2
  | none =>
    obtain ⟨v, h3, h4⟩ := hs.slots _ (look_mem h1)
    have := asB_rep h2 h4
    subst this
    have he : a.eval (.tmp s) = .bool p := by simp [Act.eval, h3]
    exact wp_cond_split he (fun h => ht h a w ⟨g, hs⟩) (fun h => hf h a w ⟨g, hs⟩)
/-- A state may be turned into one that says less. -/
theorem W.weaken {c : Code} (slots hs : List Nat) (st' : St) (h : st.keep slots hs = some st') (hw : W C c Q st') : W C c Q st := fun a w ⟨g, hsat⟩ => hw a w ⟨_, hsat.keep h⟩
/-- The ways meet again: behind x the state is one of a family. -/
theorem W.cut {x y : Code} {ι : Type} (J : ι → St) (p : ι → Prop) (h : W C x (Exit.then (fun a w => ∃ z, p z ∧ Sat C (J z) a w) Q) st) (hy : ∀ z, p z → W C y Q (J z)) : W C (.seq x y) Q st := by
  intro a w hs
  refine wp_seq (wp_mono (h a w hs) fun e a w hq => ?_)
  cases e with
  | normal => obtain ⟨z, hz, hs⟩ := hq; exact hy z hz a w hs
  | _ => exact hq
theorem W.loop {c : Code} {ι : Type} (I : ι → St) (p : ι → Prop) (μ : ι → Nat) (z0 : ι) (h0 : p z0) (he : st = I z0) (round : ∀ z, p z → W C c (Exit.then (fun a w => ∃ z', p z' ∧ μ z' < μ z ∧ Sat C (I z') a w) Q) (I z)) : W C (.loop c) Q st := by
  subst he
  intro a w hs
  refine wp_loop_ghost (fun n a w => ∃ z, p z ∧ μ z = n ∧ Sat C (I z) a w) (μ z0) ⟨z0, h0, rfl, hs⟩ ?_
  rintro n a w ⟨z, hz, rfl, hs⟩
  refine wp_mono (round z hz a w hs) fun e a' w' hq => ?_
  cases e with
  | normal => obtain ⟨z', hp', hlt, hs'⟩ := hq; exact ⟨μ z', hlt, z', hp', rfl, hs'⟩
  | _ => exact hq
/-- The round ends in a state of the family, with less to do. -/
theorem again {ι : Type} {I : ι → St} {p : ι → Prop} {μ : ι → Nat} {n : Nat} (z : ι) (hp : p z) (hlt : μ z < n) (he : st = I z) : ∀ a w, Sat C st a w → ∃ z', p z' ∧ μ z' < n ∧ Sat C (I z') a w := fun a w hs => ⟨z, hp, hlt, he ▸ hs⟩
theorem meet {ι : Type} {I : ι → St} {p : ι → Prop} (z : ι) (hp : p z) (he : st = I z) : ∀ a w, Sat C st a w → ∃ z', p z' ∧ Sat C (I z') a w := fun a w hs => ⟨z, hp, he ▸ hs⟩
end
/-! ### A function -/
def evalRes (tt : TT) (st : St) : List ResultVar → Option (List SV)
  | [] => some []
  | .tmp t :: r => match lkE st.tm [] (.tmp t), evalRes tt st r with
    | some (.sv s), some ss => some (s :: ss)
    | _, _ => none
  | .cell a t :: r => match vLoad tt st.hp t (lkE st.tm [] (.tmp a)), evalRes tt st r with
    | some (.sv s, []), some ss => some (s :: ss)
    | _, _ => none
def resAV : List SV → AV
  | [s] => .sv s
  | ss => .tup ss
def initT : Nat → List AV → List Ent
  | _, [] => []
  | i, x :: r => (i, none, x) :: initT (i + 1) r
def initO (n : Nat) : List (Option Nat) := (List.range n).map some
def ogOK (ins : List Res) (og : List (Option Nat)) : Nat → Bool
  | 0 => true
  | n + 1 => (match ins[n]? with
    | some r => bif r.keeps then (match og[n]? with | some (some j) => Nat.beq j n | _ => false) else true
    | none => true) && ogOK ins og n
def outsOK (ins outs : List Res) : Nat → Bool
  | 0 => true
  | n + 1 => (lentAt ins n || (match outs[n]? with | some r => r.own | none => true)) && outsOK ins outs n
abbrev mkC (P : Program) (tt : TT) (nt : Nat) (ins : List Res) (g0 : Gam) (w : World) : Ctx := ⟨P, tt, w, modsOf g0 ins, nt, g0⟩
def done (tt : TT) (st : St) (fn : Func) (ins : List Res) (hs : List Nat) : Option (List Res × AV) :=
  match evalRes tt st fn.results.toList, st.keep [] hs with
  | some ss, some st' => match (resAV ss).ren (hidx hs) with
    | some av => bif ogOK ins st'.og ins.length && outsOK ins st'.hp st'.hp.length then some (st'.hp, av) else none
    | none => none
  | _, _ => none
section
variable {P : Program} {tt : TT} {nt : Nat} {ins outs : List Res} {g0 : Gam} {w0 : World} {st : St} {res : AV} {Q : Exit → Act → World → Prop}
theorem evalRes_ok (ht : tt.ok P) {g : Gam} {a : Act} {w : World} (hsl : ∀ e ∈ st.tm, slotOK g a e) (hm : Mem g st.hp w) : ∀ {rs : List ResultVar} {ss : List SV}, evalRes tt st rs = some ss →
    ∃ vs, (rs.mapM fun (x : ResultVar) => (match x with | .tmp t => pure (a.tmps.getD t undef) | .cell b t => (do loadVar t (← asAddr (a.tmps.getD b undef))) : Sem Value)).run P w = .ok vs w ∧ sreps g ss vs
  | [], ss, h => by obtain rfl := Option.some.inj h; exact ⟨[], rfl, trivial⟩
  | .tmp t :: rs, ss, h => by
    simp only [evalRes] at h
    split at h
    case h_2 => cases h
    rename_i s ss' h1 h2
    obtain rfl := Option.some.inj h
    obtain ⟨vs, h3, h4⟩ := evalRes_ok ht hsl hm h2
    refine ⟨a.eval (.tmp t) :: vs, ?_, lkE_ok hsl (cx_nil a) _ _ h1, h4⟩
    rw [List.mapM_cons]
    simp only [Sem.run_bind, Sem.run_pure, Result.andThen_ok, h3, Act.eval]
  | .cell b t :: rs, ss, h => by
    simp only [evalRes] at h
    split at h
    case h_2 => cases h
    rename_i s ss' h1 h2
    obtain rfl := Option.some.inj h
    obtain ⟨vs, h3, h4⟩ := evalRes_ok ht hsl hm h2
    obtain ⟨xv, hx⟩ : ∃ xv, lkE st.tm [] (.tmp b) = some xv := by
      unfold vLoad at h1
      split at h1
      case h_2 => cases h1
      rename_i _ hx
      obtain ⟨xv, hx, _⟩ := bind_some hx
      exact ⟨xv, hx⟩
    obtain ⟨v, h5, h6⟩ := vLoad_ok ht hm h1 (by simp) hx (lkE_ok hsl (cx_nil a) _ _ hx)
    refine ⟨v :: vs, ?_, h6, h4⟩
    have h7 : (do loadVar t (← asAddr (a.tmps.getD b undef)) : Sem Value).run P w = .ok v w := by
      have e : a.eval (.tmp b) = a.tmps.getD b undef := rfl
      rw [← e]
      revert h5
      cases a.eval (.tmp b) <;> simp [Instr.loadAt, Instr.sureAddr, asAddr]
      rename_i q
      cases q <;> simp [Instr.sureAddr]
    rw [List.mapM_cons]
    simp only [Sem.run_bind] at h7 ⊢
    rw [h7]
    simp only [Result.andThen_ok, h3, Sem.run_pure]
theorem ogOK_get {og : List (Option Nat)} : ∀ {n : Nat}, ogOK ins og n = true → ∀ (j : Nat) (r : Res), j < n → ins[j]? = some r → r.keeps = true → og[j]? = some (some j)
  | n + 1, h, j, r, hj, hr, hk => by
    simp only [ogOK, Bool.and_eq_true] at h
    by_cases e : j = n
    · subst e
      have h1 := h.1
      rw [hr] at h1
      simp only [hk, cond_true] at h1
      split at h1
      · rename_i j' e; rw [e, Nat.eq_of_beq_eq_true h1]
      · cases h1
    · exact ogOK_get h.2 j r (by omega) hr hk
theorem outsOK_get : ∀ {n : Nat}, outsOK ins outs n = true → ∀ (j : Nat) (r : Res), j < n → outs[j]? = some r → lentAt ins j = false → r.own = true
  | n + 1, h, j, r, hj, hr, hk => by
    simp only [outsOK, Bool.and_eq_true, Bool.or_eq_true] at h
    by_cases e : j = n
    · subst e
      rcases h.1 with h1 | h1
      · rw [h1] at hk; cases hk
      · rw [hr] at h1; exact h1
    · exact outsOK_get h.2 j r (by omega) hr hk
theorem done_ok (ht : tt.ok P) {fn : Func} {hs : List Nat} (hd : done tt st fn ins hs = some (outs, res)) {a : Act} {w : World} (hsat : Sat (mkC P tt nt ins g0 w0) st a w) :
    a.defers = [] ∧ ∃ v, (results fn a.tmps).run P w = .ok v w ∧ SpecPost g0 w0 ins outs res (.returned v) w := by
  obtain ⟨g, hsat⟩ := hsat
  unfold done at hd
  split at hd
  case h_2 => cases hd
  rename_i ss st' h1 h2
  split at hd
  case h_2 => cases hd
  rename_i av h3
  simp only [cond_eq_ite] at hd
  split at hd
  case isFalse => cases hd
  rename_i hok
  simp only [Bool.and_eq_true] at hok
  simp only [Option.some.injEq, Prod.mk.injEq] at hd
  obtain ⟨rfl, rfl⟩ := hd
  obtain ⟨vs, h4, h5⟩ := evalRes_ok ht hsat.slots hsat.mem h1
  have hk := hsat.keep h2
  have hf : ∀ h k, hidx hs h = some k → (fun j => g (hs.getD j 0)) k = g h := fun h k e => by
    have := hidx_get e
    simp [List.getD, this]
  have hlen : ∀ {ss : List SV} {vs : List Value}, sreps g ss vs → ss.length = vs.length := by
    intro ss
    induction ss with
    | nil => intro vs h; cases vs <;> first | rfl | exact h.elim
    | cons s ss ih => intro vs h; cases vs with
      | nil => exact h.elim
      | cons v vs => simp [ih h.2]
  have hrun : (results fn a.tmps).run P w = .ok (if h : vs.toArray.size = 1 then vs.toArray[0] else .tuple vs.toArray) w := by
    unfold results
    simp only [Sem.run_bind, Array.mapM_eq_mapM_toList, Sem.run_map]
    erw [h4]
    rfl
  have hrep : arep g (resAV ss) (if h : vs.toArray.size = 1 then vs.toArray[0] else .tuple vs.toArray) := by
    have hl := hlen h5
    match ss, vs, h5, hl with
    | [s], [v], h5, _ => exact h5.1
    | [], [], h5, _ => exact ⟨#[], rfl, trivial⟩
    | s1 :: s2 :: ss, v1 :: v2 :: vs, h5, _ =>
      rw [dif_neg (by simp)]
      exact ⟨_, rfl, h5⟩
  refine ⟨hsat.defers, _, hrun, (fun j => g (hs.getD j 0)), _, rfl, arep_ren hf h3 hrep, ⟨hk.mem, hk.frm, fun j r hr hke => ?_, fun j r b hr hl hb => ?_⟩⟩
  · exact hk.og j j (ogOK_get hok.1 j r (List.getElem?_eq_some_iff.1 hr).1 hr hke)
  · exact hk.own j r b hr (outsOK_get hok.2 j r (List.getElem?_eq_some_iff.1 hr).1 hr hl) hb
theorem W.retd (ht : tt.ok P) (fn : Func) (hs : List Nat) (hd : done tt st fn ins hs = some (outs, res)) (hQ : ∀ a w, bodyPost P fn (SpecPost g0 w0 ins outs res) .ret a w → Q .ret a w) : W (mkC P tt nt ins g0 w0) .ret Q st :=
  W.ret fun a w hsat => hQ a w (done_ok ht hd hsat)
theorem W.endd (ht : tt.ok P) (fn : Func) (hs : List Nat) (hd : done tt st fn ins hs = some (outs, res)) (hQ : ∀ a w, bodyPost P fn (SpecPost g0 w0 ins outs res) .normal a w → Q .normal a w) : ∀ a w, Sat (mkC P tt nt ins g0 w0) st a w → Q .normal a w :=
  fun a w hsat => hQ a w (done_ok ht hd hsat)
theorem areps_length {g : Gam} : ∀ {os : List AV} {vs : List Value}, areps g os vs → os.length = vs.length
  | [], [], _ => rfl
  | _ :: _, _ :: _, h => by simp [areps_length h.2]
  | [], _ :: _, h => h.elim
  | _ :: _, [], h => h.elim
theorem initT_ok {g : Gam} {a : Act} : ∀ {args : List AV} {vs : List Value} {i : Nat}, areps g args vs → (∀ j v, vs[j]? = some v → a.tmps[i + j]? = some v) → ∀ e ∈ initT i args, slotOK g a e
  | [], _, i, _, _, e, he => by cases he
  | x :: args, v :: vs, i, h, hv, e, he => by
    rcases List.mem_cons.1 he with rfl | he
    · exact ⟨v, by simpa using hv 0 v rfl, h.1⟩
    · exact initT_ok h.2 (fun j v hj => by have := hv (j + 1) v (by simpa using hj); rwa [show i + 1 + j = i + (j + 1) by omega]) e he
  | _ :: _, [], _, h, _, _, _ => h.elim
/-- A function keeps its contract, if its body does. -/
theorem Spec.intro {f : FuncId} {args : List AV} (fn : Func) (c : Code) (hf : P.funcs[f]? = some fn) (hn : FnOK P f) (hb : fn.body = some c) (hnt : fn.ntmps = nt) (hle : args.length ≤ nt)
    (H : ∀ (g0 : Gam) (w : World), W (mkC P tt nt ins g0 w) c (bodyPost P fn (SpecPost g0 w ins outs res)) ⟨initT 0 args, ins, initO ins.length⟩) : Spec P f ins args outs res := by
  refine ⟨hn, fun g w vs hm hv => ?_⟩
  refine calls_of_wp hf hb (H g w _ w ⟨g, rfl, ?_, initT_ok hv fun j v hj => ?_, hm, Frm.refl _ _, fun h r b hr ho hb => .inr ⟨h, r, hr, ho, hb⟩, fun h j hj => ?_⟩)
  · have := areps_length hv
    simp [hnt]
    omega
  · have hlt := (List.getElem?_eq_some_iff.1 hj).1
    show (vs.toArray ++ _)[0 + j]? = _
    rw [Nat.zero_add, Array.getElem?_append_left (by simpa using hlt)]
    simpa using hj
  · simp only [initO, List.getElem?_map, Option.map_eq_some_iff] at hj
    obtain ⟨k, h1, h2⟩ := hj
    obtain rfl := Option.some.inj h2
    have : k = h := by
      rw [List.getElem?_range] at h1
      · exact (Option.some.inj h1).symm
      · rcases Nat.lt_or_ge h ins.length with hl | hl
        · exact hl
        · rw [List.getElem?_eq_none (by simpa using hl)] at h1; cases h1
    rw [this]
end
end Go.Proofs.Ytgicfkgiecgjoaa.RS
