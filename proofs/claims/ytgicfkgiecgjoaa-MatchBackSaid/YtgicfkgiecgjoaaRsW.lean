/- RS, part W: regions that draw and lay new blocks on the way: one table of what each operation leaves serves every order. -/
import Derived.Test.YtgicfkgiecgjoaaRsU
set_option linter.unusedVariables false
set_option linter.unusedSimpArgs false
namespace Go.Proofs.Ytgicfkgiecgjoaa.RS
open Go Go.RowKit
structure HOp where
  d : Nat
  e : Option (Option (Nat × Bool) × AV)
  r : Option Res
def entsOf (p : Nat → Bool) : Nat → List HOp → List Ent
  | _, [] => []
  | i, h :: t => (bif p i then (match h.e with | some x => [(h.d, x)] | none => []) else []) ++ entsOf p (i + 1) t
def hpOf (p : Nat → Bool) : Nat → List HOp → List Res
  | _, [] => []
  | i, h :: t => (bif p i then (match h.r with | some r => r | none => .gone) else .gone) :: hpOf p (i + 1) t
def stY (b : St) (tab : List HOp) (p : Nat → Bool) : St := ⟨b.tm ++ entsOf p 0 tab, b.hp ++ hpOf p 0 tab, b.og⟩
def reachO (ops : Array Oper) : Nat → Nat → Nat → Bool
  | 0, _, _ => false
  | f + 1, i, j => match ops[i]? with
    | some o => o.after.any fun e => Region.binds .any e && (Nat.beq e.on j || reachO ops f e.on j)
    | none => false
/-- Does operation k wait for operation i? -/
def depsOf (all : Array Oper) (k i : Nat) : Bool := reachO all all.size k i
theorem entsOf_mem {p : Nat → Bool} {e : Ent} : ∀ {tab : List HOp} {i : Nat}, e ∈ entsOf p i tab → ∃ k h x, tab[k]? = some h ∧ p (i + k) = true ∧ h.e = some x ∧ e = (h.d, x)
  | h :: t, i, he => by
    simp only [entsOf, List.mem_append] at he
    rcases he with he | he
    · cases hp : p i
      · rw [hp] at he; cases he
      · rw [hp] at he
        simp only [cond_true] at he
        cases hx : h.e with
        | none => rw [hx] at he; cases he
        | some x => rw [hx] at he; exact ⟨0, h, x, rfl, by simpa using hp, hx, by simpa using he⟩
    · obtain ⟨k, h', x, h1, h2, h3, h4⟩ := entsOf_mem he
      exact ⟨k + 1, h', x, by simpa using h1, by rw [show i + (k + 1) = i + 1 + k by omega]; exact h2, h3, h4⟩
  | [], i, he => by cases he
theorem mem_entsOf {p : Nat → Bool} {h : HOp} {x : Option (Nat × Bool) × AV} (h3 : h.e = some x) : ∀ {tab : List HOp} {i k : Nat}, tab[k]? = some h → p (i + k) = true → ((h.d, x) : Ent) ∈ entsOf p i tab
  | h0 :: t, i, 0, h1, h2 => by
    rw [List.getElem?_cons_zero] at h1
    obtain rfl := Option.some.inj h1
    rw [Nat.add_zero] at h2
    simp only [entsOf, List.mem_append]
    left
    rw [h2, h3]
    exact List.mem_cons_self ..
  | h0 :: t, i, k + 1, h1, h2 => by
    rw [List.getElem?_cons_succ] at h1
    have h4 : p (i + 1 + k) = true := by rw [show i + 1 + k = i + (k + 1) by omega]; exact h2
    simp only [entsOf, List.mem_append]
    exact .inr (mem_entsOf h3 h1 h4)
theorem hpOf_len {p : Nat → Bool} : ∀ {tab : List HOp} {i : Nat}, (hpOf p i tab).length = tab.length
  | [], _ => rfl
  | _ :: t, i => by simp [hpOf, hpOf_len (tab := t)]
theorem hpOf_get {p : Nat → Bool} : ∀ {tab : List HOp} {i k : Nat} {h : HOp}, tab[k]? = some h → (hpOf p i tab)[k]? = some (bif p (i + k) then (match h.r with | some r => r | none => .gone) else .gone)
  | h0 :: t, i, 0, h, h1 => by simp at h1; subst h1; rfl
  | h0 :: t, i, k + 1, h, h1 => by
    simp only [hpOf, List.getElem?_cons_succ]
    rw [hpOf_get (by simpa using h1), show i + 1 + k = i + (k + 1) by omega]
section
variable {C : Ctx} {b : St} {tab : List HOp} {g : Gam} {a : Act} {w : World}
/-- A resource of a state of the table: of the base, gone, or an operation's that has come up. -/
theorem hp_cases {p : Nat → Bool} {h : Nat} {r : Res} (hr : (stY b tab p).hp[h]? = some r) : (h < b.hp.length ∧ b.hp[h]? = some r) ∨ (b.hp.length ≤ h ∧ r = .gone) ∨ ∃ k t, h = b.hp.length + k ∧ tab[k]? = some t ∧ p k = true ∧ t.r = some r := by
  simp only [stY] at hr
  rcases Nat.lt_or_ge h b.hp.length with hl | hl
  · rw [List.getElem?_append_left hl] at hr; exact .inl ⟨hl, hr⟩
  · rw [List.getElem?_append_right hl] at hr
    have hk := (List.getElem?_eq_some_iff.1 hr).1
    rw [hpOf_len] at hk
    have ht : tab[h - b.hp.length]? = some tab[h - b.hp.length] := List.getElem?_eq_getElem hk
    rw [hpOf_get ht, Nat.zero_add] at hr
    obtain rfl := Option.some.inj hr
    cases hp : p (h - b.hp.length)
    · exact .inr (.inl ⟨hl, rfl⟩)
    · cases hrr : (tab[h - b.hp.length]).r with
      | none => exact .inr (.inl ⟨hl, by simp⟩)
      | some r => exact .inr (.inr ⟨h - b.hp.length, _, by omega, ht, hp, by simp [hrr]⟩)
theorem hp_at {p : Nat → Bool} {k : Nat} {t : HOp} {r : Res} (ht : tab[k]? = some t) (hp : p k = true) (hr : t.r = some r) : (stY b tab p).hp[b.hp.length + k]? = some r := by
  simp only [stY]
  rw [List.getElem?_append_right (by omega), show b.hp.length + k - b.hp.length = k by omega, hpOf_get ht, Nat.zero_add, hp, hr]
  rfl
theorem hp_base {p : Nat → Bool} {h : Nat} {r : Res} (hr : b.hp[h]? = some r) : (stY b tab p).hp[h]? = some r := by
  simp only [stY]
  rw [List.getElem?_append_left (List.getElem?_eq_some_iff.1 hr).1]; exact hr
theorem SatG.sub {p q : Nat → Bool} (hs : SatG C (stY b tab q) g a w) (hpq : ∀ i, p i = true → q i = true) : SatG C (stY b tab p) g a w := by
  have key : ∀ {h : Nat} {r : Res}, (stY b tab p).hp[h]? = some r → r = .gone ∨ (stY b tab q).hp[h]? = some r := by
    intro h r hr
    rcases hp_cases hr with ⟨_, h1⟩ | ⟨_, h1⟩ | ⟨k, t, rfl, h1, h2, h3⟩
    · exact .inr (hp_base h1)
    · exact .inl h1
    · exact .inr (hp_at h1 (hpq _ h2) h3)
  refine ⟨hs.defers, hs.size, fun e he => ?_, ⟨fun h r hr => ?_, fun h h' r r' bb hne hr hr' ho hb => ?_⟩, hs.frm, fun h r bb hr ho hb => ?_, hs.og⟩
  · rcases List.mem_append.1 he with he | he
    · exact hs.slots e (List.mem_append_left _ he)
    · obtain ⟨k, h, x, h1, h2, h3, rfl⟩ := entsOf_mem he
      exact hs.slots _ (List.mem_append_right _ (mem_entsOf h3 h1 (hpq _ (by simpa using h2))))
  · rcases key hr with rfl | k
    · trivial
    · exact hs.mem.ok h r k
  · rcases key hr with rfl | k1
    · cases ho
    · rcases key hr' with rfl | k2
      · simp [Res.at]
      · exact hs.mem.sep h h' r r' bb hne k1 k2 ho hb
  · rcases key hr with rfl | k
    · cases ho
    · exact hs.own h r bb k ho hb
end
/-! ### What is asked of the table -/
def slotsOf (tab : List HOp) : List Nat := tab.map HOp.d
/-- Does the operation's leaving speak of handle n? -/
def speaks (n : Nat) (h : HOp) : Bool := !((match h.e with | some x => x.2.on (isNot n) | none => true) && (match h.r with | some r => r.on (isNot n) | none => true))
def tabB (b : St) (tab : List HOp) (ops : Array Oper) : Bool :=
  distinct (slotsOf tab) &&
  b.tm.all (fun e => e.2.1.isNone && (slotsOf tab).all (isNot e.1) && e.2.2.on (fun k => Nat.blt k b.hp.length)) &&
  b.hp.all (Res.on (fun k => Nat.blt k b.hp.length)) && Nat.ble b.og.length b.hp.length &&
  (List.range tab.length).all fun j => match tab[j]? with
    | some h => (List.range tab.length).all fun k =>
        ((Nat.beq k j || !(speaks (b.hp.length + k) h)) && (match h.e, tab[k]? with | some (some (s, _), _), some t => isNot t.d s | _, _ => true)) || depsOf ops j k
    | none => false
/-- A call that writes nothing and gives one new resource. -/
def newCall (P : Program) (f : FuncId) (hp : List Res) (os : List AV) (ci : CallI) (nh : Nat) : Option (AV × Res × List Prop) :=
  match insOf hp os ci.ins ci.ins, argsI ci.ins 0 os with
  | some ins, some args => bif noGive ci.ins && once ci.ins ci.ins then
      match ci.outs.drop ci.ins.length with
      | [r] => match r.ren (fun h => bif Nat.beq h ci.ins.length then some nh else none), ci.res.ren (fun h => bif Nat.beq h ci.ins.length then some nh else none) with
        | some r', some res => some (res, r', [Spec P f ins args ci.outs ci.res])
        | _, _ => none
      | _ => none
    else none
  | _, _ => none
/-- An operation that lays something new. -/
def newOp (P : Program) (tt : TT) (st : St) (an : An) (op : Op) (nh : Nat) : Option (AV × Res × List Prop) :=
  match op with
  | .call c => match c.callee with
    | .value (.func f) => match an.call, lkAll (lkE st.tm []) c.args.toList with
      | some ci, some os => newCall P f st.hp os ci nh
      | _, _ => none
    | _ => none
  | op => evalN tt st.hp (lkE st.tm []) an.m nh op
def hop1 (P : Program) (tt : TT) (nt : Nat) (all : Array Oper) (b : St) (tab : List HOp) (k : Nat) (an : An) (o : Oper) : Option (HOp × List Prop) :=
  match o.dst with
  | none => none
  | some d => match stepQ P tt nt all (stY b tab (depsOf all k)) an o with
    | some (st', obs) => match an.g with
      | 2 => some (⟨d, none, none⟩, obs)
      | _ => match st'.tm with
        | e :: _ => bif Nat.beq e.1 d then some (⟨d, some e.2, none⟩, obs) else none
        | [] => none
    | none => match newOp P tt (stY b tab (depsOf all k)) an o.op (b.hp.length + k) with
      | some (av, r, obs) => bif Nat.blt d nt then
          match o.guard with
          | none => some (⟨d, some (none, av), some r⟩, obs)
          | some (j, want) => match an.g with
            | 1 => match (all[j]?).bind (·.dst) with
              | some s => match look (stY b tab (depsOf all k)).tm s with
                | some (none, pv) => match asB pv with
                  | some p => some (⟨d, some (none, av), some r⟩, (p = want) :: obs)
                  | none => none
                | _ => none
              | none => none
            | _ => none
          else none
      | none => none
theorem isNot_of {n h : Nat} (hne : h ≠ n) : isNot n h = true := by
  simp only [isNot, Bool.not_eq_true']
  cases e : Nat.beq h n with
  | false => rfl
  | true => exact absurd (Nat.eq_of_beq_eq_true e) hne
structure TabOK (b : St) (tab : List HOp) (ops : Array Oper) : Prop where
  ds : ∀ (i j : Nat) (x y : HOp), tab[i]? = some x → tab[j]? = some y → x.d = y.d → i = j
  base : ∀ e ∈ b.tm, e.2.1 = none ∧ (∀ t ∈ tab, e.1 ≠ t.d) ∧ e.2.2.on (fun k => Nat.blt k b.hp.length) = true
  hp : ∀ r ∈ b.hp, r.on (fun k => Nat.blt k b.hp.length) = true
  og : b.og.length ≤ b.hp.length
  rel : ∀ (j k : Nat) (h t : HOp), tab[j]? = some h → tab[k]? = some t → depsOf ops j k = false →
    (j ≠ k → speaks (b.hp.length + k) h = false) ∧ ∀ s wv av, h.e = some (some (s, wv), av) → s ≠ t.d
theorem tabB_ok {b : St} {tab : List HOp} {ops : Array Oper} (h : tabB b tab ops = true) : TabOK b tab ops := by
  simp only [tabB, Bool.and_eq_true] at h
  obtain ⟨⟨⟨⟨h1, h2⟩, h3⟩, h4⟩, h5⟩ := h
  simp only [List.all_eq_true] at h2 h3 h5
  refine ⟨fun i j x y hi hj e => ?_, fun e he => ?_, h3, Nat.le_of_ble_eq_true h4, fun j k h t hj hk hd => ?_⟩
  · exact distinct_ne h1 (h := x.d) (by simp [slotsOf, hi]) (by simp [slotsOf, hj, e])
  · have := h2 e he
    simp only [Bool.and_eq_true, List.all_eq_true, slotsOf, Option.isNone_iff_eq_none] at this
    refine ⟨this.1.1, fun t ht hne => ?_, this.2⟩
    exact isNot_ne (this.1.2 t.d (List.mem_map.2 ⟨t, ht, rfl⟩)) hne.symm
  · have := h5 j (List.mem_range.2 (List.getElem?_eq_some_iff.1 hj).1)
    rw [hj] at this
    simp only [List.all_eq_true] at this
    have := this k (List.mem_range.2 (List.getElem?_eq_some_iff.1 hk).1)
    rw [hd, hk] at this
    simp only [Bool.or_false, Bool.and_eq_true, Bool.or_eq_true, Bool.not_eq_true'] at this
    refine ⟨fun hne => this.1.resolve_left fun e => hne (Nat.eq_of_beq_eq_true e).symm, fun s wv av he => ?_⟩
    have h6 := this.2
    rw [he] at h6
    exact isNot_ne h6
section
variable {C : Ctx} {b : St} {tab : List HOp} {ops : Array Oper} {g g' : Gam} {a : Act} {w w' : World} {p : Nat → Bool} {k : Nat} {o : Oper} {t : HOp}
def plus (p : Nat → Bool) (k : Nat) : Nat → Bool := fun i => p i || Nat.beq i k
def Closed (ops : Array Oper) (p : Nat → Bool) : Prop := ∀ (j i : Nat), p j = true → depsOf ops j i = true → p i = true
/-- What the listed ones leave is untouched. -/
theorem slots_plus (hT : TabOK b tab ops) (hcl : Closed ops p) (hk : tab[k]? = some t) (hnp : p k = false) (hg : ∀ h, isNot (b.hp.length + k) h = true → g' h = g h) (hs : ∀ e ∈ (stY b tab p).tm, slotOK g a e) {v : Value} (hnew : ∀ x, t.e = some x → slotOK g' (a.put (some t.d) v) (t.d, x)) :
    ∀ e ∈ (stY b tab (plus p k)).tm, slotOK g' (a.put (some t.d) v) e := by
  have put : ∀ (e : Ent), slotOK g' a e → e.1 ≠ t.d → (∀ s wv, e.2.1 = some (s, wv) → s ≠ t.d) → slotOK g' (a.put (some t.d) v) e := by
    rintro e ⟨u, h1, h2⟩ h3 h4
    refine ⟨u, by rw [put_other h3]; exact h1, ?_⟩
    cases hgd : e.2.1 with
    | none => rw [hgd] at h2; exact h2
    | some gw =>
      rw [hgd] at h2
      simp only [gdOK, put_other (h4 gw.1 gw.2 (by rw [hgd]))]
      exact h2
  intro e he
  rcases List.mem_append.1 he with he | he
  · obtain ⟨h1, h2, h3⟩ := hT.base e he
    refine put e (slot_congr (p := fun k => Nat.blt k b.hp.length) (fun h hh => hg h (isNot_of (by have := blt_lt hh; omega))) h3 (hs e (List.mem_append_left _ he))) (h2 t (List.mem_of_getElem? hk)) (fun s wv e1 => by rw [h1] at e1; cases e1)
  · obtain ⟨j, h, x, h1, h2, h3, rfl⟩ := entsOf_mem he
    rw [Nat.zero_add] at h2
    by_cases hjk : j = k
    · subst hjk
      rw [hk] at h1
      obtain rfl := Option.some.inj h1
      exact hnew x h3
    · have hpj : p j = true := by
        simp only [plus, Bool.or_eq_true] at h2
        exact h2.resolve_right fun e => hjk (Nat.eq_of_beq_eq_true e)
      have hdep : depsOf ops j k = false := by
        cases e : depsOf ops j k with
        | false => rfl
        | true => rw [hcl j k hpj e] at hnp; cases hnp
      obtain ⟨k1, k2⟩ := hT.rel j k h t h1 hk hdep
      have hsp := k1 hjk
      simp only [speaks, h3, Bool.not_eq_false', Bool.and_eq_true] at hsp
      refine put _ (slot_congr (p := isNot (b.hp.length + k)) hg hsp.1 (hs _ (List.mem_append_right _ (mem_entsOf h3 h1 (by simpa using hpj))))) (fun e => hjk (hT.ds j k h t h1 hk e)) (fun s wv e1 => ?_)
      obtain ⟨gd, av⟩ := x
      simp only at e1
      subst e1
      exact k2 s wv av h3
theorem hp_plus {h : Nat} {r : Res} (hk : tab[k]? = some t) (hr : (stY b tab (plus p k)).hp[h]? = some r) : r = .gone ∨ (h ≠ b.hp.length + k ∧ (stY b tab p).hp[h]? = some r) ∨ (h = b.hp.length + k ∧ t.r = some r) := by
  rcases hp_cases hr with ⟨h0, h1⟩ | ⟨_, h1⟩ | ⟨j, x, rfl, h1, h2, h3⟩
  · exact .inr (.inl ⟨by omega, hp_base h1⟩)
  · exact .inl h1
  · by_cases hjk : j = k
    · subst hjk
      rw [hk] at h1
      obtain rfl := Option.some.inj h1
      exact .inr (.inr ⟨rfl, h3⟩)
    · simp only [plus, Bool.or_eq_true] at h2
      exact .inr (.inl ⟨by omega, hp_at h1 (h2.resolve_right fun e => hjk (Nat.eq_of_beq_eq_true e)) h3⟩)
/-- An operation that only reads. -/
theorem grow_quiet (hT : TabOK b tab ops) (hcl : Closed ops p) (hk : tab[k]? = some t) (hnp : p k = false) (hr : t.r = none) (hs : SatG C (stY b tab p) g a w) {v : Value} (hnew : ∀ x, t.e = some x → slotOK g (a.put (some t.d) v) (t.d, x)) (hw : Std w w') :
    SatG C (stY b tab (plus p k)) g (a.put (some t.d) v) w' := by
  have hs' := hs.std hw
  have key : ∀ {h : Nat} {r : Res}, (stY b tab (plus p k)).hp[h]? = some r → r = .gone ∨ (stY b tab p).hp[h]? = some r := fun h => by
    rcases hp_plus hk h with h | ⟨_, h⟩ | ⟨_, h⟩
    · exact .inl h
    · exact .inr h
    · rw [hr] at h; cases h
  refine ⟨(put_defers _ _ _).trans hs'.defers, (put_size _ _ _).trans hs'.size, slots_plus hT hcl hk hnp (fun _ _ => rfl) hs'.slots hnew, ⟨fun h r hh => ?_, fun h h' r r' bb hne hh hh' ho hb => ?_⟩, hs'.frm, fun h r bb hh ho hb => ?_, hs'.og⟩
  · rcases key hh with rfl | k1
    · trivial
    · exact hs'.mem.ok h r k1
  · rcases key hh with rfl | k1
    · cases ho
    · rcases key hh' with rfl | k2
      · simp [Res.at]
      · exact hs'.mem.sep h h' r r' bb hne k1 k2 ho hb
  · rcases key hh with rfl | k1
    · cases ho
    · exact hs'.own h r bb k1 ho hb
/-- An operation that lays a new block. -/
theorem grow_new (hT : TabOK b tab ops) (hcl : Closed ops p) (hk : tab[k]? = some t) (hnp : p k = false) {r : Res} {av : AV} (hr : t.r = some r) (he : t.e = some (none, av)) (hs : SatG C (stY b tab p) g a w) (hd : t.d < C.nt) {v gv : Value}
    (hn : NewOK g w w' (b.hp.length + k) r av v gv) : SatG C (stY b tab (plus p k)) (upd g (b.hp.length + k) gv) (a.put (some t.d) v) w' := by
  have hg : ∀ h, isNot (b.hp.length + k) h = true → upd g (b.hp.length + k) gv h = g h := fun h hh => upd_ne g gv (isNot_ne hh)
  have hon : ∀ {h : Nat} {r' : Res}, h ≠ b.hp.length + k → (stY b tab p).hp[h]? = some r' → r'.on (isNot (b.hp.length + k)) = true := by
    intro h r' hne hh
    rcases hp_cases hh with ⟨_, h1⟩ | ⟨_, rfl⟩ | ⟨j, x, rfl, h1, h2, h3⟩
    · have h4 := hT.hp r' (List.mem_of_getElem? h1)
      cases r' with
      | blk own T cs =>
        simp only [Res.on, List.all_eq_true] at h4 ⊢
        intro l hl
        have := h4 l hl
        cases l <;> simp only [LV.on] at this ⊢ <;> exact isNot_of (by have := blt_lt this; omega)
      | _ => rfl
    · rfl
    · have hjk : j ≠ k := by omega
      have hdep : depsOf ops j k = false := by
        cases e : depsOf ops j k with
        | false => rfl
        | true => rw [hcl j k h2 e] at hnp; cases hnp
      have hsp := (hT.rel j k x t h1 hk hdep).1 hjk
      simp only [speaks, h3, Bool.not_eq_false', Bool.and_eq_true] at hsp
      exact hsp.2
  have old : ∀ {h : Nat} {r' : Res}, h ≠ b.hp.length + k → (stY b tab p).hp[h]? = some r' → r'.ok (upd g (b.hp.length + k) gv) w' (upd g (b.hp.length + k) gv h) := by
    intro h r' hne hh
    rw [upd_ne g gv hne]
    have hok := hs.mem.ok h r' hh
    exact Res.ok_congr hg (hon hne hh) (Res.ok_frame hok hn.below.size fun b hb => hn.below.block b (Res.ok_lt hok hb))
  refine ⟨(put_defers _ _ _).trans hs.defers, (put_size _ _ _).trans hs.size, slots_plus hT hcl hk hnp hg hs.slots (fun x hx => ?_), ⟨fun h r' hh => ?_, fun h h' r1 r2 bb hne h1 h2 ho hb => ?_⟩, ?_, fun h r' bb hh ho hb => ?_, fun h j hh => ?_⟩
  · rw [he] at hx
    obtain rfl := Option.some.inj hx
    exact ⟨v, put_same (by rw [hs.size]; exact hd), hn.av⟩
  · rcases hp_plus hk hh with rfl | ⟨hne, h1⟩ | ⟨rfl, h1⟩
    · trivial
    · exact old hne h1
    · rw [hr] at h1
      obtain rfl := Option.some.inj h1
      rw [upd_self]; exact hn.ok
  · rcases hp_plus hk h1 with rfl | ⟨n1, k1⟩ | ⟨rfl, k1⟩
    · cases ho
    · rw [upd_ne g gv n1] at hb
      rcases hp_plus hk h2 with rfl | ⟨n2, k2⟩ | ⟨rfl, k2⟩
      · simp [Res.at]
      · rw [upd_ne g gv n2]; exact hs.mem.sep h h' r1 r2 bb hne k1 k2 ho hb
      · rw [hr] at k2
        obtain rfl := Option.some.inj k2
        rw [upd_self]
        intro hb'
        have := hn.at_ bb hb'
        have := Res.ok_lt (hs.mem.ok h r1 k1) hb
        omega
    · rw [hr] at k1
      obtain rfl := Option.some.inj k1
      rw [upd_self] at hb
      rcases hp_plus hk h2 with rfl | ⟨n2, k2⟩ | ⟨rfl, k2⟩
      · simp [Res.at]
      · rw [upd_ne g gv n2]
        intro hb'
        have := hn.at_ bb hb
        have := Res.ok_lt (hs.mem.ok h' r2 k2) hb'
        omega
      · exact absurd rfl hne
  · exact ⟨hn.below.os.trans hs.frm.os, hn.below.tape.trans hs.frm.tape, hn.below.output.trans hs.frm.output, Nat.le_trans hs.frm.size hn.below.size, fun k hk hm => (hn.below.block k (Nat.lt_of_lt_of_le hk hs.frm.size)).trans (hs.frm.block k hk hm)⟩
  · rcases hp_plus hk hh with rfl | ⟨n1, k1⟩ | ⟨rfl, k1⟩
    · cases ho
    · rw [upd_ne g gv n1] at hb; exact hs.own h r' bb k1 ho hb
    · rw [hr] at k1
      obtain rfl := Option.some.inj k1
      rw [upd_self] at hb
      have := hn.at_ bb hb
      have := hs.frm.size
      left; omega
  · have hlo := (List.getElem?_eq_some_iff.1 hh).1
    have := hT.og
    rw [upd_ne g gv (by show h ≠ _; have h2 : h < b.og.length := hlo; omega)]
    exact hs.og h j hh
theorem newCall_ok (hs : SatG C b g a w) {f : FuncId} {os : List AV} {ci : CallI} {vs : List Value} {av : AV} {r : Res} {nh : Nat} {obs : List Prop} (h : newCall C.P f b.hp os ci nh = some (av, r, obs)) (ho : ∀ q ∈ obs, q) (hv : areps g os vs) :
    FnOK C.P f ∧ Calls C.P f vs.toArray w fun e w' => ∃ v gv, e = .returned v ∧ NewOK g w w' nh r av v gv := by
  unfold newCall at h
  split at h
  case h_2 => cases h
  rename_i ins args hins hargs
  simp only [cond_eq_ite] at h
  split at h
  case isFalse => cases h
  rename_i hb
  simp only [Bool.and_eq_true] at hb
  split at h
  case h_2 => cases h
  rename_i r0 hdrop
  split at h
  case h_2 => cases h
  rename_i r' res hr hres
  simp only [Option.some.injEq, Prod.mk.injEq] at h
  obtain ⟨rfl, rfl, rfl⟩ := h
  have hspec := ho _ (List.mem_singleton.2 rfl)
  have hmem := ins_mem hs.mem hins hb.2 hv
  have hargs' := args_ok hins hv hargs hv (fun k => by rw [Nat.zero_add]) (fun k => by rw [Nat.zero_add])
  refine ⟨hspec.1, (hspec.2 _ w vs hmem hargs').mono ?_⟩
  rintro e w' ⟨g', v, rfl, hrv, hpost⟩
  have hn0 : ci.outs[ci.ins.length]? = some r0 := by
    have : (ci.outs.drop ci.ins.length)[0]? = some r0 := by rw [hdrop]; rfl
    simpa using this
  have hmods : ∀ {b : Nat}, ¬ modsOf (calleeG g ci.ins vs) ins b := by
    rintro b ⟨j, r, h1, h2, _⟩
    rw [ins_lent hins hb.1 h1] at h2
    cases h2
  have hlent : lentAt ins ci.ins.length = false := by
    have := (insOf_get hins ci.ins.length).2 (by simp)
    simp [lentAt, this]
  have hf : ∀ h k, (if Nat.beq h ci.ins.length = true then some nh else none) = some k → upd g nh (g' ci.ins.length) k = g' h := by
    intro h k hk
    split at hk
    case isFalse => cases hk
    rename_i hbq
    obtain rfl := Option.some.inj hk
    rw [upd_self, Nat.eq_of_beq_eq_true hbq]
  obtain ⟨k1, k2, k3⟩ := ok_ren hf hr (hpost.mem.ok _ _ hn0)
  refine ⟨v, g' ci.ins.length, rfl, ⟨hpost.frm.os, hpost.frm.tape, hpost.frm.output, hpost.frm.size, fun k hk => hpost.frm.block k hk hmods⟩, arep_ren hf hres hrv, k1, fun b hb' => ?_⟩
  rw [k2] at hb'
  rcases hpost.own _ _ b hn0 hlent hb' with h1 | h1
  · exact h1
  · exact absurd h1 hmods
theorem newOp_ok (ht : C.tt.ok C.P) (hs : SatG C b g a w) {an : An} {o : Oper} {av : AV} {r : Res} {nh : Nat} {obs : List Prop} (h : newOp C.P C.tt b an o.op nh = some (av, r, obs)) (ho : ∀ q ∈ obs, q) {Q : Exit → Act → World → Prop} {K : Act → World → Prop}
    (hk : ∀ (v : Value) (w' : World) (gv : Value), NewOK g w w' nh r av v gv → K (a.put o.dst v) w') : o.wp C.P a w K Q := by
  unfold newOp at h
  split at h
  · rename_i c e
    split at h
    case h_2 => cases h
    rename_i f hcal
    split at h
    case h_2 => cases h
    rename_i ci os hci hos
    have hargs := lkAll_ok (lkE_ok hs.slots (cx_nil a)) hos
    obtain ⟨hfn, hcalls⟩ := newCall_ok hs h ho hargs
    obtain ⟨callee, cargs, argTypes⟩ := c
    simp only at hcal hargs hcalls hos
    subst hcal
    have hvs : (cargs.toList.map a.eval).toArray = cargs.map a.eval := by apply Array.ext'; simp
    have hrun : (execOp a.eval o).run C.P w = .ok (.enter f (cargs.map a.eval)) w := by
      simp only [execOp, e, resolve, Act.eval, Deferred.ofValue, pure_bind, invoke]
      simp only [Array.append_empty, Array.empty_append]
      exact run_callFunc hfn _ w
    unfold Oper.wp
    rw [hrun, Oper.upon_enter]
    rw [hvs] at hcalls
    refine hcalls.mono ?_
    rintro e' w' ⟨v, gv, rfl, h1⟩
    exact hk v w' gv h1
  · obtain ⟨v, w', gv, h1, h2⟩ := evalN_ok ht hs.mem (lkE_ok hs.slots (cx_nil a)) h ho
    exact goes_value h1 (hk v w' gv h2)
/-- One operation comes up. -/
theorem hop_step (ht : C.tt.ok C.P) (hT : TabOK b tab ops) (hcl : Closed ops p) {all : Array Oper} {an : An} {obs : List Prop} (hk : tab[k]? = some t) (hh : hop1 C.P C.tt C.nt all b tab k an o = some (t, obs)) (ho : ∀ q ∈ obs, q) (hnp : p k = false) (hdp : ∀ i, depsOf all k i = true → p i = true)
    (hs : SatG C (stY b tab p) g a w) {Q : Exit → Act → World → Prop} {K : Act → World → Prop} (hK : ∀ a w, Sat C (stY b tab (plus p k)) a w → K a w) :
    if Region.wanted o (yielded all a.tmps) then o.wp C.P a w K Q else K (a.put o.dst undef) w := by
  unfold hop1 at hh
  split at hh
  case h_1 => cases hh
  rename_i d hd
  have hsub := hs.sub hdp
  split at hh
  · rename_i st' obs1 hst
    have fin : ∀ {t' : HOp}, t = t' → t'.r = none → t'.d = d → obs1 = obs → (∀ (v : Value), SatG C st' g (a.put o.dst v) w → ∀ x, t'.e = some x → slotOK g (a.put (some d) v) (d, x)) → if Region.wanted o (yielded all a.tmps) then o.wp C.P a w K Q else K (a.put o.dst undef) w := by
      intro t' e1 e2 e3 e4 hx
      subst e1 e4
      obtain ⟨v, h1, h2, h3⟩ := stepQ_ok ht hsub hst ho
      have hgo : ∀ w', Std w w' → K (a.put o.dst v) w' := fun w' hw' => hK _ _ ⟨g, by
        rw [hd, ← e3]
        exact grow_quiet hT hcl hk hnp e2 hs (fun x hxx => by rw [e3]; exact hx v h3 x hxx) hw'⟩
      split
      · rename_i hw
        exact Oper.wp_of_quiet (C := Std w) (K := fun a' => a' = a.put o.dst v) (Frm.refl _ _) (fun a' w' hw' e => by subst e; exact hgo w' hw') ⟨v, h1 hw, rfl⟩
      · rename_i hw
        obtain rfl := h2 (by simpa using hw)
        exact hgo w (Frm.refl _ _)
    split at hh
    · simp only [Option.some.injEq, Prod.mk.injEq] at hh
      obtain ⟨e1, e2⟩ := hh
      exact fin e1.symm rfl rfl e2 (fun v _ x hx => by cases hx)
    · split at hh
      case h_2 => cases hh
      rename_i e0 r0 htm
      simp only [cond_eq_ite] at hh
      split at hh
      case isFalse => cases hh
      rename_i hbq
      simp only [Option.some.injEq, Prod.mk.injEq] at hh
      obtain ⟨e1, e2⟩ := hh
      have hed := Nat.eq_of_beq_eq_true hbq
      refine fin e1.symm rfl rfl e2 (fun v h3 x hx => ?_)
      obtain rfl := Option.some.inj hx
      have := h3.slots e0 (by rw [htm]; exact List.mem_cons_self ..)
      rw [hd] at this
      rw [← hed]
      rw [← hed] at this
      exact this
  · split at hh
    case h_2 => cases hh
    rename_i av r obs1 hev
    simp only [cond_eq_ite] at hh
    split at hh
    case isFalse => cases hh
    rename_i hlt
    have key : (∀ q ∈ obs1, q) → t = ⟨d, some (none, av), some r⟩ → o.wp C.P a w K Q := by
      intro ho1 e1
      subst e1
      refine newOp_ok ht hsub hev ho1 fun v w' gv hn => ?_
      refine hK _ _ ⟨upd g (b.hp.length + k) gv, ?_⟩
      rw [hd]
      exact grow_new hT hcl hk hnp rfl rfl hs (blt_lt hlt) hn
    split at hh
    · rename_i hgd
      simp only [Option.some.injEq, Prod.mk.injEq] at hh
      obtain ⟨e1, rfl⟩ := hh
      rw [if_pos (by simp [Region.wanted, hgd])]
      exact key ho e1.symm
    · rename_i j want hgd
      split at hh
      case h_2 => cases hh
      split at hh
      case h_2 => cases hh
      rename_i s hsj
      split at hh
      case h_2 => cases hh
      rename_i pv hlk
      split at hh
      case h_2 => cases hh
      rename_i pb hpb
      simp only [Option.some.injEq, Prod.mk.injEq] at hh
      obtain ⟨e1, rfl⟩ := hh
      have hpw : pb = want := ho _ (List.mem_cons_self ..)
      obtain ⟨v, hv, hr⟩ := hsub.slots _ (look_mem hlk)
      have hvb : v = .bool pb := asB_rep hpb hr
      have hw : Region.wanted o (yielded all a.tmps) = true := by
        have := (yielded_eq hsj a want).2 (by rw [← hpw, ← hvb]; exact hv)
        simp only [Region.wanted, hgd]
        exact this
      rw [if_pos hw]
      exact key (fun q hq => ho q (List.mem_cons_of_mem _ hq)) e1.symm
end
end Go.Proofs.Ytgicfkgiecgjoaa.RS
