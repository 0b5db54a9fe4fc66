/- RS, part L: contracts of functions; a call, as a state has it. -/
import Derived.Test.YtgicfkgiecgjoaaRsK
set_option linter.unusedVariables false
set_option linter.unusedSimpArgs false
namespace Go.Proofs.Ytgicfkgiecgjoaa.RS
open Go Go.RowKit
/-! ### 1. Contracts -/
def modsOf (g : Gam) (ins : List Res) (b : Nat) : Prop := ∃ (h : Nat) (r : Res), ins[h]? = some r ∧ r.own = true ∧ r.at (g h) b
def Res.keeps : Res → Bool
  | .row own _ _ _ => !own
  | .abs own _ => !own
  | _ => true
def lentAt (ins : List Res) (j : Nat) : Bool :=
  match ins[j]? with
  | some r => !r.own
  | none => false
structure PostG (g : Gam) (ins outs : List Res) (g' : Gam) (w w' : World) : Prop where
  mem : Mem g' outs w'
  frm : Frm (modsOf g ins) w w'
  keep : ∀ (j : Nat) (r : Res), ins[j]? = some r → r.keeps = true → g' j = g j
  own : ∀ (j : Nat) (r : Res) (b : Nat), outs[j]? = some r → lentAt ins j = false → r.at (g' j) b → w.heap.size ≤ b ∨ modsOf g ins b
def SpecPost (g : Gam) (w : World) (ins outs : List Res) (res : AV) (e : Ending) (w' : World) : Prop :=
  ∃ (g' : Gam) (v : Value), e = .returned v ∧ arep g' res v ∧ PostG g ins outs g' w w'
/-- The function is one of the program's own, with a body. -/
def FnOK (P : Program) (f : FuncId) : Prop := (P.funcs[f]?).map (fun fn => (fn.name == "runtime.NumGoroutine", fn.body.isNone)) = some (false, false)
/-- Called with these arguments, over these resources, the function returns this, over those. -/
def Spec (P : Program) (f : FuncId) (ins : List Res) (args : List AV) (outs : List Res) (res : AV) : Prop :=
  FnOK P f ∧ ∀ (g : Gam) (w : World) (vs : List Value), Mem g ins w → areps g args vs → Calls P f vs.toArray w (SpecPost g w ins outs res)

/-! ### 2. A call in a state -/
inductive Pass where
  | lend (h : Nat)
  | give (h : Nat)
  | sub (i : Nat)
  | nilr (i : Nat) (E : TypeId) (ks : List CK)
structure CallI where
  ins : List Pass
  outs : List Res
  res : AV
def Pass.isH (h : Nat) : Pass → Bool
  | .lend k => Nat.beq k h
  | .give k => Nat.beq k h
  | _ => false
def Pass.isG (h : Nat) : Pass → Bool
  | .give k => Nat.beq k h
  | _ => false
def Pass.isS (i : Nat) : Pass → Bool
  | .sub k => Nat.beq k i
  | .nilr k _ _ => Nat.beq k i
  | _ => false
def pfind (p : Pass → Bool) : List Pass → Option Nat
  | [] => none
  | x :: r => bif p x then some 0 else match pfind p r with | some j => some (j + 1) | none => none
theorem pfind_at {p : Pass → Bool} : ∀ {ps : List Pass} {j : Nat}, pfind p ps = some j → ∃ x, ps[j]? = some x ∧ p x = true
  | x :: r, j, h => by
    simp only [pfind, cond_eq_ite] at h
    split at h
    · rename_i hp; obtain rfl := Option.some.inj h; exact ⟨x, rfl, hp⟩
    · split at h
      · rename_i k hk; obtain rfl := Option.some.inj h; simpa using pfind_at hk
      · cases h
def LV.ren (f : Nat → Option Nat) : LV → Option LV
  | .val v => some (.val v)
  | .dead => some .dead
  | .ptr h o => match f h with | some k => some (.ptr k o) | none => none
  | .pti h o sz i => match f h with | some k => some (.pti k o sz i) | none => none
  | .elt h sz i o => match f h with | some k => some (.elt k sz i o) | none => none
  | .row h => match f h with | some k => some (.row k) | none => none
  | .view h sz lo hi => match f h with | some k => some (.view k sz lo hi) | none => none
def rens (f : Nat → Option Nat) : List LV → Option (List LV)
  | [] => some []
  | l :: r => match l.ren f, rens f r with | some l', some r' => some (l' :: r') | _, _ => none
def SV.ren (f : Nat → Option Nat) : SV → Option SV
  | .lf l => match l.ren f with | some l' => some (.lf l') | none => none
  | .agg cs => match rens f cs with | some cs' => some (.agg cs') | none => none
def srens (f : Nat → Option Nat) : List SV → Option (List SV)
  | [] => some []
  | l :: r => match l.ren f, srens f r with | some l', some r' => some (l' :: r') | _, _ => none
def AV.ren (f : Nat → Option Nat) : AV → Option AV
  | .sv s => match s.ren f with | some s' => some (.sv s') | none => none
  | .tup vs => match srens f vs with | some vs' => some (.tup vs') | none => none
def Res.ren (f : Nat → Option Nat) : Res → Option Res
  | .blk own T cs => match rens f cs with | some cs' => some (.blk own T cs') | none => none
  | r => some r
section
variable {g g' : Gam} {f : Nat → Option Nat}
theorem rep_ren (hf : ∀ h k, f h = some k → g' k = g h) {l l' : LV} {v : Value} (h : l.ren f = some l') (r : rep g l v) : rep g' l' v := by
  cases l <;> simp only [LV.ren] at h
  case val => obtain rfl := Option.some.inj h; exact r
  case dead => obtain rfl := Option.some.inj h; exact r
  all_goals
    split at h
    case h_2 => cases h
    rename_i k hk
    obtain rfl := Option.some.inj h
    simp only [rep] at r ⊢
    rw [hf _ _ hk]
    exact r
theorem reps_ren (hf : ∀ h k, f h = some k → g' k = g h) : ∀ {ls ls' : List LV} {vs : List Value}, rens f ls = some ls' → reps g ls vs → reps g' ls' vs
  | [], ls', vs, h, r => by obtain rfl := Option.some.inj h; cases vs <;> first | trivial | exact r.elim
  | l :: ls, ls', [], h, r => r.elim
  | l :: ls, ls', v :: vs, h, r => by
    simp only [rens] at h
    split at h
    · rename_i l1 r1 h1 h2
      obtain rfl := Option.some.inj h
      exact ⟨rep_ren hf h1 r.1, reps_ren hf h2 r.2⟩
    · cases h
theorem srep_ren (hf : ∀ h k, f h = some k → g' k = g h) {l l' : SV} {v : Value} (h : l.ren f = some l') (r : srep g l v) : srep g' l' v := by
  cases l <;> simp only [SV.ren] at h
  · split at h
    case h_2 => cases h
    rename_i k hk
    obtain rfl := Option.some.inj h
    exact rep_ren hf hk r
  · split at h
    case h_2 => cases h
    rename_i k hk
    obtain rfl := Option.some.inj h
    obtain ⟨vs, rfl, r⟩ := r
    exact ⟨vs, rfl, reps_ren hf hk r⟩
theorem sreps_ren (hf : ∀ h k, f h = some k → g' k = g h) : ∀ {ls ls' : List SV} {vs : List Value}, srens f ls = some ls' → sreps g ls vs → sreps g' ls' vs
  | [], ls', vs, h, r => by obtain rfl := Option.some.inj h; cases vs <;> first | trivial | exact r.elim
  | l :: ls, ls', [], h, r => r.elim
  | l :: ls, ls', v :: vs, h, r => by
    simp only [srens] at h
    split at h
    · rename_i l1 r1 h1 h2
      obtain rfl := Option.some.inj h
      exact ⟨srep_ren hf h1 r.1, sreps_ren hf h2 r.2⟩
    · cases h
theorem own_ren {f : Nat → Option Nat} {r r' : Res} (h : r.ren f = some r') : r'.own = r.own := by
  cases r <;> simp only [Res.ren] at h
  · split at h
    case h_2 => cases h
    obtain rfl := Option.some.inj h
    rfl
  all_goals
    obtain rfl := Option.some.inj h
    rfl
theorem arep_ren (hf : ∀ h k, f h = some k → g' k = g h) {l l' : AV} {v : Value} (h : l.ren f = some l') (r : arep g l v) : arep g' l' v := by
  cases l <;> simp only [AV.ren] at h
  · split at h
    case h_2 => cases h
    rename_i k hk
    obtain rfl := Option.some.inj h
    exact srep_ren hf hk r
  · split at h
    case h_2 => cases h
    rename_i k hk
    obtain rfl := Option.some.inj h
    obtain ⟨vs, rfl, r⟩ := r
    exact ⟨vs, rfl, sreps_ren hf hk r⟩
theorem ok_ren (hf : ∀ h k, f h = some k → g' k = g h) {w : World} {v : Value} {r r' : Res} (h : r.ren f = some r') (ok : r.ok g w v) : r'.ok g' w v ∧ r'.at v = r.at v ∧ r'.own = r.own := by
  cases r <;> simp only [Res.ren] at h
  · split at h
    case h_2 => cases h
    rename_i k hk
    obtain rfl := Option.some.inj h
    obtain ⟨b, vs, rfl, hh, r⟩ := ok
    exact ⟨⟨b, vs, rfl, hh, reps_ren hf hk r⟩, rfl, rfl⟩
  all_goals
    obtain rfl := Option.some.inj h
    exact ⟨ok, rfl, rfl⟩
end
/-- One of the callee's resources. -/
def inOne (hp : List Res) (os : List AV) (ps : List Pass) : Pass → Option Res
  | .lend h => match hp[h]? with | some x => x.lent.ren (fun h => pfind (Pass.isH h) ps) | none => none
  | .give h => match hp[h]? with | some x => bif x.own then x.ren (fun h => pfind (Pass.isH h) ps) else none | none => none
  | .sub i => match os[i]? with
    | some (.sv (.lf (.view h sz lo hi))) => match hp[h]? with
      | some (.row own E ks xs) => bif Nat.beq sz ks.length && (pfind (Pass.isG h) ps).isNone then some (.row false E ks ((xs.take hi.toNat).drop lo.toNat)) else none
      | _ => none
    | _ => none
  | .nilr i E ks => match os[i]? with
    | some (.sv (.lf (.val (.slice none 0 0)))) => some (.row false E ks [])
    | _ => none
def insOf (hp : List Res) (os : List AV) (ps : List Pass) : List Pass → Option (List Res)
  | [] => some []
  | p :: r => match inOne hp os ps p, insOf hp os ps r with
    | some x, some xs => some (x :: xs)
    | _, _ => none
def argI (ps : List Pass) (i : Nat) (av : AV) : Option AV :=
  match pfind (Pass.isS i) ps with
  | some j => some (.sv (.lf (.row j)))
  | none => av.ren (fun h => pfind (Pass.isH h) ps)
def argsI (ps : List Pass) : Nat → List AV → Option (List AV)
  | _, [] => some []
  | i, x :: r => match argI ps i x, argsI ps (i + 1) r with
    | some y, some ys => some (y :: ys)
    | _, _ => none
def bk (ps : List Pass) (n j : Nat) : Option Nat :=
  match ps[j]? with
  | some (.lend h) => some h
  | some (.give h) => some h
  | some _ => none
  | none => some (n + (j - ps.length))
/-- Each handle that is given is passed once. -/
def once (ps : List Pass) : List Pass → Bool
  | [] => true
  | .give h :: r => Nat.beq (ps.countP (Pass.isH h)) 1 && once ps r
  | _ :: r => once ps r
/-- What becomes of the given ones. -/
def setG (ps : List Pass) (n : Nat) (outs : List Res) : List Pass → Nat → List Res → Option (List Res)
  | [], _, hp => some hp
  | .give h :: r, j, hp => match outs[j]? with
    | some x => match x.ren (bk ps n) with
      | some y => setG ps n outs r (j + 1) (hp.set h y)
      | none => none
    | none => none
  | _ :: r, j, hp => setG ps n outs r (j + 1) hp
def renR (f : Nat → Option Nat) : List Res → Option (List Res)
  | [] => some []
  | x :: r => match x.ren f, renR f r with | some y, some ys => some (y :: ys) | _, _ => none
/-- Is a handle given, and may it move? -/
def moves (hp : List Res) (ps : List Pass) (h : Nat) : Bool :=
  (pfind (Pass.isG h) ps).isSome && (match hp[h]? with | some r => !r.keeps | none => true)
def killO (p : Nat → Bool) : Nat → List (Option Nat) → List (Option Nat)
  | _, [] => []
  | h, x :: r => (bif p h then x else none) :: killO p (h + 1) r
def stays (hp : List Res) (ps : List Pass) (h : Nat) : Bool := Nat.blt h hp.length && !(moves hp ps h)
def evalCall (P : Program) (f : FuncId) (st : St) (os : List AV) (ci : CallI) : Option (AV × St × List Prop) :=
  match insOf st.hp os ci.ins ci.ins, argsI ci.ins 0 os with
  | some ins, some args =>
    bif once ci.ins ci.ins then
      match setG ci.ins st.hp.length ci.outs ci.ins 0 (st.hp.map (deadR (stays st.hp ci.ins))), renR (bk ci.ins st.hp.length) (ci.outs.drop ci.ins.length), ci.res.ren (bk ci.ins st.hp.length) with
      | some hp', some new, some res => some (res, ⟨dropH (stays st.hp ci.ins) st.tm, hp' ++ new, killO (stays st.hp ci.ins) 0 st.og⟩, [Spec P f ins args ci.outs ci.res])
      | _, _, _ => none
    else none
  | _, _ => none

/-! ### 3. That it is right -/
theorem insOf_get {hp : List Res} {os : List AV} {ps : List Pass} : ∀ {qs : List Pass} {ins : List Res}, insOf hp os ps qs = some ins → ∀ j : Nat, (∀ p, qs[j]? = some p → ∃ r, ins[j]? = some r ∧ inOne hp os ps p = some r) ∧ (qs[j]? = none → ins[j]? = none)
  | [], ins, h, j => by obtain rfl := Option.some.inj h; simp
  | q :: qs, ins, h, j => by
    simp only [insOf] at h
    split at h
    case h_2 => cases h
    rename_i x xs h1 h2
    obtain rfl := Option.some.inj h
    cases j with
    | zero => exact ⟨fun p hp => ⟨x, rfl, by simp at hp; subst hp; exact h1⟩, fun h => by simp at h⟩
    | succ j => simpa using insOf_get h2 j
theorem setG_get {ps : List Pass} {n : Nat} {outs : List Res} : ∀ {qs : List Pass} {j0 : Nat} {hp hp' : List Res}, setG ps n outs qs j0 hp = some hp' → hp'.length = hp.length ∧ ∀ (k : Nat) (r : Res), hp'[k]? = some r →
    (∃ j x, qs[j]? = some (.give k) ∧ outs[j0 + j]? = some x ∧ x.ren (bk ps n) = some r) ∨ ((∀ j : Nat, qs[j]? ≠ some (.give k)) ∧ hp[k]? = some r)
  | [], j0, hp, hp', h => by
    obtain rfl := Option.some.inj h
    exact ⟨rfl, fun k r hr => .inr ⟨by simp, hr⟩⟩
  | q :: qs, j0, hp, hp', h => by
    have step : ∀ {hp1 : List Res}, setG ps n outs qs (j0 + 1) hp1 = some hp' → (∀ k, q ≠ .give k) → hp1 = hp → hp'.length = hp.length ∧ ∀ (k : Nat) (r : Res), hp'[k]? = some r →
        (∃ j x, (q :: qs)[j]? = some (.give k) ∧ outs[j0 + j]? = some x ∧ x.ren (bk ps n) = some r) ∨ ((∀ j : Nat, (q :: qs)[j]? ≠ some (.give k)) ∧ hp[k]? = some r) := by
      intro hp1 hset hq e1
      subst e1
      obtain ⟨hl, hg⟩ := setG_get hset
      refine ⟨hl, fun k r hr => ?_⟩
      rcases hg k r hr with ⟨j, x, h1, h2, h3⟩ | ⟨h1, h2⟩
      · exact .inl ⟨j + 1, x, by simpa using h1, by rw [← h2]; congr 1; omega, h3⟩
      · refine .inr ⟨fun j => ?_, h2⟩
        cases j with
        | zero => simpa using hq k
        | succ j => simpa using h1 j
    cases q with
    | give h0 =>
      simp only [setG] at h
      split at h
      case h_2 => cases h
      rename_i x hx
      split at h
      case h_2 => cases h
      rename_i y hy
      obtain ⟨hl, hg⟩ := setG_get h
      refine ⟨by simpa using hl, fun k r hr => ?_⟩
      rcases hg k r hr with ⟨j, x', h1, h2, h3⟩ | ⟨h1, h2⟩
      · exact .inl ⟨j + 1, x', by simpa using h1, by rw [← h2]; congr 1; omega, h3⟩
      · by_cases e : h0 = k
        · subst e
          rw [List.getElem?_set] at h2
          simp only [if_true] at h2
          split at h2
          · obtain rfl := Option.some.inj h2
            exact .inl ⟨0, x, rfl, by simpa using hx, hy⟩
          · cases h2
        · rw [List.getElem?_set_ne e] at h2
          refine .inr ⟨fun j => ?_, h2⟩
          cases j with
          | zero => simpa using e
          | succ j => simpa using h1 j
    | lend h0 => exact step (by simpa only [setG] using h) (by simp) rfl
    | sub i => exact step (by simpa only [setG] using h) (by simp) rfl
    | nilr i E ks => exact step (by simpa only [setG] using h) (by simp) rfl
theorem renR_get {f : Nat → Option Nat} : ∀ {xs ys : List Res}, renR f xs = some ys → ∀ (t : Nat) (y : Res), ys[t]? = some y → ∃ x, xs[t]? = some x ∧ x.ren f = some y
  | [], ys, h, t, y, hy => by obtain rfl := Option.some.inj h; simp at hy
  | x :: xs, ys, h, t, y, hy => by
    simp only [renR] at h
    split at h
    case h_2 => cases h
    rename_i x' xs' h1 h2
    obtain rfl := Option.some.inj h
    cases t with
    | zero => simp at hy; subst hy; exact ⟨x, rfl, h1⟩
    | succ t => simpa using renR_get h2 t y (by simpa using hy)
theorem killO_get {p : Nat → Bool} : ∀ {os : List (Option Nat)} {h0 h j : Nat}, (killO p h0 os)[h]? = some (some j) → os[h]? = some (some j) ∧ p (h0 + h) = true
  | [], h0, h, j, hh => by simp [killO] at hh
  | x :: os, h0, 0, j, hh => by
    simp only [killO, List.getElem?_cons_zero, Option.some.injEq, cond_eq_ite] at hh
    split at hh
    · rename_i hp; exact ⟨by simpa using hh, by simpa using hp⟩
    · cases hh
  | x :: os, h0, h + 1, j, hh => by
    simp only [killO, List.getElem?_cons_succ] at hh
    have := killO_get hh
    exact ⟨by simpa using this.1, by rw [← this.2]; congr 1; omega⟩
theorem once_count {ps : List Pass} : ∀ {qs : List Pass}, once ps qs = true → ∀ (j h : Nat), qs[j]? = some (.give h) → ps.countP (Pass.isH h) = 1
  | [], _, j, h, hj => by simp at hj
  | q :: qs, hq, j, h, hj => by
    cases j with
    | zero =>
      simp at hj
      subst hj
      simp only [once, Bool.and_eq_true] at hq
      exact Nat.eq_of_beq_eq_true hq.1
    | succ j =>
      have : once ps qs = true := by
        cases q <;> simp only [once, Bool.and_eq_true] at hq <;> first | exact hq.2 | exact hq
      exact once_count this j h (by simpa using hj)
theorem count_two {p : Pass → Bool} : ∀ {ps : List Pass} {j j' : Nat} {x y : Pass}, j < j' → ps[j]? = some x → ps[j']? = some y → p x = true → p y = true → 2 ≤ ps.countP p
  | z :: ps, 0, j' + 1, x, y, _, hx, hy, px, py => by
    simp at hx hy
    subst hx
    rw [List.countP_cons_of_pos px]
    have : 1 ≤ ps.countP p := List.one_le_countP_iff.2 ⟨y, List.mem_of_getElem? hy, py⟩
    omega
  | z :: ps, j + 1, j' + 1, x, y, hlt, hx, hy, px, py => by
    have := count_two (p := p) (by omega : j < j') (by simpa using hx) (by simpa using hy) px py
    rw [List.countP_cons]
    omega
  | [], _, _, _, _, _, hx, _, _, _ => by simp at hx
theorem once_uniq {ps : List Pass} (ho : once ps ps = true) {j j' h : Nat} {x : Pass} (hj : ps[j]? = some (.give h)) (hj' : ps[j']? = some x) (hx : x.isH h = true) : j = j' := by
  have hc := once_count ho j h hj
  have hg : Pass.isH h (.give h) = true := by simp [Pass.isH]
  rcases Nat.lt_trichotomy j j' with hl | hl | hl
  · have := count_two (p := Pass.isH h) hl hj hj' hg hx; omega
  · exact hl
  · have := count_two (p := Pass.isH h) hl hj' hj hx hg; omega
theorem areps_get {g : Gam} : ∀ {os : List AV} {vs : List Value} {i : Nat} {x : AV}, areps g os vs → os[i]? = some x → ∃ v, vs[i]? = some v ∧ arep g x v
  | _ :: _, v :: _, 0, x, h, e => by simp at e; subst e; exact ⟨v, rfl, h.1⟩
  | _ :: _, _ :: _, i + 1, x, h, e => by simp at e; simpa using areps_get h.2 e
  | [], [], i, x, h, e => by simp at e
  | [], _ :: _, _, _, h, _ => h.elim
  | _ :: _, [], _, _, h, _ => h.elim
end Go.Proofs.Ytgicfkgiecgjoaa.RS
