/- RS, part Hand: a piece of code that has a contract of its own. -/
import Derived.Test.YtgicfkgiecgjoaaRsXN
set_option linter.unusedVariables false
set_option linter.unusedSimpArgs false
namespace Go.Proofs.Ytgicfkgiecgjoaa.RS
open Go Go.RowKit
/-- The slots hold these. -/
def slotsHold (g : Gam) (a : Act) : List Nat → List AV → Prop
  | [], [] => True
  | s :: ss, x :: xs => (∃ v, a.tmps[s]? = some v ∧ arep g x v) ∧ slotsHold g a ss xs
  | _, _ => False
/-- A piece of code (X: what is to be shown of it): over these resources, with these values in these slots, it comes to its end, and then, for one of a family, has left those resources and those values; of the slots only those listed are written. -/
def HSpec (X : (Exit → Act → World → Prop) → Act → World → Prop) (nt : Nat) {ι : Type} (p : ι → Prop) (ins : List Res) (xs : List Nat) (args : List AV) (outs : ι → List Res) (ds : List Nat) (rs : ι → List AV) (ws : List Nat) : Prop :=
  ∀ (g : Gam) (a : Act) (w : World) (Q : Exit → Act → World → Prop), a.defers = [] → a.tmps.size = nt → Mem g ins w → slotsHold g a xs args →
    (∀ z g' a' w', p z → a'.defers = [] → a'.tmps.size = nt → (∀ s, natIn ws s = false → a'.tmps[s]? = a.tmps[s]?) → slotsHold g' a' ds (rs z) → PostA g ins (outs z) g' w w' → Q .normal a' w') → X Q a w
where natIn : List Nat → Nat → Bool
  | [], _ => false
  | x :: r, s => Nat.beq x s || natIn r s
open HSpec (natIn)
def lookS (tm : List Ent) : List Nat → Option (List AV)
  | [] => some []
  | s :: r => match look tm s, lookS tm r with
    | some (none, av), some xs => some (av :: xs)
    | _, _ => none
def renA (f : Nat → Option Nat) : List AV → Option (List AV)
  | [] => some []
  | x :: r => match x.ren f, renA f r with | some y, some ys => some (y :: ys) | _, _ => none
def zipE : List Nat → List AV → List Ent
  | d :: ds, x :: xs => (d, none, x) :: zipE ds xs
  | _, _ => []
def dropW (ws : List Nat) : List Ent → List Ent
  | [] => []
  | e :: r => bif natIn ws e.1 || e.2.1.isSome then dropW ws r else e :: dropW ws r
/-- The state behind it; what it asks. -/
def handE (st : St) (xs : List Nat) (ci : CallI) (ds : List Nat) (rs : List AV) (ws : List Nat) : Option (List Res × List AV × St) :=
  match lookS st.tm xs with
  | some os => match insOf st.hp os ci.ins ci.ins, argsI ci.ins 0 os with
    | some ins, some args => bif once ci.ins ci.ins && aliasB st.hp ci.ins ci.outs then
        match setG ci.ins st.hp.length ci.outs ci.ins 0 (st.hp.map (deadR (stays st.hp ci.ins))), renR (bk ci.ins st.hp.length) (ci.outs.drop ci.ins.length), renA (bk ci.ins st.hp.length) rs with
        | some hp', some new, some res => some (ins, args, ⟨zipE ds res ++ dropW ws (dropH (stays st.hp ci.ins) st.tm), hp' ++ new, killO (stays st.hp ci.ins) 0 st.og⟩)
        | _, _, _ => none
      else none
    | _, _ => none
  | none => none
section
variable {C : Ctx} {st st' : St} {g : Gam} {a : Act} {w : World} {Q : Exit → Act → World → Prop}
theorem lookS_ok (hs : ∀ e ∈ st.tm, slotOK g a e) : ∀ {xs : List Nat} {os : List AV}, lookS st.tm xs = some os → slotsHold g a xs os
  | [], os, h => by obtain rfl := Option.some.inj h; trivial
  | s :: r, os, h => by
    simp only [lookS] at h
    split at h
    case h_2 => cases h
    rename_i av ys h1 h2
    obtain rfl := Option.some.inj h
    exact ⟨hs _ (look_mem h1), lookS_ok hs h2⟩
theorem hold_vals : ∀ {xs : List Nat} {os : List AV}, slotsHold g a xs os → ∃ vs, areps g os vs ∧ ∀ (i s : Nat), xs[i]? = some s → a.tmps[s]? = vs[i]?
  | [], [], _ => ⟨[], trivial, fun i s h => by simp at h⟩
  | s :: r, x :: xs, h => by
    obtain ⟨⟨v, h1, h2⟩, h3⟩ := h
    obtain ⟨vs, h4, h5⟩ := hold_vals h3
    refine ⟨v :: vs, ⟨h2, h4⟩, fun i t ht => ?_⟩
    cases i with
    | zero => simp at ht; subst ht; simpa using h1
    | succ i => simpa using h5 i t (by simpa using ht)
  | [], _ :: _, h => h.elim
  | _ :: _, [], h => h.elim
theorem hold_of : ∀ {xs : List Nat} {os : List AV} {vs : List Value}, xs.length = os.length → areps g os vs → (∀ (i s : Nat), xs[i]? = some s → a.tmps[s]? = vs[i]?) → slotsHold g a xs os
  | [], [], _, _, _, _ => trivial
  | s :: r, x :: xs, v :: vs, hl, h, hv => ⟨⟨v, by simpa using hv 0 s rfl, h.1⟩, hold_of (by simpa using hl) h.2 fun i t ht => by simpa using hv (i + 1) t (by simpa using ht)⟩
  | s :: r, x :: xs, [], _, h, _ => h.elim
  | [], _ :: _, _, hl, _, _ => by simp at hl
  | _ :: _, [], _, hl, _, _ => by simp at hl
theorem hold_length : ∀ {xs : List Nat} {os : List AV}, slotsHold g a xs os → xs.length = os.length
  | [], [], _ => rfl
  | _ :: _, _ :: _, h => by simp [hold_length h.2]
  | [], _ :: _, h => h.elim
  | _ :: _, [], h => h.elim
theorem argsI_length {ps : List Pass} : ∀ {i : Nat} {os as : List AV}, argsI ps i os = some as → as.length = os.length
  | i, [], as, h => by obtain rfl := Option.some.inj h; rfl
  | i, x :: r, as, h => by
    simp only [argsI] at h
    split at h
    case h_2 => cases h
    rename_i y ys h1 h2
    obtain rfl := Option.some.inj h
    simp [argsI_length h2]
theorem zipE_ok {g' : Gam} {f : Nat → Option Nat} (hf : ∀ j k, f j = some k → g' k = g j) : ∀ {ds : List Nat} {rs res : List AV}, slotsHold g a ds rs → renA f rs = some res → ∀ e ∈ zipE ds res, slotOK g' a e
  | [], [], res, _, h => by obtain rfl := Option.some.inj h; intro e he; cases he
  | d :: ds, x :: xs, res, hh, h => by
    simp only [renA] at h
    split at h
    case h_2 => cases h
    rename_i y ys h1 h2
    obtain rfl := Option.some.inj h
    intro e he
    rcases List.mem_cons.1 he with rfl | he
    · obtain ⟨v, k1, k2⟩ := hh.1
      exact ⟨v, k1, arep_ren hf h1 k2⟩
    · exact zipE_ok hf hh.2 h2 e he
  | [], _ :: _, _, h, _ => h.elim
  | _ :: _, [], _, h, _ => h.elim
theorem dropW_mem {ws : List Nat} : ∀ {tm : List Ent} {e : Ent}, e ∈ dropW ws tm → e ∈ tm ∧ natIn ws e.1 = false ∧ e.2.1 = none
  | x :: r, e, h => by
    simp only [dropW, cond_eq_ite] at h
    split at h
    · obtain ⟨h1, h2⟩ := dropW_mem h
      exact ⟨List.mem_cons_of_mem _ h1, h2⟩
    · rename_i hb
      rcases List.mem_cons.1 h with rfl | h
      · simp only [Bool.or_eq_true, not_or, Bool.not_eq_true] at hb
        exact ⟨List.mem_cons_self .., hb.1, by simpa using hb.2⟩
      · obtain ⟨h1, h2⟩ := dropW_mem h
        exact ⟨List.mem_cons_of_mem _ h1, h2⟩
/-- A piece of code by its contract. -/
theorem handG {X : (Exit → Act → World → Prop) → Act → World → Prop} {ι : Type} [hne : Nonempty ι] {p : ι → Prop} (xs : List Nat) (ps : List Pass) (outs : ι → List Res) (res0 : AV) (ds : List Nat) (rs : ι → List AV) (ws : List Nat) (ins : List Res) (args : List AV) (J : ι → St)
    (h : ∀ z, handE st xs ⟨ps, outs z, res0⟩ ds (rs z) ws = some (ins, args, J z)) (hc : HSpec X C.nt p ins xs args outs ds rs ws) (hk : ∀ z, p z → ∀ a w, Sat C (J z) a w → Q .normal a w) : ∀ a w, Sat C st a w → X Q a w := by
  rintro a w ⟨g, hs⟩
  have key : ∀ (z : ι), ∃ os hp' new res, lookS st.tm xs = some os ∧ insOf st.hp os ps ps = some ins ∧ argsI ps 0 os = some args ∧ (once ps ps = true ∧ aliasB st.hp ps (outs z) = true) ∧ setG ps st.hp.length (outs z) ps 0 (st.hp.map (deadR (stays st.hp ps))) = some hp' ∧
      renR (bk ps st.hp.length) ((outs z).drop ps.length) = some new ∧ renA (bk ps st.hp.length) (rs z) = some res ∧ J z = ⟨zipE ds res ++ dropW ws (dropH (stays st.hp ps) st.tm), hp' ++ new, killO (stays st.hp ps) 0 st.og⟩ := by
    intro z
    have h := h z
    unfold handE at h
    split at h
    case h_2 => cases h
    rename_i os hos
    split at h
    case h_2 => cases h
    rename_i ins' args' hins hargs
    simp only [cond_eq_ite] at h
    split at h
    case isFalse => cases h
    rename_i honce
    simp only [Bool.and_eq_true] at honce
    split at h
    case h_2 => cases h
    rename_i hp' new res hset hnew hres
    simp only [Option.some.injEq, Prod.mk.injEq] at h
    obtain ⟨rfl, rfl, hJ⟩ := h
    exact ⟨os, hp', new, res, hos, hins, hargs, honce, hset, hnew, hres, hJ.symm⟩
  obtain ⟨z0⟩ := hne
  obtain ⟨os, _, _, _, hos, hins, hargs, honce, _, _, _, _⟩ := key z0
  have hold := lookS_ok hs.slots hos
  obtain ⟨vs, hv, hvs⟩ := hold_vals hold
  have hmem := ins_mem hs.mem hins honce.1 hv
  have hargs' := args_ok hins hv hargs hv (fun k => by rw [Nat.zero_add]) (fun k => by rw [Nat.zero_add])
  refine hc _ a w Q hs.defers hs.size hmem (hold_of (by rw [argsI_length hargs]; exact hold_length hold) hargs' hvs) ?_
  intro z g' a' w' hz h1 h2 h3 h4 hpost
  obtain ⟨os', hp', new, res, hos', hins', _, hal, hset, hnew, hres, hJ⟩ := key z
  rw [hos] at hos'
  obtain rfl := Option.some.inj hos'
  obtain ⟨k1, k2⟩ := after_ok (ci := ⟨ps, outs z, res0⟩) hs hins honce.1 hset hnew (PostA.toN hs.mem hins hal.2 hpost)
  refine hk z hz a' w' ⟨afterG g g' st.hp ps, ?_⟩
  rw [hJ]
  refine ⟨h1, h2.trans rfl, fun e he => ?_, k1.mem, k1.frm, k1.own, k1.og⟩
  rcases List.mem_append.1 he with he | he
  · exact zipE_ok k2 h4 hres e he
  · obtain ⟨e1, e2, e3⟩ := dropW_mem he
    obtain ⟨v, e4, e5⟩ := k1.slots e e1
    refine ⟨v, (h3 _ e2).trans e4, ?_⟩
    rw [e3] at e5 ⊢
    exact e5
theorem W.hand {c : Code} {ι : Type} [hne : Nonempty ι] {p : ι → Prop} (xs : List Nat) (ps : List Pass) (outs : ι → List Res) (res0 : AV) (ds : List Nat) (rs : ι → List AV) (ws : List Nat) (ins : List Res) (args : List AV) (J : ι → St)
    (h : ∀ z, handE st xs ⟨ps, outs z, res0⟩ ds (rs z) ws = some (ins, args, J z)) (hc : HSpec (fun Q a w => c.wp C.P Q a w) C.nt p ins xs args outs ds rs ws) (hk : ∀ z, p z → ∀ a w, Sat C (J z) a w → Q .normal a w) : W C c Q st := handG xs ps outs res0 ds rs ws ins args J h hc hk
/-- The operations of a region from the n-th on have a contract of their own; those ahead of them are walked. -/
theorem W.tail {id n : Nat} {ops : Array Oper} (ht : C.tt.ok C.P) (ans : List An) (slots hds : List Nat) (st1 : St) (obs : List Prop) (h1 : runX C.P C.tt C.nt ops st ans (ops.toList.take n) = some (st1, obs)) (ho : AllP obs) (st2 : St) (h2 : st1.keep slots hds = some st2)
    {ι : Type} [hne : Nonempty ι] {p : ι → Prop} (xs : List Nat) (ps : List Pass) (outs : ι → List Res) (res0 : AV) (ds : List Nat) (rs : ι → List AV) (ws : List Nat) (ins : List Res) (args : List AV) (J : ι → St)
    (h : ∀ z, handE st2 xs ⟨ps, outs z, res0⟩ ds (rs z) ws = some (ins, args, J z)) (hc : HSpec (fun Q a w => wpList C.P ops Q (ops.toList.drop n) a w) C.nt p ins xs args outs ds rs ws) (hk : ∀ z, p z → ∀ a w, Sat C (J z) a w → Q .normal a w) : W C (.region id ops false) Q st := fun a w hs => by
  refine wp_region_list ?_
  have := runX_on ht (rest := ops.toList.drop n) (Q := Q) _ _ _ _ h1 (AllP.get ho) a w hs fun a w ⟨g, hs⟩ => handG (Q := Q) xs ps outs res0 ds rs ws ins args J h hc hk a w ⟨_, hs.keep h2⟩
  rwa [List.take_append_drop] at this
/-- What memory says for sure. -/
theorem W.fact {c : Code} (φ : Prop) (h : ∀ g w, Mem g st.hp w → φ) (hk : φ → W C c Q st) : W C c Q st := fun a w ⟨g, hs⟩ => hk (h g w hs.mem) a w ⟨g, hs⟩
end
end Go.Proofs.Ytgicfkgiecgjoaa.RS
