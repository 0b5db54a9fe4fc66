/- RS, part K: states; one operation on a state. -/
import Derived.Test.YtgicfkgiecgjoaaRsJ
set_option linter.unusedVariables false
set_option linter.unusedSimpArgs false
namespace Go.Proofs.Ytgicfkgiecgjoaa.RS
open Go Go.RowKit
/-! ### 1. States -/
abbrev Ent := Nat × Option (Nat × Bool) × AV
structure St where
  tm : List Ent
  hp : List Res
  og : List (Option Nat)
structure Ctx where
  P : Program
  tt : TT
  w0 : World
  mods : Nat → Prop
  nt : Nat
  g0 : Gam
structure Frm (mods : Nat → Prop) (w0 w : World) : Prop where
  os : w.os = w0.os
  tape : w.tape = w0.tape
  output : w.output = w0.output
  size : w0.heap.size ≤ w.heap.size
  block : ∀ k, k < w0.heap.size → ¬ mods k → w.heap[k]? = w0.heap[k]?
theorem Frm.refl (m : Nat → Prop) (w : World) : Frm m w w := ⟨rfl, rfl, rfl, Nat.le_refl _, fun _ _ _ => rfl⟩
def gdOK (a : Act) (g : Gam) (gd : Option (Nat × Bool)) (av : AV) (v : Value) : Prop :=
  match gd with
  | none => arep g av v
  | some gw => (a.tmps[gw.1]? = some (.bool gw.2) → arep g av v) ∧ (a.tmps[gw.1]? ≠ some (.bool gw.2) → v = undef)
def slotOK (g : Gam) (a : Act) (e : Ent) : Prop := ∃ v, a.tmps[e.1]? = some v ∧ gdOK a g e.2.1 e.2.2 v
structure SatG (C : Ctx) (st : St) (g : Gam) (a : Act) (w : World) : Prop where
  defers : a.defers = []
  size : a.tmps.size = C.nt
  slots : ∀ e ∈ st.tm, slotOK g a e
  mem : Mem g st.hp w
  frm : Frm C.mods C.w0 w
  own : ∀ (h : Nat) (r : Res) (b : Nat), st.hp[h]? = some r → r.own = true → r.at (g h) b → C.w0.heap.size ≤ b ∨ C.mods b
  og : ∀ (h j : Nat), st.og[h]? = some (some j) → g h = C.g0 j
def Sat (C : Ctx) (st : St) (a : Act) (w : World) : Prop := ∃ g, SatG C st g a w

def look : List Ent → Nat → Option (Option (Nat × Bool) × AV)
  | [], _ => none
  | e :: r, s => bif Nat.beq e.1 s then some e.2 else look r s
def beqB : Bool → Bool → Bool
  | true, true => true
  | false, false => true
  | _, _ => false
theorem beqB_eq {a b : Bool} (h : beqB a b = true) : a = b := by cases a <;> cases b <;> first | rfl | cases h
def inCtx : List (Nat × Bool) → Nat × Bool → Bool
  | [], _ => false
  | x :: r, y => (Nat.beq x.1 y.1 && beqB x.2 y.2) || inCtx r y
def lkE (tm : List Ent) (cx : List (Nat × Bool)) : Operand → Option AV
  | .tmp t => match look tm t with
    | some (none, av) => some av
    | some (some gw, av) => bif inCtx cx gw then some av else none
    | none => none
  | .const v => match v with
    | .agg cs => some (.sv (.agg (cs.toList.map .val)))
    | v => some (aV v)
  | .global n => some (aV (.pointer (some ⟨n, 0, none⟩)))
  | .func f => some (aV (.func (.func f) #[] #[]))
def CxOK (cx : List (Nat × Bool)) (a : Act) : Prop := ∀ s b, inCtx cx (s, b) = true → a.tmps[s]? = some (.bool b)
theorem look_mem : ∀ {tm : List Ent} {s : Nat} {x : Option (Nat × Bool) × AV}, look tm s = some x → (s, x) ∈ tm
  | e :: r, s, x, h => by
    simp only [look, cond_eq_ite] at h
    split at h
    · rename_i he
      have he := Nat.eq_of_beq_eq_true he
      obtain rfl := Option.some.inj h
      subst he
      exact List.mem_cons_self ..
    · exact List.mem_cons_of_mem _ (look_mem h)
theorem lkE_ok {g : Gam} {tm : List Ent} {cx : List (Nat × Bool)} {a : Act} (hs : ∀ e ∈ tm, slotOK g a e) (hc : CxOK cx a) : LkOK g (lkE tm cx) a := by
  intro x av h
  cases x with
  | tmp t =>
    simp only [lkE] at h
    split at h
    · rename_i v e
      obtain rfl := Option.some.inj h
      obtain ⟨v, h1, h2⟩ := hs _ (look_mem e)
      have : a.eval (.tmp t) = v := by simp [Act.eval, h1]
      rw [this]; exact h2
    · rename_i gw v e
      simp only [cond_eq_ite] at h
      split at h
      · rename_i hin
        obtain rfl := Option.some.inj h
        obtain ⟨v, h1, h2⟩ := hs _ (look_mem e)
        have : a.eval (.tmp t) = v := by simp [Act.eval, h1]
        rw [this]; exact h2.1 (hc _ _ hin)
      · cases h
    · cases h
  | const v =>
    simp only [lkE] at h
    split at h
    · obtain rfl := Option.some.inj h
      exact ⟨_, rfl, reps_vals g _⟩
    · obtain rfl := Option.some.inj h
      rfl
  | global n => obtain rfl := Option.some.inj h; rfl
  | func f => obtain rfl := Option.some.inj h; rfl
def gdOn (d : Nat) : Option (Nat × Bool) → Bool
  | some gw => Nat.beq gw.1 d
  | none => false
def delE (d : Nat) : List Ent → List Ent
  | [] => []
  | e :: r => bif Nat.beq e.1 d || gdOn d e.2.1 then delE d r else e :: delE d r
theorem delE_mem {d : Nat} : ∀ {tm : List Ent} {e : Ent}, e ∈ delE d tm → e ∈ tm ∧ e.1 ≠ d ∧ ∀ gw, e.2.1 = some gw → gw.1 ≠ d
  | x :: r, e, h => by
    simp only [delE, cond_eq_ite] at h
    split at h
    · obtain ⟨h1, h2⟩ := delE_mem h
      exact ⟨List.mem_cons_of_mem _ h1, h2⟩
    · rename_i hb
      rcases List.mem_cons.1 h with rfl | h
      · simp only [Bool.or_eq_true, not_or, Bool.not_eq_true] at hb
        refine ⟨List.mem_cons_self .., fun he => ?_, fun gw hg he => ?_⟩
        · rw [he] at hb; simp at hb
        · rw [hg] at hb; simp only [gdOn, he] at hb; simp at hb
      · obtain ⟨h1, h2⟩ := delE_mem h
        exact ⟨List.mem_cons_of_mem _ h1, h2⟩
def putE (tm : List Ent) (d : Nat) (gd : Option (Nat × Bool)) (av : AV) : List Ent := (d, gd, av) :: delE d tm
theorem put_same {a : Act} {d : Nat} {v : Value} (h : d < a.tmps.size) : (a.put (some d) v).tmps[d]? = some v := by simp [Act.put, h]
theorem put_other {a : Act} {d s : Nat} {v : Value} (h : s ≠ d) : (a.put (some d) v).tmps[s]? = a.tmps[s]? := by
  simp [Act.put, Array.getElem?_setIfInBounds_ne (Ne.symm h)]
theorem slots_put {g : Gam} {tm : List Ent} {a : Act} {d : Nat} {gd : Option (Nat × Bool)} {av : AV} {v : Value} (hs : ∀ e ∈ tm, slotOK g a e) (hd : d < a.tmps.size) (hg : ∀ gw, gd = some gw → gw.1 ≠ d) (hv : gdOK a g gd av v) :
    ∀ e ∈ putE tm d gd av, slotOK g (a.put (some d) v) e := by
  have key : ∀ (gd : Option (Nat × Bool)) (av : AV) (u : Value), (∀ gw, gd = some gw → gw.1 ≠ d) → gdOK a g gd av u → gdOK (a.put (some d) v) g gd av u := by
    intro gd av u hg hv
    cases gd with
    | none => exact hv
    | some gw =>
      simp only [gdOK, put_other (hg gw rfl)]
      exact hv
  intro e he
  rcases List.mem_cons.1 he with rfl | he
  · exact ⟨v, put_same hd, key _ _ _ hg hv⟩
  · obtain ⟨h1, h2, h3⟩ := delE_mem he
    obtain ⟨u, hu, hok⟩ := hs e h1
    exact ⟨u, by rw [put_other h2]; exact hu, key _ _ _ h3 hok⟩

/-! ### 2. Handles -/
def St.wf (st : St) : Bool := Nat.ble st.og.length st.hp.length && st.tm.all (fun e => e.2.2.on (fun k => Nat.blt k st.hp.length)) && st.hp.all (Res.on (fun k => Nat.blt k st.hp.length))
def dropH (p : Nat → Bool) (tm : List Ent) : List Ent := tm.filter fun e => e.2.2.on p
def deadL (p : Nat → Bool) (l : LV) : LV := bif l.on p then l else .dead
def deadR (p : Nat → Bool) : Res → Res
  | .blk own T cs => .blk own T (cs.map (deadL p))
  | r => r
theorem rep_is_one {g : Gam} {l : LV} {v : Value} (h : rep g l v) (hn : ∀ u, l ≠ .val u) : v.oneCell' = true := by
  cases l with
  | val u => exact absurd rfl (hn u)
  | ptr => obtain ⟨b, _, rfl⟩ := h; rfl
  | pti => obtain ⟨b, _, rfl⟩ := h; rfl
  | elt => obtain ⟨a, n, c, _, rfl⟩ := h; rfl
  | row => obtain ⟨rfl, A, n, c, e⟩ := h; rw [e]; rfl
  | view => obtain ⟨A, n, c, _, _, _, _, _, rfl⟩ := h; rfl
  | dead => exact h
theorem rep_deadL {g g' : Gam} {p : Nat → Bool} (hg : ∀ h, p h = true → g' h = g h) {l : LV} {v : Value} (h : rep g l v) : rep g' (deadL p l) v := by
  simp only [deadL, cond_eq_ite]
  split
  · rename_i hp; exact rep_congr hg hp h
  · rename_i hp
    refine rep_is_one h fun u e => ?_
    subst e
    exact hp rfl
theorem reps_deadL {g g' : Gam} {p : Nat → Bool} (hg : ∀ h, p h = true → g' h = g h) : ∀ {ls : List LV} {vs : List Value}, reps g ls vs → reps g' (ls.map (deadL p)) vs
  | [], [], _ => trivial
  | _ :: _, _ :: _, h => ⟨rep_deadL hg h.1, reps_deadL hg h.2⟩
  | [], _ :: _, h => h.elim
  | _ :: _, [], h => h.elim
theorem ok_deadR {g g' : Gam} {p : Nat → Bool} (hg : ∀ h, p h = true → g' h = g h) {w : World} {v : Value} {r : Res} (h : r.ok g w v) : (deadR p r).ok g' w v := by
  cases r with
  | blk own T cs => obtain ⟨b, vs, e, hh, hr⟩ := h; exact ⟨b, vs, e, hh, reps_deadL hg hr⟩
  | _ => exact h
theorem at_deadR (p : Nat → Bool) (r : Res) (v : Value) : (deadR p r).at v = r.at v := by
  cases r with
  | blk own T cs =>
    cases v with
    | pointer a => cases a <;> rfl
    | _ => rfl
  | _ => rfl
theorem own_deadR (p : Nat → Bool) (r : Res) : (deadR p r).own = r.own := by cases r <;> rfl
theorem slot_congr {g g' : Gam} {p : Nat → Bool} (hg : ∀ h, p h = true → g' h = g h) {a : Act} {e : Ent} (hp : e.2.2.on p = true) (h : slotOK g a e) : slotOK g' a e := by
  obtain ⟨v, h1, h2⟩ := h
  refine ⟨v, h1, ?_⟩
  revert h2
  cases e.2.1 with
  | none => exact arep_congr hg hp
  | some gw => exact fun h => ⟨fun hc => arep_congr hg hp (h.1 hc), h.2⟩

/-! ### 3. What an operation does to a state -/
theorem blt_lt {k n : Nat} (h : Nat.blt k n = true) : k < n := Nat.le_of_ble_eq_true h
section
variable {C : Ctx} {st : St} {g : Gam} {a : Act} {w : World}
/-- A new resource comes. -/
theorem SatG.new (hs : SatG C st g a w) (hwf : st.wf = true) {w' : World} {r : Res} {av : AV} {v gv : Value} (hn : NewOK g w w' st.hp.length r av v gv) :
    SatG C ⟨st.tm, st.hp ++ [r], st.og⟩ (upd g st.hp.length gv) a w' ∧ arep (upd g st.hp.length gv) av v := by
  simp only [St.wf, Bool.and_eq_true, List.all_eq_true] at hwf
  obtain ⟨⟨hwo, hwf1⟩, hwf2⟩ := hwf
  have hwf := And.intro hwf1 hwf2
  have hwo := Nat.le_of_ble_eq_true hwo
  have hg : ∀ h, Nat.blt h st.hp.length = true → upd g st.hp.length gv h = g h := fun h hh => upd_ne g gv (by have := blt_lt hh; omega)
  have hlt : ∀ {h : Nat} {r' : Res}, st.hp[h]? = some r' → h < st.hp.length := fun h => (List.getElem?_eq_some_iff.1 h).1
  have hgl : ∀ {h : Nat} {r' : Res}, st.hp[h]? = some r' → upd g st.hp.length gv h = g h := fun h => upd_ne g gv (by have := hlt h; omega)
  have hget : ∀ {h : Nat} {r' : Res}, (st.hp ++ [r])[h]? = some r' → st.hp[h]? = some r' ∨ (h = st.hp.length ∧ r' = r) := by
    intro h r' hh
    rcases Nat.lt_trichotomy h st.hp.length with hl | hl | hl
    · rw [List.getElem?_append_left hl] at hh; exact .inl hh
    · subst hl; simp at hh; exact .inr ⟨rfl, hh.symm⟩
    · rw [List.getElem?_append_right (by omega), List.getElem?_eq_none (by simp; omega)] at hh; cases hh
  refine ⟨⟨hs.defers, hs.size, fun e he => slot_congr hg (hwf.1 e he) (hs.slots e he), ⟨fun h r' (hh : (st.hp ++ [r])[h]? = some r') => ?_, fun h h' r1 r2 b hne (h1 : (st.hp ++ [r])[h]? = some r1) (h2 : (st.hp ++ [r])[h']? = some r2) ho hb => ?_⟩, ?_, fun h r' b (hh : (st.hp ++ [r])[h]? = some r') ho hb => ?_, fun h j (hh : st.og[h]? = some (some j)) => ?_⟩, hn.av⟩
  · rcases hget hh with hh | ⟨rfl, rfl⟩
    · rw [hgl hh]
      have hok := hs.mem.ok h r' hh
      refine Res.ok_congr hg (hwf.2 r' (List.mem_of_getElem? hh)) (Res.ok_frame hok hn.below.size fun b hb => ?_)
      exact hn.below.block b (Res.ok_lt hok hb)
    · rw [upd_self]; exact hn.ok
  · rcases hget h1 with k1 | ⟨rfl, rfl⟩ <;> rcases hget h2 with k2 | ⟨rfl, rfl⟩
    · rw [hgl k1] at hb; rw [hgl k2]; exact hs.mem.sep h h' r1 r2 b hne k1 k2 ho hb
    · rw [hgl k1] at hb
      rw [upd_self]
      intro hb'
      have := hn.at_ b hb'
      have := Res.ok_lt (hs.mem.ok h r1 k1) hb
      omega
    · rw [upd_self] at hb
      rw [hgl k2]
      intro hb'
      have := hn.at_ b hb
      have := Res.ok_lt (hs.mem.ok h' r2 k2) hb'
      omega
    · exact absurd rfl hne
  · exact ⟨hn.below.os.trans hs.frm.os, hn.below.tape.trans hs.frm.tape, hn.below.output.trans hs.frm.output, Nat.le_trans hs.frm.size hn.below.size, fun k hk hm => (hn.below.block k (Nat.lt_of_lt_of_le hk hs.frm.size)).trans (hs.frm.block k hk hm)⟩
  · rcases hget hh with hh | ⟨rfl, rfl⟩
    · rw [hgl hh] at hb; exact hs.own h r' b hh ho hb
    · rw [upd_self] at hb
      have := hn.at_ b hb
      have := hs.frm.size
      left; omega
  · have hlo := (List.getElem?_eq_some_iff.1 hh).1
    rw [upd_ne g gv (by omega)]
    exact hs.og h j hh
/-- One owned resource is written, in place. -/
theorem SatG.stored (hs : SatG C st g a w) {w' : World} {hp' : List Res} (hn : StoreOK g w w' st.hp hp') : SatG C ⟨st.tm, hp', st.og⟩ g a w' := by
  obtain ⟨h0, r0, r0', hh0, rfl, ho0, ho0', hok0, hat0, hchg, hsz⟩ := hn.ex
  have hlt0 : h0 < st.hp.length := (List.getElem?_eq_some_iff.1 hh0).1
  have hget : ∀ {h : Nat} {r' : Res}, (st.hp.set h0 r0')[h]? = some r' → (h ≠ h0 ∧ st.hp[h]? = some r') ∨ (h = h0 ∧ r' = r0') := by
    intro h r' hh
    by_cases e : h0 = h
    · subst e; rw [List.getElem?_set_self hlt0] at hh; exact .inr ⟨rfl, (Option.some.inj hh).symm⟩
    · rw [List.getElem?_set_ne e] at hh; exact .inl ⟨Ne.symm e, hh⟩
  refine ⟨hs.defers, hs.size, hs.slots, ⟨fun h r' (hh : (st.hp.set h0 r0')[h]? = some r') => ?_, fun h h' r1 r2 b hne (h1 : (st.hp.set h0 r0')[h]? = some r1) (h2 : (st.hp.set h0 r0')[h']? = some r2) ho hb => ?_⟩, ?_, fun h r' b (hh : (st.hp.set h0 r0')[h]? = some r') ho hb => ?_, hs.og⟩
  · rcases hget hh with ⟨hne, hh⟩ | ⟨rfl, rfl⟩
    · have hok := hs.mem.ok h r' hh
      refine Res.ok_frame hok hchg.size fun b hb => ?_
      refine hchg.block b (Res.ok_lt hok hb) fun e => ?_
      exact hs.mem.sep h0 h r0 r' b (Ne.symm hne) hh0 hh ho0 e hb
    · exact hok0
  · rcases hget h1 with ⟨hn1, k1⟩ | ⟨rfl, rfl⟩ <;> rcases hget h2 with ⟨hn2, k2⟩ | ⟨rfl, rfl⟩
    · exact hs.mem.sep h h' r1 r2 b hne k1 k2 ho hb
    · rw [hat0]; exact hs.mem.sep h h' r1 r0 b hne k1 hh0 ho hb
    · rw [hat0] at hb; exact hs.mem.sep h h' r0 r2 b hne hh0 k2 ho0 hb
    · exact absurd rfl hne
  · refine ⟨hchg.os.trans hs.frm.os, hchg.tape.trans hs.frm.tape, hchg.output.trans hs.frm.output, Nat.le_trans hs.frm.size hchg.size, fun k hk hm => (hchg.block k (Nat.lt_of_lt_of_le hk hs.frm.size) fun e => ?_).trans (hs.frm.block k hk hm)⟩
    rcases hs.own h0 r0 k hh0 ho0 e with h | h
    · omega
    · exact hm h
  · rcases hget hh with ⟨hne, hh⟩ | ⟨rfl, rfl⟩
    · exact hs.own h r' b hh ho hb
    · rw [hat0] at hb; exact hs.own h r0 b hh0 ho0 hb
/-- One owned row is appended to: it may have moved. -/
theorem SatG.moved (hs : SatG C st g a w) {h0 : Nat} {r0 r0' : Res} {v' : Value} {w' : World} (hh0 : st.hp[h0]? = some r0) (ho0 : r0.own = true) (hok0 : ∀ g, r0'.ok g w' v') (hchg : Chg (r0.at (g h0)) w w')
    (hat : ∀ b, r0'.at v' b → r0.at (g h0) b ∨ w.heap.size ≤ b) :
    SatG C ⟨dropH (isNot h0) st.tm, (st.hp.map (deadR (isNot h0))).set h0 r0', st.og.set h0 none⟩ (upd g h0 v') a w' := by
  have hlt0 : h0 < st.hp.length := (List.getElem?_eq_some_iff.1 hh0).1
  have hget : ∀ {h : Nat} {r' : Res}, ((st.hp.map (deadR (isNot h0))).set h0 r0')[h]? = some r' → (h ≠ h0 ∧ ∃ r, st.hp[h]? = some r ∧ r' = deadR (isNot h0) r) ∨ (h = h0 ∧ r' = r0') := by
    intro h r' hh
    by_cases e : h0 = h
    · subst e; rw [List.getElem?_set_self (by simpa using hlt0)] at hh; exact .inr ⟨rfl, (Option.some.inj hh).symm⟩
    · rw [List.getElem?_set_ne e, List.getElem?_map] at hh
      cases hr : st.hp[h]? with
      | none => simp [hr] at hh
      | some r => simp [hr] at hh; exact .inl ⟨Ne.symm e, r, rfl, hh.symm⟩
  have hold : ∀ {h : Nat} {r : Res} {b : Nat}, h ≠ h0 → st.hp[h]? = some r → r.at (g h) b → ¬ r0'.at v' b := by
    intro h r b hne hh hb hb'
    rcases hat b hb' with h1 | h1
    · exact hs.mem.sep h0 h r0 r b (Ne.symm hne) hh0 hh ho0 h1 hb
    · have := Res.ok_lt (hs.mem.ok h r hh) hb; omega
  refine ⟨hs.defers, hs.size, fun e he => ?_, ⟨fun h r' (hh : ((st.hp.map (deadR (isNot h0))).set h0 r0')[h]? = some r') => ?_, fun h h' r1 r2 b hne (h1 : ((st.hp.map (deadR (isNot h0))).set h0 r0')[h]? = some r1) (h2 : ((st.hp.map (deadR (isNot h0))).set h0 r0')[h']? = some r2) ho hb => ?_⟩, ?_, fun h r' b (hh : ((st.hp.map (deadR (isNot h0))).set h0 r0')[h]? = some r') ho hb => ?_, fun h j (hh : (st.og.set h0 none)[h]? = some (some j)) => ?_⟩
  · simp only [dropH, List.mem_filter] at he
    exact slot_congr (upd_on g h0 v') he.2 (hs.slots e he.1)
  · rcases hget hh with ⟨hne, r, kh, rfl⟩ | ⟨rfl, rfl⟩
    · rw [upd_ne g v' hne]
      have hok := hs.mem.ok h r kh
      refine ok_deadR (upd_on g h0 v') (Res.ok_frame hok hchg.size fun b hb => ?_)
      refine hchg.block b (Res.ok_lt hok hb) fun e => ?_
      exact hs.mem.sep h0 h r0 r b (Ne.symm hne) hh0 kh ho0 e hb
    · rw [upd_self]; exact hok0 _
  · rcases hget h1 with ⟨hn1, r1, k1, rfl⟩ | ⟨rfl, rfl⟩ <;> rcases hget h2 with ⟨hn2, r2, k2, rfl⟩ | ⟨rfl, rfl⟩
    · rw [upd_ne g v' hn1, at_deadR] at hb
      rw [upd_ne g v' hn2, at_deadR]
      rw [own_deadR] at ho
      exact hs.mem.sep h h' r1 r2 b hne k1 k2 ho hb
    · rw [upd_ne g v' hn1, at_deadR] at hb
      rw [upd_self]
      exact hold hn1 k1 hb
    · rw [upd_self] at hb
      rw [upd_ne g v' hn2, at_deadR]
      intro hb'
      exact hold hn2 k2 hb' hb
    · exact absurd rfl hne
  · refine ⟨hchg.os.trans hs.frm.os, hchg.tape.trans hs.frm.tape, hchg.output.trans hs.frm.output, Nat.le_trans hs.frm.size hchg.size, fun k hk hm => (hchg.block k (Nat.lt_of_lt_of_le hk hs.frm.size) fun e => ?_).trans (hs.frm.block k hk hm)⟩
    rcases hs.own h0 r0 k hh0 ho0 e with h | h
    · omega
    · exact hm h
  · rcases hget hh with ⟨hne, r, kh, rfl⟩ | ⟨rfl, rfl⟩
    · rw [upd_ne g v' hne, at_deadR] at hb
      rw [own_deadR] at ho
      exact hs.own h r b kh ho hb
    · rw [upd_self] at hb
      rcases hat b hb with h1 | h1
      · exact hs.own h r0 b hh0 ho0 h1
      · have := hs.frm.size; left; omega
  · rw [List.getElem?_set] at hh
    split at hh
    · split at hh <;> cases hh
    · rename_i hne
      rw [upd_ne g v' (Ne.symm hne)]
      exact hs.og h j hh
end
end Go.Proofs.Ytgicfkgiecgjoaa.RS
