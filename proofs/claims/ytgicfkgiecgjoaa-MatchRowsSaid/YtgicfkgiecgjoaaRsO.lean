/- RS, part O: one operation, its guard, a region. -/
import Derived.Test.YtgicfkgiecgjoaaRsN
set_option linter.unusedVariables false
set_option linter.unusedSimpArgs false
namespace Go.Proofs.Ytgicfkgiecgjoaa.RS
open Go Go.RowKit
structure An where
  g : Nat := 0
  m : Nat := 0
  call : Option CallI := none
  hand : Option (List Operand × CallI) := none
def lkAll (lk : Operand → Option AV) : List Operand → Option (List AV)
  | [] => some []
  | x :: r => match lk x, lkAll lk r with | some y, some ys => some (y :: ys) | _, _ => none
def orB (p b : Bool) : Bool := p || b
def andB (p b : Bool) : Bool := p && b
/-- A choice between two values. -/
def pickV (p : Bool) (x y : Option AV) : VO :=
  match x, y with
  | some (.sv (.lf (.val (.bool a)))), some (.sv (.lf (.val (.bool b)))) => some (aB (bif p then a else b), [])
  | some (.sv (.lf (.val (.int k a)))), some (.sv (.lf (.val (.int k' b)))) => bif IntKind.eqb k k' then some (aV (.int k (bif p then a else b)), []) else none
  | _, _ => none
def isTrueC : Operand → Bool
  | .const (.bool true) => true
  | _ => false
def isFalseC : Operand → Bool
  | .const (.bool false) => true
  | _ => false
def evalPick (tm : List Ent) (cx : List (Nat × Bool)) (m : Nat) (c x y : Operand) : VO :=
  match c, (lkE tm cx c).bind asB with
  | .tmp s, some p => match m with
    | 0 => bif isTrueC x then match (lkE tm ((s, false) :: cx) y).bind asB with
        | some b => some (aB (orB p b), [])
        | none => none
      else bif isFalseC y then match (lkE tm ((s, true) :: cx) x).bind asB with
        | some b => some (aB (andB p b), [])
        | none => none
      else pickV p (lkE tm ((s, true) :: cx) x) (lkE tm ((s, false) :: cx) y)
    | 1 => match lkE tm ((s, true) :: cx) x with
      | some av => some (av, [p = true])
      | none => none
    | _ => match lkE tm ((s, false) :: cx) y with
      | some av => some (av, [p = false])
      | none => none
  | _, _ => none
def evalP (tt : TT) (st : St) (cx : List (Nat × Bool)) (m : Nat) (op : Op) : VO :=
  match op with
  | .pick c x y => evalPick st.tm cx m c x y
  | op => evalV tt st.hp (lkE st.tm cx) m op
theorem CxOK.cons {cx : List (Nat × Bool)} {a : Act} {s : Nat} {b : Bool} (h : CxOK cx a) (hs : a.tmps[s]? = some (.bool b)) : CxOK ((s, b) :: cx) a := by
  intro s' b' hi
  simp only [inCtx, Bool.or_eq_true, Bool.and_eq_true] at hi
  rcases hi with ⟨h1, h2⟩ | hi
  · rw [← Nat.eq_of_beq_eq_true h1, ← beqB_eq h2]; exact hs
  · exact h s' b' hi
theorem slot_bool {g : Gam} {tm : List Ent} {cx : List (Nat × Bool)} {a : Act} (hs : ∀ e ∈ tm, slotOK g a e) (hc : CxOK cx a) {s : Nat} {p : Bool} (h : (lkE tm cx (.tmp s)).bind asB = some p) : a.tmps[s]? = some (.bool p) ∧ a.eval (.tmp s) = .bool p := by
  obtain ⟨av, h1, h2⟩ := bind_some h
  have hr := asB_rep h2 (lkE_ok hs hc _ _ h1)
  have : ∃ v, a.tmps[s]? = some v := by
    simp only [lkE] at h1
    split at h1
    · rename_i e; obtain ⟨v, hv, _⟩ := hs _ (look_mem e); exact ⟨v, hv⟩
    · rename_i e; obtain ⟨v, hv, _⟩ := hs _ (look_mem e); exact ⟨v, hv⟩
    · cases h1
  obtain ⟨v, hv⟩ := this
  have he : a.eval (.tmp s) = v := by simp [Act.eval, hv]
  rw [he] at hr
  subst hr
  exact ⟨hv, he⟩
section
variable {P : Program} {tt : TT} {w : World} {g : Gam} {av : AV} {obs : List Prop} {st : St} {a : Act}
theorem evalP_ok (ht : tt.ok P) (hsl : ∀ e ∈ st.tm, slotOK g a e) (hm : Mem g st.hp w) {cx : List (Nat × Bool)} (hc : CxOK cx a) {m : Nat} {o : Oper} (h : evalP tt st cx m o.op = some (av, obs)) (ho : ∀ q ∈ obs, q) :
    ∃ v, (execOp a.eval o).run P w = .ok (.value v) w ∧ arep g av v := by
  unfold evalP at h
  split at h
  · rename_i c x y e
    unfold evalPick at h
    split at h
    case h_2 => cases h
    rename_i s p hp
    obtain ⟨hb, hev⟩ := slot_bool hsl hc hp
    have hrun : (execOp a.eval o).run P w = .ok (.value (if p then a.eval x else a.eval y)) w := by
      simp only [execOp, e, hev, asBool]
      rfl
    have hx : p = true → LkOK g (lkE st.tm ((s, true) :: cx)) a := fun hp => lkE_ok hsl (hc.cons (by rw [hb, hp]))
    have hy : p = false → LkOK g (lkE st.tm ((s, false) :: cx)) a := fun hp => lkE_ok hsl (hc.cons (by rw [hb, hp]))
    split at h
    · simp only [cond_eq_ite] at h
      split at h
      · rename_i htc
        split at h
        case h_2 => cases h
        rename_i b hb'
        simp only [Option.some.injEq, Prod.mk.injEq] at h
        obtain ⟨rfl, rfl⟩ := h
        obtain ⟨yv, e1, e2⟩ := bind_some hb'
        refine ⟨_, hrun, ?_⟩
        cases p with
        | true =>
          have : a.eval x = .bool true := by
            cases x <;> simp only [isTrueC] at htc <;> first | cases htc; done | skip
            rename_i v
            cases v <;> first | cases htc; done | skip
            rename_i bb
            cases bb <;> first | cases htc; done | rfl
          simp [this, orB]; rfl
        | false =>
          have := asB_rep e2 (hy rfl y _ e1)
          simp [this, orB]; rfl
      · split at h
        · rename_i _ hfc
          split at h
          case h_2 => cases h
          rename_i b hb'
          simp only [Option.some.injEq, Prod.mk.injEq] at h
          obtain ⟨rfl, rfl⟩ := h
          obtain ⟨xv, e1, e2⟩ := bind_some hb'
          refine ⟨_, hrun, ?_⟩
          cases p with
          | true =>
            have := asB_rep e2 (hx rfl x _ e1)
            simp [this, andB]; rfl
          | false =>
            have : a.eval y = .bool false := by
              cases y <;> simp only [isFalseC] at hfc <;> first | cases hfc; done | skip
              rename_i v
              cases v <;> first | cases hfc; done | skip
              rename_i bb
              cases bb <;> first | cases hfc; done | rfl
            simp [this, andB]; rfl
        · unfold pickV at h
          split at h
          · rename_i b1 b2 e1 e2
            simp only [Option.some.injEq, Prod.mk.injEq] at h
            obtain ⟨rfl, rfl⟩ := h
            refine ⟨_, hrun, ?_⟩
            cases p with
            | true => exact hx rfl x _ e1
            | false => exact hy rfl y _ e2
          · rename_i k n1 k' n2 e1 e2
            simp only [cond_eq_ite] at h
            split at h
            case isFalse => cases h
            rename_i hk
            obtain rfl := IntKind.eqb_eq hk
            simp only [Option.some.injEq, Prod.mk.injEq] at h
            obtain ⟨rfl, rfl⟩ := h
            refine ⟨_, hrun, ?_⟩
            cases p with
            | true => exact hx rfl x _ e1
            | false => exact hy rfl y _ e2
          · cases h
    · split at h
      case h_2 => cases h
      rename_i v hv
      simp only [Option.some.injEq, Prod.mk.injEq] at h
      obtain ⟨rfl, rfl⟩ := h
      have hpt := ho _ (List.mem_singleton.2 rfl)
      refine ⟨_, hrun, ?_⟩
      rw [hpt]
      exact hx hpt x _ hv
    · split at h
      case h_2 => cases h
      rename_i v hv
      simp only [Option.some.injEq, Prod.mk.injEq] at h
      obtain ⟨rfl, rfl⟩ := h
      have hpt := ho _ (List.mem_singleton.2 rfl)
      refine ⟨_, hrun, ?_⟩
      rw [hpt]
      exact hy hpt y _ hv
  · exact evalV_ok ht hm (lkE_ok hsl hc) h ho
end
/-! ### One operation -/
abbrev XO := Option (Option AV × St × List Prop)
def exN (tt : TT) (st : St) (cx : List (Nat × Bool)) (m : Nat) (op : Op) : XO :=
  bif st.wf then match evalN tt st.hp (lkE st.tm cx) m st.hp.length op with
    | some (av, r, obs) => some (some av, ⟨st.tm, st.hp ++ [r], st.og⟩, obs)
    | none => none
  else none
def exA (tt : TT) (st : St) (cx : List (Nat × Bool)) (c : Call) : XO :=
  match c.args.toList, c.argTypes.toList with
  | [s, x], [t, tx] => match evalAppend tt st.hp st.hp.length t tx (lkE st.tm cx s) (lkE st.tm cx x) with
    | some (h, r, obs) => bif Nat.beq h st.hp.length then
        bif st.wf then some (some (.sv (.lf (.row h))), ⟨st.tm, st.hp ++ [r], st.og⟩, obs) else none
      else some (some (.sv (.lf (.row h))), ⟨dropH (isNot h) st.tm, (st.hp.map (deadR (isNot h))).set h r, st.og.set h none⟩, obs)
    | none => none
  | _, _ => none
def exC (P : Program) (tt : TT) (st : St) (cx : List (Nat × Bool)) (an : An) (c : Call) : XO :=
  match c.callee with
  | .value (.func f) => match an.call, lkAll (lkE st.tm cx) c.args.toList with
    | some ci, some os => match evalCall P f st os ci with
      | some (av, st', obs) => some (some av, st', obs)
      | none => none
    | _, _ => none
  | .builtin .append => exA tt st cx c
  | _ => match evalP tt st cx an.m (.call c) with
    | some (av, obs) => some (some av, st, obs)
    | none => none
def execO (P : Program) (tt : TT) (st : St) (cx : List (Nat × Bool)) (an : An) (op : Op) : XO :=
  match op with
  | .store T ad x => match evalStore tt st.hp T (lkE st.tm cx ad) (lkE st.tm cx x) with
    | some (hp', obs) => some (none, ⟨st.tm, hp', st.og⟩, obs)
    | none => none
  | .call c => exC P tt st cx an c
  | op => match evalP tt st cx an.m op with
    | some (av, obs) => some (some av, st, obs)
    | none => exN tt st cx an.m op
def exec1 (P : Program) (tt : TT) (st : St) (cx : List (Nat × Bool)) (an : An) (op : Op) : XO :=
  match an.hand with
  | some (xs, ci) => match lkAll (lkE st.tm cx) xs with
    | some os => match evalHand P op xs st os ci with
      | some (av, st', obs) => some (some av, st', obs)
      | none => none
    | none => none
  | none => execO P tt st cx an op
section
variable {C : Ctx} {st st' : St} {g : Gam} {a : Act} {w : World} {obs : List Prop} {r : Option AV} {Q : Exit → Act → World → Prop}
/-- What is owed to whatever comes behind an operation. -/
def Goes (C : Ctx) (st' : St) (a : Act) (r : Option AV) (dst : Option Tmp) (K : Act → World → Prop) : Prop :=
  ∀ (v : Value) (w' : World) (g' : Gam), SatG C st' g' a w' → (∀ av, r = some av → arep g' av v) → (r = none → v = undef) → K (a.put dst v) w'
theorem lkAll_ok {lk : Operand → Option AV} (hl : LkOK g lk a) : ∀ {xs : List Operand} {os : List AV}, lkAll lk xs = some os → areps g os (xs.map a.eval)
  | [], os, h => by obtain rfl := Option.some.inj h; trivial
  | x :: xs, os, h => by
    simp only [lkAll] at h
    split at h
    case h_2 => cases h
    rename_i y ys h1 h2
    obtain rfl := Option.some.inj h
    exact ⟨hl x y h1, lkAll_ok hl h2⟩
theorem goes_value {o : Oper} {K : Act → World → Prop} {v : Value} {w' : World} (h : (execOp a.eval o).run C.P w = .ok (.value v) w') (hk : K (a.put o.dst v) w') : o.wp C.P a w K Q := by
  unfold Oper.wp; rw [h]; exact hk
theorem exN_ok (ht : C.tt.ok C.P) (hs : SatG C st g a w) {cx : List (Nat × Bool)} (hc : CxOK cx a) {m : Nat} {o : Oper} (h : exN C.tt st cx m o.op = some (r, st', obs)) (ho : ∀ q ∈ obs, q) {K : Act → World → Prop} (hk : Goes C st' a r o.dst K) : o.wp C.P a w K Q := by
  unfold exN at h
  simp only [cond_eq_ite] at h
  split at h
  case isFalse => cases h
  rename_i hwf
  split at h
  case h_2 => cases h
  rename_i av r' obs' he
  simp only [Option.some.injEq, Prod.mk.injEq] at h
  obtain ⟨rfl, rfl, rfl⟩ := h
  obtain ⟨v, w', gv, h1, h2⟩ := evalN_ok ht hs.mem (lkE_ok hs.slots hc) he ho
  obtain ⟨h3, h4⟩ := hs.new hwf h2
  exact goes_value h1 (hk v w' _ h3 (fun av' e => by obtain rfl := Option.some.inj e; exact h4) (fun e => by cases e))
theorem evalP_goes (ht : C.tt.ok C.P) (hs : SatG C st g a w) {cx : List (Nat × Bool)} (hc : CxOK cx a) {m : Nat} {o : Oper} {av : AV} (h : evalP C.tt st cx m o.op = some (av, obs)) (ho : ∀ q ∈ obs, q) {K : Act → World → Prop} (hk : Goes C st a (some av) o.dst K) : o.wp C.P a w K Q := by
  obtain ⟨v, h1, h2⟩ := evalP_ok ht hs.slots hs.mem hc h ho
  exact goes_value h1 (hk v w g hs (fun av' e => by obtain rfl := Option.some.inj e; exact h2) (fun e => by cases e))
theorem exA_ok (ht : C.tt.ok C.P) (hs : SatG C st g a w) {cx : List (Nat × Bool)} (hc : CxOK cx a) {c : Call} {o : Oper} (hop : o.op = .call c) (hca : c.callee = .builtin .append) (h : exA C.tt st cx c = some (r, st', obs)) (ho : ∀ q ∈ obs, q) {K : Act → World → Prop} (hk : Goes C st' a r o.dst K) : o.wp C.P a w K Q := by
  obtain ⟨callee, args, argTypes⟩ := c
  simp only at hca
  subst hca
  unfold exA at h
  simp only at h
  split at h
  case h_2 => cases h
  rename_i s x t tx ea et
  obtain rfl : args = #[s, x] := Array.ext' ea
  obtain rfl : argTypes = #[t, tx] := Array.ext' et
  split at h
  case h_2 => cases h
  rename_i h0 r0 obs0 he
  have hrun : ∀ {v : Value} {w' : World}, (Builtin.append_ #[t, tx] o.type #[a.eval s, a.eval x]).run C.P w = .ok v w' → (execOp a.eval o).run C.P w = .ok (.value v) w' := by
    intro v w' hr
    simp only [execOp, hop, resolve, invoke, builtin, List.map_toArray, List.map_cons, List.map_nil, pure_bind]
    simp [hr]
  have hl := lkE_ok hs.slots hc
  unfold evalAppend at he
  split at he
  case h_2 => cases he
  rename_i i ix l xa hi hix hsl hx
  obtain ⟨_, e1, hsl⟩ := bind_some hsl
  have hrs := asL_rep hsl (hl s _ e1)
  have hrx := hl x _ hx
  obtain ⟨d, hu, hsd⟩ := (ht t i hi).und
  obtain ⟨dx, hux, hsx⟩ := (ht tx ix hix).und
  split at he
  case h_2 => cases he
  rename_i el hd
  rw [hd] at hsd
  obtain rfl := shape_sl hsd
  split at he
  case h_2 => cases he
  rename_i ei hei
  simp only [cond_eq_ite] at he
  split at he
  case isFalse => cases he
  rename_i hb
  simp only [Bool.and_eq_true] at hb
  obtain ⟨⟨⟨hb1, hb2⟩, hb3⟩, hb4⟩ := hb
  have hpos : 0 < ei.size := blt_lt hb2
  have hby : 0 < ei.bytes := blt_lt hb4
  have hz := Nat.eq_of_beq_eq_true hb3
  rw [← hsx] at hb1
  split at he
  · rename_i hh _
    split at he
    case h_2 => cases he
    rename_i E ks xs hr
    split at he
    case isFalse => cases he
    rename_i hb
    simp only [Bool.and_eq_true, Bool.not_eq_true'] at hb
    obtain rfl := Nat.eq_of_beq_eq_true hb.1.1
    have hks := Nat.eq_of_beq_eq_true hb.1.2
    split at he
    case h_2 => cases he
    rename_i ys ob hys
    simp only [Option.some.injEq, Prod.mk.injEq] at he
    obtain ⟨rfl, rfl, rfl⟩ := he
    have hltn : hh < st.hp.length := (List.getElem?_eq_some_iff.1 hr).1
    have hne : ¬ (Nat.beq hh st.hp.length = true) := fun e => by have := Nat.eq_of_beq_eq_true e; omega
    simp only [cond_eq_ite, if_neg hne, Option.some.injEq, Prod.mk.injEq] at h
    obtain ⟨rfl, rfl, rfl⟩ := h
    obtain ⟨hsrc, hfy⟩ := srcOf_ok hs.mem (by omega) hys (fun q hq => ho q (List.mem_append_left _ hq)) hrx
    have hbound := ho _ (List.mem_append_right _ (List.mem_singleton.2 rfl))
    rw [hks] at hsrc
    obtain ⟨hrs1, _⟩ := hrs
    obtain ⟨v', w', h1, h2, h3, h4⟩ := run_append (g := g) (T := o.type) hu hux hb1 (ht _ ei hei) hpos hz hby hks (hs.mem.ok hh _ hr) hsrc hfy hbound
    have hsat := hs.moved hr rfl (r0' := .row true E ks (xs ++ ys)) (fun g => h2) h3 h4
    rw [← hrs1] at h1
    obtain ⟨A, c, hv', _⟩ := h2.1
    exact goes_value (hrun h1) (hk v' w' _ hsat (fun av e => by obtain rfl := Option.some.inj e; exact ⟨(upd_self _ _ _).symm, A, _, c, by rw [upd_self]; exact hv'⟩) (fun e => by cases e))
  · split at he
    case isFalse => cases he
    rename_i hb
    have hks := Nat.eq_of_beq_eq_true hb
    split at he
    case h_2 => cases he
    rename_i ys ob hys
    simp only [Option.some.injEq, Prod.mk.injEq] at he
    obtain ⟨rfl, rfl, rfl⟩ := he
    have hbq : Nat.beq st.hp.length st.hp.length = true := by simp
    simp only [cond_eq_ite, hbq, if_true] at h
    split at h
    case isFalse => cases h
    rename_i hwf
    simp only [Option.some.injEq, Prod.mk.injEq] at h
    obtain ⟨rfl, rfl, rfl⟩ := h
    obtain ⟨hsrc, hfy⟩ := srcOf_ok hs.mem (by omega) hys (fun q hq => ho q (List.mem_append_left _ hq)) hrx
    have hbound := ho _ (List.mem_append_right _ (List.mem_singleton.2 rfl))
    rw [hks] at hsrc
    have hrs1 : a.eval s = .slice none 0 0 := hrs
    have hnil : (Res.row true el (cksOf C.tt el) []).ok g w (.slice none 0 0) := ⟨⟨none, 0, rfl, Nat.le_refl _, Nat.zero_le _, by simp, fun h => absurd rfl h⟩, fun _ A c e hc => by injection e with _ _ e3; exact absurd e3.symm hc⟩
    obtain ⟨v', w', h1, h2, h3, h4⟩ := run_append (g := g) (T := o.type) (xs := []) hu hux hb1 (ht _ ei hei) hpos hz hby hks hnil hsrc hfy (by simpa using hbound)
    rw [← hrs1] at h1
    simp only [List.nil_append] at h2 h4
    obtain ⟨A, c, hv', _⟩ := h2.1
    have hsat := hs.new hwf (av := .sv (.lf (.row st.hp.length))) (v := v') (gv := v') (r := .row true el (cksOf C.tt el) ys) (w' := w') ⟨⟨h3.os, h3.tape, h3.output, h3.size, fun k hk => h3.block k hk (by simp [Res.at])⟩, ⟨(upd_self _ _ _).symm, A, _, c, by rw [upd_self]; exact hv'⟩, h2, fun b hb => (h4 b hb).resolve_left (by simp [Res.at])⟩
    exact goes_value (hrun h1) (hk v' w' _ hsat.1 (fun av e => by obtain rfl := Option.some.inj e; exact hsat.2) (fun e => by cases e))
  · cases he
theorem run_callFunc {P : Program} {f : FuncId} (h : FnOK P f) (vs : Array Value) (w : World) : (callFunc f vs).run P w = .ok (.enter f vs) w := by
  unfold FnOK at h
  cases e : P.funcs[f]? with
  | none => rw [e] at h; cases h
  | some fn =>
    rw [e] at h
    simp only [Option.map_some, Option.some.injEq, Prod.mk.injEq] at h
    unfold callFunc
    simp only [Sem.run_bind, run_program, Result.andThen_ok, e, h.1, h.2, Bool.false_eq_true, if_false, Sem.run_ite, Sem.run_pure]
theorem OpRuns.wp {P : Program} {o : Oper} {K : Act → World → Prop} {R : Value → World → Prop} (h : OpRuns P a o w fun e w' => ∃ v, e = .returned v ∧ R v w') (hk : ∀ v w', R v w' → K (a.put o.dst v) w') : o.wp P a w K Q := by
  unfold OpRuns at h
  unfold Oper.wp
  split at h
  · rename_i e; rw [e]; obtain ⟨v', e', hr⟩ := h; cases e'; exact hk _ _ hr
  · rename_i e; rw [e]; obtain ⟨v', e', hr⟩ := h; cases e'; exact hk _ _ hr
  · rename_i e
    rw [e, Oper.upon_enter]
    refine h.mono ?_
    rintro e' w' ⟨v, rfl, hr⟩
    exact hk v w' hr
  · exact h.elim
theorem execO_ok (ht : C.tt.ok C.P) (hs : SatG C st g a w) {cx : List (Nat × Bool)} (hc : CxOK cx a) {an : An} {o : Oper} (h : execO C.P C.tt st cx an o.op = some (r, st', obs)) (ho : ∀ q ∈ obs, q) {K : Act → World → Prop} (hk : Goes C st' a r o.dst K) : o.wp C.P a w K Q := by
  unfold execO at h
  split at h
  · rename_i T ad x e
    split at h
    case h_2 => cases h
    rename_i hp' obs' he
    simp only [Option.some.injEq, Prod.mk.injEq] at h
    obtain ⟨rfl, rfl, rfl⟩ := h
    have hl := lkE_ok hs.slots hc
    obtain ⟨w', h1, h2⟩ := evalStore_ok ht hs.mem he ho (fun b hb => hl ad b hb) (fun b hb => hl x b hb)
    have hrun : (execOp a.eval o).run C.P w = .ok .skip w' := by
      simp only [execOp, e, Sem.run_bind, h1, Result.andThen_ok, Sem.run_pure]
    unfold Oper.wp
    rw [hrun]
    exact hk undef w' g (hs.stored h2) (fun av e => by cases e) (fun _ => rfl)
  · rename_i c e
    unfold exC at h
    split at h
    · rename_i f hcal
      split at h
      case h_2 => cases h
      rename_i ci os hci hos
      split at h
      case h_2 => cases h
      rename_i av st1 obs1 he
      simp only [Option.some.injEq, Prod.mk.injEq] at h
      obtain ⟨rfl, rfl, rfl⟩ := h
      have hargs := lkAll_ok (lkE_ok hs.slots hc) hos
      obtain ⟨hfn, hcalls⟩ := evalCall_ok hs he ho hargs
      obtain ⟨callee, args, argTypes⟩ := c
      simp only at hcal hargs hcalls hos
      subst hcal
      have hvs : (args.toList.map a.eval).toArray = args.map a.eval := by apply Array.ext'; simp
      have hrun : (execOp a.eval o).run C.P w = .ok (.enter f (args.map a.eval)) w := by
        simp only [execOp, e, resolve, Act.eval, Deferred.ofValue, pure_bind, invoke]
        simp only [Array.append_empty, Array.empty_append]
        exact run_callFunc hfn _ w
      unfold Oper.wp
      rw [hrun, Oper.upon_enter]
      rw [hvs] at hcalls
      refine hcalls.mono ?_
      rintro e' w' ⟨g', v, rfl, h1, h2⟩
      exact hk v w' g' h1 (fun av' e => by obtain rfl := Option.some.inj e; exact h2) (fun e => by cases e)
    · rename_i hcal
      exact exA_ok ht hs hc e hcal h ho hk
    · split at h
      case h_2 => cases h
      rename_i av obs1 he
      simp only [Option.some.injEq, Prod.mk.injEq] at h
      obtain ⟨rfl, rfl, rfl⟩ := h
      rw [← e] at he
      exact evalP_goes ht hs hc he ho hk
  · split at h
    · rename_i av obs1 he
      simp only [Option.some.injEq, Prod.mk.injEq] at h
      obtain ⟨rfl, rfl, rfl⟩ := h
      exact evalP_goes ht hs hc he ho hk
    · exact exN_ok ht hs hc h ho hk
theorem exec1_ok (ht : C.tt.ok C.P) (hs : SatG C st g a w) {cx : List (Nat × Bool)} (hc : CxOK cx a) {an : An} {o : Oper} (h : exec1 C.P C.tt st cx an o.op = some (r, st', obs)) (ho : ∀ q ∈ obs, q) {K : Act → World → Prop} (hk : Goes C st' a r o.dst K) : o.wp C.P a w K Q := by
  unfold exec1 at h
  split at h
  · split at h
    case h_2 => cases h
    rename_i os hos
    split at h
    case h_2 => cases h
    rename_i av st1 obs1 he
    simp only [Option.some.injEq, Prod.mk.injEq] at h
    obtain ⟨rfl, rfl, rfl⟩ := h
    have hr := evalHand_ok hs he ho (lkAll_ok (lkE_ok hs.slots hc) hos)
    refine OpRuns.wp (R := fun v w' => ∃ g', SatG C st1 g' a w' ∧ arep g' av v) ?_ (fun v w' ⟨g', h1, h2⟩ => hk v w' g' h1 (fun av' e => by obtain rfl := Option.some.inj e; exact h2) (fun e => by cases e))
    unfold OpRuns at hr ⊢
    split at hr
    · obtain ⟨g', v, e, h⟩ := hr; exact ⟨v, e, g', h⟩
    · obtain ⟨g', v, e, h⟩ := hr; exact ⟨v, e, g', h⟩
    · exact hr.mono fun e w' ⟨g', v, e, h⟩ => ⟨v, e, g', h⟩
    · exact hr.elim
  · exact execO_ok ht hs hc h ho hk
end
end Go.Proofs.Ytgicfkgiecgjoaa.RS
