/- RS, part S: operations that only read; guarded calls; regions that draw. -/
import Derived.Test.YtgicfkgiecgjoaaRsR
set_option linter.unusedVariables false
set_option linter.unusedSimpArgs false
namespace Go.Proofs.Ytgicfkgiecgjoaa.RS
open Go Go.RowKit
def noGive : List Pass → Bool
  | [] => true
  | .give _ :: _ => false
  | _ :: r => noGive r
def LV.clo : LV → Option Value
  | .val v => some v
  | _ => none
def clos : List LV → Option (List Value)
  | [] => some []
  | l :: r => match l.clo, clos r with | some v, some vs => some (v :: vs) | _, _ => none
def SV.clo : SV → Option Value
  | .lf l => l.clo
  | .agg cs => match clos cs with | some vs => some (.agg vs.toArray) | none => none
def sclos : List SV → Option (List Value)
  | [] => some []
  | l :: r => match l.clo, sclos r with | some v, some vs => some (v :: vs) | _, _ => none
def AV.clo : AV → Option Value
  | .sv s => s.clo
  | .tup ss => match sclos ss with | some vs => some (.tuple vs.toArray) | none => none
def LV.det : LV → Bool
  | .dead => false
  | _ => true
def SV.det : SV → Bool
  | .lf l => l.det
  | .agg cs => cs.all LV.det
def AV.det : AV → Bool
  | .sv s => s.det
  | .tup ss => ss.all SV.det
def exP (P : Program) (tt : TT) (st : St) (cx : List (Nat × Bool)) (an : An) (op : Op) : VO :=
  match op with
  | .call c => match c.callee with
    | .value (.func f) => match an.call, lkAll (lkE st.tm cx) c.args.toList with
      | some ci, some os => match insOf st.hp os ci.ins ci.ins, argsI ci.ins 0 os, ci.res.clo with
        | some ins, some args, some _ => bif noGive ci.ins && once ci.ins ci.ins then some (ci.res, [Spec P f ins args ci.outs ci.res]) else none
        | _, _, _ => none
      | _, _ => none
    | _ => evalP tt st cx an.m (.call c)
  | op => evalP tt st cx an.m op
def exH (P : Program) (st : St) (cx : List (Nat × Bool)) (xs : List Operand) (ci : CallI) (op : Op) : VO :=
  match lkAll (lkE st.tm cx) xs with
  | some os => match insOf st.hp os ci.ins ci.ins, argsI ci.ins 0 os, ci.res.clo with
    | some ins, some args, some _ => bif noGive ci.ins && once ci.ins ci.ins then some (ci.res, [QSpec P op xs ins args ci.outs ci.res]) else none
    | _, _, _ => none
  | none => none
def exQ (P : Program) (tt : TT) (st : St) (cx : List (Nat × Bool)) (an : An) (op : Op) : VO :=
  match an.hand with
  | some (xs, ci) => exH P st cx xs ci op
  | none => exP P tt st cx an op
section
variable {g g' : Gam}
theorem rep_clo {l : LV} {v u : Value} (h : l.clo = some v) (r : rep g l u) : u = v := by
  cases l <;> simp only [LV.clo] at h <;> first | (cases h; done) | skip
  obtain rfl := Option.some.inj h
  exact r
theorem reps_clo : ∀ {ls : List LV} {vs us : List Value}, clos ls = some vs → reps g ls us → us = vs
  | [], vs, us, h, r => by obtain rfl := Option.some.inj h; cases us <;> first | rfl | exact r.elim
  | l :: ls, vs, [], h, r => r.elim
  | l :: ls, vs, u :: us, h, r => by
    simp only [clos] at h
    split at h
    · rename_i v1 vs1 h1 h2
      obtain rfl := Option.some.inj h
      rw [rep_clo h1 r.1, reps_clo h2 r.2]
    · cases h
theorem srep_clo {l : SV} {v u : Value} (h : l.clo = some v) (r : srep g l u) : u = v := by
  cases l <;> simp only [SV.clo] at h
  · exact rep_clo h r
  · split at h
    case h_2 => cases h
    rename_i vs hvs
    obtain rfl := Option.some.inj h
    obtain ⟨us, rfl, r⟩ := r
    rw [← reps_clo hvs r]
theorem sreps_clo : ∀ {ls : List SV} {vs us : List Value}, sclos ls = some vs → sreps g ls us → us = vs
  | [], vs, us, h, r => by obtain rfl := Option.some.inj h; cases us <;> first | rfl | exact r.elim
  | l :: ls, vs, [], h, r => r.elim
  | l :: ls, vs, u :: us, h, r => by
    simp only [sclos] at h
    split at h
    · rename_i v1 vs1 h1 h2
      obtain rfl := Option.some.inj h
      rw [srep_clo h1 r.1, sreps_clo h2 r.2]
    · cases h
theorem arep_clo {l : AV} {v u : Value} (h : l.clo = some v) (r : arep g l u) : u = v := by
  cases l <;> simp only [AV.clo] at h
  · exact srep_clo h r
  · split at h
    case h_2 => cases h
    rename_i vs hvs
    obtain rfl := Option.some.inj h
    obtain ⟨us, rfl, r⟩ := r
    rw [← sreps_clo hvs r]
theorem clo_rep {l : LV} {v : Value} (h : l.clo = some v) : rep g l v := by
  cases l <;> simp only [LV.clo] at h <;> first | (cases h; done) | skip
  obtain rfl := Option.some.inj h
  rfl
theorem clo_reps : ∀ {ls : List LV} {vs : List Value}, clos ls = some vs → reps g ls vs
  | [], vs, h => by obtain rfl := Option.some.inj h; trivial
  | l :: ls, vs, h => by
    simp only [clos] at h
    split at h
    · rename_i v1 vs1 h1 h2
      obtain rfl := Option.some.inj h
      exact ⟨clo_rep h1, clo_reps h2⟩
    · cases h
theorem clo_srep {l : SV} {v : Value} (h : l.clo = some v) : srep g l v := by
  cases l <;> simp only [SV.clo] at h
  · exact clo_rep h
  · split at h
    case h_2 => cases h
    rename_i vs hvs
    obtain rfl := Option.some.inj h
    exact ⟨_, rfl, clo_reps hvs⟩
theorem clo_sreps : ∀ {ls : List SV} {vs : List Value}, sclos ls = some vs → sreps g ls vs
  | [], vs, h => by obtain rfl := Option.some.inj h; trivial
  | l :: ls, vs, h => by
    simp only [sclos] at h
    split at h
    · rename_i v1 vs1 h1 h2
      obtain rfl := Option.some.inj h
      exact ⟨clo_srep h1, clo_sreps h2⟩
    · cases h
theorem clo_arep {l : AV} {v : Value} (h : l.clo = some v) : arep g l v := by
  cases l <;> simp only [AV.clo] at h
  · exact clo_srep h
  · split at h
    case h_2 => cases h
    rename_i vs hvs
    obtain rfl := Option.some.inj h
    exact ⟨_, rfl, clo_sreps hvs⟩
theorem rep_det {l : LV} {v u : Value} (h : l.det = true) (r : rep g l v) (r' : rep g l u) : u = v := by
  cases l <;> simp only [LV.det] at h <;> first | (cases h; done) | skip
  · exact r'.trans r.symm
  · obtain ⟨b, h1, rfl⟩ := r; obtain ⟨b', h2, rfl⟩ := r'; rw [h1] at h2; simp only [Value.pointer.injEq, Option.some.injEq, Addr.mk.injEq] at h2; rw [h2.1]
  · obtain ⟨b, h1, rfl⟩ := r; obtain ⟨b', h2, rfl⟩ := r'; rw [h1] at h2; simp only [Value.pointer.injEq, Option.some.injEq, Addr.mk.injEq] at h2; rw [h2.1]
  · obtain ⟨a, n, c, h1, rfl⟩ := r; obtain ⟨a', n', c', h2, rfl⟩ := r'; rw [h1] at h2; simp only [Value.slice.injEq, Option.some.injEq] at h2; rw [h2.1]
  · exact r'.1.trans r.1.symm
  · obtain ⟨a, n, c, h1, _, _, _, _, rfl⟩ := r; obtain ⟨a', n', c', h2, _, _, _, _, rfl⟩ := r'; rw [h1] at h2; simp only [Value.slice.injEq] at h2; obtain ⟨rfl, rfl, rfl⟩ := h2; rfl
theorem reps_det : ∀ {ls : List LV} {vs us : List Value}, ls.all LV.det = true → reps g ls vs → reps g ls us → us = vs
  | [], [], [], _, _, _ => rfl
  | l :: ls, v :: vs, u :: us, h, r, r' => by
    simp only [List.all_cons, Bool.and_eq_true] at h
    rw [rep_det h.1 r.1 r'.1, reps_det h.2 r.2 r'.2]
  | [], _ :: _, _, _, r, _ => r.elim
  | [], [], _ :: _, _, _, r => r.elim
  | _ :: _, [], _, _, r, _ => r.elim
  | _ :: _, _ :: _, [], _, _, r => r.elim
theorem srep_det {l : SV} {v u : Value} (h : l.det = true) (r : srep g l v) (r' : srep g l u) : u = v := by
  cases l with
  | lf l => exact rep_det h r r'
  | agg cs => obtain ⟨vs, rfl, r⟩ := r; obtain ⟨us, rfl, r'⟩ := r'; rw [Array.toList_inj.mp (reps_det h r r')]
theorem sreps_det : ∀ {ls : List SV} {vs us : List Value}, ls.all SV.det = true → sreps g ls vs → sreps g ls us → us = vs
  | [], [], [], _, _, _ => rfl
  | l :: ls, v :: vs, u :: us, h, r, r' => by
    simp only [List.all_cons, Bool.and_eq_true] at h
    rw [srep_det h.1 r.1 r'.1, sreps_det h.2 r.2 r'.2]
  | [], _ :: _, _, _, r, _ => r.elim
  | [], [], _ :: _, _, _, r => r.elim
  | _ :: _, [], _, _, r, _ => r.elim
  | _ :: _, _ :: _, [], _, _, r => r.elim
theorem arep_det {l : AV} {v u : Value} (h : l.det = true) (r : arep g l v) (r' : arep g l u) : u = v := by
  cases l with
  | sv l => exact srep_det h r r'
  | tup ss => obtain ⟨vs, rfl, r⟩ := r; obtain ⟨us, rfl, r'⟩ := r'; rw [Array.toList_inj.mp (sreps_det h r r')]
end
/-! ### Worlds in which all that stood still stands -/
abbrev Std (w w' : World) : Prop := Frm (fun _ => False) w w'
theorem Frm.std {m : Nat → Prop} {w0 w w' : World} (h : Frm m w0 w) (h' : Std w w') : Frm m w0 w' :=
  ⟨h'.os.trans h.os, h'.tape.trans h.tape, h'.output.trans h.output, Nat.le_trans h.size h'.size, fun k hk hm => (h'.block k (Nat.lt_of_lt_of_le hk h.size) (fun e => e)).trans (h.block k hk hm)⟩
theorem Mem.std {g : Gam} {hp : List Res} {w w' : World} (h : Mem g hp w) (h' : Std w w') : Mem g hp w' :=
  ⟨fun k r hk => Res.ok_frame (h.ok k r hk) h'.size (fun b hb => h'.block b (Res.ok_lt (h.ok k r hk) hb) (fun e => e)), h.sep⟩
theorem Std.drew (w : World) : Std w { w with drawn := w.drawn + 1 } := ⟨rfl, rfl, rfl, Nat.le_refl _, fun _ _ _ => rfl⟩
section
variable {C : Ctx} {st st' : St} {g : Gam} {a : Act} {w : World} {av : AV} {obs : List Prop} {Q : Exit → Act → World → Prop}
theorem SatG.std (hs : SatG C st g a w) {w' : World} (h : Std w w') : SatG C st g a w' :=
  ⟨hs.defers, hs.size, hs.slots, hs.mem.std h, hs.frm.std h, hs.own, hs.og⟩
theorem own_lend {r r' : Res} {f : Nat → Option Nat} (h : r.lent.ren f = some r') : r'.own = false := by
  cases r <;> simp only [Res.lent, Res.ren] at h
  case blk => split at h <;> cases h; rfl
  all_goals cases h; rfl
theorem noGive_get : ∀ {ps : List Pass}, noGive ps = true → ∀ (j h : Nat), ps[j]? ≠ some (.give h)
  | [], _, j, h, e => by simp at e
  | .give _ :: r, hn, _, _, _ => by cases hn
  | .lend _ :: r, hn, 0, h, e => by simp at e
  | .sub _ :: r, hn, 0, h, e => by simp at e
  | .nilr _ _ _ :: r, hn, 0, h, e => by simp at e
  | .lend _ :: r, hn, j + 1, h, e => noGive_get (ps := r) hn j h (by simpa using e)
  | .sub _ :: r, hn, j + 1, h, e => noGive_get (ps := r) hn j h (by simpa using e)
  | .nilr _ _ _ :: r, hn, j + 1, h, e => noGive_get (ps := r) hn j h (by simpa using e)
theorem ins_lent {hp : List Res} {os : List AV} {ps : List Pass} {ins : List Res} (hi : insOf hp os ps ps = some ins) (hn : noGive ps = true) {j : Nat} {r : Res} (hr : ins[j]? = some r) : r.own = false := by
  cases hp' : ps[j]? with
  | none => rw [(insOf_get hi j).2 hp'] at hr; cases hr
  | some p =>
    obtain ⟨r', h1, h2⟩ := (insOf_get hi j).1 p hp'
    rw [hr] at h1
    obtain rfl := Option.some.inj h1
    cases p with
    | give h => exact absurd hp' (noGive_get hn j h)
    | lend h =>
      simp only [inOne] at h2
      split at h2
      · exact own_lend h2
      · cases h2
    | sub i =>
      simp only [inOne] at h2
      split at h2
      case h_2 => cases h2
      split at h2
      case h_2 => cases h2
      simp only [cond_eq_ite] at h2
      split at h2
      · obtain rfl := Option.some.inj h2; rfl
      · cases h2
    | nilr i E ks =>
      simp only [inOne] at h2
      split at h2
      · obtain rfl := Option.some.inj h2; rfl
      · cases h2
theorem exP_ok (ht : C.tt.ok C.P) (hs : SatG C st g a w) {cx : List (Nat × Bool)} (hc : CxOK cx a) {an : An} {o : Oper} (h : exP C.P C.tt st cx an o.op = some (av, obs)) (ho : ∀ q ∈ obs, q) (hd : av.det = true) :
    ∃ v, arep g av v ∧ ∀ w', Std w w' → o.quietAt C.P a (Std w) w' v := by
  have pure : ∀ {op : Op}, o.op = op → evalP C.tt st cx an.m op = some (av, obs) → ∃ v, arep g av v ∧ ∀ w', Std w w' → o.quietAt C.P a (Std w) w' v := by
    intro op e h
    subst e
    obtain ⟨v, _, h2⟩ := evalP_ok ht hs.slots hs.mem hc h ho
    refine ⟨v, h2, fun w' hw' => ?_⟩
    obtain ⟨v', h3, h4⟩ := evalP_ok ht hs.slots (hs.mem.std hw') hc h ho
    unfold Oper.quietAt
    rw [h3]
    exact ⟨rfl, arep_det hd h2 h4⟩
  unfold exP at h
  split at h
  · rename_i c e
    split at h
    · rename_i f hcal
      split at h
      case h_2 => cases h
      rename_i ci os hci hos
      split at h
      case h_2 => cases h
      rename_i ins args v hins hargs hclo
      simp only [cond_eq_ite] at h
      split at h
      case isFalse => cases h
      rename_i hb
      simp only [Bool.and_eq_true] at hb
      simp only [Option.some.injEq, Prod.mk.injEq] at h
      obtain ⟨rfl, rfl⟩ := h
      have hspec := ho _ (List.mem_singleton.2 rfl)
      refine ⟨v, clo_arep hclo, fun w' hw' => ?_⟩
      have hv := lkAll_ok (lkE_ok hs.slots hc) hos
      have hmem := ins_mem (hs.mem.std hw') hins hb.2 hv
      have hargs' := args_ok hins hv hargs hv (fun k => by rw [Nat.zero_add]) (fun k => by rw [Nat.zero_add])
      obtain ⟨callee, cargs, argTypes⟩ := c
      simp only at hcal hos hv hmem hargs'
      subst hcal
      have hvs : (cargs.toList.map a.eval).toArray = cargs.map a.eval := by apply Array.ext'; simp
      have hrun : (execOp a.eval o).run C.P w' = .ok (.enter f (cargs.map a.eval)) w' := by
        simp only [execOp, e, resolve, Act.eval, Deferred.ofValue, pure_bind, invoke]
        simp only [Array.append_empty, Array.empty_append]
        exact run_callFunc hspec.1 _ w'
      unfold Oper.quietAt
      rw [hrun]
      refine ⟨rfl, ?_⟩
      have hcalls := hspec.2 _ w' _ hmem hargs'
      rw [hvs] at hcalls
      refine hcalls.mono ?_
      rintro e' w'' ⟨g', u, rfl, hru, hpost⟩
      refine ⟨by rw [arep_clo hclo hru], hw'.std ⟨hpost.frm.os, hpost.frm.tape, hpost.frm.output, hpost.frm.size, fun k hk _ => hpost.frm.block k hk fun ⟨j, r, h1, h2, _⟩ => ?_⟩⟩
      rw [ins_lent hins hb.1 h1] at h2
      cases h2
    · exact pure e h
  · exact pure rfl h
theorem exH_ok (hs : SatG C st g a w) {cx : List (Nat × Bool)} (hc : CxOK cx a) {xs : List Operand} {ci : CallI} {o : Oper} (h : exH C.P st cx xs ci o.op = some (av, obs)) (ho : ∀ q ∈ obs, q) :
    ∃ v, arep g av v ∧ ∀ w', Std w w' → o.quietAt C.P a (Std w) w' v := by
  unfold exH at h
  split at h
  case h_2 => cases h
  rename_i os hos
  split at h
  case h_2 => cases h
  rename_i ins args v hins hargs hclo
  simp only [cond_eq_ite] at h
  split at h
  case isFalse => cases h
  rename_i hb
  simp only [Bool.and_eq_true] at hb
  simp only [Option.some.injEq, Prod.mk.injEq] at h
  obtain ⟨rfl, rfl⟩ := h
  have hspec := ho _ (List.mem_singleton.2 rfl)
  refine ⟨v, clo_arep hclo, fun w' hw' => ?_⟩
  have hv := lkAll_ok (lkE_ok hs.slots hc) hos
  have hmem := ins_mem (hs.mem.std hw') hins hb.2 hv
  have hargs' := args_ok hins hv hargs hv (fun k => by rw [Nat.zero_add]) (fun k => by rw [Nat.zero_add])
  have hr := hspec _ w' a o rfl hmem hargs'
  have key : ∀ e w'', PostO (calleeG g ci.ins (xs.map a.eval)) w' ins ci.outs ci.res e w'' → e = .returned v ∧ Std w w'' := by
    rintro e w'' ⟨g', u, rfl, hru, hpost⟩
    refine ⟨by rw [arep_clo hclo hru], hw'.std ⟨hpost.frm.os, hpost.frm.tape, hpost.frm.output, hpost.frm.size, fun k hk _ => hpost.frm.block k hk fun ⟨j, r, h1, h2, _⟩ => ?_⟩⟩
    rw [ins_lent hins hb.1 h1] at h2
    cases h2
  unfold OpRunsQ at hr
  unfold Oper.quietAt
  split at hr
  · rename_i e
    obtain ⟨k1, k2⟩ := key _ _ hr.2
    rw [e]
    cases k1
    exact ⟨hr.1, rfl⟩
  · rename_i e
    obtain ⟨k1, k2⟩ := key _ _ hr.2
    rw [e]
    cases k1
    exact ⟨hr.1, rfl⟩
  · rename_i w1 f vs e
    rw [e]
    obtain ⟨k1, k2⟩ := hr
    subst k1
    exact ⟨rfl, k2.mono fun e w'' h => key e w'' h⟩
  · exact hr.elim
theorem exQ_ok (ht : C.tt.ok C.P) (hs : SatG C st g a w) {cx : List (Nat × Bool)} (hc : CxOK cx a) {an : An} {o : Oper} (h : exQ C.P C.tt st cx an o.op = some (av, obs)) (ho : ∀ q ∈ obs, q) (hd : av.det = true) :
    ∃ v, arep g av v ∧ ∀ w', Std w w' → o.quietAt C.P a (Std w) w' v := by
  unfold exQ at h
  split at h
  · exact exH_ok hs hc h ho
  · exact exP_ok ht hs hc h ho hd
def gdOff (d : Nat) : Option (Nat × Bool) → Bool
  | some gw => isNot d gw.1
  | none => true
def putQ (nt : Nat) (dst : Option Tmp) (gd : Option (Nat × Bool)) (st : St) (r : VO) (f : List Prop → List Prop) : Option (St × List Prop) :=
  match dst, r with
  | some d, some (av, obs) => bif Nat.blt d nt && av.det && gdOff d gd then some (⟨putE st.tm d gd av, st.hp, st.og⟩, f obs) else none
  | _, _ => none
/-- An operation that only reads. -/
def stepQ (P : Program) (tt : TT) (nt : Nat) (all : Array Oper) (st : St) (an : An) (o : Oper) : Option (St × List Prop) :=
  match o.guard with
  | none => putQ nt o.dst none st (exQ P tt st [] an o.op) id
  | some (j, want) => match (all[j]?).bind (·.dst) with
    | none => none
    | some s => match an.g with
      | 1 => match look st.tm s with
        | some (none, av) => match asB av with
          | some p => putQ nt o.dst none st (exQ P tt st [] an o.op) (fun obs => (p = want) :: obs)
          | none => none
        | _ => none
      | 2 => match look st.tm s with
        | some (none, av) => match asB av with
          | some p => match o.dst with
            | some d => bif Nat.blt d nt then some (⟨delE d st.tm, st.hp, st.og⟩, [p = !want]) else none
            | none => none
          | none => none
        | _ => none
      | _ => putQ nt o.dst (some (s, want)) st (exQ P tt st (ctxOf st.tm 6 (s, want)) an o.op) (fun obs => obs.map fun q => condP st.tm 7 (s, want) → q)
theorem putQ_some {nt : Nat} {dst : Option Tmp} {gd : Option (Nat × Bool)} {r : VO} {f : List Prop → List Prop} (h : putQ nt dst gd st r f = some (st', obs)) : ∃ d av obs0, dst = some d ∧ r = some (av, obs0) ∧ d < nt ∧ av.det = true ∧ (∀ gw, gd = some gw → gw.1 ≠ d) ∧ st' = ⟨putE st.tm d gd av, st.hp, st.og⟩ ∧ obs = f obs0 := by
  unfold putQ at h
  split at h
  case h_2 => cases h
  rename_i d av obs0
  simp only [cond_eq_ite] at h
  split at h
  case isFalse => cases h
  rename_i hb
  simp only [Bool.and_eq_true] at hb
  simp only [Option.some.injEq, Prod.mk.injEq] at h
  refine ⟨d, av, obs0, rfl, rfl, blt_lt hb.1.1, hb.1.2, fun gw e => ?_, h.1.symm, h.2.symm⟩
  subst e
  exact isNot_ne hb.2
theorem stepQ_ok (ht : C.tt.ok C.P) (hs : SatG C st g a w) {ops : Array Oper} {an : An} {o : Oper} (h : stepQ C.P C.tt C.nt ops st an o = some (st', obs)) (ho : ∀ q ∈ obs, q) :
    ∃ v, (Region.wanted o (yielded ops a.tmps) = true → ∀ w', Std w w' → o.quietAt C.P a (Std w) w' v) ∧ (Region.wanted o (yielded ops a.tmps) = false → v = undef) ∧ SatG C st' g (a.put o.dst v) w := by
  unfold stepQ at h
  split at h
  · rename_i hg
    obtain ⟨d, av, obs0, hd, he, hlt, hdet, hne, rfl, rfl⟩ := putQ_some h
    obtain ⟨v, h1, h2⟩ := exQ_ok ht hs (cx_nil a) he ho hdet
    refine ⟨v, fun _ => h2, fun hw => by simp [Region.wanted, hg] at hw, ?_⟩
    rw [hd]
    exact hs.slots' (put_defers _ _ _) (put_size _ _ _) (slots_put hs.slots (by rw [hs.size]; exact hlt) hne h1)
  · rename_i j want hg
    split at h
    case h_1 => cases h
    rename_i s hj
    have hwant : Region.wanted o (yielded ops a.tmps) = true ↔ a.tmps[s]? = some (.bool want) := by
      simp only [Region.wanted, hg]; exact yielded_eq hj a want
    have hslot : ∀ {av : AV} {p : Bool}, look st.tm s = some (none, av) → asB av = some p → a.tmps[s]? = some (.bool p) := fun e hp => by
      obtain ⟨v, h1, h2⟩ := hs.slots _ (look_mem e)
      have := asB_rep hp h2
      subst this
      exact h1
    split at h
    · split at h
      case h_2 => cases h
      rename_i av0 hlook
      split at h
      case h_2 => cases h
      rename_i p hp
      obtain ⟨d, av, obs0, hd, he, hlt, hdet, hne, rfl, rfl⟩ := putQ_some h
      have hpw : p = want := ho _ (List.mem_cons_self ..)
      obtain ⟨v, h1, h2⟩ := exQ_ok ht hs (cx_nil a) he (fun q hq => ho q (List.mem_cons_of_mem _ hq)) hdet
      refine ⟨v, fun _ => h2, fun hw => ?_, ?_⟩
      · rw [hwant.2 (by rw [hslot hlook hp, hpw])] at hw; cases hw
      · rw [hd]
        exact hs.slots' (put_defers _ _ _) (put_size _ _ _) (slots_put hs.slots (by rw [hs.size]; exact hlt) hne h1)
    · split at h
      case h_2 => cases h
      rename_i av0 hlook
      split at h
      case h_2 => cases h
      rename_i p hp
      split at h
      case h_2 => cases h
      rename_i d hd
      simp only [cond_eq_ite] at h
      split at h
      case isFalse => cases h
      rename_i hlt
      simp only [Option.some.injEq, Prod.mk.injEq] at h
      obtain ⟨rfl, rfl⟩ := h
      have hpw : p = !want := ho _ (List.mem_singleton.2 rfl)
      refine ⟨undef, fun hw => ?_, fun _ => rfl, ?_⟩
      · rw [hwant, hslot hlook hp, hpw] at hw
        cases want <;> simp at hw
      · rw [hd]
        exact hs.slots' (put_defers _ _ _) (put_size _ _ _) (slots_del hs.slots)
    · obtain ⟨d, av, obs0, hd, he, hlt, hdet, hne, rfl, rfl⟩ := putQ_some h
      have hdl : d < a.tmps.size := by rw [hs.size]; exact hlt
      by_cases hw : Region.wanted o (yielded ops a.tmps) = true
      · have hc := hwant.1 hw
        have hcond := cond_ok hs.slots 7 (s, want) hc
        obtain ⟨v, h1, h2⟩ := exQ_ok ht hs (ctx_ok hs.slots 6 (s, want) hc) he (fun q hq => ho _ (List.mem_map.2 ⟨q, hq, rfl⟩) hcond) hdet
        refine ⟨v, fun _ => h2, fun hn => (by rw [hw] at hn; cases hn), ?_⟩
        rw [hd]
        exact hs.slots' (put_defers _ _ _) (put_size _ _ _) (slots_put hs.slots hdl hne ⟨fun _ => h1, fun hn => absurd hc hn⟩)
      · refine ⟨undef, fun h => absurd h hw, fun _ => rfl, ?_⟩
        rw [hd]
        exact hs.slots' (put_defers _ _ _) (put_size _ _ _) (slots_put hs.slots hdl hne ⟨fun hc => absurd (hwant.2 hc) hw, fun _ => rfl⟩)
end
/-- One operation; mark 3 or more: it only reads. -/
def stepX (P : Program) (tt : TT) (nt : Nat) (all : Array Oper) (st : St) (an : An) (o : Oper) : Option (St × List Prop) :=
  match an.g with
  | n + 3 => stepQ P tt nt all st ⟨n, an.m, an.call, an.hand⟩ o
  | _ => stepO P tt nt all st an o
def hd (ans : List An) : An := match ans with | [] => {} | x :: _ => x
def tl (ans : List An) : List An := match ans with | [] => [] | _ :: r => r
def runX (P : Program) (tt : TT) (nt : Nat) (all : Array Oper) : St → List An → List Oper → Option (St × List Prop)
  | st, _, [] => some (st, [])
  | st, ans, o :: os => match stepX P tt nt all st (hd ans) o with
    | some (st', ob) => match runX P tt nt all st' (tl ans) os with
      | some (st'', obs) => some (st'', ob ++ obs)
      | none => none
    | none => none
def runQ (P : Program) (tt : TT) (nt : Nat) (all : Array Oper) : St → List An → List Oper → Option (St × List Prop)
  | st, _, [] => some (st, [])
  | st, ans, o :: os => match stepQ P tt nt all st (hd ans) o with
    | some (st', ob) => match runQ P tt nt all st' (tl ans) os with
      | some (st'', obs) => some (st'', ob ++ obs)
      | none => none
    | none => none
def regionX (P : Program) (tt : TT) (nt : Nat) (st : St) (ops : Array Oper) (ans : List An) (slots hs : List Nat) : Option (St × List Prop) :=
  match runX P tt nt ops st ans ops.toList with
  | some (st', obs) => match st'.keep slots hs with
    | some st'' => some (st'', obs)
    | none => none
  | none => none
def regionD (P : Program) (tt : TT) (nt : Nat) (st : St) (ops : Array Oper) (n : Nat) (ans : List An) (slots hs : List Nat) : Option (St × List Prop) :=
  match runQ P tt nt (ops.toList.take n).toArray st ans (ops.toList.take n) with
  | some (st1, obs1) => match runX P tt nt ops st1 (ans.drop n) (ops.toList.drop n) with
    | some (st', obs) => match st'.keep slots hs with
      | some st'' => some (st'', obs1 ++ obs)
      | none => none
    | none => none
  | none => none
def ordB (ops : Array Oper) (n : Nat) : Bool :=
  backB .any ops && backB .any (ops.toList.take n).toArray && Region.lexB .any (ops.toList.take n).toArray && tailB .any ops n && headG ops n && Nat.ble n ops.toList.length
section
variable {C : Ctx} {st st' : St} {g : Gam} {a : Act} {w : World} {av : AV} {obs : List Prop} {Q : Exit → Act → World → Prop}
theorem stepX_ok (ht : C.tt.ok C.P) (hs : SatG C st g a w) {ops : Array Oper} {an : An} {o : Oper} (h : stepX C.P C.tt C.nt ops st an o = some (st', obs)) (ho : ∀ q ∈ obs, q) {rest : List Oper} (hk : ∀ a w, Sat C st' a w → wpList C.P ops Q rest a w) :
    wpList C.P ops Q (o :: rest) a w := by
  unfold stepX at h
  split at h
  · obtain ⟨v, h1, h2, h3⟩ := stepQ_ok ht hs h ho
    refine wpList_step fun K hK => ?_
    split
    · rename_i hw
      exact Oper.wp_of_quiet (C := Std w) (K := fun a' => a' = a.put o.dst v) (Frm.refl _ _) (fun a' w' hw' e => by subst e; exact hK _ _ (hk _ _ ⟨g, h3.std hw'⟩)) ⟨v, h1 hw, rfl⟩
    · rename_i hw
      obtain rfl := h2 (by simpa using hw)
      exact hK _ _ (hk _ _ ⟨g, h3⟩)
  · exact stepO_ok ht hs h ho hk
theorem runX_ok (ht : C.tt.ok C.P) {ops : Array Oper} (l : List Oper) : ∀ (ans : List An) (st : St) (obs : List Prop), runX C.P C.tt C.nt ops st ans l = some (st', obs) → (∀ q ∈ obs, q) → ∀ (a : Act) (w : World), Sat C st a w → (∀ a w, Sat C st' a w → Q .normal a w) → wpList C.P ops Q l a w := by
  induction l with
  | nil =>
    intro ans st obs h ho a w hs hk
    simp only [runX, Option.some.injEq, Prod.mk.injEq] at h
    obtain ⟨rfl, _⟩ := h
    exact hk a w hs
  | cons o l ih =>
    intro ans st obs h ho a w hs hk
    obtain ⟨g, hs⟩ := hs
    simp only [runX] at h
    split at h
    case h_2 => cases h
    rename_i st1 ob h1
    split at h
    case h_2 => cases h
    rename_i st2 obs2 h2
    simp only [Option.some.injEq, Prod.mk.injEq] at h
    obtain ⟨rfl, rfl⟩ := h
    exact stepX_ok ht hs h1 (fun q hq => ho q (List.mem_append_left _ hq)) fun a w hs' => ih _ _ _ h2 (fun q hq => ho q (List.mem_append_right _ hq)) a w hs' hk
theorem runQ_ok (ht : C.tt.ok C.P) {ops : Array Oper} {Qa : Act → Prop} (l : List Oper) : ∀ (ans : List An) (st : St) (obs : List Prop), runQ C.P C.tt C.nt ops st ans l = some (st', obs) → (∀ q ∈ obs, q) → ∀ (a : Act), SatG C st g a w → (∀ a, SatG C st' g a w → Qa a) → wpQuiet C.P ops (Std w) Qa l a := by
  induction l with
  | nil =>
    intro ans st obs h ho a hs hk
    simp only [runQ, Option.some.injEq, Prod.mk.injEq] at h
    obtain ⟨rfl, _⟩ := h
    exact hk a hs
  | cons o l ih =>
    intro ans st obs h ho a hs hk
    simp only [runQ] at h
    split at h
    case h_2 => cases h
    rename_i st1 ob h1
    split at h
    case h_2 => cases h
    rename_i st2 obs2 h2
    simp only [Option.some.injEq, Prod.mk.injEq] at h
    obtain ⟨rfl, rfl⟩ := h
    obtain ⟨v, k1, k2, k3⟩ := stepQ_ok ht hs h1 (fun q hq => ho q (List.mem_append_left _ hq))
    have := ih _ _ _ h2 (fun q hq => ho q (List.mem_append_right _ hq)) _ k3 hk
    unfold wpQuiet
    split
    · rename_i hw; exact ⟨v, k1 hw, this⟩
    · rename_i hw
      rw [k2 (by simpa using hw)] at this
      exact this
theorem W.regionX {id : Nat} {ops : Array Oper} (ht : C.tt.ok C.P) (ans : List An) (slots hs : List Nat) (st' : St) (obs : List Prop) (h : Go.Proofs.Ytgicfkgiecgjoaa.RS.regionX C.P C.tt C.nt st ops ans slots hs = some (st', obs)) (ho : AllP obs)
    (hk : ∀ a w, Sat C st' a w → Q .normal a w) : W C (.region id ops false) Q st := by
  intro a w hsat
  unfold Go.Proofs.Ytgicfkgiecgjoaa.RS.regionX at h
  split at h
  case h_2 => cases h
  rename_i st1 obs1 h1
  split at h
  case h_2 => cases h
  rename_i st2 h2
  simp only [Option.some.injEq, Prod.mk.injEq] at h
  obtain ⟨rfl, rfl⟩ := h
  exact wp_region_list (runX_ok ht _ _ _ _ h1 (AllP.get ho) a w hsat fun a w ⟨g, hs⟩ => hk a w ⟨_, hs.keep h2⟩)
theorem W.regionD {id : Nat} {ops : Array Oper} (hm : C.P.follows .mixedOrders = true) (ht : C.tt.ok C.P) (n : Nat) (hord : ordB ops n = true) (ans : List An) (slots hs : List Nat) (st' : St) (obs : List Prop) (h : Go.Proofs.Ytgicfkgiecgjoaa.RS.regionD C.P C.tt C.nt st ops n ans slots hs = some (st', obs)) (ho : AllP obs)
    (hk : ∀ a w, Sat C st' a w → Q .normal a w) : W C (.region id ops true) Q st := by
  rintro a w ⟨g, hsat⟩
  unfold Go.Proofs.Ytgicfkgiecgjoaa.RS.regionD at h
  split at h
  case h_2 => cases h
  rename_i st1 obs1 h1
  split at h
  case h_2 => cases h
  rename_i st2 obs2 h2
  split at h
  case h_2 => cases h
  rename_i st3 h3
  simp only [Option.some.injEq, Prod.mk.injEq] at h
  obtain ⟨rfl, rfl⟩ := h
  have ho := AllP.get ho
  simp only [ordB, Bool.and_eq_true] at hord
  obtain ⟨⟨⟨⟨⟨o1, o2⟩, o3⟩, o4⟩, o5⟩, o6⟩ := hord
  have hle : n ≤ ops.size := by simpa using Nat.le_of_ble_eq_true o6
  have hlen : (ops.toList.take n).length = n := by simp; omega
  have hs1 := hsat.std (Std.drew w)
  have hq := runQ_ok (Qa := fun a => SatG C st1 g a { w with drawn := w.drawn + 1 }) ht _ _ _ _ h1 (fun q hq => ho q (List.mem_append_left _ hq)) a hs1 (fun _ h => h)
  refine wp_region_cut (D := Std { w with drawn := w.drawn + 1 }) (n := n) (m := ops.size - n) hm o1 o2 o3 (by simpa using hlen) (by omega) (fun i hi => ?_) o4 o5 (Frm.refl _ _) (fun a' w' hD hs' => ?_) hq
  · simp only [List.getElem?_toArray, List.getElem?_take, hi, if_true, Array.getElem?_toList]
  · have hl : (ops.toList.drop n).length = ops.size - n := by simp
    rw [← hl, wpOps_eq_wpList (ops.toList.drop n) n (fun j => by simp)]
    exact runX_ok ht _ _ _ _ h2 (fun q hq => ho q (List.mem_append_right _ hq)) a' w' ⟨g, hs'.std hD⟩ fun a w ⟨g, hs⟩ => hk a w ⟨_, hs.keep h3⟩
theorem W.sx {id : Nat} {ops : Array Oper} {y : Code} (ht : C.tt.ok C.P) (ans : List An) (slots hs : List Nat) (st' : St) (obs : List Prop) (h : Go.Proofs.Ytgicfkgiecgjoaa.RS.regionX C.P C.tt C.nt st ops ans slots hs = some (st', obs)) (ho : AllP obs) (hk : W C y Q st') : W C (.seq (.region id ops false) y) Q st :=
  W.seq (W.regionX ht ans slots hs st' obs h ho hk)
theorem W.sd {id : Nat} {ops : Array Oper} {y : Code} (hm : C.P.follows .mixedOrders = true) (ht : C.tt.ok C.P) (n : Nat) (hord : ordB ops n = true) (ans : List An) (slots hs : List Nat) (st' : St) (obs : List Prop) (h : Go.Proofs.Ytgicfkgiecgjoaa.RS.regionD C.P C.tt C.nt st ops n ans slots hs = some (st', obs)) (ho : AllP obs) (hk : W C y Q st') : W C (.seq (.region id ops true) y) Q st :=
  W.seq (W.regionD hm ht n hord ans slots hs st' obs h ho hk)
end
end Go.Proofs.Ytgicfkgiecgjoaa.RS
