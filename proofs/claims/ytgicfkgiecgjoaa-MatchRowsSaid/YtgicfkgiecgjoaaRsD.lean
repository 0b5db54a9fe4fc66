/- RS, part D: the other operations that give a value; all of them as one evaluator. -/
import Derived.Test.YtgicfkgiecgjoaaRsC
import Derived.Laws.BytesArg
set_option linter.unusedVariables false
set_option linter.unusedSimpArgs false
namespace Go.Proofs.Ytgicfkgiecgjoaa.RS
open Go

def bAt (s : ByteArray) (i : Int) : Int := ((s.data.toList.getD i.toNat 0).toNat : Int)
def bstr (xs : List (List Value)) : ByteArray := strOfNums (xs.map fun c => vI (c.getD 0 undef))
def vIndex (tt : TT) (t : TypeId) (x ix : Option AV) : VO :=
  match tt.get t, ix.bind asI, x.bind asS with
  | some i, some (_, n), some s => match i.d with
    | .str => some (aV (.int .u8 (bAt s n)), [0 ≤ n ∧ n < (s.size : Int)])
    | _ => none
  | _, _, _ => none
def vExtract (x : Option AV) (i : Nat) : VO :=
  match x with
  | some (.tup vs) => match vs[i]? with
    | some s => some (.sv s, [])
    | none => none
  | _ => none
def vNil (x : Option AV) : VO :=
  match x.bind asL with
  | some (.ptr h o) => some (.sv (.lf (.ptr h o)), [])
  | some (.pti h o sz i) => some (.sv (.lf (.pti h o sz i)), [])
  | some (.elt h sz i o) => some (.sv (.lf (.elt h sz i o)), [])
  | _ => none
def vField (tt : TT) (t : TypeId) (x : Option AV) (f : Nat) : VO :=
  match tt.get t, x with
  | some i, some (.sv (.agg cs)) => match i.d with
    | .st fs => match fs[f]? with
      | some (ft, off) => match tt.get ft with
        | some fi => bif fi.d.agg then
            bif Nat.beq ((cs.drop off).take fi.size).length fi.size then some (.sv (.agg ((cs.drop off).take fi.size)), []) else none
          else match cs[off]? with
            | some l => some (.sv (.lf l), [])
            | none => none
        | none => none
      | none => none
    | _ => none
  | _, _ => none
def vConv (tt : TT) (hp : List Res) (m : Nat) (s d : TypeId) (x : Option AV) : VO :=
  match tt.get s, tt.get d with
  | some si, some di => match di.d with
    | .int k => match x.bind asI with
      | some (_, n) => match m with
        | 0 => some (aV (.int k n), [inK k n])
        | _ => some (aV (.int k (k.wrap n)), [])
      | none => none
    | .str => match si.d with
      | .str => match x.bind asS with
        | some s => some (aS s, [])
        | none => none
      | .sl e => match tt.get e with
        | some ei => match ei.d with
          | .int .u8 => match x.bind asL with
            | some (.row h) => match hp[h]? with
              | some (.row _ _ [.int .u8] xs) => some (aS (bstr xs), [])
              | _ => none
            | _ => none
          | _ => none
        | none => none
      | _ => none
    | _ => none
  | _, _ => none
def bndV (dflt : Int) : Option (Option AV) → Option Int
  | none => some dflt
  | some l => (l.bind asI).map Prod.snd
def vSlice (tt : TT) (hp : List Res) (t : TypeId) (x : Option AV) (lo hi : Option (Option AV)) : VO :=
  match tt.get t with
  | some i => match i.d with
    | .str => match x.bind asS with
      | some s =>
        match bndV 0 lo, bndV (s.size : Int) hi with
        | some a, some b => some (aS (s.extract a.toNat b.toNat), [0 ≤ a ∧ a ≤ b ∧ b ≤ (s.size : Int)])
        | _, _ => none
      | none => none
    | .sl e => match tt.get e, x.bind asL with
      | some ei, some (.row h) => match hp[h]? with
        | some (.row _ _ _ xs) =>
          match bndV 0 lo, bndV (xs.length : Int) hi with
          | some a, some b => some (.sv (.lf (.view h ei.size a b)), [0 ≤ a ∧ a ≤ b ∧ b ≤ (xs.length : Int)])
          | _, _ => none
        | _ => none
      | _, _ => none
    | _ => none
  | none => none
def vUn (op : UnOp) (m : Nat) (x : Option AV) : VO :=
  match op with
  | .not => match x.bind asB with
    | some b => some (aB (!b), [])
    | none => none
  | .neg => match x.bind asI with
    | some (k, n) => intBin .sub k m 0 n
    | none => none
  | .xor => match x.bind asI with
    | some (k, n) => intBin .xor k m (if k.signed then -1 else k.max) n
    | none => none
  | .plus => none
def eqLV : List LV → List LV → Bool
  | .val a :: as, .val b :: bs => eqc a b && eqLV as bs
  | _, _ => true
def fitB : CK → Value → Bool
  | .int k, .int k' _ => IntKind.eqb k k'
  | .bool, .bool _ => true
  | .str, .string _ => true
  | _, _ => false
def fitLV : List CK → List LV → Bool
  | [], [] => true
  | k :: ks, .val v :: ls => fitB k v && fitLV ks ls
  | _, _ => false
def vBin (tt : TT) (m : Nat) (op : BinOp) (t : TypeId) (x y : Option AV) : VO :=
  match x, y with
  | some (.sv (.lf (.val (.int k a)))), some (.sv (.lf (.val (.int k' b)))) =>
    match op with
    | .shl => intSh .shl k m a b
    | .shr => intSh .shr k m a b
    | op => bif IntKind.eqb k k' then intBin op k m a b else none
  | some (.sv (.lf (.val (.string a)))), some (.sv (.lf (.val (.string b)))) => strBin op m a b
  | some (.sv (.lf (.val (.bool a)))), some (.sv (.lf (.val (.bool b)))) =>
    match tt.get t with
    | some i => match i.d with
      | .bool => boolBin op m a b
      | _ => none
    | none => none
  | some (.sv (.agg as)), some (.sv (.agg bs)) =>
    match tt.get t with
    | some i => match i.eqk with
      | [] => none
      | k :: ks => bif fitLV (k :: ks) as && fitLV (k :: ks) bs then
          match op with
          | .eql => cmpV m (eqLV as bs = true)
          | .neq => cmpV m (¬ eqLV as bs = true)
          | _ => none
        else none
    | none => none
  | _, _ => none
def vLen (tt : TT) (hp : List Res) (t : TypeId) (x : Option AV) : VO :=
  match tt.get t, x.bind asL with
  | some i, some l => match i.d with
    | .str => match l with
      | .val (.string s) => some (aI s.size, [])
      | _ => none
    | .sl _ => match l with
      | .val (.slice _ n _) => some (aI n, [])
      | .row h => match hp[h]? with
        | some (.row _ _ _ xs) => some (aI xs.length, [])
        | _ => none
      | .view _ _ lo hi => some (aI (hi - lo), [])
      | _ => none
    | _ => none
  | _, _ => none
def vMin (x y : Option AV) : VO :=
  match x.bind asI, y.bind asI with
  | some (k, a), some (k', b) => bif IntKind.eqb k k' then some (aV (.int k (min a b)), []) else none
  | _, _ => none
def vMax (x y : Option AV) : VO :=
  match x.bind asI, y.bind asI with
  | some (k, a), some (k', b) => bif IntKind.eqb k k' then some (aV (.int k (max a b)), []) else none
  | _, _ => none
def splice (cs : List LV) (off : Nat) (p : List LV) : List LV := cs.take off ++ p ++ cs.drop (off + p.length)
def oneL : LV → Bool
  | .val v => v.oneCell'
  | _ => true
def cellsOf : AV → Option (List LV)
  | .sv (.lf l) => bif oneL l then some [l] else none
  | .sv (.agg cs) => some cs
  | _ => none
def fillL (tt : TT) (fs : List (TypeId × Nat)) (lk : Operand → Option AV) : List (Nat × Operand) → List LV → Option (List LV)
  | [], cs => some cs
  | (j, x) :: r, cs => match fs[j]?, (lk x).bind cellsOf with
    | some (ft, off), some p => match tt.get ft with
      | some fi => bif Nat.beq p.length fi.size && Nat.ble (off + p.length) cs.length then fillL tt fs lk r (splice cs off p) else none
      | none => none
    | _, _ => none
def zeroCells (v : Value) : List LV := v.cells.toList.map .val
def vBuild (tt : TT) (t : TypeId) (parts : List (Nat × Operand)) (lk : Operand → Option AV) : VO :=
  match tt.get t with
  | some i => match i.d with
    | .st fs => bif fs.all (fun f => (tt.get f.1).isSome) then match fillL tt fs lk parts (zeroCells i.zero) with
      | some cs => some (.sv (.agg cs), [])
      | none => none
      else none
    | .arr n e => match tt.get e with
      | some ei => match fillL tt ((List.range n).map fun j => (e, j * ei.size)) lk parts (zeroCells i.zero) with
        | some cs => some (.sv (.agg cs), [])
        | none => none
      | none => none
    | _ => none
  | none => none
def vCall (tt : TT) (hp : List Res) (lk : Operand → Option AV) (c : Call) : VO :=
  match c.callee with
  | .builtin b => match b with
    | .len => match c.args.toList, c.argTypes.toList with
      | [x], [t] => vLen tt hp t (lk x)
      | _, _ => none
    | .min => match c.args.toList with
      | [x, y] => vMin (lk x) (lk y)
      | _ => none
    | .max => match c.args.toList with
      | [x, y] => vMax (lk x) (lk y)
      | _ => none
    | _ => none
  | _ => none
def evalV (tt : TT) (hp : List Res) (lk : Operand → Option AV) (m : Nat) (op : Op) : VO :=
  match op with
  | .move x => match lk x with | some av => some (av, []) | none => none
  | .assign x => match lk x with | some av => some (av, []) | none => none
  | .unOp o _ x => vUn o m (lk x)
  | .binOp o t x y _ => vBin tt m o t (lk x) (lk y)
  | .convert s d x => vConv tt hp m s d (lk x)
  | .fieldAddr s x f => vFieldAddr tt s (lk x) f
  | .field t x f => vField tt t (lk x) f
  | .indexAddr t x i => vIndexAddr tt hp m t (lk x) (lk i)
  | .index t x i => vIndex tt t (lk x) (lk i)
  | .load t x => vLoad tt hp t (lk x)
  | .extract x i => vExtract (lk x) i
  | .nilCheck x => vNil (lk x)
  | .slice t x lo hi none => vSlice tt hp t (lk x) (lo.map lk) (hi.map lk)
  | .build t parts => vBuild tt t parts.toList lk
  | .call c => vCall tt hp lk c
  | _ => none

/-! ### That it is right -/
def LkOK (g : Gam) (lk : Operand → Option AV) (a : Act) : Prop := ∀ x av, lk x = some av → arep g av (a.eval x)
section
variable {P : Program} {tt : TT} {w : World} {g : Gam} {av : AV} {obs : List Prop}
theorem bind_some {α β : Type} {x : Option α} {f : α → Option β} {b : β} (h : x.bind f = some b) : ∃ a, x = some a ∧ f a = some b := by
  cases x with
  | none => cases h
  | some a => exact ⟨a, rfl, h⟩
theorem vIndex_ok (ht : tt.ok P) {t : Nat} {x ix : Option AV} {u ui : Value} (h : vIndex tt t x ix = some (av, obs)) (ho : ∀ q ∈ obs, q) (r : ∀ a, x = some a → arep g a u) (ri : ∀ a, ix = some a → arep g a ui) :
    ∃ v, (Instr.index t u ui).run P w = .ok v w ∧ arep g av v := by
  unfold vIndex at h
  split at h
  case h_2 => cases h
  rename_i i k n s hi hn hs
  obtain ⟨_, e1, hn⟩ := bind_some hn
  obtain ⟨_, e2, hs⟩ := bind_some hs
  obtain rfl := asI_rep hn (ri _ e1)
  obtain rfl := asS_rep hs (r _ e2)
  obtain ⟨d, hu, hsd⟩ := (ht t i hi).und
  split at h
  case h_2 => cases h
  rename_i hd
  rw [hd] at hsd
  obtain rfl := shape_str hsd
  simp only [Option.some.injEq, Prod.mk.injEq] at h
  obtain ⟨rfl, rfl⟩ := h
  obtain ⟨h0, h1⟩ := ho _ (List.mem_singleton.2 rfl)
  refine ⟨_, ?_, rfl⟩
  have hlt : n.toNat < s.size := by omega
  have hg : s[n.toNat]? = some s[n.toNat] := getElem?_pos s n.toNat hlt
  have hb : ((s[n.toNat]).toNat : Int) = bAt s n := by
    unfold bAt
    rw [List.getD_eq_getElem?_getD, Array.getElem?_toList, Array.getElem?_eq_getElem (show n.toNat < s.data.size from hlt)]
    rfl
  simp [Instr.index, asIntOf, run_underlying hu, h0, hg, hb]
theorem sreps_at : ∀ {vs : List SV} {us : List Value} {j : Nat} {s : SV}, sreps g vs us → vs[j]? = some s → ∃ u, us[j]? = some u ∧ srep g s u
  | _ :: _, u :: _, 0, s, h, e => by simp at e; subst e; exact ⟨u, rfl, h.1⟩
  | _ :: _, _ :: _, j + 1, s, h, e => by simp at e; simpa using sreps_at h.2 e
  | [], [], j, s, h, e => by simp at e
  | [], _ :: _, _, _, h, _ => h.elim
  | _ :: _, [], _, _, h, _ => h.elim
theorem vExtract_ok {x : Option AV} {i : Nat} {u : Value} (h : vExtract x i = some (av, obs)) (r : ∀ a, x = some a → arep g a u) :
    ∃ v, (Instr.extract u i).run P w = .ok v w ∧ arep g av v := by
  unfold vExtract at h
  split at h
  case h_2 => cases h
  rename_i vs
  split at h
  case h_2 => cases h
  rename_i s hs
  simp only [Option.some.injEq, Prod.mk.injEq] at h
  obtain ⟨rfl, rfl⟩ := h
  obtain ⟨us, rfl, hr⟩ := r _ rfl
  obtain ⟨u, hu, hr⟩ := sreps_at hr hs
  refine ⟨u, ?_, hr⟩
  rw [Array.getElem?_toList] at hu
  simp [Instr.extract, hu]
theorem vField_ok (ht : tt.ok P) {t f : Nat} {x : Option AV} {u : Value} (h : vField tt t x f = some (av, obs)) (r : ∀ a, x = some a → arep g a u) :
    ∃ v, (Instr.field t u f).run P w = .ok v w ∧ arep g av v := by
  unfold vField at h
  split at h
  case h_2 => cases h
  rename_i i cs hi
  obtain ⟨vs, rfl, hr⟩ := r _ rfl
  obtain ⟨d, hu, hsd⟩ := (ht t i hi).und
  split at h
  case h_2 => cases h
  rename_i fs hd
  rw [hd] at hsd
  obtain ⟨gs, rfl, rfl⟩ := shape_st hsd
  split at h
  case h_2 => cases h
  rename_i ft off hf
  obtain ⟨fd, hg, rfl, rfl⟩ := field_get hf
  split at h
  case h_2 => cases h
  rename_i fi hfi
  have hag := fun w => run_isAgg (ht _ fi hfi) w
  have hsz := fun w => run_sizeOf (ht _ fi hfi) w
  simp only [cond_eq_ite] at h
  split at h
  · rename_i hagg
    split at h
    case isFalse => cases h
    rename_i hl
    simp only [Option.some.injEq, Prod.mk.injEq] at h
    obtain ⟨rfl, rfl⟩ := h
    refine ⟨.agg (vs.extract fd.offset (fd.offset + fi.size)), ?_, _, rfl, ?_⟩
    · simp [Instr.field, run_underlying hu, hg, asAgg, part, hag, hagg, hsz]
    · have := reps_take fi.size (reps_drop fd.offset hr)
      simpa [Array.toList_extract, List.extract_eq_take_drop] using this
  · rename_i hagg
    split at h
    case h_2 => cases h
    rename_i l hl
    simp only [Option.some.injEq, Prod.mk.injEq] at h
    obtain ⟨rfl, rfl⟩ := h
    obtain ⟨v, hv, hr⟩ := reps_at hr hl
    rw [Array.getElem?_toList] at hv
    refine ⟨v, ?_, hr⟩
    have hagg' : fi.d.agg = false := by simpa using hagg
    simp [Instr.field, run_underlying hu, hg, asAgg, part, hag, hagg', hv]
end
end Go.Proofs.Ytgicfkgiecgjoaa.RS
