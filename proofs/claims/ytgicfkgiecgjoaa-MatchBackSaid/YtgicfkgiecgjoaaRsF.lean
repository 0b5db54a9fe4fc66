/- RS, part F: building a struct; the evaluator of values as a whole. -/
import Derived.Test.YtgicfkgiecgjoaaRsE
set_option linter.unusedVariables false
set_option linter.unusedSimpArgs false
namespace Go.Proofs.Ytgicfkgiecgjoaa.RS
open Go
section
variable {P : Program} {tt : TT} {w : World} {g : Gam} {av : AV} {obs : List Prop}
def sp (cs : List Value) (off : Nat) (p : List Value) : List Value := cs.take off ++ p ++ cs.drop (off + p.length)
theorem foldl_set : ∀ (p : List Value) (k off : Nat) (cells : Array Value), off + k + p.length ≤ cells.size →
    ((p.zipIdx k).foldl (fun cs (x : Value × Nat) => cs.setIfInBounds (off + x.2) x.1) cells).toList = sp cells.toList (off + k) p
  | [], k, off, cells, h => by simp [sp]
  | v :: p, k, off, cells, h => by
    simp only [List.length_cons] at h
    rw [List.zipIdx_cons, List.foldl_cons, foldl_set p (k + 1) off _ (by simp; omega)]
    simp only [sp, Array.toList_setIfInBounds, List.length_cons]
    have hlt : off + k < cells.toList.length := by simp; omega
    rw [List.drop_set_of_lt (by omega)]
    have e1 : off + (k + 1) = off + k + 1 := by omega
    rw [e1, List.take_add_one, List.take_set_of_le (by omega), List.getElem?_set_self hlt]
    simp [Nat.add_assoc, Nat.add_comm 1]
theorem reps_splice {cs : List LV} {vs : List Value} {p : List LV} {us : List Value} (off : Nat) (h : reps g cs vs) (hp : reps g p us) : reps g (splice cs off p) (sp vs off us) := by
  unfold splice sp
  rw [reps_length hp]
  exact reps_append (reps_append (reps_take off h) hp) (reps_drop _ h)
theorem one_cells {v : Value} (h : v.oneCell' = true) : v.cells = #[v] := by cases v <;> first | rfl | cases h
theorem rep_one {l : LV} {v : Value} (ho : oneL l = true) (h : rep g l v) : v.oneCell' = true := by
  cases l with
  | val u => obtain rfl := h; exact ho
  | ptr => obtain ⟨b, _, rfl⟩ := h; rfl
  | pti => obtain ⟨b, _, rfl⟩ := h; rfl
  | elt => obtain ⟨a, n, c, _, rfl⟩ := h; rfl
  | row => obtain ⟨rfl, A, n, c, e⟩ := h; rw [e]; rfl
  | view => obtain ⟨A, n, c, _, _, _, _, _, rfl⟩ := h; rfl
  | dead => exact h
theorem cellsOf_rep {x : AV} {v : Value} {cs : List LV} (h : cellsOf x = some cs) (r : arep g x v) : reps g cs v.cells.toList := by
  unfold cellsOf at h
  split at h
  · simp only [cond_eq_ite] at h
    split at h
    case isFalse => cases h
    rename_i l hl
    obtain rfl := Option.some.inj h
    have r : rep g l v := r
    rw [one_cells (rep_one hl r)]
    exact ⟨r, trivial⟩
  · obtain rfl := Option.some.inj h
    obtain ⟨vs, rfl, r⟩ := r
    exact r
  · cases h
def szOf (tt : TT) (t : Nat) : Nat := ((tt.get t).map (·.size)).getD 0
theorem run_places (ht : tt.ok P) : ∀ (gs : List Field), (∀ f ∈ gs, (tt.get f.type).isSome = true) → (gs.mapM fun f => (do pure (f.offset, ← sizeOf f.type) : Sem (Nat × Nat))).run P w = .ok (gs.map fun f => (f.offset, szOf tt f.type)) w
  | [], _ => by simp
  | f :: gs, h => by
    have h1 := h f (by simp)
    obtain ⟨fi, hfi⟩ := Option.isSome_iff_exists.1 h1
    have ih := run_places ht gs (fun f hf => h f (by simp [hf]))
    have hs : szOf tt f.type = fi.size := by simp [szOf, hfi]
    rw [List.mapM_cons]
    simp only [Sem.run_bind, run_sizeOf (ht _ fi hfi), Result.andThen_ok, Sem.run_pure, ih, List.map_cons, hs]
theorem fillL_ok (ht : tt.ok P) {lk : Operand → Option AV} {a : Act} (hl : LkOK g lk a) {fs : List (TypeId × Nat)} {pl : Nat → Option (Nat × Nat)} (hpl : ∀ j ft off, fs[j]? = some (ft, off) → pl j = some (off, szOf tt ft)) :
    ∀ (parts : List (Nat × Operand)) (cs : List LV) (vs : Array Value) (cs' : List LV), reps g cs vs.toList → fillL tt fs lk parts cs = some cs' →
      ∃ vs', Instr.fill pl vs (parts.map fun x => (x.1, a.eval x.2)) = some vs' ∧ reps g cs' vs'.toList
  | [], cs, vs, cs', hr, h => by
    obtain rfl := Option.some.inj h
    exact ⟨vs, rfl, hr⟩
  | (j, x) :: parts, cs, vs, cs', hr, h => by
    simp only [fillL] at h
    split at h
    case h_2 => cases h
    rename_i ft off p hj hp
    obtain ⟨xv, hx, hp⟩ := bind_some hp
    have hrp := cellsOf_rep hp (hl x xv hx)
    split at h
    case h_2 => cases h
    rename_i fi hfi
    simp only [cond_eq_ite] at h
    split at h
    case isFalse => cases h
    rename_i hb
    simp only [Bool.and_eq_true] at hb
    have h1 := Nat.eq_of_beq_eq_true hb.1
    have h2 := Nat.le_of_ble_eq_true hb.2
    have hlen := reps_length hrp
    have hlen2 := reps_length hr
    have hsz : szOf tt ft = fi.size := by simp [szOf, hfi]
    simp only [Array.length_toList] at hlen hlen2
    have hset : ((a.eval x).cells.zipIdx.foldl (fun cs (y : Value × Nat) => cs.setIfInBounds (off + y.2) y.1) vs).toList = sp vs.toList off (a.eval x).cells.toList := by
      have := foldl_set (a.eval x).cells.toList 0 off vs (by simp; omega)
      rw [Nat.add_zero] at this
      rw [← this, ← Array.foldl_toList, Array.toList_zipIdx]
    obtain ⟨vs', h3, h4⟩ := fillL_ok ht hl hpl parts (splice cs off p) ((a.eval x).cells.zipIdx.foldl (fun cs (y : Value × Nat) => cs.setIfInBounds (off + y.2) y.1) vs) cs' (by rw [hset]; exact reps_splice _ hr hrp) h
    refine ⟨vs', ?_, h4⟩
    have e0 : pl j = some (off, fi.size) := by rw [hpl j ft off hj, hsz]
    simp only [List.map_cons, Instr.fill, e0]
    rw [if_neg]
    · exact h3
    · simp only [Bool.or_eq_true, decide_eq_true_eq, not_or, ne_eq, Bool.not_eq_true, decide_eq_false_iff_not, gt_iff_lt]
      constructor <;> omega
theorem vBuild_ok (ht : tt.ok P) {lk : Operand → Option AV} {a : Act} (hl : LkOK g lk a) {t : Nat} {parts : Array (Nat × Operand)} (h : vBuild tt t parts.toList lk = some (av, obs)) :
    ∃ z, (Instr.build t (parts.map fun (i, x) => (i, a.eval x))).run P w = .ok z w ∧ arep g av z := by
  unfold vBuild at h
  split at h
  case h_2 => cases h
  rename_i i hi
  obtain ⟨d, hu, hsd⟩ := (ht t i hi).und
  split at h
  · rename_i fs hd
    rw [hd] at hsd
    obtain ⟨gs, rfl, rfl⟩ := shape_st hsd
    simp only [cond_eq_ite] at h
    split at h
    case isFalse => cases h
    rename_i hall
    split at h
    case h_2 => cases h
    rename_i cs hcs
    simp only [Option.some.injEq, Prod.mk.injEq] at h
    obtain ⟨rfl, rfl⟩ := h
    obtain ⟨vs', h3, h4⟩ := fillL_ok (pl := fun i => (gs.toList.map fun f => (f.offset, szOf tt f.type))[i]?) ht hl (fun j ft off hj => by
      simp only [List.getElem?_map] at hj ⊢
      cases hg : gs.toList[j]? with
      | none => rw [hg] at hj; cases hj
      | some f =>
        rw [hg] at hj
        simp only [Option.map_some, Option.some.injEq, Prod.mk.injEq] at hj
        obtain ⟨rfl, rfl⟩ := hj
        rfl) parts.toList (zeroCells i.zero) i.zero.cells cs (reps_vals g _) hcs
    have hp := run_places (w := w) ht gs.toList (fun f hf => by
      have := List.all_eq_true.1 hall (f.type, f.offset) (List.mem_map.2 ⟨f, hf, rfl⟩)
      exact this)
    refine ⟨.agg vs', ?_, vs', rfl, h4⟩
    have hf : (fun i : Nat => ((gs.toList.map fun f => (f.offset, szOf tt f.type)).toArray)[i]?) = fun i : Nat => (gs.toList.map fun f => (f.offset, szOf tt f.type))[i]? := by funext i; simp
    simp only [Instr.build, Sem.run_bind, run_zero (ht t i hi), run_underlying hu, Result.andThen_ok, Array.mapM_eq_mapM_toList, Sem.run_map, hp]
    simp only [Array.toList_map]
    rw [hf, h3]
    rfl
  · rename_i n e hd
    rw [hd] at hsd
    obtain rfl := shape_arr hsd
    split at h
    case h_2 => cases h
    rename_i ei hei
    split at h
    case h_2 => cases h
    rename_i cs hcs
    simp only [Option.some.injEq, Prod.mk.injEq] at h
    obtain ⟨rfl, rfl⟩ := h
    have hsz : szOf tt e = ei.size := by simp [szOf, hei]
    obtain ⟨vs', h3, h4⟩ := fillL_ok (pl := fun i => some (i * ei.size, ei.size)) ht hl (fun j ft off hj => by
      simp only [List.getElem?_map] at hj
      cases hg : (List.range n)[j]? with
      | none => rw [hg] at hj; cases hj
      | some f =>
        have hf : f = j := by
          have := List.getElem?_eq_some_iff.1 hg
          obtain ⟨hlt, hh⟩ := this
          simp at hh; exact hh.symm
        rw [hg] at hj
        simp only [Option.map_some, Option.some.injEq, Prod.mk.injEq] at hj
        obtain ⟨rfl, rfl⟩ := hj
        rw [hsz, hf]) parts.toList (zeroCells i.zero) i.zero.cells cs (reps_vals g _) hcs
    refine ⟨.agg vs', ?_, vs', rfl, h4⟩
    simp only [Instr.build, Sem.run_bind, run_zero (ht t i hi), run_underlying hu, Result.andThen_ok, run_sizeOf (ht e ei hei)]
    simp only [Array.toList_map]
    rw [h3]
    rfl
  · cases h
theorem evalV_ok (ht : tt.ok P) {hp : List Res} (hm : Mem g hp w) {lk : Operand → Option AV} {a : Act} (hl : LkOK g lk a) {m : Nat} {o : Oper} (h : evalV tt hp lk m o.op = some (av, obs)) (ho : ∀ q ∈ obs, q) :
    ∃ v, (execOp a.eval o).run P w = .ok (.value v) w ∧ arep g av v := by
  have lift : ∀ {s : Sem Value} {v : Value}, s.run P w = .ok v w → (do pure (.value (← s)) : Sem Next).run P w = .ok (.value v) w := fun h => by simp [h]
  unfold evalV at h
  split at h
  · rename_i x e
    split at h
    case h_2 => cases h
    rename_i v hv
    simp only [Option.some.injEq, Prod.mk.injEq] at h
    obtain ⟨rfl, rfl⟩ := h
    exact ⟨a.eval x, by simp [execOp, e], hl x _ hv⟩
  · rename_i x e
    split at h
    case h_2 => cases h
    rename_i v hv
    simp only [Option.some.injEq, Prod.mk.injEq] at h
    obtain ⟨rfl, rfl⟩ := h
    exact ⟨a.eval x, by simp [execOp, e], hl x _ hv⟩
  · rename_i op T x e
    obtain ⟨v, h1, h2⟩ := vUn_ok (P := P) (w := w) h ho (fun b hb => hl x b hb)
    exact ⟨v, by simp only [execOp, e]; exact lift h1, h2⟩
  · rename_i op t x y T e
    obtain ⟨v, h1, h2⟩ := vBin_ok (w := w) ht (ox := x) (oy := y) h ho (fun b hb => hl x b hb) (fun b hb => hl y b hb)
    exact ⟨v, by simp only [execOp, e]; exact lift h1, h2⟩
  · rename_i s d x e
    obtain ⟨v, h1, h2⟩ := vConv_ok ht hm h ho (fun b hb => hl x b hb)
    exact ⟨v, by simp only [execOp, e]; exact lift h1, h2⟩
  · rename_i s x f e
    obtain ⟨xv, hx⟩ : ∃ xv, lk x = some xv := by
      cases hx : lk x with
      | some v => exact ⟨v, rfl⟩
      | none => rw [hx] at h; unfold vFieldAddr at h; simp at h; (repeat' split at h) <;> simp at *
    obtain ⟨v, h1, h2⟩ := vFieldAddr_ok (w := w) ht h hx (hl x _ hx)
    exact ⟨v, by simp only [execOp, e]; exact lift h1, h2⟩
  · rename_i t x f e
    obtain ⟨v, h1, h2⟩ := vField_ok (w := w) ht h (fun b hb => hl x b hb)
    exact ⟨v, by simp only [execOp, e]; exact lift h1, h2⟩
  · rename_i t x i e
    obtain ⟨xv, hx, iv, hi⟩ : ∃ xv, lk x = some xv ∧ ∃ iv, lk i = some iv := by
      unfold vIndexAddr at h
      split at h
      case h_2 => cases h
      rename_i _ hi hx
      obtain ⟨xv, hx, _⟩ := bind_some hx
      obtain ⟨iv, hi, _⟩ := bind_some hi
      exact ⟨xv, hx, iv, hi⟩
    obtain ⟨v, h1, h2⟩ := vIndexAddr_ok ht hm h ho hx (hl x _ hx) hi (hl i _ hi)
    exact ⟨v, by simp only [execOp, e]; exact lift h1, h2⟩
  · rename_i t x i e
    obtain ⟨v, h1, h2⟩ := vIndex_ok (w := w) ht h ho (fun b hb => hl x b hb) (fun b hb => hl i b hb)
    exact ⟨v, by simp only [execOp, e]; exact lift h1, h2⟩
  · rename_i t x e
    obtain ⟨xv, hx⟩ : ∃ xv, lk x = some xv := by
      unfold vLoad at h
      split at h
      case h_2 => cases h
      rename_i _ hx
      obtain ⟨xv, hx, _⟩ := bind_some hx
      exact ⟨xv, hx⟩
    obtain ⟨v, h1, h2⟩ := vLoad_ok ht hm h ho hx (hl x _ hx)
    exact ⟨v, by simp only [execOp, e]; exact lift h1, h2⟩
  · rename_i x i e
    obtain ⟨v, h1, h2⟩ := vExtract_ok (P := P) (w := w) h (fun b hb => hl x b hb)
    exact ⟨v, by simp only [execOp, e]; exact lift h1, h2⟩
  · rename_i x e
    unfold vNil at h
    split at h
    · rename_i hh o hx
      obtain ⟨_, e1, hx⟩ := bind_some hx
      simp only [Option.some.injEq, Prod.mk.injEq] at h
      obtain ⟨rfl, rfl⟩ := h
      have r := asL_rep hx (hl x _ e1)
      obtain ⟨b, h1, h2⟩ := r
      exact ⟨_, by simp only [execOp, e, h2]; rfl, b, h1, rfl⟩
    · rename_i hh o sz i hx
      obtain ⟨_, e1, hx⟩ := bind_some hx
      simp only [Option.some.injEq, Prod.mk.injEq] at h
      obtain ⟨rfl, rfl⟩ := h
      have r := asL_rep hx (hl x _ e1)
      obtain ⟨b, h1, h2⟩ := r
      exact ⟨_, by simp only [execOp, e, h2]; rfl, b, h1, rfl⟩
    · rename_i hh sz i o hx
      obtain ⟨_, e1, hx⟩ := bind_some hx
      simp only [Option.some.injEq, Prod.mk.injEq] at h
      obtain ⟨rfl, rfl⟩ := h
      have r := asL_rep hx (hl x _ e1)
      obtain ⟨b, n, c, h1, h2⟩ := r
      exact ⟨_, by simp only [execOp, e, h2]; rfl, b, n, c, h1, rfl⟩
    · cases h
  · rename_i t x lo hi e
    obtain ⟨v, h1, h2⟩ := vSlice_ok (lov := lo.map a.eval) (hiv := hi.map a.eval) ht hm h ho (fun b hb => hl x b hb) (by
      intro l hl'
      cases lo with
      | none => cases hl'
      | some y => obtain rfl := Option.some.inj hl'; exact ⟨_, rfl, fun z hz => hl y z hz⟩) (by cases lo <;> simp) (by
      intro l hl'
      cases hi with
      | none => cases hl'
      | some y => obtain rfl := Option.some.inj hl'; exact ⟨_, rfl, fun z hz => hl y z hz⟩) (by cases hi <;> simp)
    exact ⟨v, by simp only [execOp, e]; exact lift h1, h2⟩
  · rename_i t parts e
    obtain ⟨v, h1, h2⟩ := vBuild_ok (w := w) ht hl h
    exact ⟨v, by simp only [execOp, e]; exact lift h1, h2⟩
  · rename_i c e
    obtain ⟨callee, args, argTypes⟩ := c
    unfold vCall at h
    simp only at h
    split at h
    case h_2 => cases h
    rename_i b
    split at h
    · split at h
      case h_2 => cases h
      rename_i x t ea et
      obtain rfl : args = #[x] := Array.ext' ea
      obtain rfl : argTypes = #[t] := Array.ext' et
      obtain ⟨v, h1, h2⟩ := vLen_ok (T := o.type) ht hm h (fun b hb => hl x b hb)
      refine ⟨v, ?_, h2⟩
      simp only [execOp, e, resolve, invoke, builtin, List.map_toArray, List.map_cons, List.map_nil, pure_bind]
      exact lift h1
    · split at h
      case h_2 => cases h
      rename_i x y ea
      obtain rfl : args = #[x, y] := Array.ext' ea
      obtain ⟨v, h1, h2⟩ := vMin_ok (P := P) (w := w) (ts := argTypes) (T := o.type) h (fun b hb => hl x b hb) (fun b hb => hl y b hb)
      refine ⟨v, ?_, h2⟩
      simp only [execOp, e, resolve, invoke, builtin, List.map_toArray, List.map_cons, List.map_nil, pure_bind]
      exact lift h1
    · split at h
      case h_2 => cases h
      rename_i x y ea
      obtain rfl : args = #[x, y] := Array.ext' ea
      obtain ⟨v, h1, h2⟩ := vMax_ok (P := P) (w := w) (ts := argTypes) (T := o.type) h (fun b hb => hl x b hb) (fun b hb => hl y b hb)
      refine ⟨v, ?_, h2⟩
      simp only [execOp, e, resolve, invoke, builtin, List.map_toArray, List.map_cons, List.map_nil, pure_bind]
      exact lift h1
    · cases h
  · cases h
end
end Go.Proofs.Ytgicfkgiecgjoaa.RS
