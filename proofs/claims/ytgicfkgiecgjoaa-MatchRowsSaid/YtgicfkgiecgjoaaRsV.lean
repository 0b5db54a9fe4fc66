/- RS, part V: from a contract to a row. -/
import Derived.Test.YtgicfkgiecgjoaaRsU
import Derived.ProofKit
set_option linter.unusedVariables false
set_option linter.unusedSimpArgs false
namespace Go.Proofs.Ytgicfkgiecgjoaa.RS
open Go Go.RowKit Go.ChangeShapes Go.WideShapes
/-! ### Arguments -/
def CellsOK (P : Program) (w : World) (r : Reach) (base : Nat) : List TypeId → List Value → Prop
  | [], [] => True
  | t :: ts, v :: vs => Cell.okWide P w r base t v ∧ CellsOK P w r base ts vs
  | _, _ => False
section
variable {P : Program} {w : World} {r : Reach} {base : Nat}
theorem cellsOK_of : ∀ {ts : List TypeId} {vs : List Value}, vs.length = ts.length → (∀ (i : Nat) v, vs[i]? = some v → ∃ u, ts[i]? = some u ∧ Cell.okWide P w r base u v) → CellsOK P w r base ts vs
  | [], [], _, _ => trivial
  | t :: ts, v :: vs, hl, h => by
    refine ⟨?_, cellsOK_of (by simpa using hl) fun i v' hv => by simpa using h (i + 1) v' (by simpa using hv)⟩
    obtain ⟨u, h1, h2⟩ := h 0 v rfl
    obtain rfl := Option.some.inj h1
    exact h2
  | [], _ :: _, hl, _ => by simp at hl
  | _ :: _, [], hl, _ => by simp at hl
theorem open_flat {t : TypeId} {fs : Array Field} {ts : List TypeId} {v : Value} (hu : P.underlying t = some (.struct fs)) (hct : P.cellTypes P.depth t = some ts) (hsz : P.cellsOf t = ts.length) (h : Value.okWide P w r base t v) : ∃ cs : List Value, v = .agg cs.toArray ∧ CellsOK P w r base ts cs := by
  simp only [Value.okWide, hu] at h
  obtain ⟨cs, rfl, h2, ts', h3, _, h5⟩ := h
  rw [hct] at h3
  obtain rfl := Option.some.inj h3
  refine ⟨cs.toList, by simp, cellsOK_of (by simpa using h2.trans hsz) fun i v hv => ?_⟩
  have hv' : cs[i]? = some v := by simpa using hv
  obtain ⟨u, h6, h7⟩ := h5 i v hv'
  have hlt : i < ts.length := by
    have := (Array.getElem?_eq_some_iff.1 hv').1
    omega
  rw [Nat.mod_eq_of_lt hlt] at h6
  exact ⟨u, h6, h7⟩
theorem inK_of_has {k : IntKind} {n : Int} (h : k.has n) : inK k n := by
  cases k <;> simp only [IntKind.has, IntKind.min, IntKind.max, IntKind.signed, IntKind.bits, inK] at * <;> simp at h ⊢ <;> omega
theorem cell_int {t : TypeId} {k : IntKind} {v : Value} (hu : P.underlying t = some (.int k)) (h : Cell.okWide P w r base t v) : ∃ n, v = .int k n ∧ inK k n := by
  simp only [Cell.okWide, hu, Cell.ok] at h
  cases v <;> first | exact h.elim | skip
  obtain ⟨rfl, h⟩ := h
  exact ⟨_, rfl, inK_of_has h⟩
theorem cell_bool {t : TypeId} {v : Value} (hu : P.underlying t = some .bool) (h : Cell.okWide P w r base t v) : ∃ b, v = .bool b := by
  simp only [Cell.okWide, hu, Cell.ok] at h
  cases v <;> first | exact h.elim | skip
  exact ⟨_, rfl⟩
theorem arg_cell {t : TypeId} {v : Value} (h : Value.okWide P w r base t v) (hu : ∀ fs, P.underlying t ≠ some (.struct fs)) (ha : ∀ n e, P.underlying t ≠ some (.array n e)) : Cell.okWide P w r base t v := by
  unfold Value.okWide at h
  split at h
  · rename_i e; exact absurd e (hu _)
  · rename_i e; exact absurd e (ha _ _)
  · exact h
theorem arg_int {t : TypeId} {k : IntKind} {v : Value} (hu : P.underlying t = some (.int k)) (h : Value.okWide P w r base t v) : ∃ n, v = .int k n ∧ inK k n :=
  cell_int hu (arg_cell h (by rw [hu]; simp) (by rw [hu]; simp))
theorem arg_bool {t : TypeId} {v : Value} (hu : P.underlying t = some .bool) (h : Value.okWide P w r base t v) : ∃ b, v = .bool b :=
  cell_bool hu (arg_cell h (by rw [hu]; simp) (by rw [hu]; simp))
/-! ### Behind the call -/
section
variable {H : Type} {enc : TypeId × Value → H}
theorem post_below {f : Func} {s : ChangeSpec} {apart fresh handsOn again : Bool} {W W' : World} {args : Array Value} {v : Value} {ds gs : List (DataW H)} {before pa pv : List MemPlace}
    (hW : DataW.Whole enc P f.params.toList s.vars apart W args.toList ds gs before)
    (hb : Below W.heap.size W W')
    (hres : ∀ (b : Nat) (sp : Nat → Bool) (hd : Bool), DataW.TrodAll enc P W' b sp hd f.resultTypes.toList (v.resultList f.resultTypes.size) (s.fn H (ds ++ gs)).results [])
    (hargs : ∀ sp : Nat → Bool, (∀ p ∈ before, sp p.block = true) → DataW.TrodAll enc P W' 0 sp true f.params.toList args.toList (s.fn H (ds ++ gs)).args pa)
    (hvars : ∀ sp : Nat → Bool, (∀ p ∈ before, sp p.block = true) → DataW.TrodVars enc P W' sp s.vars (s.fn H (ds ++ gs)).vars pv)
    (hps : before = pa ++ pv)
    (hok : ∀ (j : Nat) (t : TypeId) (r : Value), f.resultTypes[j]? = some t → (v.resultList f.resultTypes.size)[j]? = some r → Value.okWide P W' .any 0 t r) :
    s.post enc P f apart fresh handsOn again W args v W' := by
  have hlt := hW.lt
  have hold : ∀ p ∈ before, (fun b => decide (b < W.heap.size)) p.block = true := fun p hp => by simpa using hlt p hp
  refine ⟨ds, gs, before, [], pa, pv, hW, hres _ _ _, hargs _ hold, hvars _ hold, hb.frame _, fun _ => ?_⟩
  obtain ⟨_, _, _, _, _, hz, hn⟩ := hW
  refine ⟨hok, _, _, ([] ++ pa) ++ pv, ⟨[] ++ pa, pv, trodAll_append (hargs _ (fun _ _ => rfl)) (hres _ _ _), hvars _ (fun _ _ => rfl), rfl, ?_, ?_⟩, ?_⟩
  · intro b off hp
    have hp' : MemPlace.cell b off ∈ before := by rw [hps]; simpa using hp
    rw [hb.frozen (hlt _ hp')]
    exact hz b off hp'
  · intro ha
    have := hn ha
    rw [hps] at this
    simpa using this
  · intro p hp _
    rw [hps]
    simpa using hp
theorem trod_stays {t : TypeId} (hl : laidOutB P = true) (hr : P.readableRec t = true) (hrow : t < P.types.size) {W W' : World} {v : Value} {d : DataW H} {ps : List MemPlace}
    (h : DataW.Trod enc P W 0 (fun _ => true) true t v d ps) (hb : Below W.heap.size W W') (hlt : ∀ x ∈ ps, x.block < W.heap.size) {sp : Nat → Bool} (hsp : ∀ x ∈ ps, sp x.block = true) :
    DataW.Trod enc P W' 0 sp true t v d ps :=
  WideElems.Trod_stays hl hr hrow h (fun x hx => hb.same (hlt x hx)) hsp
/-- All arguments at once. -/
theorem trodAll_stays (hl : laidOutB P = true) {W W' : World} (hb : Below W.heap.size W W') {sp : Nat → Bool} : ∀ {ts : List TypeId} {vs : List Value} {ds : List (DataW H)} {ps : List MemPlace}, (∀ t ∈ ts, P.readableRec t = true ∧ t < P.types.size) →
    DataW.TrodAll enc P W 0 (fun _ => true) true ts vs ds ps → (∀ x ∈ ps, x.block < W.heap.size) → (∀ x ∈ ps, sp x.block = true) → DataW.TrodAll enc P W' 0 sp true ts vs ds ps
  | [], vs, ds, ps, _, h, _, _ => by obtain ⟨rfl, rfl, rfl⟩ := trodAll_nil h; exact trodAll_mk0
  | t :: ts, vs, ds, ps, hts, h, hlt, hsp => by
    obtain ⟨v, vs', d, ds', p, q, rfl, rfl, rfl, h1, h2⟩ := trodAll_cons h
    obtain ⟨h3, h4⟩ := hts t (List.mem_cons_self ..)
    exact ⟨p, q, trod_stays hl h3 h4 h1 hb (fun x hx => hlt x (List.mem_append_left _ hx)) (fun x hx => hsp x (List.mem_append_left _ hx)), trodAll_stays hl hb (fun t ht => hts t (List.mem_cons_of_mem _ ht)) h2 (fun x hx => hlt x (List.mem_append_right _ hx)) (fun x hx => hsp x (List.mem_append_right _ hx)), rfl⟩
def readB (P : Program) (ts : List TypeId) : Bool := ts.all fun t => P.readableRec t && Nat.blt t P.types.size
theorem readB_get {ts : List TypeId} (h : readB P ts = true) : ∀ t ∈ ts, P.readableRec t = true ∧ t < P.types.size := fun t ht => by
  have := List.all_eq_true.1 h t ht
  simp only [Bool.and_eq_true] at this
  exact ⟨this.1, blt_lt this.2⟩
theorem Frm.below {W W' : World} {m : Nat → Prop} (h : Frm m W W') (hm : ∀ k, k < W.heap.size → ¬ m k) : Below W.heap.size W W' := ⟨h.os, h.tape, h.output, h.size, fun k hk => h.block k hk (hm k hk)⟩
/-- A law's row: the contract says true; the rest reads as it did. -/
theorem post_true {f : Func} {s : ChangeSpec} {apart fresh handsOn again : Bool} {W W' : World} {args : Array Value} {v : Value} {ds : List (DataW H)} {before : List MemPlace} {tb : TypeId} {g g' : Gam} {ins outs : List Res}
    (hl : laidOutB P = true) (hW : DataW.Whole enc P f.params.toList s.vars apart W args.toList ds [] before) (hvs : s.vars = []) (hrd : readB P f.params.toList = true) (hrt : f.resultTypes = #[tb]) (htb : P.underlying tb = some .bool)
    (hfn : s.fn H (ds ++ []) = { results := [.lit (.bool true)], args := ds })
    (hv : arep g' (aB true) v) (hp : PostG g ins outs g' W W') (hmods : ∀ k, k < W.heap.size → ¬ modsOf g ins k) : s.post enc P f apart fresh handsOn again W args v W' := by
  have hv : v = .bool true := hv
  subst hv
  have hb : Below W.heap.size W W' := hp.frm.below hmods
  obtain ⟨p, q, hA, hV, hpq, hfz, hnd⟩ := hW
  have hlt := DataW.Whole.lt ⟨p, q, hA, hV, hpq, hfz, hnd⟩
  have hV' := hV
  rw [hvs] at hV'
  obtain ⟨_, rfl⟩ := trodVars_none hV'
  simp only [List.append_nil] at hpq
  subst hpq
  refine post_below (pa := before) (pv := []) ⟨before, [], hA, hV, by simp, hfz, hnd⟩ hb (fun _ _ _ => ?_) (fun sp hsp => ?_) (fun sp _ => ?_) (by simp) (ok_one hrt rfl (okWide_bool_mk htb true))
  · rw [hfn, hrt]
    exact trodAll_mk1 (shut_bool htb true)
  · rw [hfn]
    exact trodAll_stays hl hb (readB_get hrd) hA hlt hsp
  · rw [hfn, hvs]
    simp [DataW.TrodVars]
end
end
end Go.Proofs.Ytgicfkgiecgjoaa.RS
