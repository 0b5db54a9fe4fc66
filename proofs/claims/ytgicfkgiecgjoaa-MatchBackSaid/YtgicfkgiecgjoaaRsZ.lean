/- RS, part Z: slices among a row's arguments. -/
import Derived.Test.YtgicfkgiecgjoaaRsV
import Derived.SizedLaws
import Derived.Deep.Slices
set_option linter.unusedVariables false
set_option linter.unusedSimpArgs false
namespace Go.Proofs.Ytgicfkgiecgjoaa.RS
open Go Go.RowKit Go.ChangeShapes Go.WideShapes
/-- A cell fits its kind, and a number its range. -/
def CK.fitsR : CK → Value → Prop
  | .int k, v => ∃ n, v = .int k n ∧ inK k n
  | .bool, v => ∃ b, v = .bool b
  | .str, v => ∃ s, v = .string s ∧ s.size ≤ maxLen
  | .any, v => v.oneCell' = true
theorem CK.fits_of {k : CK} {v : Value} (h : k.fitsR v) : k.fits v := by
  cases k <;> simp only [CK.fitsR, CK.fits] at *
  · obtain ⟨n, e, _⟩ := h; exact ⟨n, e⟩
  · exact h
  · obtain ⟨s, e, _⟩ := h; exact ⟨s, e⟩
  · exact h
def fitsAllR : List CK → List Value → Prop
  | [], [] => True
  | k :: ks, v :: vs => k.fitsR v ∧ fitsAllR ks vs
  | _, _ => False
theorem fitsAllR_fits : ∀ {ks : List CK} {vs : List Value}, fitsAllR ks vs → fitsAll ks vs
  | [], [], _ => trivial
  | _ :: _, _ :: _, h => ⟨CK.fits_of h.1, fitsAllR_fits h.2⟩
theorem fitsAllR_append : ∀ {ks ks' : List CK} {vs vs' : List Value}, fitsAllR ks vs → fitsAllR ks' vs' → fitsAllR (ks ++ ks') (vs ++ vs')
  | [], _, [], _, _, h => h
  | _ :: _, _, _ :: _, _, h, h' => ⟨h.1, fitsAllR_append h.2 h'⟩
theorem fitsAllR_at : ∀ {ks : List CK} {vs : List Value} (o : Nat) (k : CK), fitsAllR ks vs → ks[o]? = some k → k.fitsR (vs.getD o undef)
  | k0 :: ks, v :: vs, 0, k, h, e => by simp at e; subst e; simpa using h.1
  | k0 :: ks, v :: vs, o + 1, k, h, e => by simp at e; simpa using fitsAllR_at o k h.2 e
def leafCK : TypeDesc → Option CK
  | .int k => some (.int k)
  | .bool => some .bool
  | .string => some .str
  | _ => none
/-- The kinds of a struct's cells: fields that are leaves, one behind the other. -/
def fieldCKs (P : Program) : Nat → List Field → Option (List CK)
  | _, [] => some []
  | o, f :: fs => match (P.underlying f.type).bind leafCK, fieldCKs P (o + 1) fs with
    | some k, some ks => bif Nat.beq f.offset o && Nat.beq (P.cellsOf f.type) 1 then some (k :: ks) else none
    | _, _ => none
def cksT (P : Program) (t : TypeId) : Option (List CK) :=
  match P.underlying t with
  | some (.struct fs) => match fieldCKs P 0 fs.toList with
    | some ks => bif Nat.beq ks.length (P.cellsOf t) then some ks else none
    | none => none
  | some d => match leafCK d with
    | some k => bif Nat.beq (P.cellsOf t) 1 then some [k] else none
    | none => none
  | none => none
section
variable {H : Type} {enc : TypeId × Value → H} {P : Program} {w : World} {base : Nat} {spare : Nat → Bool} {held : Bool}
theorem inK_of_wf {k : IntKind} {n : Int} (h : (Lit.int k n).wf = true) : inK k n := by
  simp only [Lit.wf, Bool.and_eq_true, decide_eq_true_eq] at h
  cases k <;> simp only [IntKind.min, IntKind.max, IntKind.signed, IntKind.bits, inK] at * <;> simp at h ⊢ <;> omega
theorem trod_leaf {fuel : Nat} {t : TypeId} {cs : List Value} {x : DataW H × List MemPlace} {d : TypeDesc} {k : CK} (hu : P.underlying t = some d) (hk : leafCK d = some k) (h : DataW.trod enc P w base spare held fuel t cs = some x) : ∃ v, cs = [v] ∧ k.fitsR v := by
  cases d <;> simp only [leafCK] at hk <;> first | cases hk; done | (obtain rfl := Option.some.inj hk)
  · obtain ⟨b, rfl, _⟩ := DataW.trod_bool hu h; exact ⟨_, rfl, b, rfl⟩
  · obtain ⟨n, rfl, _, hw⟩ := DataW.trod_int hu h; exact ⟨_, rfl, n, rfl, inK_of_wf hw⟩
  · obtain ⟨s, rfl, _, hw⟩ := DataW.trod_string hu h; exact ⟨_, rfl, s, rfl, hw⟩
theorem trod_fields {fuel : Nat} {cs : List Value} : ∀ {fs : List Field} {o : Nat} {ks : List CK}, fieldCKs P o fs = some ks → (∀ f ∈ fs, ∃ x, DataW.trod enc P w base spare held fuel f.type ((cs.drop f.offset).take (P.cellsOf f.type)) = some x) → (cs.drop o).length = ks.length → fitsAllR ks (cs.drop o)
  | [], o, ks, h, _, hl => by
    obtain rfl := Option.some.inj h
    have : cs.drop o = [] := List.eq_nil_of_length_eq_zero hl
    rw [this]; trivial
  | f :: fs, o, ks, h, hf, hl => by
    simp only [fieldCKs, cond_eq_ite] at h
    split at h
    case h_2 => cases h
    rename_i k ks' h1 h2
    split at h
    case isFalse => cases h
    rename_i hb
    simp only [Bool.and_eq_true] at hb
    obtain rfl := Option.some.inj h
    have ho := Nat.eq_of_beq_eq_true hb.1
    have hc := Nat.eq_of_beq_eq_true hb.2
    obtain ⟨d, hd, hk⟩ := bind_some h1
    obtain ⟨x, hx⟩ := hf f (List.mem_cons_self ..)
    rw [ho, hc] at hx
    obtain ⟨v, hv, hfit⟩ := trod_leaf hd hk hx
    have hsplit : cs.drop o = v :: cs.drop (o + 1) := by
      rw [← List.take_append_drop 1 (cs.drop o), hv, List.drop_drop]
      rfl
    rw [hsplit] at hl ⊢
    exact ⟨hfit, trod_fields h2 (fun f hm => hf f (List.mem_cons_of_mem _ hm)) (by simpa using hl)⟩
theorem trod_cks {fuel : Nat} {t : TypeId} {cs : List Value} {x : DataW H × List MemPlace} {ks : List CK} (hk : cksT P t = some ks) (h : DataW.trod enc P w base spare held fuel t cs = some x) : fitsAllR ks cs := by
  unfold cksT at hk
  simp only [cond_eq_ite] at hk
  split at hk
  · rename_i fs hu
    split at hk
    case h_2 => cases hk
    rename_i ks' h1
    split at hk
    case isFalse => cases hk
    rename_i hb
    obtain rfl := Option.some.inj hk
    obtain ⟨xs, n, rfl, _, h2, h3, h4⟩ := DataW.trod_struct hu h
    have := trod_fields (enc := enc) (w := w) (base := base) (spare := spare) (held := held) (fuel := n) (cs := cs) h1 (fun f hf => by
      obtain ⟨i, hi⟩ := List.getElem?_of_mem hf
      have hi' : fs[i]? = some f := by simpa using hi
      have hlt : i < xs.length := by rw [h3]; exact (Array.getElem?_eq_some_iff.1 hi').1
      exact ⟨xs[i], by rw [h4 i f hi', List.getElem?_eq_getElem hlt]⟩) (by simp; exact h2.trans (Nat.eq_of_beq_eq_true hb).symm)
    simpa using this
  · rename_i d _ hu
    split at hk
    case h_2 => cases hk
    rename_i k hl
    split at hk
    case isFalse => cases hk
    obtain rfl := Option.some.inj hk
    obtain ⟨v, rfl, hf⟩ := trod_leaf hu hl h
    exact ⟨hf, trivial⟩
  · cases hk
theorem cksT_len {t : TypeId} {ks : List CK} (hk : cksT P t = some ks) : P.cellsOf t = ks.length := by
  unfold cksT at hk
  simp only [cond_eq_ite] at hk
  split at hk
  · split at hk
    case h_2 => cases hk
    split at hk
    case isFalse => cases hk
    rename_i hb
    obtain rfl := Option.some.inj hk
    exact (Nat.eq_of_beq_eq_true hb).symm
  · split at hk
    case h_2 => cases hk
    split at hk
    case isFalse => cases hk
    rename_i hb
    obtain rfl := Option.some.inj hk
    exact Nat.eq_of_beq_eq_true hb
  · cases hk
/-- Numbers in a row are in their range. -/
def RangeR (ks : List CK) (xs : List (List Value)) : Prop := ∀ x ∈ xs, fitsAllR ks x
theorem RangeR.nil (ks : List CK) : RangeR ks [] := fun _ h => by simp at h
theorem RangeR.i64 {ks : List CK} {xs : List (List Value)} (h : RangeR ks xs) (hk : ∀ (o : Nat) k, ks[o]? = some k → k = .int .i64) (j o : Nat) : -9223372036854775808 ≤ vI (cellAt xs j o) ∧ vI (cellAt xs j o) ≤ 9223372036854775807 := by
  unfold cellAt
  by_cases hj : j < xs.length
  · have hm := h xs[j] (List.getElem_mem hj)
    rw [show xs.getD j [] = xs[j] by simp [List.getD, hj]]
    by_cases ho : o < ks.length
    · have := fitsAllR_at o ks[o] hm (List.getElem?_eq_getElem ho)
      rw [hk o _ (List.getElem?_eq_getElem ho)] at this
      obtain ⟨n, e, hr⟩ := this
      rw [e]; exact hr
    · have hl := fitsAll_length (fitsAllR_fits hm)
      rw [show xs[j].getD o undef = undef by simp [List.getD, List.getElem?_eq_none (show xs[j].length ≤ o by omega)]]
      show _ ≤ (0 : Int) ∧ (0 : Int) ≤ _; decide
  · rw [show xs.getD j [] = [] by simp [List.getD, List.getElem?_eq_none (show xs.length ≤ j by omega)]]
    show _ ≤ (0 : Int) ∧ (0 : Int) ≤ _; decide
/-- A slice that came in: nil or not, one row. -/
theorem open_row {t e : TypeId} {ks : List CK} {v : Value} {d : DataW H} {p : List MemPlace} (ht : P.underlying t = some (.slice e)) (hk : cksT P e = some ks) (hv : v.cells = #[v]) (h : DataW.Trod enc P w 0 (fun _ => true) true t v d p)
    (hlt : ∀ x ∈ p, x.block < w.heap.size) (hpos : 0 < ks.length) :
    ∃ xs : List (List Value), RowRead w v ks xs ∧ RangeR ks xs ∧ ((xs = [] ∧ d = .nil) ∨ ∃ el sp, d = .slice el sp ∧ el.length = xs.length) := by
  obtain ⟨fuel, hf⟩ := h
  rw [hv] at hf
  rcases Deep.open_slice ht hf with ⟨h1, h2⟩ | ⟨a, len, cap, m, n, D, Pl, h1, hb, hl, hm, hmm, h2, hx⟩
  · simp at h1 h2
    subst h1
    exact ⟨[], ⟨none, 0, rfl, by simp, by simp [maxLen], by simp, fun hc => absurd rfl hc⟩, RangeR.nil _, .inl ⟨rfl, h2.1⟩⟩
  · simp only [if_true] at hmm
    subst hmm
    simp only [Prod.mk.injEq] at h2
    obtain ⟨h2, h3⟩ := h2
    have hcl := cksT_len hk
    obtain ⟨X, hX⟩ := Deep.choose_lt (α := List Value) (p := fun i cs => w.cells? 0 (a.add (i * P.cellsOf e)) (P.cellsOf e) = some cs ∧ fitsAllR ks cs) (n := m) (fun i hi => by
      obtain ⟨cs', k1, k2⟩ := hx i hi
      exact ⟨cs', k1, trod_cks hk k2⟩)
    have hve : v = .slice (some a) len m := by simpa using h1
    have hlenm : ((List.range len).map X).length = len := by simp
    refine ⟨(List.range len).map X, ⟨some a, m, ?_, ?_, hm, ?_, fun hc => ⟨a, rfl, ?_, ?_⟩⟩, ?_, .inr ⟨_, _, h2, ?_⟩⟩
    · rw [hlenm]; exact hve
    · rw [hlenm]; exact hl
    · intro x hx'
      obtain ⟨i, hi, rfl⟩ := List.mem_map.1 hx'
      exact fitsAllR_fits (hX i (by have := List.mem_range.1 hi; omega)).2
    · have hmem : ∃ x ∈ p, x.block = a.block := by
        rw [h3]
        obtain ⟨x, hx1, hx2⟩ : ∃ x ∈ MemPlace.row a (m * P.cellsOf e), x.block = a.block := by
          have : 0 < m * P.cellsOf e := Nat.mul_pos (by omega) (by omega)
          refine ⟨.cell (a.add 0).block (a.add 0).off, ?_, ?_⟩
          · unfold MemPlace.row
            exact List.mem_map.2 ⟨0, List.mem_range.2 this, rfl⟩
          · simp [MemPlace.block, Addr.add]
        exact ⟨x, List.mem_append_left _ hx1, hx2⟩
      obtain ⟨x, hx1, hx2⟩ := hmem
      rw [← hx2]; exact hlt x hx1
    · intro i o hi ho
      rw [hlenm] at hi
      obtain ⟨k1, k2⟩ := hX i (by omega)
      obtain ⟨_, k3, k4⟩ := World.cells?_some k1
      rw [← hcl, ← add_add, k4 o (by omega)]
      have : cellAt ((List.range len).map X) i o = (X i).getD o undef := by
        unfold cellAt
        congr 1
        simp [List.getD, hi]
      rw [this]
      simp [List.getD, List.getElem?_eq_getElem (show o < (X i).length by omega)]
    · intro x hx'
      obtain ⟨i, hi, rfl⟩ := List.mem_map.1 hx'
      exact (hX i (by have := List.mem_range.1 hi; omega)).2
    · simp
theorem cell_str {t : TypeId} {v : Value} {r : Reach} (hu : P.underlying t = some .string) (h : Cell.okWide P w r base t v) : ∃ s, v = .string s := by
  simp only [Cell.okWide, hu, Cell.ok] at h
  cases v <;> first | exact h.elim | skip
  exact ⟨_, rfl⟩
theorem slice_cells {t e : TypeId} {v : Value} {r : Reach} (hu : P.underlying t = some (.slice e)) (h : Value.okWide P w r base t v) : v.cells = #[v] := by
  have := arg_cell h (by rw [hu]; simp) (by rw [hu]; simp)
  simp only [Cell.okWide, hu, Cell.ok] at this
  cases v <;> first | rfl | exact this.elim
theorem size_row {ts : List TypeId} {ds : List (DataW H)} {xs : List (List Value)} {d : DataW H} {j : Nat} {t e : TypeId} (hsz : (DataW.weightsEach P ts ds).all (· ≤ reachBytes) = true) (ht : ts[j]? = some t) (hd : ds[j]? = some d) (hu : P.underlying t = some (.slice e))
    (h : (xs = [] ∧ d = .nil) ∨ ∃ el sp, d = .slice el sp ∧ el.length = xs.length) : xs.length * P.bytesOf e ≤ 140737488351232 := by
  rcases h with ⟨rfl, _⟩ | ⟨el, sp, rfl, hl⟩
  · simp
  · have := sized_slice hsz ht hd hu
    unfold reachBytes at this
    rw [← hl]
    exact Nat.le_trans (Nat.mul_le_mul_right _ (Nat.le_add_right _ _)) this
/-- One lent row. -/
theorem mem_row (E : TypeId) {g : Gam} {hp : List Res} (hok : ∀ (h : Nat) (r : Res), hp[h]? = some r → r.ok g w (g h)) (hown : ∀ r ∈ hp, r.own = false) : Mem g hp w :=
  ⟨hok, fun h h' r r' b hne h1 h2 ho _ => by rw [hown r (List.mem_of_getElem? h1)] at ho; cases ho⟩
theorem lent_ok {g : Gam} {v : Value} {E : TypeId} {ks : List CK} {xs : List (List Value)} (h : RowRead w v ks xs) : (Res.row false E ks xs).ok g w v := ⟨h, fun e => by cases e⟩
theorem row_arep {g : Gam} {h : Nat} {v : Value} {ks : List CK} {xs : List (List Value)} (hr : RowRead w v ks xs) (hg : g h = v) : arep g (.sv (.lf (.row h))) v := by
  obtain ⟨A, c, e, _⟩ := hr
  exact ⟨hg.symm, A, _, c, by rw [hg]; exact e⟩
end
end Go.Proofs.Ytgicfkgiecgjoaa.RS
