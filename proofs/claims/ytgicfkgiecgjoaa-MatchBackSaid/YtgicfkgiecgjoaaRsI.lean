/- RS, part I: stores and appends. -/
import Derived.Test.YtgicfkgiecgjoaaRsH
set_option linter.unusedVariables false
set_option linter.unusedSimpArgs false
namespace Go.Proofs.Ytgicfkgiecgjoaa.RS
open Go Go.RowKit
/-- What happens to memory when one block may be written, and new ones may come. -/
structure Chg (g : Nat → Prop) (w w' : World) : Prop where
  os : w'.os = w.os
  tape : w'.tape = w.tape
  output : w'.output = w.output
  size : w.heap.size ≤ w'.heap.size
  block : ∀ k, k < w.heap.size → ¬ g k → w'.heap[k]? = w.heap[k]?
theorem Chg.refl (g : Nat → Prop) (w : World) : Chg g w w := ⟨rfl, rfl, rfl, Nat.le_refl _, fun _ _ _ => rfl⟩
theorem Chg.trans {g : Nat → Prop} {a b c : World} (h : Chg g a b) (k : Chg g b c) : Chg g a c :=
  ⟨k.os.trans h.os, k.tape.trans h.tape, k.output.trans h.output, Nat.le_trans h.size k.size, fun i hi hg => (k.block i (Nat.lt_of_lt_of_le hi h.size) hg).trans (h.block i hi hg)⟩
theorem Chg.mono {g g' : Nat → Prop} {a b : World} (h : Chg g a b) (k : ∀ i, g i → g' i) : Chg g' a b := ⟨h.os, h.tape, h.output, h.size, fun i hi hg => h.block i hi fun hk => hg (k i hk)⟩
theorem Chg.of_below {g : Nat → Prop} {w w' : World} (h : Below w.heap.size w w') : Chg g w w' := ⟨h.os, h.tape, h.output, h.size, fun k hk _ => h.block k hk⟩
section
variable {P : Program} {tt : TT} {w : World} {g : Gam} {av : AV} {obs : List Prop}
theorem setCell_block {b o : Nat} {cur : Array Value} {T : TypeId} {f : Nat × Nat} (v : Value) (hh : w.heap[b]? = some (.cells cur T f)) : (w.setCell ⟨b, o, none⟩ v).heap[b]? = some (.cells (cur.setIfInBounds o v) T f) := by
  simp [World.setCell, Array.getElem?_modify, hh]
theorem setCell_chg (b o : Nat) (v : Value) : Chg (fun k => b = k) w (w.setCell ⟨b, o, none⟩ v) :=
  ⟨rfl, rfl, rfl, by simp [World.setCell], fun k _ hk => Below.heap_setCell _ _ _ _ (fun e => hk (by first | exact e | exact e.symm))⟩
theorem run_storeCells_own (b o : Nat) (T : TypeId) (f : Nat × Nat) : ∀ (vs : List Value) (i : Nat) (cur : Array Value) (w : World), w.heap[b]? = some (.cells cur T f) → (f.2 = 0 ∨ cur.size ≤ f.1) → o + i + vs.length ≤ cur.size → (∀ v ∈ vs, v.oneCell' = true) →
    ∃ w' cur', (storeCells ⟨b, o, none⟩ vs i).run P w = .ok () w' ∧ w'.heap[b]? = some (.cells cur' T f) ∧ cur'.toList = sp cur.toList (o + i) vs ∧ Chg (fun k => b = k) w w' ∧ w'.heap.size = w.heap.size
  | [], i, cur, w, hh, _, _, _ => ⟨w, cur, rfl, hh, by simp [sp], Chg.refl _ _, rfl⟩
  | v :: vs, i, cur, w, hh, hf, hl, h1 => by
    simp only [List.length_cons] at hl
    have hc : w.cell? ⟨b, o + i, none⟩ = some cur[o + i] := by rw [cell_blk hh]; exact Array.getElem?_eq_getElem (by omega)
    have hfr : w.frozen? ⟨b, o + i, none⟩ = false := by
      simp only [World.frozen?, hh, Bool.and_eq_false_iff, decide_eq_false_iff_not]
      rcases hf with h | h
      · right; omega
      · left; omega
    have hst : (store ((⟨b, o, none⟩ : Addr).add i) v).run P w = .ok () (w.setCell ⟨b, o + i, none⟩ v) := by
      rw [plain_add, run_store P w _ v _ (h1 v (by simp)), hc]
      simp [hfr]
    obtain ⟨w', cur', h2, h3, h4, h5, h6⟩ := run_storeCells_own b o T f vs (i + 1) (cur.setIfInBounds (o + i) v) _ (setCell_block v hh) (by simpa using hf) (by simp; omega) (fun x hx => h1 x (by simp [hx]))
    refine ⟨w', cur', ?_, h3, ?_, (setCell_chg b (o + i) v).trans h5, by rw [h6]; simp [World.setCell]⟩
    · simp only [storeCells, Sem.run_bind, hst, Result.andThen_ok, h2]
    · rw [h4]
      have hlt : o + i < cur.toList.length := by simp; omega
      simp only [sp, Array.toList_setIfInBounds, List.length_cons]
      rw [List.drop_set_of_lt (by omega)]
      have e1 : o + (i + 1) = o + i + 1 := by omega
      rw [e1, List.take_add_one, List.take_set_of_le (by omega), List.getElem?_set_self hlt]
      simp [Nat.add_assoc, Nat.add_comm 1]

/-! ### 1. A store -/
def spV (xs : List (List Value)) (i o : Nat) (vs : List Value) : List (List Value) := xs.set i (sp (xs.getD i []) o vs)
def evalStore (tt : TT) (hp : List Res) (T : TypeId) (ad x : Option AV) : Option (List Res × List Prop) :=
  match tt.get T, ad.bind asL, x.bind cellsOf with
  | some i, some l, some p => bif Nat.beq p.length i.size then
    match l with
    | .ptr h o => match hp[h]? with
      | some (.blk true T' cs) => bif Nat.ble (o + p.length) cs.length && p.all (LV.on (fun k => Nat.blt k hp.length)) && p.all oneL then some (hp.set h (.blk true T' (splice cs o p)), []) else none
      | _ => none
    | .pti h o sz n => match hp[h]? with
      | some (.arr true T' ks xs) => match valsL p with
        | some vs => bif Nat.beq sz ks.length && Nat.ble (o + p.length) ks.length && fitsB ((ks.drop o).take p.length) vs then
            some (hp.set h (.arr true T' ks (bif Nat.beq p.length ks.length then xs.set n.toNat vs else spV xs n.toNat o vs)), [0 ≤ n ∧ n < (xs.length : Int)]) else none
        | none => none
      | _ => none
    | .elt h sz n o => match hp[h]? with
      | some (.row true E ks xs) => match valsL p with
        | some vs => bif Nat.beq sz ks.length && Nat.ble (o + p.length) ks.length && fitsB ((ks.drop o).take p.length) vs then
            some (hp.set h (.row true E ks (bif Nat.beq p.length ks.length then xs.set n.toNat vs else spV xs n.toNat o vs)), [0 ≤ n ∧ n < (xs.length : Int)]) else none
        | none => none
      | _ => none
    | _ => none
    else none
  | _, _, _ => none
theorem fits_sp : ∀ {ks : List CK} {x : List Value} (o : Nat) {vs : List Value}, fitsAll ks x → fitsAll ((ks.drop o).take vs.length) vs → o + vs.length ≤ ks.length → fitsAll ks (sp x o vs)
  | ks, x, 0, [], h, _, _ => by simpa [sp] using h
  | k :: ks, y :: x, 0, v :: vs, h, hv, hl => by
    have hv' : k.fits v ∧ fitsAll (ks.take vs.length) vs := hv
    have := fits_sp (ks := ks) (x := x) 0 (vs := vs) h.2 (by simpa using hv'.2) (by simp at hl; omega)
    simp only [sp, List.take_zero, List.nil_append, List.length_cons, Nat.zero_add, List.cons_append, List.drop_succ_cons] at this ⊢
    exact ⟨hv'.1, this⟩
  | k :: ks, y :: x, o + 1, vs, h, hv, hl => by
    have := fits_sp (ks := ks) (x := x) o (vs := vs) h.2 (by simpa using hv) (by simp at hl; omega)
    have e : sp (y :: x) (o + 1) vs = y :: sp x o vs := by simp [sp, Nat.add_right_comm]
    rw [e]
    exact ⟨h.1, this⟩
  | [], [], o + 1, vs, h, hv, hl => by simp at hl
  | [], [], 0, v :: vs, h, hv, hl => by simp at hl
  | [], _ :: _, _, _, h, _, _ => h.elim
  | _ :: _, [], _, _, h, _, _ => h.elim
/-- The element that is written, and what its cells are then. -/
def newEl (xs : List (List Value)) (ks : List CK) (n o : Nat) (vs : List Value) : List (List Value) := bif Nat.beq vs.length ks.length then xs.set n vs else spV xs n o vs
theorem newEl_length (xs : List (List Value)) (ks : List CK) (n o : Nat) (vs : List Value) : (newEl xs ks n o vs).length = xs.length := by
  unfold newEl spV; cases Nat.beq vs.length ks.length <;> simp
theorem newEl_eq {xs : List (List Value)} {ks : List CK} {n o : Nat} {vs : List Value} (hn : n < xs.length) (hfit : ∀ x ∈ xs, fitsAll ks x) (hl : o + vs.length ≤ ks.length) : newEl xs ks n o vs = xs.set n (sp (xs.getD n []) o vs) := by
  unfold newEl spV
  cases e : Nat.beq vs.length ks.length with
  | false => rfl
  | true =>
    have hv := Nat.eq_of_beq_eq_true e
    have ho : o = 0 := by omega
    subst ho
    have hx : xs.getD n [] ∈ xs := by simp [List.getD, List.getElem?_eq_getElem hn]
    have hxl := fitsAll_length (hfit _ hx)
    simp only [cond_true, sp, List.take_zero, List.nil_append, Nat.zero_add]
    rw [List.drop_of_length_le (by rw [hxl]; omega), List.append_nil]
theorem newEl_fits {xs : List (List Value)} {ks : List CK} {n o : Nat} {vs : List Value} (hn : n < xs.length) (hfit : ∀ x ∈ xs, fitsAll ks x) (hv : fitsAll ((ks.drop o).take vs.length) vs) (hl : o + vs.length ≤ ks.length) : ∀ x ∈ newEl xs ks n o vs, fitsAll ks x := by
  rw [newEl_eq hn hfit hl]
  intro x hx
  have hx0 : xs.getD n [] ∈ xs := by simp [List.getD, List.getElem?_eq_getElem hn]
  rcases List.mem_or_eq_of_mem_set hx with h | rfl
  · exact hfit x h
  · exact fits_sp o (hfit _ hx0) hv hl
theorem sp_get {xs : List Value} {o : Nat} {vs : List Value} (hl : o + vs.length ≤ xs.length) (j : Nat) : (sp xs o vs)[j]? = if j < o then xs[j]? else if j < o + vs.length then vs[j - o]? else xs[j]? := by
  unfold sp
  rw [List.append_assoc]
  by_cases h1 : j < o
  · rw [if_pos h1, List.getElem?_append_left (by simp; omega), List.getElem?_take, if_pos h1]
  · rw [if_neg h1, List.getElem?_append_right (by simp; omega)]
    have e : (xs.take o).length = o := by simp; omega
    rw [e]
    by_cases h2 : j < o + vs.length
    · rw [if_pos h2, List.getElem?_append_left (by omega)]
    · rw [if_neg h2, List.getElem?_append_right (by omega), List.getElem?_drop]
      congr 1; omega
theorem newEl_cell {xs : List (List Value)} {ks : List CK} {n o : Nat} {vs : List Value} {cur : List Value} (hn : n < xs.length) (hfit : ∀ x ∈ xs, fitsAll ks x) (hl : o + vs.length ≤ ks.length)
    (hsz : n * ks.length + o + vs.length ≤ cur.length) (hc : ∀ i' o', i' < xs.length → o' < ks.length → cur[i' * ks.length + o']? = some (cellAt xs i' o')) (i' o' : Nat) (hi : i' < xs.length) (ho : o' < ks.length) :
    (sp cur (n * ks.length + o) vs)[i' * ks.length + o']? = some (cellAt (newEl xs ks n o vs) i' o') := by
  rw [newEl_eq hn hfit hl, sp_get (by omega)]
  have hx : xs.getD n [] ∈ xs := by simp [List.getD, List.getElem?_eq_getElem hn]
  have hxl := fitsAll_length (hfit _ hx)
  by_cases hin : i' = n
  · subst hin
    have e : ((xs.set i' (sp (xs.getD i' []) o vs)).getD i' []) = sp (xs.getD i' []) o vs := by simp [List.getD, List.getElem?_set_self hi]
    simp only [cellAt, e]
    have hg := sp_get (xs := xs.getD i' []) (o := o) (vs := vs) (by omega) o'
    have hcell := hc i' o' hi ho
    by_cases h1 : o' < o
    · rw [if_pos (by omega), hcell]
      rw [if_pos h1] at hg
      rw [List.getD_eq_getElem?_getD, hg, ← List.getD_eq_getElem?_getD]; rfl
    · rw [if_neg (by omega)]
      rw [if_neg h1] at hg
      by_cases h2 : o' < o + vs.length
      · rw [if_pos (by omega), show i' * ks.length + o' - (i' * ks.length + o) = o' - o by omega]
        rw [if_pos h2] at hg
        rw [List.getD_eq_getElem?_getD, hg, List.getElem?_eq_getElem (by omega)]; rfl
      · rw [if_neg (by omega), hcell]
        rw [if_neg h2] at hg
        rw [List.getD_eq_getElem?_getD, hg, ← List.getD_eq_getElem?_getD]; rfl
  · have e : ((xs.set n (sp (xs.getD n []) o vs)).getD i' []) = xs.getD i' [] := by simp [List.getD, List.getElem?_set_ne (Ne.symm hin)]
    simp only [cellAt, e]
    have hcell := hc i' o' hi ho
    have hne : i' * ks.length + o' < n * ks.length + o ∨ n * ks.length + o + vs.length ≤ i' * ks.length + o' := by
      rcases Nat.lt_or_gt_of_ne hin with h | h
      · left
        have : (i' + 1) * ks.length ≤ n * ks.length := Nat.mul_le_mul_right _ h
        rw [Nat.add_mul, Nat.one_mul] at this
        omega
      · right
        have : (n + 1) * ks.length ≤ i' * ks.length := Nat.mul_le_mul_right _ h
        rw [Nat.add_mul, Nat.one_mul] at this
        omega
    rcases hne with h | h
    · rw [if_pos h]; exact hcell
    · rw [if_neg (by omega), if_neg (by omega)]; exact hcell
/-- What a store leaves behind. -/
structure StoreOK (g : Gam) (w w' : World) (hp hp' : List Res) : Prop where
  ex : ∃ h r r', hp[h]? = some r ∧ hp' = hp.set h r' ∧ r.own = true ∧ r'.own = true ∧ r'.ok g w' (g h) ∧ r'.at (g h) = r.at (g h) ∧ Chg (r.at (g h)) w w' ∧ w'.heap.size = w.heap.size
theorem run_storeVar {i : TI} {t : Nat} (ht : TypeFits P t i) (a : Addr) (v : Value) (hs : v.cells.size = i.size) : (storeVar t a v).run P w = (storeCells a v.cells.toList).run P w := by
  unfold storeVar
  simp [run_sizeOf ht, hs]
theorem reps_one : ∀ {ls : List LV} {vs : List Value}, reps g ls vs → (∀ l ∈ ls, oneL l = true) → ∀ v ∈ vs, v.oneCell' = true
  | [], [], _, _ => by simp
  | l :: ls, v :: vs, h, hl => by
    intro u hu
    rcases List.mem_cons.1 hu with rfl | hu
    · exact rep_one (hl l (by simp)) h.1
    · exact reps_one h.2 (fun l' hl' => hl l' (by simp [hl'])) u hu
  | [], _ :: _, h, _ => h.elim
  | _ :: _, [], h, _ => h.elim
theorem fitsAll_one : ∀ {ks : List CK} {vs : List Value}, fitsAll ks vs → ∀ v ∈ vs, v.oneCell' = true
  | [], [], _ => by simp
  | k :: ks, v :: vs, h => by
    intro u hu
    rcases List.mem_cons.1 hu with rfl | hu
    · exact CK.fits_one h.1
    · exact fitsAll_one h.2 u hu
  | [], _ :: _, h => h.elim
  | _ :: _, [], h => h.elim
theorem evalStore_ok (ht : tt.ok P) {hp hp' : List Res} (hm : Mem g hp w) {T : Nat} {ad x : Option AV} {ua ux : Value} (h : evalStore tt hp T ad x = some (hp', obs)) (ho : ∀ q ∈ obs, q) (ra : ∀ a, ad = some a → arep g a ua) (rx : ∀ a, x = some a → arep g a ux) :
    ∃ w', (Instr.storeAt T ua ux).run P w = .ok () w' ∧ StoreOK g w w' hp hp' := by
  unfold evalStore at h
  split at h
  case h_2 => cases h
  rename_i i l p hi hl hp0
  obtain ⟨_, e1, hl⟩ := bind_some hl
  obtain ⟨_, e2, hp0⟩ := bind_some hp0
  have rl := asL_rep hl (ra _ e1)
  have rp := cellsOf_rep hp0 (rx _ e2)
  simp only [cond_eq_ite] at h
  split at h
  case isFalse => cases h
  rename_i hsz
  have hsz := Nat.eq_of_beq_eq_true hsz
  have hlen := reps_length rp
  have hcs : ux.cells.size = i.size := by rw [← Array.length_toList, hlen, hsz]
  have hsv := fun a => run_storeVar (w := w) (ht T i hi) a ux hcs
  split at h
  · rename_i hh o _
    obtain ⟨b, hv, rfl⟩ := rl
    split at h
    case h_2 => cases h
    rename_i T' cs hr
    split at h
    case isFalse => cases h
    rename_i hb
    simp only [Bool.and_eq_true] at hb
    have hle := Nat.le_of_ble_eq_true hb.1.1
    simp only [Option.some.injEq, Prod.mk.injEq] at h
    obtain ⟨rfl, rfl⟩ := h
    obtain ⟨b', vs, hv', hbk, hrep⟩ := hm.ok hh _ hr
    obtain rfl : b = b' := by rw [hv] at hv'; injection hv' with e; injection e with e; injection e
    have hlv := reps_length hrep
    have hone := reps_one rp (fun l' hl' => List.all_eq_true.1 hb.2 l' hl')
    obtain ⟨w', cur', h1, h2, h3, h4, h5⟩ := run_storeCells_own (P := P) b o T' (0, 0) ux.cells.toList 0 vs w hbk (.inl rfl) (by rw [hlen]; simp only [Array.length_toList] at hlv; omega) hone
    refine ⟨w', ?_, ⟨hh, _, _, hr, rfl, rfl, rfl, ⟨b, cur', hv, h2, ?_⟩, ?_, ?_, h5⟩⟩
    · simp only [Instr.storeAt, Instr.sureAddr, Sem.run_bind, Sem.run_pure, Result.andThen_ok, hsv, h1]
    · rw [h3, Nat.add_zero]
      exact reps_splice o hrep rp
    · rw [hv]; rfl
    · rw [hv]; exact h4
  · rename_i hh o sz n _
    obtain ⟨b, hv, rfl⟩ := rl
    split at h
    case h_2 => cases h
    rename_i T' ks xs hr
    split at h
    case h_2 => cases h
    rename_i us hus
    split at h
    case isFalse => cases h
    rename_i hb
    simp only [Bool.and_eq_true] at hb
    obtain rfl := Nat.eq_of_beq_eq_true hb.1.1
    have hle := Nat.le_of_ble_eq_true hb.1.2
    have hfv := fitsB_fits hb.2
    obtain rfl := valsL_eq hus
    have hcells := reps_of_vals rp
    simp only [List.length_map] at hle hfv hsz
    simp only [Option.some.injEq, Prod.mk.injEq] at h
    obtain ⟨rfl, rfl⟩ := h
    obtain ⟨h0, h1⟩ := ho _ (List.mem_singleton.2 rfl)
    obtain ⟨b', vs, hv', hbk, hsize, hfit, hcell⟩ := hm.ok hh _ hr
    obtain rfl : b = b' := by rw [hv] at hv'; injection hv' with e; injection e with e; injection e
    have hn : n.toNat < xs.length := by omega
    have hfits : n.toNat * ks.length + o + us.length ≤ vs.size := by
      rw [hsize]
      have : (n.toNat + 1) * ks.length ≤ xs.length * ks.length := Nat.mul_le_mul_right _ hn
      rw [Nat.add_mul, Nat.one_mul] at this
      omega
    obtain ⟨w', cur', h1', h2, h3, h4, h5⟩ := run_storeCells_own (P := P) b (o + n.toNat * ks.length) T' (0, 0) us 0 vs w hbk (.inl rfl) (by omega) (fitsAll_one hfv)
    have hnew : (if (us.map LV.val).length.beq ks.length = true then xs.set n.toNat us else spV xs n.toNat o us) = newEl xs ks n.toNat o us := by simp [newEl, cond_eq_ite]
    refine ⟨w', ?_, ⟨hh, _, _, hr, rfl, rfl, rfl, ⟨b, cur', hv, h2, ?_, ?_, ?_⟩, ?_, ?_, h5⟩⟩
    · rw [← hcells] at h1'
      simp only [Instr.storeAt, Instr.sureAddr, Sem.run_bind, Sem.run_pure, Result.andThen_ok, hsv, h1']
    · rw [hnew, newEl_length, ← hsize, ← Array.length_toList, h3, Nat.add_zero]
      simp [sp]; omega
    · rw [hnew]; exact newEl_fits hn hfit hfv hle
    · intro i' o' hi' ho'
      rw [hnew] at hi' ⊢
      rw [newEl_length] at hi'
      rw [← Array.getElem?_toList, h3, Nat.add_zero, Nat.add_comm o]
      exact newEl_cell hn hfit hle (by simpa using hfits) (fun a b ha hb => by rw [Array.getElem?_toList]; exact hcell a b ha hb) i' o' hi' ho'
    · rw [hv]; rfl
    · rw [hv]; exact h4
  · rename_i hh sz n o _
    obtain ⟨ad, n', c', hv, rfl⟩ := rl
    split at h
    case h_2 => cases h
    rename_i E ks xs hr
    split at h
    case h_2 => cases h
    rename_i us hus
    split at h
    case isFalse => cases h
    rename_i hb
    simp only [Bool.and_eq_true] at hb
    obtain rfl := Nat.eq_of_beq_eq_true hb.1.1
    have hle := Nat.le_of_ble_eq_true hb.1.2
    have hfv := fitsB_fits hb.2
    obtain rfl := valsL_eq hus
    have hcells := reps_of_vals rp
    simp only [List.length_map] at hle hfv hsz
    simp only [Option.some.injEq, Prod.mk.injEq] at h
    obtain ⟨rfl, rfl⟩ := h
    obtain ⟨h0, h1⟩ := ho _ (List.mem_singleton.2 rfl)
    obtain ⟨⟨A, c, hv', hlc, hmx, hfit, hrd⟩, hown⟩ := hm.ok hh _ hr
    obtain ⟨rfl, rfl, rfl⟩ : A = some ad ∧ n' = xs.length ∧ c' = c := by rw [hv] at hv'; injection hv' with a b c; exact ⟨a.symm, b, c⟩
    have hn : n.toNat < xs.length := by omega
    have hc0 : c' ≠ 0 := by omega
    obtain ⟨b, cur, f, e, hbk, hsize, hfr⟩ := hown rfl _ _ hv hc0
    injection e with e
    subst e
    have hfits : n.toNat * ks.length + o + us.length ≤ cur.size := by
      rw [hsize]
      have : (n.toNat + 1) * ks.length ≤ c' * ks.length := Nat.mul_le_mul_right _ (by omega)
      rw [Nat.add_mul, Nat.one_mul] at this
      omega
    obtain ⟨w', cur', h1', h2, h3, h4, h5⟩ := run_storeCells_own (P := P) b (n.toNat * ks.length + o) E f us 0 cur w hbk hfr (by omega) (fitsAll_one hfv)
    have hnew : (if (us.map LV.val).length.beq ks.length = true then xs.set n.toNat us else spV xs n.toNat o us) = newEl xs ks n.toNat o us := by simp [newEl, cond_eq_ite]
    have hcs' : cur'.size = cur.size := by rw [← Array.length_toList, h3, Nat.add_zero]; simp [sp]; omega
    refine ⟨w', ?_, ⟨hh, _, _, hr, rfl, rfl, rfl, ?_, ?_, ?_, h5⟩⟩
    · rw [← hcells] at h1'
      simp only [Instr.storeAt, Instr.sureAddr, Sem.run_bind, Sem.run_pure, Result.andThen_ok, hsv, plain_add, Nat.zero_add, h1']
    · rw [hnew, hv]
      have := row_new (w' := w') (e := E) (ks := ks) (xs := newEl xs ks n.toNat o us) (c := c') h2 (newEl_fits hn hfit hfv hle) (fun i' o' hi' ho' => by
        rw [newEl_length] at hi'
        rw [← Array.getElem?_toList, h3, Nat.add_zero]
        refine newEl_cell hn hfit hle (by simpa using hfits) (fun a' b' ha hb => ?_) i' o' hi' ho'
        obtain ⟨ad', e, _, hc⟩ := hrd hc0
        injection e with e
        subst e
        have := hc a' b' ha hb
        rw [plain_add, Nat.zero_add, cell_blk hbk] at this
        rw [Array.getElem?_toList]; exact this) (by rw [newEl_length]; exact hlc) hmx (by rw [hcs']; exact hsize) (by rw [hcs']; exact hfr) true g
      rw [newEl_length] at this
      exact this
    · rw [hv]; rfl
    · rw [hv]; exact h4.mono fun k hk => ⟨hc0, hk⟩
  · cases h
end
end Go.Proofs.Ytgicfkgiecgjoaa.RS
