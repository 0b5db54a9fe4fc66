/- RS, part C: operations that read memory or take values apart. -/
import Derived.Test.YtgicfkgiecgjoaaRsB
set_option linter.unusedVariables false
set_option linter.unusedSimpArgs false
namespace Go.Proofs.Ytgicfkgiecgjoaa.RS
open Go

/-! ### 1. Addresses -/
def addOff (l : LV) (n : Nat) : Option LV :=
  match l with
  | .ptr h o => some (.ptr h (o + n))
  | .pti h o sz i => some (.pti h (o + n) sz i)
  | .elt h sz i o => some (.elt h sz i (o + n))
  | _ => none
theorem plain_add (b o n : Nat) : (⟨b, o, none⟩ : Addr).add n = ⟨b, o + n, none⟩ := by
  unfold Addr.add; split <;> simp_all
theorem addOff_ok {g : Gam} {l l' : LV} {n : Nat} {u : Value} (h : addOff l n = some l') (r : rep g l u) : ∃ ad, u = .pointer (some ad) ∧ rep g l' (.pointer (some (ad.add n))) := by
  cases l <;> simp only [addOff] at h <;> first | cases h; done | skip
  case ptr h0 o =>
    cases h
    obtain ⟨b, e, rfl⟩ := r
    exact ⟨_, rfl, b, e, by rw [plain_add]⟩
  case pti h0 o sz i =>
    cases h
    obtain ⟨b, e, rfl⟩ := r
    exact ⟨_, rfl, b, e, by rw [plain_add, Nat.add_right_comm]⟩
  case elt h0 sz i o =>
    cases h
    obtain ⟨ad, n', c, e, rfl⟩ := r
    exact ⟨_, rfl, ad, n', c, e, by rw [add_add, Nat.add_assoc]⟩
def vFieldAddr (tt : TT) (s : TypeId) (x : Option AV) (f : Nat) : VO :=
  match tt.get s with
  | some i => match i.d with
    | .st fs => match fs[f]? with
      | some (ft, off) => match tt.get ft with
        | some fi => bif Nat.beq fi.size 0 then none else
          match x.bind asL with
          | some l => match addOff l off with
            | some l' => some (.sv (.lf l'), [])
            | none => none
          | none => none
        | none => none
      | none => none
    | _ => none
  | none => none
section
variable {P : Program} {tt : TT} {w : World} {g : Gam}
theorem field_get {gs : Array Field} {f ft off : Nat} (h : (gs.toList.map fun f => (f.type, f.offset))[f]? = some (ft, off)) : ∃ fd, gs[f]? = some fd ∧ fd.type = ft ∧ fd.offset = off := by
  simp only [List.getElem?_map, Array.getElem?_toList] at h
  cases e : gs[f]? with
  | none => simp [e] at h
  | some fd => simp [e] at h; exact ⟨fd, rfl, h.1, h.2⟩
theorem vFieldAddr_ok (ht : tt.ok P) {s f : Nat} {x : Option AV} {xv : AV} {u : Value} {av : AV} {obs : List Prop} (h : vFieldAddr tt s x f = some (av, obs)) (hx : x = some xv) (r : arep g xv u) :
    ∃ v, (Instr.fieldAt s u f).run P w = .ok v w ∧ arep g av v := by
  subst hx
  unfold vFieldAddr at h
  split at h
  · rename_i i hi
    split at h
    · rename_i fs hd
      split at h
      · rename_i ft off hf
        split at h
        · rename_i fi hfi
          simp only [cond_eq_ite] at h
          split at h
          · cases h
          · rename_i hz
            split at h
            · rename_i l hl
              split at h
              · rename_i l' hl'
                simp only [Option.some.injEq, Prod.mk.injEq] at h
                obtain ⟨rfl, rfl⟩ := h
                obtain ⟨d, hu, hsd⟩ := (ht s i hi).und
                rw [hd] at hsd
                obtain ⟨gs, rfl, rfl⟩ := shape_st hsd
                obtain ⟨fd, hg, rfl, rfl⟩ := field_get hf
                obtain ⟨ad, rfl, r'⟩ := addOff_ok hl' (asL_rep (by simpa using hl) r)
                refine ⟨_, ?_, r'⟩
                have hz' : ¬ fi.size = 0 := fun e => hz (by rw [e]; rfl)
                simp [Instr.fieldAt, run_underlying hu, hg, Instr.sureAddr, fieldPlace, run_sizeOf (ht _ fi hfi), hz']
              · cases h
            · cases h
        · cases h
      · cases h
    · cases h
  · cases h

/-! ### 2. An element's address -/
def vIndexAddr (tt : TT) (hp : List Res) (m : Nat) (t : TypeId) (x ix : Option AV) : VO :=
  match tt.get t, ix.bind asI, x.bind asL with
  | some i, some (_, n), some l => match i.d with
    | .sl e => match tt.get e with
      | some ei => match l with
        | .row h => match hp[h]? with
          | some (.row _ _ _ xs) => some (.sv (.lf (.elt h ei.size n 0)), [0 ≤ n ∧ n < (xs.length : Int)])
          | _ => none
        | .view h sz lo hi => match hp[h]? with
          | some (.row _ _ _ xs) => bif Nat.beq sz ei.size then some (.sv (.lf (.elt h sz (lo + n) 0)), [0 ≤ n ∧ n < hi - lo]) else none
          | _ => none
        | _ => none
      | none => none
    | .arr len e => match tt.get e with
      | some ei => match l with
        | .ptr h o => match m with
          | 0 => some (.sv (.lf (.pti h o ei.size n)), [0 ≤ n ∧ n < (len : Int)])
          | _ => some (.sv (.lf (.ptr h (o + n.toNat * ei.size))), [0 ≤ n ∧ n < (len : Int)])
        | _ => none
      | none => none
    | _ => none
  | _, _, _ => none
theorem vIndexAddr_ok (ht : tt.ok P) {hp : List Res} (hm : Mem g hp w) {m t : Nat} {x ix : Option AV} {xv iv : AV} {u ui : Value} {av : AV} {obs : List Prop}
    (h : vIndexAddr tt hp m t x ix = some (av, obs)) (ho : ∀ q ∈ obs, q) (hx : x = some xv) (r : arep g xv u) (hix : ix = some iv) (ri : arep g iv ui) :
    ∃ v, (Instr.indexAt t u ui).run P w = .ok v w ∧ arep g av v := by
  subst hx hix
  unfold vIndexAddr at h
  split at h
  case h_2 => cases h
  rename_i i k n l hi hn hl
  obtain rfl := asI_rep (by simpa using hn) ri
  replace r := asL_rep (by simpa using hl) r
  obtain ⟨d, hu, hsd⟩ := (ht t i hi).und
  split at h
  · rename_i e hd
    rw [hd] at hsd
    obtain rfl := shape_sl hsd
    split at h
    case h_2 => cases h
    rename_i ei hei
    have hsz := fun w => run_sizeOf (ht e ei hei) w
    split at h
    · rename_i hh
      split at h
      case h_2 => cases h
      rename_i own E ks xs hr
      simp only [Option.some.injEq, Prod.mk.injEq] at h
      obtain ⟨rfl, rfl⟩ := h
      obtain ⟨h0, h1⟩ := ho _ (List.mem_singleton.2 rfl)
      obtain ⟨⟨A, c, hv, hc1, _, _, hrd⟩, _⟩ := hm.ok hh _ hr
      obtain ⟨ad, rfl, _, _⟩ := hrd (by omega)
      obtain ⟨rfl, _⟩ := r
      rw [hv]
      refine ⟨_, ?_, ad, _, _, hv, rfl⟩
      simp [Instr.indexAt, asIntOf, run_underlying hu, hsz, h0, h1]
    · rename_i hh sz lo hi'
      split at h
      case h_2 => cases h
      rename_i own E ks xs hr
      simp only [cond_eq_ite] at h
      split at h
      case isFalse => cases h
      rename_i hsz'
      simp only [Option.some.injEq, Prod.mk.injEq] at h
      obtain ⟨rfl, rfl⟩ := h
      obtain ⟨h0, h1⟩ := ho _ (List.mem_singleton.2 rfl)
      obtain rfl : sz = ei.size := Nat.eq_of_beq_eq_true hsz'
      obtain ⟨A', n', c', hv', hlo, hlh, hhn, hnc, rfl⟩ := r
      obtain ⟨⟨A, c, hv, hc1, _, _, hrd⟩, _⟩ := hm.ok hh _ hr
      obtain ⟨rfl, rfl, rfl⟩ : A' = A ∧ n' = xs.length ∧ c' = c := by rw [hv] at hv'; injection hv' with a b c; exact ⟨a.symm, b.symm, c.symm⟩
      have hne : ¬ (c' : Int) = lo := by omega
      obtain ⟨ad, rfl, _, _⟩ := hrd (by omega)
      rw [if_neg hne]
      refine ⟨_, ?_, ad, _, _, hv, rfl⟩
      have h2 : n < ((hi'.toNat - lo.toNat : Nat) : Int) := by omega
      have h3 : (lo + n).toNat = lo.toNat + n.toNat := by omega
      simp only [Option.map_some, Instr.indexAt, asIntOf, Sem.run_bind, Sem.run_pure, Result.andThen_ok, run_underlying hu, hsz, h0, h2, and_self, if_true, h3, add_add, Nat.add_zero, Nat.add_mul]
    · cases h
  · rename_i len e hd
    rw [hd] at hsd
    obtain rfl := shape_arr hsd
    split at h
    case h_2 => cases h
    rename_i ei hei
    have hsz := fun w => run_sizeOf (ht e ei hei) w
    split at h
    case h_2 => cases h
    rename_i hh o
    obtain ⟨b, hv, rfl⟩ := r
    split at h <;> (simp only [Option.some.injEq, Prod.mk.injEq] at h; obtain ⟨rfl, rfl⟩ := h)
    · obtain ⟨h0, h1⟩ := ho _ (List.mem_singleton.2 rfl)
      refine ⟨.pointer (some ⟨b, o + n.toNat * ei.size, none⟩), ?_, b, hv, rfl⟩
      simp only [Instr.indexAt, asIntOf, Instr.sureAddr, Sem.run_bind, Sem.run_pure, Result.andThen_ok, run_underlying hu, hsz, h0, h1, and_self, if_true, plain_add]
    · obtain ⟨h0, h1⟩ := ho _ (List.mem_singleton.2 rfl)
      refine ⟨.pointer (some ⟨b, o + n.toNat * ei.size, none⟩), ?_, b, hv, rfl⟩
      simp only [Instr.indexAt, asIntOf, Instr.sureAddr, Sem.run_bind, Sem.run_pure, Result.andThen_ok, run_underlying hu, hsz, h0, h1, and_self, if_true, plain_add]
  · cases h

/-! ### 3. A load -/
def readN : List CK → List (List Value) → Nat → Nat → List LV
  | [], _, _, _ => []
  | k :: ks, xs, i, o => .val (k.read xs i o) :: readN ks xs i (o + 1)
def isIv (k : IntKind) : LV → Bool
  | .val (.int k' _) => IntKind.eqb k k'
  | _ => false
def arrI (cs : List LV) (i : Nat) : Int :=
  match cs.getD i .dead with
  | .val (.int _ n) => n
  | _ => 0
def tdInt : TD → Option IntKind
  | .int k => some k
  | _ => none
def vLoad (tt : TT) (hp : List Res) (t : TypeId) (x : Option AV) : VO :=
  match tt.get t, x.bind asL with
  | some i, some l => match l with
    | .ptr h o => match hp[h]? with
      | some (.blk _ _ cs) =>
        bif i.d.agg then
          bif Nat.beq ((cs.drop o).take i.size).length i.size then some (.sv (.agg ((cs.drop o).take i.size)), []) else none
        else match cs[o]? with
          | some l => some (.sv (.lf l), [])
          | none => none
      | _ => none
    | .pti h o sz n => match hp[h]? with
      | some (.arr _ _ ks xs) => bif Nat.beq sz ks.length then
          bif i.d.agg then
            bif Nat.beq ((ks.drop o).take i.size).length i.size then some (.sv (.agg (readN ((ks.drop o).take i.size) xs n.toNat o)), [0 ≤ n ∧ n < (xs.length : Int)]) else none
          else match ks[o]? with
            | some k => some (aV (k.read xs n.toNat o), [0 ≤ n ∧ n < (xs.length : Int)])
            | none => none
        else none
      | some (.blk _ _ cs) => bif Nat.beq sz 1 then
          match tdInt i.d with
          | some k => bif (cs.drop o).all (isIv k) then some (aV (.int k (arrI (cs.drop o) n.toNat)), [0 ≤ n ∧ n < ((cs.drop o).length : Int)]) else none
          | none => none
        else none
      | _ => none
    | .elt h sz n o => match hp[h]? with
      | some (.row _ _ ks xs) => bif Nat.beq sz ks.length then
          bif i.d.agg then
            bif Nat.beq ((ks.drop o).take i.size).length i.size then some (.sv (.agg (readN ((ks.drop o).take i.size) xs n.toNat o)), [0 ≤ n ∧ n < (xs.length : Int)]) else none
          else match ks[o]? with
            | some k => some (aV (k.read xs n.toNat o), [0 ≤ n ∧ n < (xs.length : Int)])
            | none => none
        else none
      | _ => none
    | _ => none
  | _, _ => none
theorem cell_blk {b : Nat} {vs : Array Value} {T : TypeId} {f : Nat × Nat} (hh : w.heap[b]? = some (.cells vs T f)) (j : Nat) : w.cell? ⟨b, j, none⟩ = vs[j]? := by
  simp [World.cell?, hh]
theorem reps_readN (g : Gam) {xs : List (List Value)} {i : Nat} {ks0 : List CK} (hx : fitsAll ks0 (xs.getD i [])) : ∀ (ks : List CK) (o : Nat), (∀ j, j < ks.length → ks0[o + j]? = ks[j]?) → reps g (readN ks xs i o) ((List.range ks.length).map fun j => cellAt xs i (o + j))
  | [], _, _ => trivial
  | k :: ks, o, h => by
    rw [List.length_cons, List.range_succ_eq_map, List.map_cons, List.map_map]
    refine ⟨?_, ?_⟩
    · show _ = k.read xs i o
      rw [CK.read_eq]
      · rfl
      · exact fitsAll_at o k hx (by have := h 0 (by simp); simpa using this)
    · have := reps_readN g hx ks (o + 1) (fun j hj => by have := h (j + 1) (by simp; omega); rw [show o + 1 + j = o + (j + 1) by omega, this]; simp)
      simpa [Function.comp_def, Nat.add_assoc, Nat.add_comm 1, Nat.succ_eq_add_one] using this
theorem run_loadVar {i : TI} {t : Nat} (ht : TypeFits P t i) (a : Addr) (w : World) : (loadVar t a).run P w = (if i.d.agg then ((loadCells a i.size).run P w).andThen fun cs w' => .ok (.agg cs) w' else (load a).run P w) := by
  unfold loadVar
  simp only [Sem.run_bind, run_isAgg ht, Result.andThen_ok]
  cases i.d.agg <;> simp [run_sizeOf ht]
theorem load_at {a : Addr} {v : Value} (h : w.cell? a = some v) : (load a).run P w = .ok v w := by simp [h]
/-- What is read of the cells of one element. -/
theorem elem_cells {a : Addr} {ks : List CK} {xs : List (List Value)} {n : Nat} (hn : n < xs.length) (hfit : ∀ x ∈ xs, fitsAll ks x) (hc : ∀ o, o < ks.length → w.cell? (a.add o) = some (cellAt xs n o)) (o : Nat) (k : CK) (hk : ks[o]? = some k) :
    w.cell? (a.add o) = some (k.read xs n o) := by
  have ho : o < ks.length := (List.getElem?_eq_some_iff.1 hk).1
  rw [hc o ho, CK.read_eq]
  have hx : xs.getD n [] ∈ xs := by simp [List.getD, List.getElem?_eq_getElem hn]
  exact fitsAll_at o k (hfit _ hx) hk
theorem elem_agg {a : Addr} {ks : List CK} {xs : List (List Value)} {n o s : Nat} (hn : n < xs.length) (hfit : ∀ x ∈ xs, fitsAll ks x) (hc : ∀ o, o < ks.length → w.cell? (a.add o) = some (cellAt xs n o)) (hs : ((ks.drop o).take s).length = s) (g : Gam) :
    ∃ vs, (loadCells (a.add o) s).run P w = .ok vs w ∧ reps g (readN ((ks.drop o).take s) xs n o) vs.toList := by
  have hx : xs.getD n [] ∈ xs := by simp [List.getD, List.getElem?_eq_getElem hn]
  have hl : s = 0 ∨ o + s ≤ ks.length := by simp at hs; omega
  refine ⟨_, run_loadCells w (a.add o) s (fun j => cellAt xs n (o + j)) (fun j hj => ?_), ?_⟩
  · rw [add_add]
    exact hc (o + j) (by omega)
  · have := reps_readN g (hfit _ hx) ((ks.drop o).take s) o (fun j hj => by rw [hs] at hj; simp [hj])
    rw [hs] at this
    simpa using this
theorem arrI_ok {cs : List LV} {vs : List Value} {k : IntKind} {n : Nat} (g : Gam) (h : reps g cs vs) (hall : cs.all (isIv k) = true) (hn : n < cs.length) : vs[n]? = some (.int k (arrI cs n)) := by
  have e : cs[n]? = some cs[n] := List.getElem?_eq_getElem hn
  obtain ⟨v, hv, r⟩ := reps_at h e
  have hi : isIv k cs[n] = true := List.all_eq_true.1 hall _ (List.getElem_mem hn)
  rw [hv]
  have ha : arrI cs n = (match cs[n] with | .val (.int _ n) => n | _ => 0) := by simp [arrI, List.getD, e]
  rw [ha]
  cases hc : cs[n] with
  | val u =>
    rw [hc] at hi r
    cases u <;> simp only [isIv] at hi <;> first | cases hi; done | skip
    obtain rfl := IntKind.eqb_eq hi
    obtain rfl := r
    rfl
  | _ => rw [hc] at hi; cases hi
theorem vLoad_ok (ht : tt.ok P) {hp : List Res} (hm : Mem g hp w) {t : Nat} {x : Option AV} {xv : AV} {u : Value} {av : AV} {obs : List Prop}
    (h : vLoad tt hp t x = some (av, obs)) (ho : ∀ q ∈ obs, q) (hx : x = some xv) (r : arep g xv u) :
    ∃ v, (Instr.loadAt t u).run P w = .ok v w ∧ arep g av v := by
  subst hx
  unfold vLoad at h
  split at h
  case h_2 => cases h
  rename_i i l hi hl
  replace r := asL_rep (by simpa using hl) r
  have hlv := fun a => run_loadVar (ht t i hi) a w
  split at h
  · rename_i hh o
    obtain ⟨b, hv, rfl⟩ := r
    split at h
    case h_2 => cases h
    rename_i own T cs hr
    obtain ⟨b', vs, hv', hb, hrep⟩ := hm.ok hh _ hr
    obtain rfl : b = b' := by rw [hv] at hv'; injection hv' with e; injection e with e; injection e
    simp only [cond_eq_ite] at h
    split at h
    · rename_i hagg
      split at h
      case isFalse => cases h
      rename_i hsz
      simp only [Option.some.injEq, Prod.mk.injEq] at h
      obtain ⟨rfl, rfl⟩ := h
      have hsz' := Nat.eq_of_beq_eq_true hsz
      have hrep' := reps_take i.size (reps_drop o hrep)
      have hlen := reps_length hrep'
      rw [hsz'] at hlen
      refine ⟨_, ?_, _, rfl, hrep'⟩
      have := run_loadCells_list (P := P) w ⟨b, o, none⟩ ((vs.toList.drop o).take i.size) (fun j v hj => by
        rw [plain_add, cell_blk hb]
        rw [List.getElem?_take] at hj
        split at hj
        · rw [List.getElem?_drop, Array.getElem?_toList] at hj; exact hj
        · cases hj)
      rw [hlen] at this
      simp [Instr.loadAt, Instr.sureAddr, hlv, hagg, this]
    · rename_i hagg
      split at h
      case h_2 => cases h
      rename_i l' hl'
      simp only [Option.some.injEq, Prod.mk.injEq] at h
      obtain ⟨rfl, rfl⟩ := h
      obtain ⟨v, hv1, r'⟩ := reps_at hrep hl'
      refine ⟨v, ?_, r'⟩
      have : w.cell? ⟨b, o, none⟩ = some v := by rw [cell_blk hb]; simpa using hv1
      simp [Instr.loadAt, Instr.sureAddr, hlv, hagg, this]
  · rename_i hh o sz n
    obtain ⟨b, hv, rfl⟩ := r
    split at h
    · rename_i own T ks xs hr
      obtain ⟨b', vs, hv', hb, hsize, hfit, hcell⟩ := hm.ok hh _ hr
      obtain rfl : b = b' := by rw [hv] at hv'; injection hv' with e; injection e with e; injection e
      simp only [cond_eq_ite] at h
      split at h
      case isFalse => cases h
      rename_i hsz
      obtain rfl := Nat.eq_of_beq_eq_true hsz
      have hadd : (⟨b, o + n.toNat * ks.length, none⟩ : Addr) = (⟨b, n.toNat * ks.length, none⟩ : Addr).add o := by rw [plain_add, Nat.add_comm]
      have hcell' : n.toNat < xs.length → ∀ o, o < ks.length → w.cell? ((⟨b, n.toNat * ks.length, none⟩ : Addr).add o) = some (cellAt xs n.toNat o) := fun hn o ho => by rw [plain_add, cell_blk hb]; exact hcell _ _ hn ho
      split at h
      · rename_i hagg
        split at h
        case isFalse => cases h
        rename_i hsz2
        simp only [Option.some.injEq, Prod.mk.injEq] at h
        obtain ⟨rfl, rfl⟩ := h
        obtain ⟨h0, h1⟩ := ho _ (List.mem_singleton.2 rfl)
        obtain ⟨vs', hrun, hrep⟩ := elem_agg (P := P) (n := n.toNat) (by omega) hfit (hcell' (by omega)) (Nat.eq_of_beq_eq_true hsz2) g
        refine ⟨.agg vs', ?_, _, rfl, hrep⟩
        rw [hadd]
        simp [Instr.loadAt, Instr.sureAddr, hlv, hagg, hrun]
      · rename_i hagg
        split at h
        case h_2 => cases h
        rename_i k hk
        simp only [Option.some.injEq, Prod.mk.injEq] at h
        obtain ⟨rfl, rfl⟩ := h
        obtain ⟨h0, h1⟩ := ho _ (List.mem_singleton.2 rfl)
        refine ⟨k.read xs n.toNat o, ?_, rfl⟩
        have := elem_cells (n := n.toNat) (by omega) hfit (hcell' (by omega)) o k hk
        rw [hadd]
        simp [Instr.loadAt, Instr.sureAddr, hlv, hagg, this]
    · rename_i own T cs hr
      obtain ⟨b', vs, hv', hb, hrep⟩ := hm.ok hh _ hr
      obtain rfl : b = b' := by rw [hv] at hv'; injection hv' with e; injection e with e; injection e
      simp only [cond_eq_ite] at h
      split at h
      case isFalse => cases h
      rename_i hsz
      obtain rfl := Nat.eq_of_beq_eq_true hsz
      split at h
      case h_2 => cases h
      rename_i k hk
      have hagg : i.d.agg = false := by
        unfold tdInt at hk; split at hk
        · rename_i e; rw [e]; rfl
        · cases hk
      split at h
      case isFalse => cases h
      rename_i hall
      simp only [Option.some.injEq, Prod.mk.injEq] at h
      obtain ⟨rfl, rfl⟩ := h
      obtain ⟨h0, h1⟩ := ho _ (List.mem_singleton.2 rfl)
      have := arrI_ok (n := n.toNat) g (reps_drop o hrep) hall (by omega)
      rw [List.getElem?_drop, Array.getElem?_toList] at this
      refine ⟨_, ?_, rfl⟩
      have hc : w.cell? ⟨b, o + n.toNat * 1, none⟩ = some (.int k (arrI (cs.drop o) n.toNat)) := by rw [cell_blk hb, Nat.mul_one]; exact this
      simp only [Instr.loadAt, Instr.sureAddr, Sem.run_bind, Sem.run_pure, Result.andThen_ok, hlv, hagg, load_at hc]
      rfl
    · cases h
  · rename_i hh sz n o
    obtain ⟨ad, n', c', hv, rfl⟩ := r
    split at h
    case h_2 => cases h
    rename_i own T ks xs hr
    obtain ⟨⟨A, c, hv', hlc, hmx, hfit, hrd⟩, _⟩ := hm.ok hh _ hr
    obtain ⟨rfl, rfl, rfl⟩ : A = some ad ∧ n' = xs.length ∧ c' = c := by rw [hv] at hv'; injection hv' with a b c; exact ⟨a.symm, b, c⟩
    simp only [cond_eq_ite] at h
    split at h
    case isFalse => cases h
    rename_i hsz
    obtain rfl := Nat.eq_of_beq_eq_true hsz
    have hcell' : n.toNat < xs.length → ∀ o, o < ks.length → w.cell? ((ad.add (n.toNat * ks.length)).add o) = some (cellAt xs n.toNat o) := fun hn o ho => by
      obtain ⟨ad', e, _, hc⟩ := hrd (by omega)
      injection e with e
      subst e
      rw [add_add]
      exact hc _ _ hn ho
    rw [← add_add]
    split at h
    · rename_i hagg
      split at h
      case isFalse => cases h
      rename_i hsz2
      simp only [Option.some.injEq, Prod.mk.injEq] at h
      obtain ⟨rfl, rfl⟩ := h
      obtain ⟨h0, h1⟩ := ho _ (List.mem_singleton.2 rfl)
      obtain ⟨vs', hrun, hrep⟩ := elem_agg (P := P) (n := n.toNat) (by omega) hfit (hcell' (by omega)) (Nat.eq_of_beq_eq_true hsz2) g
      refine ⟨.agg vs', ?_, _, rfl, hrep⟩
      simp [Instr.loadAt, Instr.sureAddr, hlv, hagg, hrun]
    · rename_i hagg
      split at h
      case h_2 => cases h
      rename_i k hk
      simp only [Option.some.injEq, Prod.mk.injEq] at h
      obtain ⟨rfl, rfl⟩ := h
      obtain ⟨h0, h1⟩ := ho _ (List.mem_singleton.2 rfl)
      refine ⟨k.read xs n.toNat o, ?_, rfl⟩
      have := elem_cells (n := n.toNat) (by omega) hfit (hcell' (by omega)) o k hk
      simp [Instr.loadAt, Instr.sureAddr, hlv, hagg, this]
  · cases h
end
end Go.Proofs.Ytgicfkgiecgjoaa.RS
