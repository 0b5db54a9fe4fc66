/- RS, part G: operations that make memory. -/
import Derived.Test.YtgicfkgiecgjoaaRsF
import Derived.Lib.ConvBytes
set_option linter.unusedVariables false
set_option linter.unusedSimpArgs false
namespace Go.Proofs.Ytgicfkgiecgjoaa.RS
open Go Go.RowKit
def upd (g : Gam) (n : Nat) (v : Value) : Gam := fun h => bif Nat.beq h n then v else g h
theorem upd_self (g : Gam) (n : Nat) (v : Value) : upd g n v n = v := by simp [upd]
theorem upd_ne (g : Gam) {n h : Nat} (v : Value) (hn : h ≠ n) : upd g n v h = g h := by
  have : Nat.beq h n = false := by
    cases e : Nat.beq h n
    · rfl
    · exact absurd (Nat.eq_of_beq_eq_true e) hn
  simp [upd, this]
def isNot (n h : Nat) : Bool := !(Nat.beq h n)
theorem isNot_ne {n h : Nat} (hp : isNot n h = true) : h ≠ n := by
  rintro rfl
  simp [isNot] at hp
theorem upd_on (g : Gam) (n : Nat) (v : Value) : ∀ h, isNot n h = true → upd g n v h = g h := fun h hp => upd_ne g v (isNot_ne hp)
def cks1 : TD → List CK
  | .int k => [.int k]
  | .bool => [.bool]
  | .str => [.str]
  | _ => [.any]
def cksF (tt : TT) : List (TypeId × Nat) → List CK
  | [] => []
  | (t, _) :: r => (match tt.get t with
    | some i => bif Nat.beq i.size 1 then cks1 i.d else List.replicate i.size .any
    | none => []) ++ cksF tt r
/-- The kinds of a type's cells. -/
def cksOf (tt : TT) (t : TypeId) : List CK :=
  match tt.get t with
  | some i => match i.d with
    | .st fs => cksF tt fs
    | .arr _ _ => List.replicate i.size .any
    | d => cks1 d
  | none => []
def fitsB : List CK → List Value → Bool
  | [], [] => true
  | k :: ks, v :: vs => (match k with | .any => v.oneCell' | k => fitB k v) && fitsB ks vs
  | _, _ => false
theorem fitB_fits {k : CK} {v : Value} (h : fitB k v = true) : k.fits v := by
  cases k <;> cases v <;> simp only [fitB] at h <;> first | cases h; done | skip
  · obtain rfl := IntKind.eqb_eq h; exact ⟨_, rfl⟩
  · exact ⟨_, rfl⟩
  · exact ⟨_, rfl⟩
theorem fitsB_fits : ∀ {ks : List CK} {vs : List Value}, fitsB ks vs = true → fitsAll ks vs
  | [], [], _ => trivial
  | k :: ks, v :: vs, h => by
    simp only [fitsB, Bool.and_eq_true] at h
    refine ⟨?_, fitsB_fits h.2⟩
    cases k with
    | any => exact h.1
    | int k => exact fitB_fits h.1
    | bool => exact fitB_fits h.1
    | str => exact fitB_fits h.1
  | [], _ :: _, h => by cases h
  | _ :: _, [], h => by cases h
def valsL : List LV → Option (List Value)
  | [] => some []
  | .val v :: r => match valsL r with
    | some vs => some (v :: vs)
    | none => none
  | _ :: _ => none
theorem valsL_eq : ∀ {ls : List LV} {vs : List Value}, valsL ls = some vs → ls = vs.map .val
  | [], vs, h => by obtain rfl := Option.some.inj h; rfl
  | l :: ls, vs, h => by
    cases l <;> simp only [valsL] at h <;> first | cases h; done | skip
    split at h
    · rename_i us hu
      obtain rfl := Option.some.inj h
      rw [valsL_eq hu]; rfl
    · cases h
def chunks (sz : Nat) (cs : List Value) (n : Nat) : List (List Value) := (List.range n).map fun i => (cs.drop (i * sz)).take sz
def partsL (lk : Operand → Option AV) (ks : List CK) : Nat → List (Nat × Operand) → Option (List (List Value))
  | _, [] => some []
  | n, (j, x) :: r => match (lk x).bind cellsOf with
    | some p => match valsL p with
      | some vs => bif Nat.beq j n && fitsB ks vs then
          match partsL lk ks (n + 1) r with
          | some xs => some (vs :: xs)
          | none => none
        else none
      | none => none
    | none => none
abbrev NO := Option (AV × Res × List Prop)
def strVals (s : ByteArray) : List (List Value) := s.data.toList.map fun b => [Value.int .u8 b.toNat]
def evalN (tt : TT) (hp : List Res) (lk : Operand → Option AV) (m nh : Nat) (op : Op) : NO :=
  match op with
  | .alloc T => match tt.get T with
    | some i => match m with
      | 0 => some (.sv (.lf (.ptr nh 0)), .blk true T (zeroCells i.zero), [])
      | _ => match i.d with
        | .arr n e => match tt.get e with
          | some ei => bif Nat.beq (cksOf tt e).length ei.size && (chunks ei.size i.zero.cells.toList n).all (fitsB (cksOf tt e)) && Nat.beq i.zero.cells.size (n * ei.size) then
              some (.sv (.lf (.ptr nh 0)), .arr true T (cksOf tt e) (chunks ei.size i.zero.cells.toList n), []) else none
          | none => none
        | _ => none
    | none => none
  | .box T x => match (lk x).bind cellsOf with
    | some cs => bif cs.all (LV.on (isNot nh)) then some (.sv (.lf (.ptr nh 0)), .blk true T cs, []) else none
    | none => none
  | .buildSlice t n parts => match tt.get t with
    | some i => match i.d with
      | .sl e => match tt.get e with
        | some ei => match partsL lk (cksOf tt e) 0 parts.toList with
          | some xs => bif Nat.beq (cksOf tt e).length ei.size && Nat.beq xs.length n && Nat.ble (n * ei.size) 16777216 && Nat.beq ei.zero.cells.size ei.size && Nat.blt 0 ei.size then
              some (.sv (.lf (.row nh)), .row true e (cksOf tt e) xs, []) else none
          | none => none
        | none => none
      | _ => none
    | none => none
  | .makeSlice t l c => match tt.get t, (lk l).bind asI, (lk c).bind asI with
    | some i, some (_, n), some (_, k) => match i.d with
      | .sl e => match tt.get e with
        | some ei => bif fitsB (cksOf tt e) ei.zero.cells.toList && Nat.beq (cksOf tt e).length ei.size && Nat.blt 0 ei.size then
            some (.sv (.lf (.row nh)), .row true e (cksOf tt e) (List.replicate n.toNat ei.zero.cells.toList), [0 ≤ n ∧ n ≤ k ∧ k * ei.bytes ≤ 281474976710656 ∧ k ≤ 9223372036854775807]) else none
        | none => none
      | _ => none
    | _, _, _ => none
  | .convert s d x => match tt.get s, tt.get d with
    | some si, some di => match di.d with
      | .sl e => match tt.get e, (lk x).bind asS with
        | some ei, some b => match ei.d with
          | .int .u8 => some (.sv (.lf (.row nh)), .row true e [.int .u8] (strVals b), [(b.size : Int) ≤ 9223372036854775806])
          | _ => none
        | _, _ => none
      | _ => none
    | _, _ => none
  | _ => none
/-- What a new resource owes. -/
structure NewOK (g : Gam) (w w' : World) (nh : Nat) (r : Res) (av : AV) (v : Value) (gv : Value) : Prop where
  below : Below w.heap.size w w'
  av : arep (upd g nh gv) av v
  ok : r.ok (upd g nh gv) w' gv
  at_ : ∀ b, r.at gv b → w.heap.size ≤ b
section
variable {P : Program} {tt : TT} {w : World} {g : Gam} {av : AV} {r : Res} {obs : List Prop}
theorem below_alloc (w : World) (o : Obj) : Below w.heap.size w (w.alloc o) := (Below.refl _ _).alloc (Nat.le_refl _) o
theorem heap_alloc_new (w : World) (o : Obj) : (w.alloc o).heap[w.heap.size]? = some o := by simp [World.alloc, -World.alloc_eq]
theorem chunk_cell {sz n : Nat} {cs : List Value} (hn : cs.length = n * sz) {i o : Nat} (hi : i < n) (ho : o < sz) : cs[i * sz + o]? = some (cellAt (chunks sz cs n) i o) := by
  have e : (chunks sz cs n).getD i [] = (cs.drop (i * sz)).take sz := by simp [chunks, List.getD, hi]
  have hlt : i * sz + o < cs.length := by
    rw [hn]
    calc i * sz + o < i * sz + sz := by omega
      _ = (i + 1) * sz := by rw [Nat.add_mul, Nat.one_mul]
      _ ≤ n * sz := Nat.mul_le_mul_right _ hi
  have : ((cs.drop (i * sz)).take sz)[o]? = cs[i * sz + o]? := by rw [List.getElem?_take, if_pos ho, List.getElem?_drop]
  rw [cellAt, e, List.getD, this, List.getElem?_eq_getElem hlt]
  rfl
/-- The cells of a list of elements of one size. -/
theorem flat_cell {sz : Nat} : ∀ {xs : List (List Value)} (h : ∀ x ∈ xs, x.length = sz) {i o : Nat}, i < xs.length → o < sz → xs.flatten[i * sz + o]? = some (cellAt xs i o)
  | x :: xs, h, 0, o, hi, ho => by
    have hx := h x (by simp)
    have hlt : o < x.length := by omega
    rw [List.flatten_cons, Nat.zero_mul, Nat.zero_add, List.getElem?_append_left hlt, List.getElem?_eq_getElem hlt]
    simp [cellAt, List.getD, List.getElem?_eq_getElem hlt]
  | x :: xs, h, i + 1, o, hi, ho => by
    have hx := h x (by simp)
    have := flat_cell (xs := xs) (fun y hy => h y (by simp [hy])) (i := i) (o := o) (by simpa using hi) ho
    rw [List.flatten_cons, show (i + 1) * sz + o = x.length + (i * sz + o) by rw [hx, Nat.add_mul]; omega, List.getElem?_append_right (by omega), Nat.add_sub_cancel_left, this]
    simp [cellAt]
  | [], h, i, o, hi, ho => by simp at hi
theorem flat_length {sz : Nat} : ∀ {xs : List (List Value)} (h : ∀ x ∈ xs, x.length = sz), xs.flatten.length = xs.length * sz
  | [], h => by simp
  | x :: xs, h => by
    rw [List.flatten_cons, List.length_append, h x (by simp), flat_length (fun y hy => h y (by simp [hy])), List.length_cons, Nat.add_mul]; omega
/-- A new row: whatever stands behind its elements. -/
theorem row_new {w' : World} {e : TypeId} {ks : List CK} {xs : List (List Value)} {cur : Array Value} {f : Nat × Nat} {b c : Nat} (hb : w'.heap[b]? = some (.cells cur e f)) (hfit : ∀ x ∈ xs, fitsAll ks x)
    (hc : ∀ i o, i < xs.length → o < ks.length → cur[i * ks.length + o]? = some (cellAt xs i o)) (hn : xs.length ≤ c) (hm : c ≤ maxLen) (hs : cur.size = c * ks.length) (hf : f.2 = 0 ∨ cur.size ≤ f.1) (own : Bool) (g : Gam) :
    (Res.row own e ks xs).ok g w' (.slice (some ⟨b, 0, none⟩) xs.length c) := by
  refine ⟨⟨_, _, rfl, hn, hm, hfit, fun _ => ⟨_, rfl, heap_lt hb, fun i o hi ho => ?_⟩⟩, fun _ A c' e' hc' => ?_⟩
  · rw [plain_add, Nat.zero_add, cell_blk hb]
    exact hc i o hi ho
  · injection e' with e1 e2 e3
    subst e1 e3
    exact ⟨b, cur, f, rfl, hb, hs, hf⟩
theorem partsL_ok {lk : Operand → Option AV} {a : Act} (hl : LkOK g lk a) {ks : List CK} {sz : Nat} (hsz : ks.length = sz) : ∀ (parts : List (Nat × Operand)) (n : Nat) (xs : List (List Value)) (cur : Array Value),
    partsL lk ks n parts = some xs → cur.size = (n + xs.length) * sz →
    ∃ cur', Instr.fill (fun i => some (i * sz, sz)) cur (parts.map fun x => (x.1, a.eval x.2)) = some cur' ∧ cur'.toList = cur.toList.take (n * sz) ++ xs.flatten ∧ (∀ x ∈ xs, fitsAll ks x)
  | [], n, xs, cur, h, hs => by
    obtain rfl := Option.some.inj h
    refine ⟨cur, rfl, ?_, by simp⟩
    simp at hs
    simp [List.take_of_length_le, hs]
  | (j, x) :: r, n, xs, cur, h, hs => by
    simp only [partsL] at h
    split at h
    case h_2 => cases h
    rename_i p hp
    split at h
    case h_2 => cases h
    rename_i vs hvs
    simp only [cond_eq_ite] at h
    split at h
    case isFalse => cases h
    rename_i hb
    simp only [Bool.and_eq_true] at hb
    obtain rfl := Nat.eq_of_beq_eq_true hb.1
    have hfit := fitsB_fits hb.2
    split at h
    case h_2 => cases h
    rename_i ys hys
    obtain rfl := Option.some.inj h
    obtain ⟨xv, hx, hp⟩ := bind_some hp
    have hrp := cellsOf_rep hp (hl x xv hx)
    obtain rfl := valsL_eq hvs
    have hcells := reps_of_vals hrp
    have hlen : vs.length = sz := by rw [fitsAll_length hfit, hsz]
    have hcs : (a.eval x).cells.size = sz := by rw [← Array.length_toList, hcells, hlen]
    simp only [List.length_cons] at hs
    have hle : j * sz + sz ≤ cur.size := by
      rw [hs, show (j + (ys.length + 1)) * sz = j * sz + sz + ys.length * sz by rw [Nat.add_mul, Nat.add_mul]; omega]
      omega
    have hset : ((a.eval x).cells.zipIdx.foldl (fun cs (y : Value × Nat) => cs.setIfInBounds (j * sz + y.2) y.1) cur).toList = sp cur.toList (j * sz) vs := by
      have := foldl_set (a.eval x).cells.toList 0 (j * sz) cur (by simp; omega)
      rw [Nat.add_zero, hcells] at this
      rw [← this, ← Array.foldl_toList, Array.toList_zipIdx, hcells]
    obtain ⟨cur', h1, h2, h3⟩ := partsL_ok hl hsz r (j + 1) ys ((a.eval x).cells.zipIdx.foldl (fun cs (y : Value × Nat) => cs.setIfInBounds (j * sz + y.2) y.1) cur) hys (by
      rw [← Array.length_toList, hset]
      simp [sp, hlen]
      have : j * sz ≤ cur.size := by omega
      rw [Nat.min_eq_left this, hs, Nat.add_mul, Nat.add_mul, Nat.add_mul, Nat.add_mul, Nat.one_mul]
      omega)
    refine ⟨cur', ?_, ?_, ?_⟩
    · simp only [List.map_cons, Instr.fill]
      rw [if_neg]
      · exact h1
      · simp only [Bool.or_eq_true, decide_eq_true_eq, not_or, ne_eq, Bool.not_eq_true, decide_eq_false_iff_not, gt_iff_lt]
        constructor <;> omega
    · rw [h2, hset, List.flatten_cons, ← List.append_assoc]
      congr 1
      have hjl : j * sz ≤ cur.toList.length := by simp; omega
      simp only [sp]
      rw [Nat.add_mul, Nat.one_mul, List.take_append_of_le_length (by simp [hlen]; omega), List.take_of_length_le (by simp [hlen]; omega)]
    · intro y hy
      rcases List.mem_cons.1 hy with rfl | hy
      · exact hfit
      · exact h3 y hy
end
end Go.Proofs.Ytgicfkgiecgjoaa.RS
