/- RS, part B: the operations that give a value and leave memory alone: an evaluator, and that it is right. -/
import Derived.Test.YtgicfkgiecgjoaaRsA
set_option linter.unusedVariables false
set_option linter.unusedSimpArgs false
namespace Go.Proofs.Ytgicfkgiecgjoaa.RS
open Go

/-! ### 1. A table of types -/
inductive TD where
  | int (k : IntKind)
  | bool
  | str
  | sl (e : TypeId)
  | arr (n : Nat) (e : TypeId)
  | st (fs : List (TypeId × Nat))
  | ptr (e : TypeId)
  | oth
def shapeOf : TypeDesc → TD
  | .bool => .bool
  | .int k => .int k
  | .string => .str
  | .slice e => .sl e
  | .array n e => .arr n e
  | .struct fs => .st (fs.toList.map fun f => (f.type, f.offset))
  | .pointer e => .ptr e
  | _ => .oth
structure TI where
  d : TD
  size : Nat
  bytes : Nat
  zero : Value
  eqk : List CK := []
/-- Two cells, compared. -/
def eqc : Value → Value → Bool
  | .int _ a, .int _ b => decide (a = b)
  | .bool a, .bool b => decide (a = b)
  | .string a, .string b => decide (a = b)
  | _, _ => false
def eqL : List Value → List Value → Bool
  | a :: as, b :: bs => eqc a b && eqL as bs
  | _, _ => true
/-- Values of the type are compared cell by cell. -/
def EqOK (P : Program) (t : Nat) (ks : List CK) : Prop :=
  ∀ (w : World) (xs ys : List Value), fitsAll ks xs → fitsAll ks ys → (Op.equal t (.agg xs.toArray) (.agg ys.toArray)).run P w = .ok (eqL xs ys) w ∧
    ∀ op x y, (eqGuard op t x y (.agg xs.toArray) (.agg ys.toArray)).run P w = .ok () w
abbrev TT := List (Nat × TI)
def TT.get : TT → Nat → Option TI
  | [], _ => none
  | e :: r, t => bif Nat.beq e.1 t then some e.2 else TT.get r t
def TypeFits (P : Program) (t : Nat) (i : TI) : Prop :=
  (P.underlying t).map shapeOf = some i.d ∧ (P.info? t).map (fun j => (j.size, j.bytes, j.zero)) = some (i.size, i.bytes, some i.zero) ∧ (i.eqk ≠ [] → EqOK P t i.eqk)
def TT.ok (P : Program) (tt : TT) : Prop := ∀ t i, tt.get t = some i → TypeFits P t i
theorem TT.ok_nil (P : Program) : TT.ok P [] := fun _ _ h => by cases h
theorem TT.ok_cons {P : Program} {t : Nat} {i : TI} {tt : TT} (h1 : (P.underlying t).map shapeOf = some i.d) (h2 : (P.info? t).map (fun j => (j.size, j.bytes, j.zero)) = some (i.size, i.bytes, some i.zero)) (h3 : i.eqk ≠ [] → EqOK P t i.eqk) (h : TT.ok P tt) :
    TT.ok P ((t, i) :: tt) := fun s j hs => by
  simp only [TT.get, cond_eq_ite] at hs
  split at hs
  · rename_i e
    obtain rfl : t = s := Nat.eq_of_beq_eq_true e
    obtain rfl := Option.some.inj hs
    exact ⟨h1, h2, h3⟩
  · exact h s j hs
section
variable {P : Program} {tt : TT} {t : Nat} {i : TI}
theorem TypeFits.und (h : TypeFits P t i) : ∃ d, P.underlying t = some d ∧ shapeOf d = i.d := by
  have := h.1
  cases e : P.underlying t with
  | none => simp [e] at this
  | some d => exact ⟨d, rfl, by simpa [e] using this⟩
theorem TypeFits.info (h : TypeFits P t i) : ∃ j, P.info? t = some j ∧ j.size = i.size ∧ j.bytes = i.bytes ∧ j.zero = some i.zero := by
  have := h.2.1
  cases e : P.info? t with
  | none => simp [e] at this
  | some d => simp [e] at this; exact ⟨d, rfl, this.1, this.2.1, this.2.2⟩
theorem shape_int {d : TypeDesc} {k : IntKind} (h : shapeOf d = .int k) : d = .int k := by cases d <;> simp [shapeOf] at h; subst h; rfl
theorem shape_bool {d : TypeDesc} (h : shapeOf d = .bool) : d = .bool := by cases d <;> simp [shapeOf] at h; rfl
theorem shape_str {d : TypeDesc} (h : shapeOf d = .str) : d = .string := by cases d <;> simp [shapeOf] at h; rfl
theorem shape_sl {d : TypeDesc} {e : TypeId} (h : shapeOf d = .sl e) : d = .slice e := by cases d <;> simp [shapeOf] at h; subst h; rfl
theorem shape_arr {d : TypeDesc} {n : Nat} {e : TypeId} (h : shapeOf d = .arr n e) : d = .array n e := by cases d <;> simp [shapeOf] at h; obtain ⟨rfl, rfl⟩ := h; rfl
theorem shape_ptr {d : TypeDesc} {e : TypeId} (h : shapeOf d = .ptr e) : d = .pointer e := by cases d <;> simp [shapeOf] at h; subst h; rfl
theorem shape_st {d : TypeDesc} {fs : List (TypeId × Nat)} (h : shapeOf d = .st fs) : ∃ gs, d = .struct gs ∧ fs = gs.toList.map fun f => (f.type, f.offset) := by
  cases d <;> simp [shapeOf] at h; exact ⟨_, rfl, h.symm⟩
@[simp] theorem run_underlying {w : World} {d : TypeDesc} (h : P.underlying t = some d) : (underlying t).run P w = .ok d w := by
  simp [Go.underlying, h]
theorem run_sizeOf (h : TypeFits P t i) (w : World) : (sizeOf t).run P w = .ok i.size w := by
  obtain ⟨j, e, h1, _⟩ := h.info
  simp [sizeOf, typeInfo, e, h1]
theorem run_zero (h : TypeFits P t i) (w : World) : (zeroValue t).run P w = .ok i.zero w := by
  obtain ⟨j, e, _, _, h1⟩ := h.info
  simp [zeroValue, typeInfo, e, h1]
end
def TD.agg : TD → Bool
  | .st _ | .arr _ _ => true
  | _ => false
theorem run_isAgg {P : Program} {t : Nat} {i : TI} (h : TypeFits P t i) (w : World) : (isAgg t).run P w = .ok i.d.agg w := by
  obtain ⟨d, e, hs⟩ := h.und
  simp only [isAgg, Sem.run_bind, run_underlying e, Result.andThen_ok, ← hs]
  cases d <;> rfl

/-! ### 2. Small readers -/
abbrev aV (v : Value) : AV := .sv (.lf (.val v))
abbrev aI (n : Int) : AV := .sv (.lf (.val (.int .i64 n)))
abbrev aB (b : Bool) : AV := .sv (.lf (.val (.bool b)))
abbrev aS (s : ByteArray) : AV := .sv (.lf (.val (.string s)))
def asI : AV → Option (IntKind × Int)
  | .sv (.lf (.val (.int k n))) => some (k, n)
  | _ => none
def asB : AV → Option Bool
  | .sv (.lf (.val (.bool b))) => some b
  | _ => none
def asS : AV → Option ByteArray
  | .sv (.lf (.val (.string s))) => some s
  | _ => none
def asL : AV → Option LV
  | .sv (.lf l) => some l
  | _ => none
def lvs : AV → Option (List LV)
  | .sv (.lf l) => some [l]
  | .sv (.agg cs) => some cs
  | _ => none
theorem asI_rep {g : Gam} {av : AV} {u : Value} {k : IntKind} {n : Int} (h : asI av = some (k, n)) (r : arep g av u) : u = .int k n := by
  unfold asI at h; split at h <;> simp at h; obtain ⟨rfl, rfl⟩ := h; exact r
theorem asB_rep {g : Gam} {av : AV} {u : Value} {b : Bool} (h : asB av = some b) (r : arep g av u) : u = .bool b := by
  unfold asB at h; split at h <;> simp at h; subst h; exact r
theorem asS_rep {g : Gam} {av : AV} {u : Value} {b : ByteArray} (h : asS av = some b) (r : arep g av u) : u = .string b := by
  unfold asS at h; split at h <;> simp at h; subst h; exact r
theorem asL_rep {g : Gam} {av : AV} {u : Value} {l : LV} (h : asL av = some l) (r : arep g av u) : rep g l u := by
  unfold asL at h; split at h <;> simp at h; subst h; exact r
def IntKind.eqb : IntKind → IntKind → Bool
  | .i8, .i8 | .i16, .i16 | .i32, .i32 | .i64, .i64 | .u8, .u8 | .u16, .u16 | .u32, .u32 | .u64, .u64 => true
  | _, _ => false
theorem IntKind.eqb_eq {a b : IntKind} (h : IntKind.eqb a b = true) : a = b := by cases a <;> cases b <;> first | rfl | cases h
theorem IntKind.eqb_ne {a b : IntKind} (h : IntKind.eqb a b = false) : a ≠ b := by intro e; subst e; cases a <;> cases h

abbrev VO := Option (AV × List Prop)
/-- A number is of its kind, in numbers that linear arithmetic sees. -/
def inK : IntKind → Int → Prop
  | .i8, n => -128 ≤ n ∧ n ≤ 127
  | .i16, n => -32768 ≤ n ∧ n ≤ 32767
  | .i32, n => -2147483648 ≤ n ∧ n ≤ 2147483647
  | .i64, n => -9223372036854775808 ≤ n ∧ n ≤ 9223372036854775807
  | .u8, n => 0 ≤ n ∧ n ≤ 255
  | .u16, n => 0 ≤ n ∧ n ≤ 65535
  | .u32, n => 0 ≤ n ∧ n ≤ 4294967295
  | .u64, n => 0 ≤ n ∧ n ≤ 18446744073709551615
theorem wrap_in {k : IntKind} {n : Int} (h : inK k n) : k.wrap n = n := by
  cases k <;> simp only [inK] at h
  · exact IntWalk.i8_in n h
  · exact IntWalk.i16_in n h
  · exact IntWalk.i32_in n h
  · exact IntWalk.i64_in n h
  · exact IntWalk.u8_in n h
  · exact IntWalk.u16_in n h
  · exact IntWalk.u32_in n h
  · exact IntWalk.u64_in n h
def bitop (op : BinOp) (k : IntKind) (x y : Int) : Int :=
  match op with
  | .and => k.wrap ((BitVec.ofInt k.bits x &&& BitVec.ofInt k.bits y).toNat : Int)
  | .or => k.wrap ((BitVec.ofInt k.bits x ||| BitVec.ofInt k.bits y).toNat : Int)
  | .xor => k.wrap ((BitVec.ofInt k.bits x ^^^ BitVec.ofInt k.bits y).toNat : Int)
  | _ => k.wrap ((BitVec.ofInt k.bits x &&& ~~~ (BitVec.ofInt k.bits y)).toNat : Int)
def cmpV (m : Nat) (p : Prop) [Decidable p] : VO :=
  match m with
  | 0 => some (aB (decide p), [])
  | 1 => some (aB true, [p])
  | _ => some (aB false, [¬ p])
def intBin (op : BinOp) (k : IntKind) (m : Nat) (x y : Int) : VO :=
  match op with
  | .add => match m with | 0 => some (aV (.int k (x + y)), [inK k (x + y)]) | _ => some (aV (.int k (k.wrap (x + y))), [])
  | .sub => match m with | 0 => some (aV (.int k (x - y)), [inK k (x - y)]) | _ => some (aV (.int k (k.wrap (x - y))), [])
  | .mul => match m with | 0 => some (aV (.int k (x * y)), [inK k (x * y)]) | _ => some (aV (.int k (k.wrap (x * y))), [])
  | .quo => match m with | 0 => some (aV (.int k (x / y)), [0 ≤ x ∧ inK k (x / y) ∧ 0 < y]) | _ => some (aV (.int k (k.wrap (x.tdiv y))), [y ≠ 0])
  | .rem => match m with | 0 => some (aV (.int k (x % y)), [0 ≤ x ∧ 0 < y]) | _ => some (aV (.int k (x.tmod y)), [y ≠ 0])
  | .and => some (aV (.int k (bitop .and k x y)), [])
  | .or => some (aV (.int k (bitop .or k x y)), [])
  | .xor => some (aV (.int k (bitop .xor k x y)), [])
  | .andNot => some (aV (.int k (bitop .andNot k x y)), [])
  | .eql => cmpV m (x = y)
  | .neq => cmpV m (¬ x = y)
  | .lss => cmpV m (x < y)
  | .leq => cmpV m (x ≤ y)
  | .gtr => cmpV m (y < x)
  | .geq => cmpV m (y ≤ x)
  | _ => none
def intSh (op : BinOp) (k : IntKind) (m : Nat) (x y : Int) : VO :=
  match op with
  | .shl => match m with | 0 => some (aV (.int k (x * 2 ^ y.toNat)), [0 ≤ y ∧ y ≤ k.bits ∧ inK k (x * 2 ^ y.toNat)]) | _ => some (aV (.int k (k.wrap (x * 2 ^ (min y.toNat k.bits)))), [0 ≤ y])
  | .shr => match m with | 0 => some (aV (.int k (x / 2 ^ y.toNat)), [0 ≤ y ∧ y ≤ k.bits]) | _ => some (aV (.int k (x / 2 ^ (min y.toNat k.bits))), [0 ≤ y])
  | _ => none
def strBin (op : BinOp) (m : Nat) (x y : ByteArray) : VO :=
  match op with
  | .add => some (aS (x ++ y), [((x.size + y.size : Nat) : Int) ≤ 9223372036854775807])
  | .eql => cmpV m (x = y)
  | .neq => cmpV m (¬ x = y)
  | _ => none
def boolBin (op : BinOp) (m : Nat) (x y : Bool) : VO :=
  match op with
  | .eql => cmpV m (x = y)
  | .neq => cmpV m (¬ x = y)
  | _ => none
theorem cmpV_ok {m : Nat} {p : Prop} [Decidable p] {av : AV} {obs : List Prop} (h : cmpV m p = some (av, obs)) (ho : ∀ q ∈ obs, q) (g : Gam) : arep g av (.bool (decide p)) := by
  unfold cmpV at h
  split at h <;> (simp only [Option.some.injEq, Prod.mk.injEq] at h; obtain ⟨rfl, rfl⟩ := h)
  · rfl
  · have : p := ho p (by simp); simp [arep, srep, rep, this]
  · have : ¬ p := ho (¬ p) (by simp); simp [arep, srep, rep, this]

section
variable {P : Program} {w : World} {g : Gam}
theorem tdiv_eq {x y : Int} (hx : 0 ≤ x) (hy : 0 < y) : x.tdiv y = x / y := by rw [Int.tdiv_eq_ediv_of_nonneg hx]
theorem tmod_eq {x y : Int} (hx : 0 ≤ x) : x.tmod y = x % y := by rw [Int.tmod_eq_emod_of_nonneg hx]
theorem intBin_ok {op : BinOp} {k : IntKind} {m : Nat} {x y : Int} {av : AV} {obs : List Prop} (hsh : op ≠ .shl ∧ op ≠ .shr) (h : intBin op k m x y = some (av, obs)) (ho : ∀ q ∈ obs, q) (T : TypeId) :
    ∃ v, (binOp op T (.int k x) (.int k y)).run P w = .ok v w ∧ arep g av v := by
  obtain ⟨hl, hr⟩ := hsh
  cases op <;> simp only [intBin] at h
  case add | sub | mul =>
    split at h <;> (simp only [Option.some.injEq, Prod.mk.injEq] at h; obtain ⟨rfl, rfl⟩ := h)
    · have hk := ho _ (List.mem_singleton.2 rfl)
      refine ⟨_, by simp only [binOp]; simp only [Op.intArith, ne_eq, not_true_eq_false, if_false]; rfl, ?_⟩
      simp [arep, srep, rep, wrap_in hk]
    · exact ⟨_, by simp only [binOp]; simp [Op.intArith], rfl⟩
  case quo =>
    split at h <;> (simp only [Option.some.injEq, Prod.mk.injEq] at h; obtain ⟨rfl, rfl⟩ := h)
    · obtain ⟨h0, h1, h2⟩ := ho _ (List.mem_singleton.2 rfl)
      refine ⟨.int k (x / y), ?_, rfl⟩
      have : y ≠ 0 := by omega
      simp [binOp, Op.intDiv, this, tdiv_eq h0 h2, wrap_in h1]
    · have : y ≠ 0 := ho _ (List.mem_singleton.2 rfl)
      refine ⟨_, ?_, rfl⟩
      simp [binOp, Op.intDiv, this]
  case rem =>
    split at h <;> (simp only [Option.some.injEq, Prod.mk.injEq] at h; obtain ⟨rfl, rfl⟩ := h)
    · obtain ⟨h0, h2⟩ := ho _ (List.mem_singleton.2 rfl)
      refine ⟨.int k (x % y), ?_, rfl⟩
      have : y ≠ 0 := by omega
      simp [binOp, Op.intDiv, this, tmod_eq h0]
    · have : y ≠ 0 := ho _ (List.mem_singleton.2 rfl)
      refine ⟨_, ?_, rfl⟩
      simp [binOp, Op.intDiv, this]
  case and | or | xor | andNot =>
    simp only [Option.some.injEq, Prod.mk.injEq] at h; obtain ⟨rfl, rfl⟩ := h
    exact ⟨_, by simp only [binOp]; simp only [Op.intBits, ne_eq, not_true_eq_false, if_false]; rfl, rfl⟩
  case eql =>
    refine ⟨.bool (decide (x = y)), ?_, cmpV_ok h ho g⟩
    simp [binOp, Op.intCmp]; rfl
  case neq =>
    refine ⟨.bool (decide (¬ x = y)), ?_, cmpV_ok h ho g⟩
    simp [binOp, Op.intCmp, bne]; rfl
  case lss | leq | gtr | geq =>
    exact ⟨_, by simp [binOp, Op.intCmp], cmpV_ok h ho g⟩
  all_goals cases h
theorem fdiv_pow (x : Int) (n : Nat) : x.fdiv (2 ^ n) = x / 2 ^ n := by
  rw [Int.fdiv_eq_ediv_of_nonneg _ (by exact Int.le_of_lt (Int.pow_pos (by decide)))]
theorem intSh_ok {op : BinOp} {k k' : IntKind} {m : Nat} {x y : Int} {av : AV} {obs : List Prop} (h : intSh op k m x y = some (av, obs)) (ho : ∀ q ∈ obs, q) (T : TypeId) :
    ∃ v, (binOp op T (.int k x) (.int k' y)).run P w = .ok v w ∧ arep g av v := by
  cases op <;> simp only [intSh] at h <;> try cases h
  case shl =>
    split at h <;> (simp only [Option.some.injEq, Prod.mk.injEq] at h; obtain ⟨rfl, rfl⟩ := h)
    · obtain ⟨h0, h1, h2⟩ := ho _ (List.mem_singleton.2 rfl)
      refine ⟨.int k (x * 2 ^ y.toNat), ?_, rfl⟩
      have hm : min y.toNat k.bits = y.toNat := by omega
      have : ¬ y < 0 := by omega
      simp [binOp, Op.shift, this, hm, wrap_in h2]
    · have h0 : 0 ≤ y := ho _ (List.mem_singleton.2 rfl)
      have : ¬ y < 0 := by omega
      refine ⟨_, ?_, rfl⟩
      simp [binOp, Op.shift, this]
  case shr =>
    split at h <;> (simp only [Option.some.injEq, Prod.mk.injEq] at h; obtain ⟨rfl, rfl⟩ := h)
    · obtain ⟨h0, h1⟩ := ho _ (List.mem_singleton.2 rfl)
      refine ⟨.int k (x / 2 ^ y.toNat), ?_, rfl⟩
      have hm : min y.toNat k.bits = y.toNat := by omega
      have : ¬ y < 0 := by omega
      simp [binOp, Op.shift, this, hm, fdiv_pow]
    · have h0 : 0 ≤ y := ho _ (List.mem_singleton.2 rfl)
      have : ¬ y < 0 := by omega
      refine ⟨_, ?_, rfl⟩
      simp [binOp, Op.shift, this, fdiv_pow]
theorem toList_beq (x y : ByteArray) : (x.toList == y.toList) = decide (x = y) := by
  have h : x.toList = y.toList ↔ x = y := by
    rw [ByteArray.toList_eq, ByteArray.toList_eq]
    constructor
    · intro e; cases x; cases y; simpa using e
    · rintro rfl; rfl
  by_cases e : x = y
  · simp [e]
  · have : ¬ x.toList = y.toList := fun k => e (h.1 k)
    simp [e, this]
theorem strBin_ok {op : BinOp} {m : Nat} {x y : ByteArray} {av : AV} {obs : List Prop} (h : strBin op m x y = some (av, obs)) (ho : ∀ q ∈ obs, q) (T : TypeId) :
    ∃ v, (binOp op T (.string x) (.string y)).run P w = .ok v w ∧ arep g av v := by
  cases op <;> simp only [strBin] at h <;> try cases h
  case add =>
    have h0 := ho _ (List.mem_singleton.2 rfl)
    refine ⟨.string (x ++ y), ?_, rfl⟩
    have : ¬ (IntKind.i64.max < ((x.size + y.size : Nat) : Int)) := by simp; omega
    simp only [binOp, Op.stringOp, gt_iff_lt, if_neg this]
    rfl
  case eql =>
    refine ⟨.bool (decide (x = y)), ?_, cmpV_ok h ho g⟩
    simp [binOp, Op.stringOp, toList_beq]
  case neq =>
    refine ⟨.bool (decide (¬ x = y)), ?_, cmpV_ok h ho g⟩
    simp [binOp, Op.stringOp, toList_beq]
end
end Go.Proofs.Ytgicfkgiecgjoaa.RS
