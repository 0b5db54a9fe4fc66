/- RS, part Q: structs that are compared; small words for proofs. -/
import Derived.Test.YtgicfkgiecgjoaaRsP
import Derived.Laws.StructEq
import Derived.Lib.SlicesS
set_option linter.unusedVariables false
set_option linter.unusedSimpArgs false
namespace Go.Proofs.Ytgicfkgiecgjoaa.RS
open Go Go.RowKit
def leafB : CK → TD → Bool
  | .int k, .int k' => IntKind.eqb k k'
  | .bool, .bool => true
  | .str, .str => true
  | _, _ => false
def fieldsFit (tt : TT) : Nat → List Field → List CK → Bool
  | _, [], [] => true
  | i, f :: fs, k :: ks => (f.name != "_") && Nat.beq f.offset i && (match tt.get f.type with | some ti => leafB k ti.d | none => false) && fieldsFit tt (i + 1) fs ks
  | _, _, _ => false
section
variable {P : Program} {tt : TT} {w : World}
theorem equalIn_leaf (ht : tt.ok P) (d : Nat) {t : Nat} {ti : TI} {k : CK} {a b : Value} (hi : tt.get t = some ti) (hl : leafB k ti.d = true) (ha : k.fits a) (hb : k.fits b) : (Op.equalIn (d + 1) t a b).run P w = .ok (eqc a b) w := by
  obtain ⟨u, hu, hs⟩ := (ht t ti hi).und
  cases k <;> simp only [CK.fits] at ha hb
  · rename_i k
    obtain ⟨m, rfl⟩ := ha
    obtain ⟨n, rfl⟩ := hb
    cases e : ti.d <;> rw [e] at hl hs <;> simp only [leafB] at hl <;> first | cases hl; done | skip
    rename_i k'
    obtain rfl := shape_int hs
    simp only [Op.equalIn, Sem.run_bind, run_underlying hu, Result.andThen_ok, if_true, Sem.run_pure, eqc]
    first | done | rfl
  · obtain ⟨m, rfl⟩ := ha
    obtain ⟨n, rfl⟩ := hb
    cases e : ti.d <;> rw [e] at hl hs <;> simp only [leafB] at hl <;> first | cases hl; done | skip
    obtain rfl := shape_bool hs
    rw [equalIn_bool d hu]
    cases m <;> cases n <;> rfl
  · obtain ⟨m, rfl⟩ := ha
    obtain ⟨n, rfl⟩ := hb
    cases e : ti.d <;> rw [e] at hl hs <;> simp only [leafB] at hl <;> first | cases hl; done | skip
    obtain rfl := shape_str hs
    simp only [Op.equalIn, Sem.run_bind, run_underlying hu, Result.andThen_ok, Sem.run_pure, eqc]
    congr 1
    have hb : (m == n) = decide (m = n) := by
      rw [beq_toListBytes]
      by_cases h : m = n
      · rw [(Lib.bytes_beq_iff m n).2 h, decide_eq_true h]
      · rw [decide_eq_false h, ← Bool.not_eq_true]; exact fun hh => h ((Lib.bytes_beq_iff m n).1 hh)
    simp [hb]
  · cases e : ti.d <;> rw [e] at hl <;> simp only [leafB] at hl <;> cases hl
theorem part_leaf (ht : tt.ok P) {t : Nat} {ti : TI} {k : CK} (hi : tt.get t = some ti) (hl : leafB k ti.d = true) {xs : Array Value} {i : Nat} {v : Value} (hv : xs[i]? = some v) : (part t xs i).run P w = .ok v w := by
  have hag : ti.d.agg = false := by cases k <;> cases e : ti.d <;> rw [e] at hl <;> simp only [leafB] at hl <;> first | rfl | cases hl
  simp [part, run_isAgg (ht t ti hi), hag, hv]
theorem eqFields_ok (ht : tt.ok P) (d : Nat) {xs ys : Array Value} : ∀ {fs : List Field} {ks : List CK} {i : Nat} {as bs : List Value}, fieldsFit tt i fs ks = true → fitsAll ks as → fitsAll ks bs → (∀ j, as[j]? = xs[i + j]?) → (∀ j, bs[j]? = ys[i + j]?) →
    (Op.eqFields (d + 1) xs ys fs).run P w = .ok (eqL as bs) w
  | [], [], i, [], [], _, _, _, _, _ => by simp [Op.eqFields, eqL]
  | f :: fs, k :: ks, i, a :: as, b :: bs, h, ha, hb, hx, hy => by
    simp only [fieldsFit, Bool.and_eq_true] at h
    obtain ⟨⟨⟨h1, h2⟩, h3⟩, h4⟩ := h
    have hn : f.name ≠ "_" := by simpa using h1
    obtain rfl := Nat.eq_of_beq_eq_true h2
    split at h3
    case h_2 => cases h3
    rename_i ti hti
    have hx0 : xs[f.offset]? = some a := by simpa using (hx 0).symm
    have hy0 : ys[f.offset]? = some b := by simpa using (hy 0).symm
    have ih := eqFields_ok ht d h4 ha.2 hb.2 (fun j => by have := hx (j + 1); rw [show f.offset + 1 + j = f.offset + (j + 1) by omega, ← this]; simp) (fun j => by have := hy (j + 1); rw [show f.offset + 1 + j = f.offset + (j + 1) by omega, ← this]; simp)
    rw [Op.eqFields]
    simp only [if_pos hn, Sem.run_bind, part_leaf ht hti h3 hx0, part_leaf ht hti h3 hy0, equalIn_leaf ht d hti h3 ha.1 hb.1, Result.andThen_ok, eqL]
    cases eqc a b
    · simp
    · simpa using ih
  | [], [], _, _ :: _, _, _, h, _, _, _ => h.elim
  | [], [], _, [], _ :: _, _, _, h, _, _ => h.elim
  | _ :: _, _ :: _, _, [], _, _, h, _, _, _ => h.elim
  | _ :: _, _ :: _, _, _ :: _, [], _, _, h, _, _ => h.elim
  | [], _ :: _, _, _, _, h, _, _, _, _ => by cases h
  | _ :: _, [], _, _, _, h, _, _, _, _ => by cases h
theorem EqOK.of {t : Nat} {ks : List CK} {gs : Array Field} (ht : tt.ok P) (hu : P.underlying t = some (.struct gs)) (hp : P.stoodInHeld t = false) (hg : P.eqGuardType P.depth t = false) (hf : fieldsFit tt 0 gs.toList ks = true) : EqOK P t ks := by
  intro w xs ys hx hy
  have hfo : P.fieldsOf t = gs := by simp [Program.fieldsOf, hu]
  refine ⟨?_, fun op x y => ?_⟩
  · show (Op.equalIn (9999 + 1) t _ _).run P w = _
    rw [run_equalIn_struct (P := P) w 9999 t xs.toArray ys.toArray (by rw [hfo]; exact hu) hp, hfo]
    exact eqFields_ok ht 9998 hf hx hy (fun j => by simp) (fun j => by simp)
  · cases op <;> first | rfl | (simp [eqGuard, hg])
theorem FnOK.of {f : FuncId} {fn : Func} (h : P.funcs[f]? = some fn) (h1 : (fn.name == "runtime.NumGoroutine") = false) (h2 : fn.body.isNone = false) : FnOK P f := by
  unfold FnOK
  rw [h]
  simp [h1, h2]
end
section
variable {C : Ctx} {st st' : St} {Q : Exit → Act → World → Prop}
/-- A region, and what comes behind it. -/
theorem W.sr {id : Nat} {ops : Array Oper} {y : Code} (ht : C.tt.ok C.P) (ans : List An) (slots hs : List Nat) (st' : St) (obs : List Prop) (h : Go.Proofs.Ytgicfkgiecgjoaa.RS.region C.P C.tt C.nt st ops ans slots hs = some (st', obs)) (ho : AllP obs) (hk : W C y Q st') : W C (.seq (.region id ops false) y) Q st :=
  W.seq (W.region ht ans slots hs st' obs h ho hk)
theorem W.next {y : Code} (h : W C y Q st) : ∀ a w, Sat C st a w → Exit.then (y.wp C.P Q) Q .normal a w := h
theorem unblock {id : Nat} (h : ∀ a w, Sat C st a w → Q .normal a w) : ∀ a w, Sat C st a w → Exit.inBlock id Q .normal a w := h
theorem exit_here {id : Nat} (h : ∀ a w, Sat C st a w → Q .normal a w) : ∀ a w, Sat C st a w → Exit.inBlock id Q (.exit id) a w := fun a w hs => by
  simp only [Exit.inBlock, if_true]; exact h a w hs
theorem exit_pass {id id' : Nat} (hne : id' ≠ id) (h : ∀ a w, Sat C st a w → Q (.exit id') a w) : ∀ a w, Sat C st a w → Exit.inBlock id Q (.exit id') a w := fun a w hs => by
  simp only [Exit.inBlock, if_neg hne]; exact h a w hs
theorem exit_then {id : Nat} {K : Act → World → Prop} (h : ∀ a w, Sat C st a w → Q (.exit id) a w) : ∀ a w, Sat C st a w → Exit.then K Q (.exit id) a w := h
end
end Go.Proofs.Ytgicfkgiecgjoaa.RS
