/- RS, part U: small words for printed proofs. -/
import Derived.Test.YtgicfkgiecgjoaaRsS
import Derived.LoopN
set_option linter.unusedVariables false
set_option linter.unusedSimpArgs false
namespace Go.Proofs.Ytgicfkgiecgjoaa.RS
open Go Go.RowKit
/-! Short words for printed states. -/
abbrev aR (h : Nat) : AV := .sv (.lf (.row h))
abbrev aP (h o : Nat) : AV := .sv (.lf (.ptr h o))
abbrev eI (s : Nat) (n : Int) : Ent := (s, none, aI n)
abbrev eB (s : Nat) (b : Bool) : Ent := (s, none, aB b)
abbrev eS (s : Nat) (t : ByteArray) : Ent := (s, none, aS t)
abbrev eR (s h : Nat) : Ent := (s, none, aR h)
abbrev eP (s h o : Nat) : Ent := (s, none, aP h o)
abbrev vi (n : Int) : LV := .val (.int .i64 n)
abbrev vbb (b : Bool) : LV := .val (.bool b)
abbrev rI (E : TypeId) (xs : List (List Value)) : Res := .row true E [.int .i64] xs
abbrev rB (E : TypeId) (xs : List (List Value)) : Res := .row true E [.bool] xs
abbrev lI (E : TypeId) (xs : List (List Value)) : Res := .row false E [.int .i64] xs
abbrev lB (E : TypeId) (xs : List (List Value)) : Res := .row false E [.bool] xs
abbrev rII (E : TypeId) (xs : List (List Value)) : Res := .row true E [.int .i64, .int .i64] xs
abbrev lII (E : TypeId) (xs : List (List Value)) : Res := .row false E [.int .i64, .int .i64] xs
abbrev wI (n : Int) : Value := .int .i64 n
def oL (k n : Nat) : List (Option Nat) := (List.range k).map some ++ List.replicate n none
theorem strVals_len (s : ByteArray) : (strVals s).length = s.size := by simp [strVals]
theorem bstr_len (xs : List (List Value)) : (bstr xs).size = xs.length := by simp [bstr, strOfNums, ByteArray.size]
theorem set_len (xs : List (List Value)) (i : Nat) (v : List Value) : (xs.set i v).length = xs.length := List.length_set ..
section
variable {P : Program} {tt : TT} {nt : Nat} {ins outs : List Res} {g0 : Gam} {w0 : World} {st : St} {res : AV} {Q : Exit → Act → World → Prop}
theorem W.retq (ht : tt.ok P) (fn : Func) (hs : List Nat) (outs' : List Res) (res' : AV) (hd : done tt st fn ins hs = some (outs', res')) (ho : outs' = outs) (hr : res' = res) (hQ : ∀ a w, bodyPost P fn (SpecPost g0 w0 ins outs res) .ret a w → Q .ret a w) : W (mkC P tt nt ins g0 w0) .ret Q st := by
  subst ho; subst hr
  exact W.retd ht fn hs hd hQ
theorem W.endq (ht : tt.ok P) (fn : Func) (hs : List Nat) (outs' : List Res) (res' : AV) (hd : done tt st fn ins hs = some (outs', res')) (ho : outs' = outs) (hr : res' = res) (hQ : ∀ a w, bodyPost P fn (SpecPost g0 w0 ins outs res) .normal a w → Q .normal a w) : ∀ a w, Sat (mkC P tt nt ins g0 w0) st a w → Q .normal a w := by
  subst ho; subst hr
  exact W.endd ht fn hs hd hQ
theorem Spec.cast {f : FuncId} {args args' : List AV} {res' : AV} (h : Spec P f ins args outs res) (ha : args = args') (hr : res = res') : Spec P f ins args' outs res' := by
  subst ha; subst hr; exact h
theorem W.unroll {C : Ctx} {c : Code} {st : St} {Q : Exit → Act → World → Prop} (n : Nat) (h : W C c (Exit.then (Code.rounds C.P c Q n) Q) st) : W C (.loop c) Q st := fun a w hs => wp_loop_rounds (n + 1) (h a w hs)
theorem W.round {C : Ctx} {c : Code} {st : St} {Q : Exit → Act → World → Prop} (n : Nat) (h : W C c (Exit.then (Code.rounds C.P c Q n) Q) st) : ∀ a w, Sat C st a w → Code.rounds C.P c Q (n + 1) a w := fun a w hs => h a w hs
theorem meetK {C : Ctx} {ι : Type} {I : ι → St} {p : ι → Prop} {st : St} (slots hs : List Nat) (st' : St) (h : st.keep slots hs = some st') (z : ι) (hp : p z) (he : st' = I z) : ∀ a w, Sat C st a w → ∃ z', p z' ∧ Sat C (I z') a w :=
  fun a w ⟨g, hsat⟩ => ⟨z, hp, he ▸ ⟨_, hsat.keep h⟩⟩
theorem againK {C : Ctx} {ι : Type} {I : ι → St} {p : ι → Prop} {μ : ι → Nat} {n : Nat} {st : St} (slots hs : List Nat) (st' : St) (h : st.keep slots hs = some st') (z : ι) (hp : p z) (hlt : μ z < n) (he : st' = I z) : ∀ a w, Sat C st a w → ∃ z', p z' ∧ μ z' < n ∧ Sat C (I z') a w :=
  fun a w ⟨g, hsat⟩ => ⟨z, hp, hlt, he ▸ ⟨_, hsat.keep h⟩⟩
end
end Go.Proofs.Ytgicfkgiecgjoaa.RS
