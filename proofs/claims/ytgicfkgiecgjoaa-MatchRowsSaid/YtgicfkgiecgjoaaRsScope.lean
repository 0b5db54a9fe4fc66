/- RS: scopes and labels that no goto uses. -/
import Derived.Test.YtgicfkgiecgjoaaRsHand
import Derived.Scope
set_option linter.unusedVariables false
namespace Go.Proofs.Ytgicfkgiecgjoaa.RS
open Go
section
variable {C : Ctx} {st : St} {Q : Exit → Act → World → Prop}
theorem W.scope {c : Code} (h : W C c (Exit.noGoto Q) st) : W C (.scope c) Q st := fun a w hs => wp_scope_straight (h a w hs)
theorem W.label {l : Nat} (h : ∀ a w, Sat C st a w → Q .normal a w) : W C (.label l) Q st := fun a w hs => wp_label (h a w hs)
open HSpec (natIn)
/-- W.tail, with the state between told only as it is kept. -/
theorem W.tailK {id n : Nat} {ops : Array Oper} (ht : C.tt.ok C.P) (ans : List An) (slots hds : List Nat) (obs : List Prop) (st2 : St) (h1 : (match runX C.P C.tt C.nt ops st ans (ops.toList.take n) with | some (s1, o) => (s1.keep slots hds).map fun s2 => (s2, o) | none => none) = some (st2, obs)) (ho : AllP obs)
    {ι : Type} [hne : Nonempty ι] {p : ι → Prop} (xs : List Nat) (ps : List Pass) (outs : ι → List Res) (res0 : AV) (ds : List Nat) (rs : ι → List AV) (ws : List Nat) (ins : List Res) (args : List AV) (J : ι → St)
    (h : ∀ z, handE st2 xs ⟨ps, outs z, res0⟩ ds (rs z) ws = some (ins, args, J z)) (hc : HSpec (fun Q a w => wpList C.P ops Q (ops.toList.drop n) a w) C.nt p ins xs args outs ds rs ws) (hk : ∀ z, p z → ∀ a w, Sat C (J z) a w → Q .normal a w) : W C (.region id ops false) Q st := by
  split at h1
  case h_2 => cases h1
  rename_i s1 o e1
  cases e2 : s1.keep slots hds with
  | none => rw [e2] at h1; cases h1
  | some s2 =>
    rw [e2] at h1
    simp only [Option.map_some, Option.some.injEq, Prod.mk.injEq] at h1
    obtain ⟨rfl, rfl⟩ := h1
    exact W.tail ht ans slots hds s1 _ e1 ho _ e2 xs ps outs res0 ds rs ws ins args J h hc hk
end
end Go.Proofs.Ytgicfkgiecgjoaa.RS
