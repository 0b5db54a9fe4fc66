/- Proved: for every reference, the law 'RefSectors' of chapter 15 returns true and its argument reads as before; no further condition. -/
import Derived.Test.YtmfnefljkfhdnaaMth
import Derived.Test.YtmfnefljkfhdnaaRsV
import Derived.Test.YtmfnefljkfhdnaaRows
set_option linter.unusedVariables false
namespace Go.Proofs.Ytmfnefljkfhdnaa
open Go.ChangeShapes Go.WideShapes Go.ChangeAt Go.RowKit
theorem Try.own : ownKnob Try.prog.godebug = none := by kernel_rfl
theorem Try.laidOut : laidOutB Try.prog = true := by kernel_rfl
theorem open_ref {w : World} {r : Reach} {base : Nat} {v : Value} (h : Value.okWide Try.prog w r base 23 v) : ∃ c t z q, v = .agg #[.int .i64 c, .int .i64 t, .int .i64 z, .bool q] ∧ RS.inK .i64 c ∧ RS.inK .i64 t ∧ RS.inK .i64 z := by
  obtain ⟨cs, rfl, hc⟩ := RS.open_flat (ts := [3, 3, 3, 4]) Try.underlying23 (by kernel_rfl) (by kernel_rfl) h
  match cs, hc with
  | [a, b, c, d], ⟨h1, h2, h3, h4, _⟩ =>
    obtain ⟨c', rfl, k1⟩ := RS.cell_int Try.underlying3 h1
    obtain ⟨t', rfl, k2⟩ := RS.cell_int Try.underlying3 h2
    obtain ⟨z', rfl, k3⟩ := RS.cell_int Try.underlying3 h3
    obtain ⟨q', rfl⟩ := RS.cell_bool Try.underlying4 h4
    exact ⟨c', t', z', q', rfl, k1, k2, k3⟩
set_option maxRecDepth 100000 in
theorem refSectors_lifted (os : Os) (started : os.Started) (H : Type) (enc : TypeId × Value → H) :
    ReturnsInHanded {} Try.checked os 5 .any (Rows.refSectorsSpec.pre6 enc Try.prog Try.f5 Rows.refSectorsRow.domain false) (Rows.refSectorsSpec.post enc Try.prog Try.f5 false true false false) := by
  refine returnsInHanded_of_change (C := Try.checked) Try.own started (by kernel_rfl) Try.func5
    (ChangeSpec.witness6 (enc := enc) (C := Try.checked) false ⟨#[], #[.agg #[.int .i64 0, .int .i64 0, .int .i64 0, .bool false]], []⟩ 8 (by kernel_rfl) (by kernel_rfl) (by kernel_rfl) (by kernel_rfl)) ?_
  intro W base args ds gs before hval0 hW hcnd _
  have hval : ∀ (j : Nat) t v, Try.f5.params[j]? = some t → args[j]? = some v → Value.okWide Try.prog W .any base t v := hval0
  have hW' := hW
  obtain ⟨p, q, hA0, hV, rfl, hfz, hnd⟩ := hW
  have hA : DataW.TrodAll enc Try.prog W 0 (fun _ => true) true Try.f5.params.toList args.toList ds p := hA0
  rw [Try.params5] at hA hval
  obtain ⟨v0, d0, rfl, rfl, h0⟩ := trodAll_one hA
  obtain ⟨rfl, rfl⟩ := trodVars_none hV
  obtain ⟨c, t, z, q, rfl, kc, kt, kz⟩ := open_ref (hval 0 23 v0 rfl rfl)
  have hs := RefSectors_spec c t z q kc kt kz
  rw [RefSectors_true] at hs
  refine (hs.2 (fun _ => undef) W [_] ⟨fun _ _ h => by simp at h, fun _ _ _ _ _ _ h => by simp at h⟩ ⟨⟨#[.int .i64 c, .int .i64 t, .int .i64 z, .bool q], rfl, rfl, rfl, rfl, rfl, trivial⟩, trivial⟩).mono fun e W' ⟨g', v, he, hv, hp⟩ => ?_
  subst he
  exact ⟨_, rfl, RS.post_true Try.laidOut hW' rfl (by kernel_rfl) rfl Try.underlying4 rfl hv hp (fun k _ ⟨j, r, h, _⟩ => by simp at h)⟩
theorem refSectors_holds : Rows.RefSectorsSaid :=
  OpenClaim.holds_of_wide 5 Try.f5 rfl rfl rfl rfl rfl rfl rfl ⟨rfl, rfl, rfl, rfl, rfl⟩ rfl rfl rfl rfl rfl (by kernel_rfl) Try.func5 (by kernel_rfl)
    (of_decide_eq_true (by kernel_rfl)) (by unfold Func.isWrapper; first | (rw [if_pos (by decide +kernel)]; kernel_rfl) | (rw [if_neg (by decide +kernel)]; exact ⟨rfl, rfl⟩))
    (fun os started H enc _ => refSectors_lifted os started H enc)
end Go.Proofs.Ytmfnefljkfhdnaa
