/- Proved: for all arguments, the law 'RunsEnds' of chapter 13 returns true and its arguments read as before; no further condition. -/
import Derived.Test.YtdhipofjafecoaaMth
import Derived.Test.YtdhipofjafecoaaRsZ
import Derived.Test.YtdhipofjafecoaaRows
set_option linter.unusedVariables false
namespace Go.Proofs.Ytdhipofjafecoaa
open Go.ChangeShapes Go.WideShapes Go.ChangeAt Go.RowKit
theorem Try.own : ownKnob Try.prog.godebug = none := by kernel_rfl
theorem Try.laidOut : laidOutB Try.prog = true := by kernel_rfl
theorem open_part {w : World} {r : Reach} {base : Nat} {v : Value} (h : Value.okWide Try.prog w r base 31 v) : ∃ a b c, v = .agg #[.int .i64 a, .int .i64 b, .int .i64 c] ∧ RS.inK .i64 a ∧ RS.inK .i64 b ∧ RS.inK .i64 c := by
  obtain ⟨cs, rfl, hc⟩ := RS.open_flat (ts := [3, 3, 3]) Try.underlying31 (by kernel_rfl) (by kernel_rfl) h
  match cs, hc with
  | [a, b, c], ⟨h1, h2, h3, _⟩ =>
    obtain ⟨a', rfl, k1⟩ := RS.cell_int Try.underlying3 h1
    obtain ⟨b', rfl, k2⟩ := RS.cell_int Try.underlying3 h2
    obtain ⟨c', rfl, k3⟩ := RS.cell_int Try.underlying3 h3
    exact ⟨a', b', c', rfl, k1, k2, k3⟩
set_option maxRecDepth 100000 in
theorem runsEnds_lifted (os : Os) (started : os.Started) (H : Type) (enc : TypeId × Value → H) :
    ReturnsInHanded {} Try.checked os 7 .any (Rows.runsEndsSpec.pre6 enc Try.prog Try.f7 Rows.runsEndsRow.domain false) (Rows.runsEndsSpec.post enc Try.prog Try.f7 false true false false) := by
  refine returnsInHanded_of_change_sized (C := Try.checked) Try.own started (by kernel_rfl) Try.func7
    (ChangeSpec.witness6 (enc := enc) (C := Try.checked) false ⟨#[], #[.int .i64 0, .int .i64 0], []⟩ 8 (by kernel_rfl) (by kernel_rfl) (by kernel_rfl) (by kernel_rfl)) ?_
  intro W base args ds gs before hval0 hW hcnd hsz0 _
  have hval : ∀ (j : Nat) t v, Try.f7.params[j]? = some t → args[j]? = some v → Value.okWide Try.prog W .any base t v := hval0
  have hsz : (DataW.weightsEach Try.prog (Try.f7.params.toList ++ Rows.runsEndsSpec.plain.varTypes Try.prog) (ds ++ gs)).all (· ≤ reachBytes) = true := hsz0
  have hW' := hW
  obtain ⟨p, q, hA0, hV, rfl, hfz, hnd⟩ := hW
  have hA : DataW.TrodAll enc Try.prog W 0 (fun _ => true) true Try.f7.params.toList args.toList ds p := hA0
  rw [Try.params7] at hA hval hsz
  obtain ⟨v0, v1, d0, d1, p0, p1, rfl, rfl, rfl, h0, h1⟩ := trodAll_two hA
  obtain ⟨rfl, rfl⟩ := trodVars_none hV
  have hltW := DataW.Whole.lt hW'
  obtain ⟨a, rfl, ka⟩ := RS.arg_int Try.underlying3 (hval 0 3 v0 rfl rfl)
  obtain ⟨n, rfl, kn⟩ := RS.arg_int Try.underlying3 (hval 1 3 v1 rfl rfl)
  have hs := RunsEnds_spec a n ka kn
  rw [ends_true] at hs
  refine (hs.2 (fun _ => undef) W [_, _] ⟨fun _ _ h => by simp at h, fun _ _ _ _ _ _ h => by simp at h⟩ ⟨rfl, rfl, trivial⟩).mono fun e W' ⟨g', v, he, hv, hp⟩ => ?_
  subst he
  exact ⟨_, rfl, RS.post_true Try.laidOut hW' rfl (by kernel_rfl) rfl Try.underlying4 rfl hv hp (fun k _ ⟨j, r, h, _⟩ => by simp at h)⟩
theorem runsEnds_holds : Rows.RunsEndsSaid :=
  OpenClaim.holds_of_wide 7 Try.f7 rfl rfl rfl rfl rfl rfl rfl ⟨rfl, rfl, rfl, rfl, rfl⟩ rfl rfl rfl rfl rfl (by kernel_rfl) Try.func7 (by kernel_rfl)
    (of_decide_eq_true (by kernel_rfl)) (by unfold Func.isWrapper; first | (rw [if_pos (by decide +kernel)]; kernel_rfl) | (rw [if_neg (by decide +kernel)]; exact ⟨rfl, rfl⟩))
    (fun os started H enc _ => runsEnds_lifted os started H enc)
end Go.Proofs.Ytdhipofjafecoaa
