/- Proved: for all arguments, the law 'PageNeed' of chapter 11 returns true and its arguments read as before; no further condition. -/
import Derived.Test.YtcbnmfggpkmneaaMth
import Derived.Test.YtcbnmfggpkmneaaRsZ
import Derived.Test.YtcbnmfggpkmneaaRows
set_option linter.unusedVariables false
namespace Go.Proofs.Ytcbnmfggpkmneaa
open Go.ChangeShapes Go.WideShapes Go.ChangeAt Go.RowKit
theorem Try.own : ownKnob Try.prog.godebug = none := by kernel_rfl
theorem Try.laidOut : laidOutB Try.prog = true := by kernel_rfl
set_option maxRecDepth 100000 in
theorem pageNeed_lifted (os : Os) (started : os.Started) (H : Type) (enc : TypeId × Value → H) :
    ReturnsInHanded {} Try.checked os 7 .any (Rows.pageNeedSpec.pre6 enc Try.prog Try.f7 Rows.pageNeedRow.domain false) (Rows.pageNeedSpec.post enc Try.prog Try.f7 false true false false) := by
  refine returnsInHanded_of_change_sized (C := Try.checked) Try.own started (by kernel_rfl) Try.func7
    (ChangeSpec.witness6 (enc := enc) (C := Try.checked) false ⟨#[], #[.string ByteArray.empty, .int .i64 0, .int .i64 0], []⟩ 8 (by kernel_rfl) (by kernel_rfl) (by kernel_rfl) (by kernel_rfl)) ?_
  intro W base args ds gs before hval0 hW hcnd hsz0 _
  have hval : ∀ (j : Nat) t v, Try.f7.params[j]? = some t → args[j]? = some v → Value.okWide Try.prog W .any base t v := hval0
  have hsz : (DataW.weightsEach Try.prog (Try.f7.params.toList ++ Rows.pageNeedSpec.plain.varTypes Try.prog) (ds ++ gs)).all (· ≤ reachBytes) = true := hsz0
  have hW' := hW
  obtain ⟨p, q, hA0, hV, rfl, hfz, hnd⟩ := hW
  have hA : DataW.TrodAll enc Try.prog W 0 (fun _ => true) true Try.f7.params.toList args.toList ds p := hA0
  rw [Try.params7] at hA hval hsz
  obtain ⟨v0, v1, v2, d0, d1, d2, p0, p1, p2, rfl, rfl, rfl, h0, h1, h2⟩ := trodAll_three hA
  obtain ⟨rfl, rfl⟩ := trodVars_none hV
  have hltW := DataW.Whole.lt hW'
  obtain ⟨s, rfl, rfl, rfl, _⟩ := Go.ChangeMaps.open_string Try.underlying9 (hval 0 9 v0 rfl rfl) h0
  have hs : (s.size : Int) ≤ 140737488351232 := by
    have := sized_string hsz (j := 0) (t := 9) rfl rfl
    simp only [Array.length_toList, reachBytes] at this
    have e : s.size = s.data.size := rfl
    omega
  obtain ⟨n, rfl, kn⟩ := RS.arg_int Try.underlying3 (hval 1 3 v1 rfl rfl)
  obtain ⟨m, rfl, km⟩ := RS.arg_int Try.underlying3 (hval 2 3 v2 rfl rfl)
  have hs := PageNeed_spec s n m hs kn km
  refine (hs.2 (fun _ => undef) W [_, _, _] ⟨fun _ _ h => by simp at h, fun _ _ _ _ _ _ h => by simp at h⟩ ⟨rfl, rfl, rfl, trivial⟩).mono fun e W' ⟨g', v, he, hv, hp⟩ => ?_
  subst he
  exact ⟨_, rfl, RS.post_true Try.laidOut hW' rfl (by kernel_rfl) rfl Try.underlying4 rfl hv hp (fun k _ ⟨j, r, h, _⟩ => by simp at h)⟩
theorem pageNeed_holds : Rows.PageNeedSaid :=
  OpenClaim.holds_of_wide 7 Try.f7 rfl rfl rfl rfl rfl rfl rfl ⟨rfl, rfl, rfl, rfl, rfl⟩ rfl rfl rfl rfl rfl (by kernel_rfl) Try.func7 (by kernel_rfl)
    (of_decide_eq_true (by kernel_rfl)) (by unfold Func.isWrapper; first | (rw [if_pos (by decide +kernel)]; kernel_rfl) | (rw [if_neg (by decide +kernel)]; exact ⟨rfl, rfl⟩))
    (fun os started H enc _ => pageNeed_lifted os started H enc)
end Go.Proofs.Ytcbnmfggpkmneaa
