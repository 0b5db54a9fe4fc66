/- Proved: for all arguments, the law 'MatchBack' of chapter 4 returns true and its arguments read as before; no further condition. -/
import Derived.Test.YtgicfkgiecgjoaaWk
import Derived.Test.YtgicfkgiecgjoaaRsZ
import Derived.Test.YtgicfkgiecgjoaaRows
set_option linter.unusedVariables false
namespace Go.Proofs.Ytgicfkgiecgjoaa
open Go.ChangeShapes Go.WideShapes Go.ChangeAt Go.RowKit
theorem Try.own : ownKnob Try.prog.godebug = none := by kernel_rfl
theorem Try.laidOut : laidOutB Try.prog = true := by kernel_rfl
set_option maxRecDepth 100000 in
theorem matchBack_lifted (os : Os) (started : os.Started) (H : Type) (enc : TypeId × Value → H) :
    ReturnsInHanded {} Try.checked os 3 .any (Rows.matchBackSpec.pre6 enc Try.prog Try.f3 Rows.matchBackRow.domain false) (Rows.matchBackSpec.post enc Try.prog Try.f3 false true false false) := by
  refine returnsInHanded_of_change_sized (C := Try.checked) Try.own started (by kernel_rfl) Try.func3
    (ChangeSpec.witness6 (enc := enc) (C := Try.checked) false ⟨#[], #[.string ByteArray.empty], []⟩ 8 (by kernel_rfl) (by kernel_rfl) (by kernel_rfl) (by kernel_rfl)) ?_
  intro W base args ds gs before hval0 hW hcnd hsz0 _
  have hval : ∀ (j : Nat) t v, Try.f3.params[j]? = some t → args[j]? = some v → Value.okWide Try.prog W .any base t v := hval0
  have hsz : (DataW.weightsEach Try.prog (Try.f3.params.toList ++ Rows.matchBackSpec.plain.varTypes Try.prog) (ds ++ gs)).all (· ≤ reachBytes) = true := hsz0
  have hW' := hW
  obtain ⟨p, q, hA0, hV, rfl, hfz, hnd⟩ := hW
  have hA : DataW.TrodAll enc Try.prog W 0 (fun _ => true) true Try.f3.params.toList args.toList ds p := hA0
  rw [Try.params3] at hA hval hsz
  obtain ⟨v0, d0, rfl, rfl, h0⟩ := trodAll_one hA
  obtain ⟨rfl, rfl⟩ := trodVars_none hV
  have hltW := DataW.Whole.lt hW'
  obtain ⟨s, rfl, rfl, rfl, _⟩ := Go.ChangeMaps.open_string Try.underlying9 (hval 0 9 v0 rfl rfl) h0
  have hs : (s.size : Int) ≤ 140737488351232 := by
    have := sized_string hsz (j := 0) (t := 9) rfl rfl
    simp only [Array.length_toList, reachBytes] at this
    have e : s.size = s.data.size := rfl
    omega
  have hs := MatchBack_spec s hs
  refine (hs.2 (fun _ => undef) W [_] ⟨fun _ _ h => by simp at h, fun _ _ _ _ _ _ h => by simp at h⟩ ⟨rfl, trivial⟩).mono fun e W' ⟨g', v, he, hv, hp⟩ => ?_
  subst he
  exact ⟨_, rfl, RS.post_true Try.laidOut hW' rfl (by kernel_rfl) rfl Try.underlying4 rfl hv hp (fun k _ ⟨j, r, h, _⟩ => by simp at h)⟩
theorem matchBack_holds : Rows.MatchBackSaid :=
  OpenClaim.holds_of_wide 3 Try.f3 rfl rfl rfl rfl rfl rfl rfl ⟨rfl, rfl, rfl, rfl, rfl⟩ rfl rfl rfl rfl rfl (by kernel_rfl) Try.func3 (by kernel_rfl)
    (of_decide_eq_true (by kernel_rfl)) (by unfold Func.isWrapper; first | (rw [if_pos (by decide +kernel)]; kernel_rfl) | (rw [if_neg (by decide +kernel)]; exact ⟨rfl, rfl⟩))
    (fun os started H enc _ => matchBack_lifted os started H enc)
end Go.Proofs.Ytgicfkgiecgjoaa
