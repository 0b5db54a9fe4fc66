/- Proved: for all arguments, the law 'CanonRises' of chapter 6 returns true and its arguments read as before; no further condition. -/
import Derived.Test.YtpjiobflmcmlmaaMth
import Derived.Test.YtpjiobflmcmlmaaRsZ
import Derived.Test.YtpjiobflmcmlmaaRsAr
import Derived.Test.YtpjiobflmcmlmaaRows
set_option linter.unusedVariables false
namespace Go.Proofs.Ytpjiobflmcmlmaa
open Go.ChangeShapes Go.WideShapes Go.ChangeAt Go.RowKit
theorem Try.own : ownKnob Try.prog.godebug = none := by kernel_rfl
theorem Try.laidOut : laidOutB Try.prog = true := by kernel_rfl
set_option maxRecDepth 100000 in
theorem canonRises_lifted (os : Os) (started : os.Started) (H : Type) (enc : TypeId × Value → H) :
    ReturnsInHanded {} Try.checked os 6 .any (Rows.canonRisesSpec.pre6 enc Try.prog Try.f6 Rows.canonRisesRow.domain false) (Rows.canonRisesSpec.post enc Try.prog Try.f6 false true false false) := by
  refine returnsInHanded_of_change_sized (C := Try.checked) Try.own started (by kernel_rfl) Try.func6
    (ChangeSpec.witness6 (enc := enc) (C := Try.checked) false ⟨#[], #[.slice none 0 0, .int .i64 0, .int .i64 0], []⟩ 8 (by kernel_rfl) (by kernel_rfl) (by kernel_rfl) (by kernel_rfl)) ?_
  intro W base args ds gs before hval0 hW hcnd hsz0 _
  have hval : ∀ (j : Nat) t v, Try.f6.params[j]? = some t → args[j]? = some v → Value.okWide Try.prog W .any base t v := hval0
  have hsz : (DataW.weightsEach Try.prog (Try.f6.params.toList ++ Rows.canonRisesSpec.plain.varTypes Try.prog) (ds ++ gs)).all (· ≤ reachBytes) = true := hsz0
  have hW' := hW
  obtain ⟨p, q, hA0, hV, rfl, hfz, hnd⟩ := hW
  have hA : DataW.TrodAll enc Try.prog W 0 (fun _ => true) true Try.f6.params.toList args.toList ds p := hA0
  rw [Try.params6] at hA hval hsz
  obtain ⟨v0, v1, v2, d0, d1, d2, p0, p1, p2, rfl, rfl, rfl, h0, h1, h2⟩ := trodAll_three hA
  obtain ⟨rfl, rfl⟩ := trodVars_none hV
  have hltW := DataW.Whole.lt hW'
  obtain ⟨l, rrl, rgl, rsl⟩ := RS.open_row (ks := [.int .i64]) Try.underlying22 (by kernel_rfl) (RS.slice_cells Try.underlying22 (hval 0 22 v0 rfl rfl)) h0 (fun y hy => hltW y (by simp [hy])) (by decide)
  have hzl : l.length * 8 ≤ 140737488351232 := by
    have := RS.size_row hsz (j := 0) rfl rfl Try.underlying22 rsl
    rw [show Try.prog.bytesOf 3 = 8 from by kernel_rfl] at this
    exact this
  obtain ⟨a, rfl, ka⟩ := RS.arg_int Try.underlying3 (hval 1 3 v1 rfl rfl)
  obtain ⟨b, rfl, kb⟩ := RS.arg_int Try.underlying3 (hval 2 3 v2 rfl rfl)
  have hs := T7.CanonRises_spec l a b (by omega) (fun j o => RS.RangeR.i64 rgl (by intro o k h; match o, h with | 0, h => exact (Option.some.inj h).symm | o + 1, h => simp at h) j o) ka kb
  rw [rises_true] at hs
  refine (hs.2 (fun h => match h with | 0 => v0 | _ => undef) W [_, _, _] (RS.mem_row 0 (fun h r hh => by
    match h, hh with
    | 0, hh => (obtain rfl := Option.some.inj hh); exact RS.lent_ok rrl
    | h + 1, hh => exact absurd hh (by simp)) (fun r hr => by simp at hr; subst hr; rfl)) ⟨RS.row_arep rrl rfl, rfl, rfl, trivial⟩).mono fun e W' ⟨g', v, he, hv, hp⟩ => ?_
  subst he
  exact ⟨_, rfl, RS.post_true Try.laidOut hW' rfl (by kernel_rfl) rfl Try.underlying4 rfl hv hp (fun k _ ⟨j, r, h, ho, _⟩ => by have hr := List.mem_of_getElem? h; simp at hr; subst hr; cases ho)⟩
theorem canonRises_holds : Rows.CanonRisesSaid :=
  OpenClaim.holds_of_wide 6 Try.f6 rfl rfl rfl rfl rfl rfl rfl ⟨rfl, rfl, rfl, rfl, rfl⟩ rfl rfl rfl rfl rfl (by kernel_rfl) Try.func6 (by kernel_rfl)
    (of_decide_eq_true (by kernel_rfl)) (by unfold Func.isWrapper; first | (rw [if_pos (by decide +kernel)]; kernel_rfl) | (rw [if_neg (by decide +kernel)]; exact ⟨rfl, rfl⟩))
    (fun os started H enc _ => canonRises_lifted os started H enc)
end Go.Proofs.Ytpjiobflmcmlmaa
