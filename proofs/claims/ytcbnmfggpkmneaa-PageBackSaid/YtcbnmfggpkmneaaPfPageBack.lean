/- Proved: for all arguments, the law 'PageBack' of chapter 11 returns true and its arguments read as before; no further condition. -/
import Derived.Test.YtcbnmfggpkmneaaMth
import Derived.Test.YtcbnmfggpkmneaaRsZ
import Derived.Test.YtcbnmfggpkmneaaRows
set_option linter.unusedVariables false
namespace Go.Proofs.Ytcbnmfggpkmneaa
open Go.ChangeShapes Go.WideShapes Go.ChangeAt Go.RowKit
theorem Try.own : ownKnob Try.prog.godebug = none := by kernel_rfl
theorem Try.laidOut : laidOutB Try.prog = true := by kernel_rfl
set_option maxRecDepth 100000 in
theorem pageBack_lifted (os : Os) (started : os.Started) (H : Type) (enc : TypeId × Value → H) :
    ReturnsInHanded {} Try.checked os 4 .any (Rows.pageBackSpec.pre6 enc Try.prog Try.f4 Rows.pageBackRow.domain false) (Rows.pageBackSpec.post enc Try.prog Try.f4 false true false false) := by
  refine returnsInHanded_of_change_sized (C := Try.checked) Try.own started (by kernel_rfl) Try.func4
    (ChangeSpec.witness6 (enc := enc) (C := Try.checked) false ⟨#[], #[.string ByteArray.empty, .slice none 0 0], []⟩ 8 (by kernel_rfl) (by kernel_rfl) (by kernel_rfl) (by kernel_rfl)) ?_
  intro W base args ds gs before hval0 hW hcnd hsz0 _
  have hval : ∀ (j : Nat) t v, Try.f4.params[j]? = some t → args[j]? = some v → Value.okWide Try.prog W .any base t v := hval0
  have hsz : (DataW.weightsEach Try.prog (Try.f4.params.toList ++ Rows.pageBackSpec.plain.varTypes Try.prog) (ds ++ gs)).all (· ≤ reachBytes) = true := hsz0
  have hW' := hW
  obtain ⟨p, q, hA0, hV, rfl, hfz, hnd⟩ := hW
  have hA : DataW.TrodAll enc Try.prog W 0 (fun _ => true) true Try.f4.params.toList args.toList ds p := hA0
  rw [Try.params4] at hA hval hsz
  obtain ⟨v0, v1, d0, d1, p0, p1, rfl, rfl, rfl, h0, h1⟩ := trodAll_two hA
  obtain ⟨rfl, rfl⟩ := trodVars_none hV
  have hltW := DataW.Whole.lt hW'
  obtain ⟨s, rfl, rfl, rfl, _⟩ := Go.ChangeMaps.open_string Try.underlying9 (hval 0 9 v0 rfl rfl) h0
  have hs : (s.size : Int) ≤ 140737488351232 := by
    have := sized_string hsz (j := 0) (t := 9) rfl rfl
    simp only [Array.length_toList, reachBytes] at this
    have e : s.size = s.data.size := rfl
    omega
  obtain ⟨l, rrl, rgl, rsl⟩ := RS.open_row (ks := [.str]) Try.underlying22 (by kernel_rfl) (RS.slice_cells Try.underlying22 (hval 1 22 v1 rfl rfl)) h1 (fun y hy => hltW y (by simp [hy])) (by decide)
  have hzl : l.length * 16 ≤ 140737488351232 := by
    have := RS.size_row hsz (j := 1) rfl rfl Try.underlying22 rsl
    rw [show Try.prog.bytesOf 9 = 16 from by kernel_rfl] at this
    exact this
  have hs := PageBack_spec s l hs (by omega)
  rw [back_true] at hs
  refine (hs.2 (fun h => match h with | 0 => v1 | _ => undef) W [_, _] (RS.mem_row 0 (fun h r hh => by
    match h, hh with
    | 0, hh => (obtain rfl := Option.some.inj hh); exact RS.lent_ok rrl
    | h + 1, hh => exact absurd hh (by simp)) (fun r hr => by simp at hr; subst hr; rfl)) ⟨rfl, RS.row_arep rrl rfl, trivial⟩).mono fun e W' ⟨g', v, he, hv, hp⟩ => ?_
  subst he
  exact ⟨_, rfl, RS.post_true Try.laidOut hW' rfl (by kernel_rfl) rfl Try.underlying4 rfl hv hp (fun k _ ⟨j, r, h, ho, _⟩ => by have hr := List.mem_of_getElem? h; simp at hr; subst hr; cases ho)⟩
theorem pageBack_holds : Rows.PageBackSaid :=
  OpenClaim.holds_of_wide 4 Try.f4 rfl rfl rfl rfl rfl rfl rfl ⟨rfl, rfl, rfl, rfl, rfl⟩ rfl rfl rfl rfl rfl (by kernel_rfl) Try.func4 (by kernel_rfl)
    (of_decide_eq_true (by kernel_rfl)) (by unfold Func.isWrapper; first | (rw [if_pos (by decide +kernel)]; kernel_rfl) | (rw [if_neg (by decide +kernel)]; exact ⟨rfl, rfl⟩))
    (fun os started H enc _ => pageBack_lifted os started H enc)
end Go.Proofs.Ytcbnmfggpkmneaa
