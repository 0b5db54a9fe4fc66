/- Proved: for every string and every byte, where the string is of at most 1048576 letters (the statement's own bound on what it reads), the law 'CrcLonger' of chapter 2 returns true and its arguments read as before. -/
import Derived.Test.YtnmicadlfajofaaMth
import Derived.Test.YtnmicadlfajofaaRsV
import Derived.Test.YtnmicadlfajofaaRows
set_option linter.unusedVariables false
namespace Go.Proofs.Ytnmicadlfajofaa
open Go.ChangeShapes Go.WideShapes Go.ChangeAt Go.RowKit
open Go.ChangeMaps (open_string)
theorem Try.own : ownKnob Try.prog.godebug = none := by kernel_rfl
theorem Try.laidOut : laidOutB Try.prog = true := by kernel_rfl
set_option maxRecDepth 100000 in
theorem crcLonger_lifted (os : Os) (started : os.Started) (H : Type) (enc : TypeId × Value → H) (F : Stop.Interp) :
    ReturnsInHanded {} Try.checked os 5 .any ((Rows.OpenSpec.upto Rows.crcLongerSpec).pre6 enc Try.prog Try.f5 Rows.crcLongerUptoRow.domain false) (((Rows.OpenSpec.upto Rows.crcLongerSpec).at F).post enc Try.prog Try.f5 false true false false) := by
  refine returnsInHanded_of_cond (C := Try.checked) (s := Rows.OpenSpec.upto Rows.crcLongerSpec) (k := Rows.uptoSmall) rfl Try.own started (by kernel_rfl) Try.func5
    (OpenSpec.witness (enc := enc) (C := Try.checked) (s := Rows.OpenSpec.upto Rows.crcLongerSpec) (k := Rows.uptoSmall) (x := ([.lit (.string []), .lit (.int .u8 0)], [], [])) rfl false ⟨#[], #[.string ByteArray.empty, .int .u8 0], []⟩ 8 (by kernel_rfl) (by kernel_rfl) (by kernel_rfl) (by kernel_rfl) (by kernel_rfl) (by kernel_rfl)) ?_
  intro W base args ds gs before hval0 hW hcnd hk _
  have hval : ∀ (j : Nat) t v, Try.f5.params[j]? = some t → args[j]? = some v → Value.okWide Try.prog W .any base t v := hval0
  have hW' := hW
  obtain ⟨p, q, hA0, hV, rfl, hfz, hnd⟩ := hW
  have hA : DataW.TrodAll enc Try.prog W 0 (fun _ => true) true Try.f5.params.toList args.toList ds p := hA0
  rw [Try.params5] at hA hval
  obtain ⟨v0, v1, d0, d1, p0, p1, rfl, rfl, rfl, h0, h1⟩ := trodAll_two hA
  obtain ⟨rfl, rfl⟩ := trodVars_none hV
  obtain ⟨s, rfl, rfl, rfl, _⟩ := open_string Try.underlying9 (hval 0 9 v0 rfl rfl) h0
  obtain ⟨b, rfl, kb⟩ := RS.arg_int Try.underlying5 (hval 1 5 v1 rfl rfl)
  have hsz : (s.size : Int) ≤ 1900000 := by
    have hk := of_decide_eq_true hk
    simp only [List.append_nil, Rows.uptoBulkAll, Rows.uptoBulk, Array.length_toList] at hk
    have : s.size = s.data.size := rfl
    omega
  have hs := CrcLonger_spec s b hsz kb
  rw [CrcLonger_true] at hs
  refine (hs.2 (fun _ => undef) W [_, _] ⟨fun _ _ h => by simp at h, fun _ _ _ _ _ _ h => by simp at h⟩ ⟨rfl, rfl, trivial⟩).mono fun e W' ⟨g', v, he, hv, hp⟩ => ?_
  subst he
  exact ⟨_, rfl, RS.post_true Try.laidOut hW' rfl (by kernel_rfl) rfl Try.underlying4 rfl hv hp (fun k _ ⟨j, r, h, _⟩ => by simp at h)⟩
theorem crcLonger_holds : Rows.CrcLongerUptoSaid :=
  OpenClaim.holds_of_cond 5 Try.f5 rfl rfl rfl rfl rfl rfl rfl ⟨rfl, rfl, rfl, rfl, rfl⟩ rfl rfl rfl rfl rfl (by kernel_rfl) Try.func5 (by kernel_rfl)
    (of_decide_eq_true (by kernel_rfl)) (by unfold Func.isWrapper; first | (rw [if_pos (by decide +kernel)]; kernel_rfl) | (rw [if_neg (by decide +kernel)]; exact ⟨rfl, rfl⟩))
    (fun os started H enc _ F => crcLonger_lifted os started H enc F)
end Go.Proofs.Ytnmicadlfajofaa
