/- Proved: for all arguments, the law 'BitsParts' of chapter 3 returns true and its arguments read as before; no further condition. -/
import Derived.Test.YtgkbehjbjpldjaaWk
import Derived.Test.YtgkbehjbjpldjaaRsZ
import Derived.Test.YtgkbehjbjpldjaaRows
set_option linter.unusedVariables false
namespace Go.Proofs.Ytgkbehjbjpldjaa
open Go.ChangeShapes Go.WideShapes Go.ChangeAt Go.RowKit
theorem Try.own : ownKnob Try.prog.godebug = none := by kernel_rfl
theorem Try.laidOut : laidOutB Try.prog = true := by kernel_rfl
theorem open_num {w : World} {r : Reach} {base : Nat} {v : Value} (h : Value.okWide Try.prog w r base 24 v) : ∃ a b c, v = .agg #[.int .i64 a, .int .i64 b, .int .i64 c] ∧ RS.inK .i64 a ∧ RS.inK .i64 b ∧ RS.inK .i64 c := by
  obtain ⟨cs, rfl, hc⟩ := RS.open_flat (ts := [3, 3, 3]) Try.underlying24 (by kernel_rfl) (by kernel_rfl) h
  match cs, hc with
  | [a, b, c], ⟨h1, h2, h3, _⟩ =>
    obtain ⟨a', rfl, k1⟩ := RS.cell_int Try.underlying3 h1
    obtain ⟨b', rfl, k2⟩ := RS.cell_int Try.underlying3 h2
    obtain ⟨c', rfl, k3⟩ := RS.cell_int Try.underlying3 h3
    exact ⟨a', b', c', rfl, k1, k2, k3⟩
set_option maxRecDepth 100000 in
theorem bitsParts_lifted (os : Os) (started : os.Started) (H : Type) (enc : TypeId × Value → H) :
    ReturnsInHanded {} Try.checked os 4 .any (Rows.bitsPartsSpec.pre6 enc Try.prog Try.f4 Rows.bitsPartsRow.domain false) (Rows.bitsPartsSpec.post enc Try.prog Try.f4 false true false false) := by
  refine returnsInHanded_of_change_sized (C := Try.checked) Try.own started (by kernel_rfl) Try.func4
    (ChangeSpec.witness6 (enc := enc) (C := Try.checked) false ⟨#[], #[.agg #[.int .i64 0, .int .i64 0, .int .i64 0], .string ByteArray.empty], []⟩ 8 (by kernel_rfl) (by kernel_rfl) (by kernel_rfl) (by kernel_rfl)) ?_
  intro W base args ds gs before hval0 hW hcnd hsz0 _
  have hval : ∀ (j : Nat) t v, Try.f4.params[j]? = some t → args[j]? = some v → Value.okWide Try.prog W .any base t v := hval0
  have hsz : (DataW.weightsEach Try.prog (Try.f4.params.toList ++ Rows.bitsPartsSpec.plain.varTypes Try.prog) (ds ++ gs)).all (· ≤ reachBytes) = true := hsz0
  have hW' := hW
  obtain ⟨p, q, hA0, hV, rfl, hfz, hnd⟩ := hW
  have hA : DataW.TrodAll enc Try.prog W 0 (fun _ => true) true Try.f4.params.toList args.toList ds p := hA0
  rw [Try.params4] at hA hval hsz
  obtain ⟨v0, v1, d0, d1, p0, p1, rfl, rfl, rfl, h0, h1⟩ := trodAll_two hA
  obtain ⟨rfl, rfl⟩ := trodVars_none hV
  have hltW := DataW.Whole.lt hW'
  obtain ⟨xn, xw, xa, rfl, kxn, kxw, kxa⟩ := open_num (hval 0 24 v0 rfl rfl)
  obtain ⟨s, rfl, rfl, rfl, _⟩ := Go.ChangeMaps.open_string Try.underlying9 (hval 1 9 v1 rfl rfl) h1
  have hs : (s.size : Int) ≤ 140737488351232 := by
    have := sized_string hsz (j := 1) (t := 9) rfl rfl
    simp only [Array.length_toList, reachBytes] at this
    have e : s.size = s.data.size := rfl
    omega
  have hs := BitsParts_spec xn xw xa s kxn kxw kxa hs
  refine (hs.2 (fun _ => undef) W [_, _] ⟨fun _ _ h => by simp at h, fun _ _ _ _ _ _ h => by simp at h⟩ ⟨⟨#[.int .i64 xn, .int .i64 xw, .int .i64 xa], rfl, rfl, rfl, rfl, trivial⟩, rfl, trivial⟩).mono fun e W' ⟨g', v, he, hv, hp⟩ => ?_
  subst he
  exact ⟨_, rfl, RS.post_true Try.laidOut hW' rfl (by kernel_rfl) rfl Try.underlying4 rfl hv hp (fun k _ ⟨j, r, h, _⟩ => by simp at h)⟩
theorem bitsParts_holds : Rows.BitsPartsSaid :=
  OpenClaim.holds_of_wide 4 Try.f4 rfl rfl rfl rfl rfl rfl rfl ⟨rfl, rfl, rfl, rfl, rfl⟩ rfl rfl rfl rfl rfl (by kernel_rfl) Try.func4 (by kernel_rfl)
    (of_decide_eq_true (by kernel_rfl)) (by unfold Func.isWrapper; first | (rw [if_pos (by decide +kernel)]; kernel_rfl) | (rw [if_neg (by decide +kernel)]; exact ⟨rfl, rfl⟩))
    (fun os started H enc _ => bitsParts_lifted os started H enc)
end Go.Proofs.Ytgkbehjbjpldjaa
