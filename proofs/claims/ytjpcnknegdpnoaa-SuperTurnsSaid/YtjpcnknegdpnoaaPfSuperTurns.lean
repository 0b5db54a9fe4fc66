/- Proved: for all arguments, the law 'SuperTurns' of chapter 12 returns true and its arguments read as before; no further condition. -/
import Derived.Test.YtjpcnknegdpnoaaXE
import Derived.Test.YtjpcnknegdpnoaaRsZ
import Derived.Test.YtjpcnknegdpnoaaRsAr
import Derived.Test.YtjpcnknegdpnoaaRows
set_option linter.unusedVariables false
namespace Go.Proofs.Ytjpcnknegdpnoaa
open Go.ChangeShapes Go.WideShapes Go.ChangeAt Go.RowKit
theorem Try.own : ownKnob Try.prog.godebug = none := by kernel_rfl
theorem Try.laidOut : laidOutB Try.prog = true := by kernel_rfl
theorem open_sup {w : World} {r : Reach} {base : Nat} {v : Value} (h : Value.okWide Try.prog w r base 23 v) : ∃ a b c, v = .agg #[.int .i64 a, .int .i64 b, .int .i64 c] ∧ RS.inK .i64 a ∧ RS.inK .i64 b ∧ RS.inK .i64 c := by
  obtain ⟨cs, rfl, hc⟩ := RS.open_flat (ts := [3, 3, 3]) Try.underlying23 (by kernel_rfl) (by kernel_rfl) h
  match cs, hc with
  | [a, b, c], ⟨h1, h2, h3, _⟩ =>
    obtain ⟨a', rfl, k1⟩ := RS.cell_int Try.underlying3 h1
    obtain ⟨b', rfl, k2⟩ := RS.cell_int Try.underlying3 h2
    obtain ⟨c', rfl, k3⟩ := RS.cell_int Try.underlying3 h3
    exact ⟨a', b', c', rfl, k1, k2, k3⟩
theorem open_xb {w : World} {r : Reach} {base : Nat} {v : Value} (h : Value.okWide Try.prog w r base 37 v) : ∃ a0 a1 a2 a3, v = .agg #[.int .u8 a0, .int .u8 a1, .int .u8 a2, .int .u8 a3] ∧ RS.inK .u8 a0 ∧ RS.inK .u8 a1 ∧ RS.inK .u8 a2 ∧ RS.inK .u8 a3 := by
  obtain ⟨cs, rfl, hc⟩ := RS.open_arr (n := 4) (e := 5) (ts := [5, 5, 5, 5]) Try.underlying37 (by kernel_rfl) (by decide) (by kernel_rfl) (fun i hi => by match i, hi with | 0, _ => rfl | 1, _ => rfl | 2, _ => rfl | 3, _ => rfl | i + 4, hi => exact absurd hi (by omega)) h
  match cs, hc with
  | [c0, c1, c2, c3], ⟨h0, h1, h2, h3, _⟩ =>
    obtain ⟨x0, rfl, k0⟩ := RS.cell_int Try.underlying5 h0
    obtain ⟨x1, rfl, k1⟩ := RS.cell_int Try.underlying5 h1
    obtain ⟨x2, rfl, k2⟩ := RS.cell_int Try.underlying5 h2
    obtain ⟨x3, rfl, k3⟩ := RS.cell_int Try.underlying5 h3
    exact ⟨x0, x1, x2, x3, rfl, k0, k1, k2, k3⟩
theorem open_turn {w : World} {r : Reach} {base : Nat} {v : Value} (h : Value.okWide Try.prog w r base 33 v) : ∃ a b g r z k, v = .agg #[.string a, .string b, .int .i64 g, .int .i64 r, .int .i64 z, .string k] ∧ RS.inK .i64 g ∧ RS.inK .i64 r ∧ RS.inK .i64 z := by
  obtain ⟨cs, rfl, hc⟩ := RS.open_flat (ts := [9, 9, 3, 3, 3, 9]) Try.underlying33 (by kernel_rfl) (by kernel_rfl) h
  match cs, hc with
  | [a, b, c, d, e, f], ⟨h1, h2, h3, h4, h5, h6, _⟩ =>
    obtain ⟨a', rfl⟩ := RS.cell_str Try.underlying9 h1
    obtain ⟨b', rfl⟩ := RS.cell_str Try.underlying9 h2
    obtain ⟨c', rfl, k1⟩ := RS.cell_int Try.underlying3 h3
    obtain ⟨d', rfl, k2⟩ := RS.cell_int Try.underlying3 h4
    obtain ⟨e', rfl, k3⟩ := RS.cell_int Try.underlying3 h5
    obtain ⟨f', rfl⟩ := RS.cell_str Try.underlying9 h6
    exact ⟨a', b', c', d', e', f', rfl, k1, k2, k3⟩
set_option maxRecDepth 100000 in
theorem superTurns_lifted (os : Os) (started : os.Started) (H : Type) (enc : TypeId × Value → H) :
    ReturnsInHanded {} Try.checked os 5 .any (Rows.superTurnsSpec.pre6 enc Try.prog Try.f5 Rows.superTurnsRow.domain false) (Rows.superTurnsSpec.post enc Try.prog Try.f5 false true false false) := by
  refine returnsInHanded_of_change_sized (C := Try.checked) Try.own started (by kernel_rfl) Try.func5
    (ChangeSpec.witness6 (enc := enc) (C := Try.checked) false ⟨#[], #[.agg #[.string ByteArray.empty, .string ByteArray.empty, .int .i64 0, .int .i64 0, .int .i64 0, .string ByteArray.empty]], []⟩ 8 (by kernel_rfl) (by kernel_rfl) (by kernel_rfl) (by kernel_rfl)) ?_
  intro W base args ds gs before hval0 hW hcnd hsz0 _
  have hval : ∀ (j : Nat) t v, Try.f5.params[j]? = some t → args[j]? = some v → Value.okWide Try.prog W .any base t v := hval0
  have hsz : (DataW.weightsEach Try.prog (Try.f5.params.toList ++ Rows.superTurnsSpec.plain.varTypes Try.prog) (ds ++ gs)).all (· ≤ reachBytes) = true := hsz0
  have hW' := hW
  obtain ⟨p, q, hA0, hV, rfl, hfz, hnd⟩ := hW
  have hA : DataW.TrodAll enc Try.prog W 0 (fun _ => true) true Try.f5.params.toList args.toList ds p := hA0
  rw [Try.params5] at hA hval hsz
  obtain ⟨v0, d0, rfl, rfl, h0⟩ := trodAll_one hA
  obtain ⟨rfl, rfl⟩ := trodVars_none hV
  have hltW := DataW.Whole.lt hW'
  obtain ⟨ta, tb, tg, tr, tz, tk, rfl, kg, kr, kz⟩ := open_turn (hval 0 33 v0 rfl rfl)
  have hs := SuperTurns_spec ta tb tg tr tz tk kg kr kz
  refine (hs.2 (fun _ => undef) W [_] ⟨fun _ _ h => by simp at h, fun _ _ _ _ _ _ h => by simp at h⟩ ⟨⟨#[.string ta, .string tb, .int .i64 tg, .int .i64 tr, .int .i64 tz, .string tk], rfl, rfl, rfl, rfl, rfl, rfl, rfl, trivial⟩, trivial⟩).mono fun e W' ⟨g', v, he, hv, hp⟩ => ?_
  subst he
  exact ⟨_, rfl, RS.post_true Try.laidOut hW' rfl (by kernel_rfl) rfl Try.underlying4 rfl hv hp (fun k _ ⟨j, r, h, _⟩ => by simp at h)⟩
theorem superTurns_holds : Rows.SuperTurnsSaid :=
  OpenClaim.holds_of_wide 5 Try.f5 rfl rfl rfl rfl rfl rfl rfl ⟨rfl, rfl, rfl, rfl, rfl⟩ rfl rfl rfl rfl rfl (by kernel_rfl) Try.func5 (by kernel_rfl)
    (of_decide_eq_true (by kernel_rfl)) (by unfold Func.isWrapper; first | (rw [if_pos (by decide +kernel)]; kernel_rfl) | (rw [if_neg (by decide +kernel)]; exact ⟨rfl, rfl⟩))
    (fun os started H enc _ => superTurns_lifted os started H enc)
end Go.Proofs.Ytjpcnknegdpnoaa
