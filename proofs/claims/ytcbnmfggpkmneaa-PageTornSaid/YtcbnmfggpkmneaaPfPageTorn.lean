/- Proved: for all arguments, the law 'PageTorn' of chapter 11 returns true and its arguments read as before; no further condition. -/
import Derived.Test.YtcbnmfggpkmneaaMth
import Derived.Test.YtcbnmfggpkmneaaRsZ
import Derived.Test.YtcbnmfggpkmneaaRsAr
import Derived.Test.YtcbnmfggpkmneaaRows
set_option linter.unusedVariables false
namespace Go.Proofs.Ytcbnmfggpkmneaa
open Go.ChangeShapes Go.WideShapes Go.ChangeAt Go.RowKit
theorem Try.own : ownKnob Try.prog.godebug = none := by kernel_rfl
theorem Try.laidOut : laidOutB Try.prog = true := by kernel_rfl
theorem open_xat {w : World} {r : Reach} {base : Nat} {v : Value} (h : Value.okWide Try.prog w r base 32 v) : ∃ a0 a1, v = .agg #[.int .i64 a0, .int .i64 a1] ∧ RS.inK .i64 a0 ∧ RS.inK .i64 a1 := by
  obtain ⟨cs, rfl, hc⟩ := RS.open_arr (n := 2) (e := 3) (ts := [3, 3]) Try.underlying32 (by kernel_rfl) (by decide) (by kernel_rfl) (fun i hi => by match i, hi with | 0, _ => rfl | 1, _ => rfl | i + 2, hi => exact absurd hi (by omega)) h
  match cs, hc with
  | [c0, c1], ⟨h0, h1, _⟩ =>
    obtain ⟨x0, rfl, k0⟩ := RS.cell_int Try.underlying3 h0
    obtain ⟨x1, rfl, k1⟩ := RS.cell_int Try.underlying3 h1
    exact ⟨x0, x1, rfl, k0, k1⟩
theorem open_xb {w : World} {r : Reach} {base : Nat} {v : Value} (h : Value.okWide Try.prog w r base 33 v) : ∃ a0 a1 a2 a3, v = .agg #[.int .u8 a0, .int .u8 a1, .int .u8 a2, .int .u8 a3] ∧ RS.inK .u8 a0 ∧ RS.inK .u8 a1 ∧ RS.inK .u8 a2 ∧ RS.inK .u8 a3 := by
  obtain ⟨cs, rfl, hc⟩ := RS.open_arr (n := 4) (e := 5) (ts := [5, 5, 5, 5]) Try.underlying33 (by kernel_rfl) (by decide) (by kernel_rfl) (fun i hi => by match i, hi with | 0, _ => rfl | 1, _ => rfl | 2, _ => rfl | 3, _ => rfl | i + 4, hi => exact absurd hi (by omega)) h
  match cs, hc with
  | [c0, c1, c2, c3], ⟨h0, h1, h2, h3, _⟩ =>
    obtain ⟨x0, rfl, k0⟩ := RS.cell_int Try.underlying5 h0
    obtain ⟨x1, rfl, k1⟩ := RS.cell_int Try.underlying5 h1
    obtain ⟨x2, rfl, k2⟩ := RS.cell_int Try.underlying5 h2
    obtain ⟨x3, rfl, k3⟩ := RS.cell_int Try.underlying5 h3
    exact ⟨x0, x1, x2, x3, rfl, k0, k1, k2, k3⟩
set_option maxRecDepth 100000 in
theorem pageTorn_lifted (os : Os) (started : os.Started) (H : Type) (enc : TypeId × Value → H) :
    ReturnsInHanded {} Try.checked os 6 .any (Rows.pageTornSpec.pre6 enc Try.prog Try.f6 Rows.pageTornRow.domain false) (Rows.pageTornSpec.post enc Try.prog Try.f6 false true false false) := by
  refine returnsInHanded_of_change_sized (C := Try.checked) Try.own started (by kernel_rfl) Try.func6
    (ChangeSpec.witness6 (enc := enc) (C := Try.checked) false ⟨#[], #[.string ByteArray.empty, .agg #[.int .i64 0, .int .i64 0], .agg #[.int .u8 0, .int .u8 0, .int .u8 0, .int .u8 0]], []⟩ 8 (by kernel_rfl) (by kernel_rfl) (by kernel_rfl) (by kernel_rfl)) ?_
  intro W base args ds gs before hval0 hW hcnd hsz0 _
  have hval : ∀ (j : Nat) t v, Try.f6.params[j]? = some t → args[j]? = some v → Value.okWide Try.prog W .any base t v := hval0
  have hsz : (DataW.weightsEach Try.prog (Try.f6.params.toList ++ Rows.pageTornSpec.plain.varTypes Try.prog) (ds ++ gs)).all (· ≤ reachBytes) = true := hsz0
  have hW' := hW
  obtain ⟨p, q, hA0, hV, rfl, hfz, hnd⟩ := hW
  have hA : DataW.TrodAll enc Try.prog W 0 (fun _ => true) true Try.f6.params.toList args.toList ds p := hA0
  rw [Try.params6] at hA hval hsz
  obtain ⟨v0, v1, v2, d0, d1, d2, p0, p1, p2, rfl, rfl, rfl, h0, h1, h2⟩ := trodAll_three hA
  obtain ⟨rfl, rfl⟩ := trodVars_none hV
  have hltW := DataW.Whole.lt hW'
  obtain ⟨s, rfl, rfl, rfl, _⟩ := Go.ChangeMaps.open_string Try.underlying9 (hval 0 9 v0 rfl rfl) h0
  have hs : (s.size : Int) ≤ 140737488351232 := by
    have := sized_string hsz (j := 0) (t := 9) rfl rfl
    simp only [Array.length_toList, reachBytes] at this
    have e : s.size = s.data.size := rfl
    omega
  obtain ⟨xa, xb, rfl, kxa, kxb⟩ := open_xat (hval 1 32 v1 rfl rfl)
  obtain ⟨b0, b1, b2, b3, rfl, kb0, kb1, kb2, kb3⟩ := open_xb (hval 2 33 v2 rfl rfl)
  have hs := PageTorn_spec s xa xb b0 b1 b2 b3 hs kxa kxb kb0 kb1 kb2 kb3
  rw [torn_true] at hs
  refine (hs.2 (fun _ => undef) W [_, _, _] ⟨fun _ _ h => by simp at h, fun _ _ _ _ _ _ h => by simp at h⟩ ⟨rfl, ⟨#[.int .i64 xa, .int .i64 xb], rfl, rfl, rfl, trivial⟩, ⟨#[.int .u8 b0, .int .u8 b1, .int .u8 b2, .int .u8 b3], rfl, rfl, rfl, rfl, rfl, trivial⟩, trivial⟩).mono fun e W' ⟨g', v, he, hv, hp⟩ => ?_
  subst he
  exact ⟨_, rfl, RS.post_true Try.laidOut hW' rfl (by kernel_rfl) rfl Try.underlying4 rfl hv hp (fun k _ ⟨j, r, h, _⟩ => by simp at h)⟩
theorem pageTorn_holds : Rows.PageTornSaid :=
  OpenClaim.holds_of_wide 6 Try.f6 rfl rfl rfl rfl rfl rfl rfl ⟨rfl, rfl, rfl, rfl, rfl⟩ rfl rfl rfl rfl rfl (by kernel_rfl) Try.func6 (by kernel_rfl)
    (of_decide_eq_true (by kernel_rfl)) (by unfold Func.isWrapper; first | (rw [if_pos (by decide +kernel)]; kernel_rfl) | (rw [if_neg (by decide +kernel)]; exact ⟨rfl, rfl⟩))
    (fun os started H enc _ => pageTorn_lifted os started H enc)
end Go.Proofs.Ytcbnmfggpkmneaa
