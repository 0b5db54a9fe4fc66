/- Proved: for all arguments, the law 'CanonFull' of chapter 6 returns true and its arguments read as before; no further condition. -/
import Derived.Test.YtpjiobflmcmlmaaMth
import Derived.Test.YtpjiobflmcmlmaaRsZ
import Derived.Test.YtpjiobflmcmlmaaRsAr
import Derived.Test.YtpjiobflmcmlmaaRows
set_option linter.unusedVariables false
namespace Go.Proofs.Ytpjiobflmcmlmaa
open Go.ChangeShapes Go.WideShapes Go.ChangeAt Go.RowKit
theorem Try.own : ownKnob Try.prog.godebug = none := by kernel_rfl
theorem Try.laidOut : laidOutB Try.prog = true := by kernel_rfl
theorem open_b15 {w : World} {r : Reach} {base : Nat} {v : Value} (h : Value.okWide Try.prog w r base 38 v) : ∃ a0 a1 a2 a3 a4 a5 a6 a7 a8 a9 a10 a11 a12 a13 a14, v = .agg #[.bool a0, .bool a1, .bool a2, .bool a3, .bool a4, .bool a5, .bool a6, .bool a7, .bool a8, .bool a9, .bool a10, .bool a11, .bool a12, .bool a13, .bool a14] := by
  obtain ⟨cs, rfl, hc⟩ := RS.open_arr (n := 15) (e := 4) (ts := [4, 4, 4, 4, 4, 4, 4, 4, 4, 4, 4, 4, 4, 4, 4]) Try.underlying38 (by kernel_rfl) (by decide) (by kernel_rfl) (fun i hi => by match i, hi with | 0, _ => rfl | 1, _ => rfl | 2, _ => rfl | 3, _ => rfl | 4, _ => rfl | 5, _ => rfl | 6, _ => rfl | 7, _ => rfl | 8, _ => rfl | 9, _ => rfl | 10, _ => rfl | 11, _ => rfl | 12, _ => rfl | 13, _ => rfl | 14, _ => rfl | i + 15, hi => exact absurd hi (by omega)) h
  match cs, hc with
  | [c0, c1, c2, c3, c4, c5, c6, c7, c8, c9, c10, c11, c12, c13, c14], ⟨h0, h1, h2, h3, h4, h5, h6, h7, h8, h9, h10, h11, h12, h13, h14, _⟩ =>
    obtain ⟨x0, rfl⟩ := RS.cell_bool Try.underlying4 h0
    obtain ⟨x1, rfl⟩ := RS.cell_bool Try.underlying4 h1
    obtain ⟨x2, rfl⟩ := RS.cell_bool Try.underlying4 h2
    obtain ⟨x3, rfl⟩ := RS.cell_bool Try.underlying4 h3
    obtain ⟨x4, rfl⟩ := RS.cell_bool Try.underlying4 h4
    obtain ⟨x5, rfl⟩ := RS.cell_bool Try.underlying4 h5
    obtain ⟨x6, rfl⟩ := RS.cell_bool Try.underlying4 h6
    obtain ⟨x7, rfl⟩ := RS.cell_bool Try.underlying4 h7
    obtain ⟨x8, rfl⟩ := RS.cell_bool Try.underlying4 h8
    obtain ⟨x9, rfl⟩ := RS.cell_bool Try.underlying4 h9
    obtain ⟨x10, rfl⟩ := RS.cell_bool Try.underlying4 h10
    obtain ⟨x11, rfl⟩ := RS.cell_bool Try.underlying4 h11
    obtain ⟨x12, rfl⟩ := RS.cell_bool Try.underlying4 h12
    obtain ⟨x13, rfl⟩ := RS.cell_bool Try.underlying4 h13
    obtain ⟨x14, rfl⟩ := RS.cell_bool Try.underlying4 h14
    exact ⟨x0, x1, x2, x3, x4, x5, x6, x7, x8, x9, x10, x11, x12, x13, x14, rfl⟩
set_option maxRecDepth 100000 in
theorem canonFull_lifted (os : Os) (started : os.Started) (H : Type) (enc : TypeId × Value → H) :
    ReturnsInHanded {} Try.checked os 5 .any (Rows.canonFullSpec.pre6 enc Try.prog Try.f5 Rows.canonFullRow.domain false) (Rows.canonFullSpec.post enc Try.prog Try.f5 false true false false) := by
  refine returnsInHanded_of_change_sized (C := Try.checked) Try.own started (by kernel_rfl) Try.func5
    (ChangeSpec.witness6 (enc := enc) (C := Try.checked) false ⟨#[], #[.slice none 0 0, .agg #[.bool false, .bool false, .bool false, .bool false, .bool false, .bool false, .bool false, .bool false, .bool false, .bool false, .bool false, .bool false, .bool false, .bool false, .bool false]], []⟩ 8 (by kernel_rfl) (by kernel_rfl) (by kernel_rfl) (by kernel_rfl)) ?_
  intro W base args ds gs before hval0 hW hcnd hsz0 _
  have hval : ∀ (j : Nat) t v, Try.f5.params[j]? = some t → args[j]? = some v → Value.okWide Try.prog W .any base t v := hval0
  have hsz : (DataW.weightsEach Try.prog (Try.f5.params.toList ++ Rows.canonFullSpec.plain.varTypes Try.prog) (ds ++ gs)).all (· ≤ reachBytes) = true := hsz0
  have hW' := hW
  obtain ⟨p, q, hA0, hV, rfl, hfz, hnd⟩ := hW
  have hA : DataW.TrodAll enc Try.prog W 0 (fun _ => true) true Try.f5.params.toList args.toList ds p := hA0
  rw [Try.params5] at hA hval hsz
  obtain ⟨v0, v1, d0, d1, p0, p1, rfl, rfl, rfl, h0, h1⟩ := trodAll_two hA
  obtain ⟨rfl, rfl⟩ := trodVars_none hV
  have hltW := DataW.Whole.lt hW'
  obtain ⟨l, rrl, rgl, rsl⟩ := RS.open_row (ks := [.int .i64]) Try.underlying22 (by kernel_rfl) (RS.slice_cells Try.underlying22 (hval 0 22 v0 rfl rfl)) h0 (fun y hy => hltW y (by simp [hy])) (by decide)
  have hzl : l.length * 8 ≤ 140737488351232 := by
    have := RS.size_row hsz (j := 0) rfl rfl Try.underlying22 rsl
    rw [show Try.prog.bytesOf 3 = 8 from by kernel_rfl] at this
    exact this
  obtain ⟨b0, b1, b2, b3, b4, b5, b6, b7, b8, b9, b10, b11, b12, b13, b14, rfl⟩ := open_b15 (hval 1 38 v1 rfl rfl)
  have hs := T7.CanonFull_spec l b0 b1 b2 b3 b4 b5 b6 b7 b8 b9 b10 b11 b12 b13 b14 (by omega) (fun j o => RS.RangeR.i64 rgl (by intro o k h; match o, h with | 0, h => exact (Option.some.inj h).symm | o + 1, h => simp at h) j o)
  rw [full_true] at hs
  refine (hs.2 (fun h => match h with | 0 => v0 | _ => undef) W [_, _] (RS.mem_row 0 (fun h r hh => by
    match h, hh with
    | 0, hh => (obtain rfl := Option.some.inj hh); exact RS.lent_ok rrl
    | h + 1, hh => exact absurd hh (by simp)) (fun r hr => by simp at hr; subst hr; rfl)) ⟨RS.row_arep rrl rfl, ⟨#[.bool b0, .bool b1, .bool b2, .bool b3, .bool b4, .bool b5, .bool b6, .bool b7, .bool b8, .bool b9, .bool b10, .bool b11, .bool b12, .bool b13, .bool b14], rfl, rfl, rfl, rfl, rfl, rfl, rfl, rfl, rfl, rfl, rfl, rfl, rfl, rfl, rfl, rfl, trivial⟩, trivial⟩).mono fun e W' ⟨g', v, he, hv, hp⟩ => ?_
  subst he
  exact ⟨_, rfl, RS.post_true Try.laidOut hW' rfl (by kernel_rfl) rfl Try.underlying4 rfl hv hp (fun k _ ⟨j, r, h, ho, _⟩ => by have hr := List.mem_of_getElem? h; simp at hr; subst hr; cases ho)⟩
theorem canonFull_holds : Rows.CanonFullSaid :=
  OpenClaim.holds_of_wide 5 Try.f5 rfl rfl rfl rfl rfl rfl rfl ⟨rfl, rfl, rfl, rfl, rfl⟩ rfl rfl rfl rfl rfl (by kernel_rfl) Try.func5 (by kernel_rfl)
    (of_decide_eq_true (by kernel_rfl)) (by unfold Func.isWrapper; first | (rw [if_pos (by decide +kernel)]; kernel_rfl) | (rw [if_neg (by decide +kernel)]; exact ⟨rfl, rfl⟩))
    (fun os started H enc _ => canonFull_lifted os started H enc)
end Go.Proofs.Ytpjiobflmcmlmaa
