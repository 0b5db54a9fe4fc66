/- Proved: for all arguments, the law 'CanonBack' of chapter 6 returns true and its arguments read as before; no further condition. -/
import Derived.Test.YtpjiobflmcmlmaaMth
import Derived.Test.YtpjiobflmcmlmaaRsZ
import Derived.Test.YtpjiobflmcmlmaaRsAr
import Derived.Test.YtpjiobflmcmlmaaRows
set_option linter.unusedVariables false
namespace Go.Proofs.Ytpjiobflmcmlmaa
open Go.ChangeShapes Go.WideShapes Go.ChangeAt Go.RowKit
theorem Try.own : ownKnob Try.prog.godebug = none := by kernel_rfl
theorem Try.laidOut : laidOutB Try.prog = true := by kernel_rfl
theorem open_at {w : World} {r : Reach} {base : Nat} {v : Value} (h : Value.okWide Try.prog w r base 25 v) : ∃ a b, v = .agg #[.int .i64 a, .int .i64 b] ∧ RS.inK .i64 a ∧ RS.inK .i64 b := by
  obtain ⟨cs, rfl, hc⟩ := RS.open_flat (ts := [3, 3]) Try.underlying25 (by kernel_rfl) (by kernel_rfl) h
  match cs, hc with
  | [a, b], ⟨h1, h2, _⟩ =>
    obtain ⟨a', rfl, k1⟩ := RS.cell_int Try.underlying3 h1
    obtain ⟨b', rfl, k2⟩ := RS.cell_int Try.underlying3 h2
    exact ⟨a', b', rfl, k1, k2⟩
set_option maxRecDepth 100000 in
theorem canonBack_lifted (os : Os) (started : os.Started) (H : Type) (enc : TypeId × Value → H) :
    ReturnsInHanded {} Try.checked os 4 .any (Rows.canonBackSpec.pre6 enc Try.prog Try.f4 Rows.canonBackRow.domain false) (Rows.canonBackSpec.post enc Try.prog Try.f4 false true false false) := by
  refine returnsInHanded_of_change_sized (C := Try.checked) Try.own started (by kernel_rfl) Try.func4
    (ChangeSpec.witness6 (enc := enc) (C := Try.checked) false ⟨#[], #[.slice none 0 0, .agg #[.int .i64 0, .int .i64 0], .slice none 0 0], []⟩ 8 (by kernel_rfl) (by kernel_rfl) (by kernel_rfl) (by kernel_rfl)) ?_
  intro W base args ds gs before hval0 hW hcnd hsz0 _
  have hval : ∀ (j : Nat) t v, Try.f4.params[j]? = some t → args[j]? = some v → Value.okWide Try.prog W .any base t v := hval0
  have hsz : (DataW.weightsEach Try.prog (Try.f4.params.toList ++ Rows.canonBackSpec.plain.varTypes Try.prog) (ds ++ gs)).all (· ≤ reachBytes) = true := hsz0
  have hW' := hW
  obtain ⟨p, q, hA0, hV, rfl, hfz, hnd⟩ := hW
  have hA : DataW.TrodAll enc Try.prog W 0 (fun _ => true) true Try.f4.params.toList args.toList ds p := hA0
  rw [Try.params4] at hA hval hsz
  obtain ⟨v0, v1, v2, d0, d1, d2, p0, p1, p2, rfl, rfl, rfl, h0, h1, h2⟩ := trodAll_three hA
  obtain ⟨rfl, rfl⟩ := trodVars_none hV
  have hltW := DataW.Whole.lt hW'
  obtain ⟨l, rrl, rgl, rsl⟩ := RS.open_row (ks := [.int .i64]) Try.underlying22 (by kernel_rfl) (RS.slice_cells Try.underlying22 (hval 0 22 v0 rfl rfl)) h0 (fun y hy => hltW y (by simp [hy])) (by decide)
  have hzl : l.length * 8 ≤ 140737488351232 := by
    have := RS.size_row hsz (j := 0) rfl rfl Try.underlying22 rsl
    rw [show Try.prog.bytesOf 3 = 8 from by kernel_rfl] at this
    exact this
  obtain ⟨xs, xa, rfl, kx, ka⟩ := open_at (hval 1 25 v1 rfl rfl)
  obtain ⟨m, rrm, rgm, rsm⟩ := RS.open_row (ks := [.bool]) Try.underlying23 (by kernel_rfl) (RS.slice_cells Try.underlying23 (hval 2 23 v2 rfl rfl)) h2 (fun y hy => hltW y (by simp [hy])) (by decide)
  have hzm : m.length * 1 ≤ 140737488351232 := by
    have := RS.size_row hsz (j := 2) rfl rfl Try.underlying23 rsm
    rw [show Try.prog.bytesOf 4 = 1 from by kernel_rfl] at this
    exact this
  have hs := T7.CanonBack_spec l xs xa m (by omega) (fun j o => RS.RangeR.i64 rgl (by intro o k h; match o, h with | 0, h => exact (Option.some.inj h).symm | o + 1, h => simp at h) j o) kx ka (by omega)
  rw [back_true] at hs
  refine (hs.2 (fun h => match h with | 0 => v0 | 1 => v2 | _ => undef) W [_, _, _] (RS.mem_row 0 (fun h r hh => by
    match h, hh with
    | 0, hh => (obtain rfl := Option.some.inj hh); exact RS.lent_ok rrl
    | 1, hh => (obtain rfl := Option.some.inj hh); exact RS.lent_ok rrm
    | h + 2, hh => exact absurd hh (by simp)) (fun r hr => by simp at hr; rcases hr with rfl | rfl <;> rfl)) ⟨RS.row_arep rrl rfl, ⟨#[.int .i64 xs, .int .i64 xa], rfl, rfl, rfl, trivial⟩, RS.row_arep rrm rfl, trivial⟩).mono fun e W' ⟨g', v, he, hv, hp⟩ => ?_
  subst he
  exact ⟨_, rfl, RS.post_true Try.laidOut hW' rfl (by kernel_rfl) rfl Try.underlying4 rfl hv hp (fun k _ ⟨j, r, h, ho, _⟩ => by have hr := List.mem_of_getElem? h; simp at hr; rcases hr with rfl | rfl <;> cases ho)⟩
theorem canonBack_holds : Rows.CanonBackSaid :=
  OpenClaim.holds_of_wide 4 Try.f4 rfl rfl rfl rfl rfl rfl rfl ⟨rfl, rfl, rfl, rfl, rfl⟩ rfl rfl rfl rfl rfl (by kernel_rfl) Try.func4 (by kernel_rfl)
    (of_decide_eq_true (by kernel_rfl)) (by unfold Func.isWrapper; first | (rw [if_pos (by decide +kernel)]; kernel_rfl) | (rw [if_neg (by decide +kernel)]; exact ⟨rfl, rfl⟩))
    (fun os started H enc _ => canonBack_lifted os started H enc)
end Go.Proofs.Ytpjiobflmcmlmaa
