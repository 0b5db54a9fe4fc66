/- Printed: contracts of the functions. -/
import Derived.Test.YtpjiobflmcmlmaaChecked
import Derived.Test.YtpjiobflmcmlmaaRsY
import Derived.Test.YtpjiobflmcmlmaaRsCanonN
import Derived.Test.YtpjiobflmcmlmaaWk
set_option linter.unusedVariables false
set_option linter.unusedSimpArgs false
set_option maxRecDepth 100000
set_option maxHeartbeats 2000000
namespace Go.Proofs.Ytpjiobflmcmlmaa
open Go Go.Proofs.Ytpjiobflmcmlmaa.RS Go.RowKit
namespace T3
def tt : TT := [(3, ⟨.int .i64, 1, 8, (.int .i64 (0 : Int)), []⟩), (22, ⟨.sl 3, 1, 24, (.slice none 0 0), []⟩), (27, ⟨.sl 42, 1, 24, (.slice none 0 0), []⟩), (42, ⟨.st [(3, 0), (3, 1)], 2, 16, (.agg #[(.int .i64 (0 : Int)), (.int .i64 (0 : Int))]), []⟩), (49, ⟨.arr 16 3, 16, 128, (.agg #[(.int .i64 (0 : Int)), (.int .i64 (0 : Int)), (.int .i64 (0 : Int)), (.int .i64 (0 : Int)), (.int .i64 (0 : Int)), (.int .i64 (0 : Int)), (.int .i64 (0 : Int)), (.int .i64 (0 : Int)), (.int .i64 (0 : Int)), (.int .i64 (0 : Int)), (.int .i64 (0 : Int)), (.int .i64 (0 : Int)), (.int .i64 (0 : Int)), (.int .i64 (0 : Int)), (.int .i64 (0 : Int)), (.int .i64 (0 : Int))]), []⟩), (50, ⟨.arr 16 22, 16, 384, (.agg #[(.slice none 0 0), (.slice none 0 0), (.slice none 0 0), (.slice none 0 0), (.slice none 0 0), (.slice none 0 0), (.slice none 0 0), (.slice none 0 0), (.slice none 0 0), (.slice none 0 0), (.slice none 0 0), (.slice none 0 0), (.slice none 0 0), (.slice none 0 0), (.slice none 0 0), (.slice none 0 0)]), []⟩), (52, ⟨.st [(27, 0), (49, 1), (50, 17)], 33, 536, (.agg #[(.slice none 0 0), (.int .i64 (0 : Int)), (.int .i64 (0 : Int)), (.int .i64 (0 : Int)), (.int .i64 (0 : Int)), (.int .i64 (0 : Int)), (.int .i64 (0 : Int)), (.int .i64 (0 : Int)), (.int .i64 (0 : Int)), (.int .i64 (0 : Int)), (.int .i64 (0 : Int)), (.int .i64 (0 : Int)), (.int .i64 (0 : Int)), (.int .i64 (0 : Int)), (.int .i64 (0 : Int)), (.int .i64 (0 : Int)), (.int .i64 (0 : Int)), (.slice none 0 0), (.slice none 0 0), (.slice none 0 0), (.slice none 0 0), (.slice none 0 0), (.slice none 0 0), (.slice none 0 0), (.slice none 0 0), (.slice none 0 0), (.slice none 0 0), (.slice none 0 0), (.slice none 0 0), (.slice none 0 0), (.slice none 0 0), (.slice none 0 0), (.slice none 0 0)]), []⟩)]
theorem tt_ok : tt.ok Try.prog := (TT.ok_cons (by kernel_rfl) (by kernel_rfl) (fun h => absurd rfl h) (TT.ok_cons (by kernel_rfl) (by kernel_rfl) (fun h => absurd rfl h) (TT.ok_cons (by kernel_rfl) (by kernel_rfl) (fun h => absurd rfl h) (TT.ok_cons (by kernel_rfl) (by kernel_rfl) (fun h => absurd rfl h) (TT.ok_cons (by kernel_rfl) (by kernel_rfl) (fun h => absurd rfl h) (TT.ok_cons (by kernel_rfl) (by kernel_rfl) (fun h => absurd rfl h) (TT.ok_cons (by kernel_rfl) (by kernel_rfl) (fun h => absurd rfl h) (TT.ok_nil _))))))))
theorem New_round1 {gg : Gam} {ww : World} {Q : Exit → Act → World → Prop} (l : List (List Value)) (x : Nat → List (List Value)) (hl : (l.length : Int) ≤ 17592186044416) (hk : ∀ j o : Nat, -9223372036854775808 ≤ vI (cellAt l j o) ∧ vI (cellAt l j o) ≤ 9223372036854775807) (hkr : kraftL l ≤ 32768) (hx0 : x 0 = symN l 0 l.length) (hx1 : x 1 = symN l 1 l.length) (hx2 : x 2 = symN l 2 l.length) (hx3 : x 3 = symN l 3 l.length) (hx4 : x 4 = symN l 4 l.length) (hx5 : x 5 = symN l 5 l.length) (hx6 : x 6 = symN l 6 l.length) (hx7 : x 7 = symN l 7 l.length) (hx8 : x 8 = symN l 8 l.length) (hx9 : x 9 = symN l 9 l.length) (hx10 : x 10 = symN l 10 l.length) (hx11 : x 11 = symN l 11 l.length) (hx12 : x 12 = symN l 12 l.length) (hx13 : x 13 = symN l 13 l.length) (hx14 : x 14 = symN l 14 l.length) (hx15 : x 15 = symN l 15 l.length) (hxl0 : (x 0).length ≤ l.length) (hxl1 : (x 1).length ≤ l.length) (hxl2 : (x 2).length ≤ l.length) (hxl3 : (x 3).length ≤ l.length) (hxl4 : (x 4).length ≤ l.length) (hxl5 : (x 5).length ≤ l.length) (hxl6 : (x 6).length ≤ l.length) (hxl7 : (x 7).length ≤ l.length) (hxl8 : (x 8).length ≤ l.length) (hxl9 : (x 9).length ≤ l.length) (hxl10 : (x 10).length ≤ l.length) (hxl11 : (x 11).length ≤ l.length) (hxl12 : (x 12).length ≤ l.length) (hxl13 : (x 13).length ≤ l.length) (hxl14 : (x 14).length ≤ l.length) (hxl15 : (x 15).length ≤ l.length) : W (mkC Try.prog tt 88 [.row false 3 [.int .i64] l] gg ww) (lopB (blkB (seqR (seqL (seqR (seqR (seqR (seqR (seqR (bodyC Try.f19)))))))))) (Exit.then (fun a w => ∃ n, (1 ≤ n ∧ n ≤ 16) ∧ 16 - n < 16 - 1 ∧ Sat (mkC Try.prog tt 88 [.row false 3 [.int .i64] l] gg ww) (⟨[(2, none, .sv (.lf (.val (.pointer none)))), eB 3 false, eP 4 2 0, eI 7 (endL l (n - 1)), eI 8 (n : Int)], [lI 3 l, rII 42 (outS l n 0), .blk true 52 (tblC 1 3 (n - 1) l)] ++ rowsX 3 x, oL 1 18⟩) a w) Q) ⟨[(2, none, .sv (.lf (.val (.pointer none)))), eB 3 false, eP 4 2 0, eI 7 (0 : Int), eI 8 (1 : Int)], [lI 3 l, rII 42 (outS l 1 0), .blk true 52 (tblC 1 3 1 l)] ++ rowsX 3 x, oL 1 18⟩ := by
  have hbe := endL_bd hkr (n := 0) (by decide)
  refine W.seq ?_
  refine W.sx tt_ok [⟨0, 0, none⟩, ⟨0, 1, none⟩] [2, 3, 4, 7, 8, 53] (List.range 19) ⟨[(2, none, .sv (.lf (.val (.pointer none)))), eB 3 false, eP 4 2 0, eI 7 (0 : Int), eI 8 (1 : Int), eB 53 true], [lI 3 l, rII 42 (outS l 1 0), .blk true 52 (tblC 1 3 1 l)] ++ rowsX 3 x, oL 1 18⟩ [(1 : Int) ≤ (15 : Int)] (by kernel_rfl) ⟨(by omega), trivial⟩ ?_
  refine W.cond (p := true) (by kernel_rfl) (fun _ => ?_) (fun h => nomatch h)
  refine W.skip ?_
  refine W.next ?_
  refine W.seq ?_
  refine W.block ?_
  refine W.sx tt_ok [] [2, 3, 4, 7, 8] (List.range 19) ⟨[(2, none, .sv (.lf (.val (.pointer none)))), eB 3 false, eP 4 2 0, eI 7 (0 : Int), eI 8 (1 : Int)], [lI 3 l, rII 42 (outS l 1 0), .blk true 52 (tblC 1 3 1 l)] ++ rowsX 3 x, oL 1 18⟩ [inK .i64 ((0 : Int) * (2 : Int))] (by kernel_rfl) ⟨(by simp only [inK]; omega), trivial⟩ ?_
  have hb1 := baseL_bd hkr (n := 1) (by decide) (by decide)
  refine W.sx tt_ok [⟨0, 0, none⟩, ⟨0, 0, none⟩, ⟨0, 0, none⟩, ⟨0, 0, none⟩, ⟨0, 0, none⟩, ⟨0, 1, none⟩] [2, 3, 4, 7, 8] (List.range 19) ⟨[(2, none, .sv (.lf (.val (.pointer none)))), eB 3 false, eP 4 2 0, eI 7 (0 : Int), eI 8 (1 : Int)], [lI 3 l, rII 42 (outS l 1 0), .blk true 52 (tblC 1 3 1 l)] ++ rowsX 3 x, oL 1 18⟩ [0 ≤ (1 : Int) ∧ (1 : Int) < (16 : Int)] (by kernel_rfl) ⟨(by omega), trivial⟩ ?_
  refine W.sx tt_ok [⟨0, 0, none⟩, ⟨0, 0, none⟩, ⟨0, 0, none⟩, ⟨0, 0, none⟩, ⟨0, 1, none⟩] [2, 3, 4, 7, 8, 69, 70, 71] (List.range 19) ⟨[(2, none, .sv (.lf (.val (.pointer none)))), eB 3 false, eP 4 2 0, eI 7 (0 : Int), eI 8 (1 : Int), eR 69 4, eI 70 ((x 1).length : Int), eI 71 (0 : Int)], [lI 3 l, rII 42 (outS l 1 0), .blk true 52 (tblC 1 3 1 l)] ++ rowsX 3 x, oL 1 18⟩ [0 ≤ (1 : Int) ∧ (1 : Int) < (16 : Int)] (by kernel_rfl) ⟨(by omega), trivial⟩ ?_
  refine W.block ?_
  refine W.loop (ι := Int × Int × List (List Value)) (fun z => ⟨[(2, none, .sv (.lf (.val (.pointer none)))), eB 3 false, eP 4 2 0, eI 7 z.1, eI 8 (1 : Int), eR 69 4, eI 70 ((x 1).length : Int), eI 71 z.2.1], [lI 3 l, rII 42 z.2.2, .blk true 52 (tblC 1 3 1 l)] ++ rowsX 3 x, oL 1 18⟩) (fun z => (0 ≤ z.2.1 ∧ z.2.1 ≤ ((x 1).length : Int)) ∧ (z.1 = baseL l 1 + z.2.1) ∧ (z.2.2 = outS l 1 z.2.1)) (fun z => (((x 1).length : Int) - z.2.1).toNat) ⟨0, 0, (outS l 1 0)⟩ (show (0 ≤ (0 : Int) ∧ (0 : Int) ≤ ((x 1).length : Int)) ∧ ((0 : Int) = baseL l 1 + (0 : Int)) ∧ ((outS l 1 0) = outS l 1 (0 : Int)) from ⟨by omega, by show (0 : Int) = 2 * endL l 0 + 0; simp [endL], rfl⟩) rfl ?_
  rintro ⟨c, j, zs⟩ ⟨hj, hc, hz2⟩
  dsimp only at hj hc hz2
  have hzl : zs.length = l.length := by rw [hz2, outS_len]
  have hbb := endL_bd hkr (n := 1) (by decide)
  have hee := end_base l 1 (by decide) hx1
  have hsy0 := fun h => sym_ok (n := 1) (j := j) hx1 hj.1 h
  refine W.sx tt_ok [] [2, 3, 4, 7, 8, 69, 70, 71, 72] (List.range 19) ⟨[(2, none, .sv (.lf (.val (.pointer none)))), eB 3 false, eP 4 2 0, eI 7 c, eI 8 (1 : Int), eR 69 4, eI 70 ((x 1).length : Int), eI 71 j, eB 72 (decide (j < ((x 1).length : Int)))], [lI 3 l, rII 42 zs, .blk true 52 (tblC 1 3 1 l)] ++ rowsX 3 x, oL 1 18⟩ [] (by kernel_rfl) trivial ?_
  refine W.seq ?_
  refine W.cond (p := (decide (j < ((x 1).length : Int)))) (by kernel_rfl) (fun h4 => ?_) (fun h4 => ?_)
  · have h4p := of_decide_eq_true h4
    have hsy := hsy0 (by omega)
    refine W.skip ?_
    refine W.next ?_
    refine W.seq ?_
    refine W.block ?_
    refine W.sx tt_ok [] [2, 3, 4, 7, 8, 10, 69, 70, 71] (List.range 19) ⟨[(2, none, .sv (.lf (.val (.pointer none)))), eB 3 false, eP 4 2 0, eI 7 c, eI 8 (1 : Int), eI 10 (vI (cellAt (x 1) j.toNat 0)), eR 69 4, eI 70 ((x 1).length : Int), eI 71 j], [lI 3 l, rII 42 zs, .blk true 52 (tblC 1 3 1 l)] ++ rowsX 3 x, oL 1 18⟩ [0 ≤ j ∧ j < ((x 1).length : Int), 0 ≤ j ∧ j < ((x 1).length : Int)] (by kernel_rfl) ⟨(by omega), (by omega), trivial⟩ ?_
    refine W.sx tt_ok [] [2, 3, 4, 7, 8, 69, 70, 71] (List.range 19) ⟨[(2, none, .sv (.lf (.val (.pointer none)))), eB 3 false, eP 4 2 0, eI 7 c, eI 8 (1 : Int), eR 69 4, eI 70 ((x 1).length : Int), eI 71 j], [lI 3 l, rII 42 (zs.set (vI (cellAt (x 1) j.toNat 0)).toNat [wI (1 : Int), wI c]), .blk true 52 (tblC 1 3 1 l)] ++ rowsX 3 x, oL 1 18⟩ [0 ≤ (vI (cellAt (x 1) j.toNat 0)) ∧ (vI (cellAt (x 1) j.toNat 0)) < (zs.length : Int), 0 ≤ (vI (cellAt (x 1) j.toNat 0)) ∧ (vI (cellAt (x 1) j.toNat 0)) < (zs.length : Int)] (by kernel_rfl) ⟨(by omega), (by omega), trivial⟩ ?_
    refine W.regionX tt_ok [] [2, 3, 4, 7, 8, 69, 70, 71] (List.range 19) ⟨[(2, none, .sv (.lf (.val (.pointer none)))), eB 3 false, eP 4 2 0, eI 7 (c + (1 : Int)), eI 8 (1 : Int), eR 69 4, eI 70 ((x 1).length : Int), eI 71 j], [lI 3 l, rII 42 (zs.set (vI (cellAt (x 1) j.toNat 0)).toNat [wI (1 : Int), wI c]), .blk true 52 (tblC 1 3 1 l)] ++ rowsX 3 x, oL 1 18⟩ [inK .i64 (c + (1 : Int))] (by kernel_rfl) ⟨(by simp only [inK]; omega), trivial⟩ ?_
    refine unblock ?_
    refine W.next ?_
    refine W.regionX tt_ok [] [2, 3, 4, 7, 8, 69, 70, 71] (List.range 19) ⟨[(2, none, .sv (.lf (.val (.pointer none)))), eB 3 false, eP 4 2 0, eI 7 (c + (1 : Int)), eI 8 (1 : Int), eR 69 4, eI 70 ((x 1).length : Int), eI 71 (j + (1 : Int))], [lI 3 l, rII 42 (zs.set (vI (cellAt (x 1) j.toNat 0)).toNat [wI (1 : Int), wI c]), .blk true 52 (tblC 1 3 1 l)] ++ rowsX 3 x, oL 1 18⟩ [inK .i64 (j + (1 : Int))] (by kernel_rfl) ⟨(by simp only [inK]; omega), trivial⟩ ?_
    exact againK [2, 3, 4, 7, 8, 69, 70, 71] (List.range 19) ⟨[(2, none, .sv (.lf (.val (.pointer none)))), eB 3 false, eP 4 2 0, eI 7 (c + (1 : Int)), eI 8 (1 : Int), eR 69 4, eI 70 ((x 1).length : Int), eI 71 (j + (1 : Int))], [lI 3 l, rII 42 (zs.set (vI (cellAt (x 1) j.toNat 0)).toNat [wI (1 : Int), wI c]), .blk true 52 (tblC 1 3 1 l)] ++ rowsX 3 x, oL 1 18⟩ (by kernel_rfl) ⟨(c + (1 : Int)), (j + (1 : Int)), (zs.set (vI (cellAt (x 1) j.toNat 0)).toNat [Value.int .i64 (1 : Int), Value.int .i64 c])⟩ (show (0 ≤ (j + (1 : Int)) ∧ (j + (1 : Int)) ≤ ((x 1).length : Int)) ∧ ((c + (1 : Int)) = baseL l 1 + (j + (1 : Int))) ∧ ((zs.set (vI (cellAt (x 1) j.toNat 0)).toNat [Value.int .i64 (1 : Int), Value.int .i64 c]) = outS l 1 (j + (1 : Int))) from ⟨by omega, by omega, by rw [hz2, hc]; exact outS_set (n := 1) (by decide) (by omega) hsy.2.2.1 hsy.2.2.2⟩) (show (((x 1).length : Int) - (j + (1 : Int))).toNat < (((x 1).length : Int) - j).toNat from by omega) rfl
  · have h4p := of_decide_eq_false h4
    refine W.exit ?_
    refine exit_then ?_
    refine exit_then ?_
    obtain rfl : j = ((x 1).length : Int) := by omega
    obtain rfl : c = (endL l 1) := by omega
    obtain rfl : zs = (outS l 2 0) := by rw [hz2]; exact outS_end l 1 hx1
    refine exit_here ?_
    refine unblock ?_
    refine W.next ?_
    refine W.regionX tt_ok [] [2, 3, 4, 7, 8] (List.range 19) ⟨[(2, none, .sv (.lf (.val (.pointer none)))), eB 3 false, eP 4 2 0, eI 7 (endL l 1), eI 8 (2 : Int)], [lI 3 l, rII 42 (outS l 2 0), .blk true 52 (tblC 1 3 1 l)] ++ rowsX 3 x, oL 1 18⟩ [inK .i64 ((1 : Int) + (1 : Int))] (by kernel_rfl) ⟨(by simp only [inK]; omega), trivial⟩ ?_
    exact againK [2, 3, 4, 7, 8] (List.range 19) ⟨[(2, none, .sv (.lf (.val (.pointer none)))), eB 3 false, eP 4 2 0, eI 7 (endL l 1), eI 8 (2 : Int)], [lI 3 l, rII 42 (outS l 2 0), .blk true 52 (tblC 1 3 1 l)] ++ rowsX 3 x, oL 1 18⟩ (by kernel_rfl) 2 (by decide) (by decide) (by kernel_rfl)
theorem New_round2 {gg : Gam} {ww : World} {Q : Exit → Act → World → Prop} (l : List (List Value)) (x : Nat → List (List Value)) (hl : (l.length : Int) ≤ 17592186044416) (hk : ∀ j o : Nat, -9223372036854775808 ≤ vI (cellAt l j o) ∧ vI (cellAt l j o) ≤ 9223372036854775807) (hkr : kraftL l ≤ 32768) (hx0 : x 0 = symN l 0 l.length) (hx1 : x 1 = symN l 1 l.length) (hx2 : x 2 = symN l 2 l.length) (hx3 : x 3 = symN l 3 l.length) (hx4 : x 4 = symN l 4 l.length) (hx5 : x 5 = symN l 5 l.length) (hx6 : x 6 = symN l 6 l.length) (hx7 : x 7 = symN l 7 l.length) (hx8 : x 8 = symN l 8 l.length) (hx9 : x 9 = symN l 9 l.length) (hx10 : x 10 = symN l 10 l.length) (hx11 : x 11 = symN l 11 l.length) (hx12 : x 12 = symN l 12 l.length) (hx13 : x 13 = symN l 13 l.length) (hx14 : x 14 = symN l 14 l.length) (hx15 : x 15 = symN l 15 l.length) (hxl0 : (x 0).length ≤ l.length) (hxl1 : (x 1).length ≤ l.length) (hxl2 : (x 2).length ≤ l.length) (hxl3 : (x 3).length ≤ l.length) (hxl4 : (x 4).length ≤ l.length) (hxl5 : (x 5).length ≤ l.length) (hxl6 : (x 6).length ≤ l.length) (hxl7 : (x 7).length ≤ l.length) (hxl8 : (x 8).length ≤ l.length) (hxl9 : (x 9).length ≤ l.length) (hxl10 : (x 10).length ≤ l.length) (hxl11 : (x 11).length ≤ l.length) (hxl12 : (x 12).length ≤ l.length) (hxl13 : (x 13).length ≤ l.length) (hxl14 : (x 14).length ≤ l.length) (hxl15 : (x 15).length ≤ l.length) : W (mkC Try.prog tt 88 [.row false 3 [.int .i64] l] gg ww) (lopB (blkB (seqR (seqL (seqR (seqR (seqR (seqR (seqR (bodyC Try.f19)))))))))) (Exit.then (fun a w => ∃ n, (1 ≤ n ∧ n ≤ 16) ∧ 16 - n < 16 - 2 ∧ Sat (mkC Try.prog tt 88 [.row false 3 [.int .i64] l] gg ww) (⟨[(2, none, .sv (.lf (.val (.pointer none)))), eB 3 false, eP 4 2 0, eI 7 (endL l (n - 1)), eI 8 (n : Int)], [lI 3 l, rII 42 (outS l n 0), .blk true 52 (tblC 1 3 (n - 1) l)] ++ rowsX 3 x, oL 1 18⟩) a w) Q) ⟨[(2, none, .sv (.lf (.val (.pointer none)))), eB 3 false, eP 4 2 0, eI 7 (endL l 1), eI 8 (2 : Int)], [lI 3 l, rII 42 (outS l 2 0), .blk true 52 (tblC 1 3 1 l)] ++ rowsX 3 x, oL 1 18⟩ := by
  have hbe := endL_bd hkr (n := 1) (by decide)
  refine W.seq ?_
  refine W.sx tt_ok [⟨0, 0, none⟩, ⟨0, 1, none⟩] [2, 3, 4, 7, 8, 53] (List.range 19) ⟨[(2, none, .sv (.lf (.val (.pointer none)))), eB 3 false, eP 4 2 0, eI 7 (endL l 1), eI 8 (2 : Int), eB 53 true], [lI 3 l, rII 42 (outS l 2 0), .blk true 52 (tblC 1 3 1 l)] ++ rowsX 3 x, oL 1 18⟩ [(2 : Int) ≤ (15 : Int)] (by kernel_rfl) ⟨(by omega), trivial⟩ ?_
  refine W.cond (p := true) (by kernel_rfl) (fun _ => ?_) (fun h => nomatch h)
  refine W.skip ?_
  refine W.next ?_
  refine W.seq ?_
  refine W.block ?_
  refine W.sx tt_ok [] [2, 3, 4, 7, 8] (List.range 19) ⟨[(2, none, .sv (.lf (.val (.pointer none)))), eB 3 false, eP 4 2 0, eI 7 ((endL l 1) * (2 : Int)), eI 8 (2 : Int)], [lI 3 l, rII 42 (outS l 2 0), .blk true 52 (tblC 1 3 1 l)] ++ rowsX 3 x, oL 1 18⟩ [inK .i64 ((endL l 1) * (2 : Int))] (by kernel_rfl) ⟨(by simp only [inK]; omega), trivial⟩ ?_
  generalize hv2 : (endL l 1) * (2 : Int) = v2
  obtain rfl : v2 = baseL l 2 := by rw [← hv2]; exact base_dbl l 2 (by decide)
  have hb2 := baseL_bd hkr (n := 2) (by decide) (by decide)
  refine W.sx tt_ok [⟨0, 0, none⟩, ⟨0, 0, none⟩, ⟨0, 0, none⟩, ⟨0, 0, none⟩, ⟨0, 0, none⟩, ⟨0, 1, none⟩] [2, 3, 4, 7, 8] (List.range 19) ⟨[(2, none, .sv (.lf (.val (.pointer none)))), eB 3 false, eP 4 2 0, eI 7 (baseL l 2), eI 8 (2 : Int)], [lI 3 l, rII 42 (outS l 2 0), .blk true 52 (tblC 1 3 2 l)] ++ rowsX 3 x, oL 1 18⟩ [0 ≤ (2 : Int) ∧ (2 : Int) < (16 : Int)] (by kernel_rfl) ⟨(by omega), trivial⟩ ?_
  refine W.sx tt_ok [⟨0, 0, none⟩, ⟨0, 0, none⟩, ⟨0, 0, none⟩, ⟨0, 0, none⟩, ⟨0, 1, none⟩] [2, 3, 4, 7, 8, 69, 70, 71] (List.range 19) ⟨[(2, none, .sv (.lf (.val (.pointer none)))), eB 3 false, eP 4 2 0, eI 7 (baseL l 2), eI 8 (2 : Int), eR 69 5, eI 70 ((x 2).length : Int), eI 71 (0 : Int)], [lI 3 l, rII 42 (outS l 2 0), .blk true 52 (tblC 1 3 2 l)] ++ rowsX 3 x, oL 1 18⟩ [0 ≤ (2 : Int) ∧ (2 : Int) < (16 : Int)] (by kernel_rfl) ⟨(by omega), trivial⟩ ?_
  refine W.block ?_
  refine W.loop (ι := Int × Int × List (List Value)) (fun z => ⟨[(2, none, .sv (.lf (.val (.pointer none)))), eB 3 false, eP 4 2 0, eI 7 z.1, eI 8 (2 : Int), eR 69 5, eI 70 ((x 2).length : Int), eI 71 z.2.1], [lI 3 l, rII 42 z.2.2, .blk true 52 (tblC 1 3 2 l)] ++ rowsX 3 x, oL 1 18⟩) (fun z => (0 ≤ z.2.1 ∧ z.2.1 ≤ ((x 2).length : Int)) ∧ (z.1 = baseL l 2 + z.2.1) ∧ (z.2.2 = outS l 2 z.2.1)) (fun z => (((x 2).length : Int) - z.2.1).toNat) ⟨(baseL l 2), 0, (outS l 2 0)⟩ (show (0 ≤ (0 : Int) ∧ (0 : Int) ≤ ((x 2).length : Int)) ∧ ((baseL l 2) = baseL l 2 + (0 : Int)) ∧ ((outS l 2 0) = outS l 2 (0 : Int)) from ⟨by omega, by omega, rfl⟩) rfl ?_
  rintro ⟨c, j, zs⟩ ⟨hj, hc, hz2⟩
  dsimp only at hj hc hz2
  have hzl : zs.length = l.length := by rw [hz2, outS_len]
  have hbb := endL_bd hkr (n := 2) (by decide)
  have hee := end_base l 2 (by decide) hx2
  have hsy0 := fun h => sym_ok (n := 2) (j := j) hx2 hj.1 h
  refine W.sx tt_ok [] [2, 3, 4, 7, 8, 69, 70, 71, 72] (List.range 19) ⟨[(2, none, .sv (.lf (.val (.pointer none)))), eB 3 false, eP 4 2 0, eI 7 c, eI 8 (2 : Int), eR 69 5, eI 70 ((x 2).length : Int), eI 71 j, eB 72 (decide (j < ((x 2).length : Int)))], [lI 3 l, rII 42 zs, .blk true 52 (tblC 1 3 2 l)] ++ rowsX 3 x, oL 1 18⟩ [] (by kernel_rfl) trivial ?_
  refine W.seq ?_
  refine W.cond (p := (decide (j < ((x 2).length : Int)))) (by kernel_rfl) (fun h4 => ?_) (fun h4 => ?_)
  · have h4p := of_decide_eq_true h4
    have hsy := hsy0 (by omega)
    refine W.skip ?_
    refine W.next ?_
    refine W.seq ?_
    refine W.block ?_
    refine W.sx tt_ok [] [2, 3, 4, 7, 8, 10, 69, 70, 71] (List.range 19) ⟨[(2, none, .sv (.lf (.val (.pointer none)))), eB 3 false, eP 4 2 0, eI 7 c, eI 8 (2 : Int), eI 10 (vI (cellAt (x 2) j.toNat 0)), eR 69 5, eI 70 ((x 2).length : Int), eI 71 j], [lI 3 l, rII 42 zs, .blk true 52 (tblC 1 3 2 l)] ++ rowsX 3 x, oL 1 18⟩ [0 ≤ j ∧ j < ((x 2).length : Int), 0 ≤ j ∧ j < ((x 2).length : Int)] (by kernel_rfl) ⟨(by omega), (by omega), trivial⟩ ?_
    refine W.sx tt_ok [] [2, 3, 4, 7, 8, 69, 70, 71] (List.range 19) ⟨[(2, none, .sv (.lf (.val (.pointer none)))), eB 3 false, eP 4 2 0, eI 7 c, eI 8 (2 : Int), eR 69 5, eI 70 ((x 2).length : Int), eI 71 j], [lI 3 l, rII 42 (zs.set (vI (cellAt (x 2) j.toNat 0)).toNat [wI (2 : Int), wI c]), .blk true 52 (tblC 1 3 2 l)] ++ rowsX 3 x, oL 1 18⟩ [0 ≤ (vI (cellAt (x 2) j.toNat 0)) ∧ (vI (cellAt (x 2) j.toNat 0)) < (zs.length : Int), 0 ≤ (vI (cellAt (x 2) j.toNat 0)) ∧ (vI (cellAt (x 2) j.toNat 0)) < (zs.length : Int)] (by kernel_rfl) ⟨(by omega), (by omega), trivial⟩ ?_
    refine W.regionX tt_ok [] [2, 3, 4, 7, 8, 69, 70, 71] (List.range 19) ⟨[(2, none, .sv (.lf (.val (.pointer none)))), eB 3 false, eP 4 2 0, eI 7 (c + (1 : Int)), eI 8 (2 : Int), eR 69 5, eI 70 ((x 2).length : Int), eI 71 j], [lI 3 l, rII 42 (zs.set (vI (cellAt (x 2) j.toNat 0)).toNat [wI (2 : Int), wI c]), .blk true 52 (tblC 1 3 2 l)] ++ rowsX 3 x, oL 1 18⟩ [inK .i64 (c + (1 : Int))] (by kernel_rfl) ⟨(by simp only [inK]; omega), trivial⟩ ?_
    refine unblock ?_
    refine W.next ?_
    refine W.regionX tt_ok [] [2, 3, 4, 7, 8, 69, 70, 71] (List.range 19) ⟨[(2, none, .sv (.lf (.val (.pointer none)))), eB 3 false, eP 4 2 0, eI 7 (c + (1 : Int)), eI 8 (2 : Int), eR 69 5, eI 70 ((x 2).length : Int), eI 71 (j + (1 : Int))], [lI 3 l, rII 42 (zs.set (vI (cellAt (x 2) j.toNat 0)).toNat [wI (2 : Int), wI c]), .blk true 52 (tblC 1 3 2 l)] ++ rowsX 3 x, oL 1 18⟩ [inK .i64 (j + (1 : Int))] (by kernel_rfl) ⟨(by simp only [inK]; omega), trivial⟩ ?_
    exact againK [2, 3, 4, 7, 8, 69, 70, 71] (List.range 19) ⟨[(2, none, .sv (.lf (.val (.pointer none)))), eB 3 false, eP 4 2 0, eI 7 (c + (1 : Int)), eI 8 (2 : Int), eR 69 5, eI 70 ((x 2).length : Int), eI 71 (j + (1 : Int))], [lI 3 l, rII 42 (zs.set (vI (cellAt (x 2) j.toNat 0)).toNat [wI (2 : Int), wI c]), .blk true 52 (tblC 1 3 2 l)] ++ rowsX 3 x, oL 1 18⟩ (by kernel_rfl) ⟨(c + (1 : Int)), (j + (1 : Int)), (zs.set (vI (cellAt (x 2) j.toNat 0)).toNat [Value.int .i64 (2 : Int), Value.int .i64 c])⟩ (show (0 ≤ (j + (1 : Int)) ∧ (j + (1 : Int)) ≤ ((x 2).length : Int)) ∧ ((c + (1 : Int)) = baseL l 2 + (j + (1 : Int))) ∧ ((zs.set (vI (cellAt (x 2) j.toNat 0)).toNat [Value.int .i64 (2 : Int), Value.int .i64 c]) = outS l 2 (j + (1 : Int))) from ⟨by omega, by omega, by rw [hz2, hc]; exact outS_set (n := 2) (by decide) (by omega) hsy.2.2.1 hsy.2.2.2⟩) (show (((x 2).length : Int) - (j + (1 : Int))).toNat < (((x 2).length : Int) - j).toNat from by omega) rfl
  · have h4p := of_decide_eq_false h4
    refine W.exit ?_
    refine exit_then ?_
    refine exit_then ?_
    obtain rfl : j = ((x 2).length : Int) := by omega
    obtain rfl : c = (endL l 2) := by omega
    obtain rfl : zs = (outS l 3 0) := by rw [hz2]; exact outS_end l 2 hx2
    refine exit_here ?_
    refine unblock ?_
    refine W.next ?_
    refine W.regionX tt_ok [] [2, 3, 4, 7, 8] (List.range 19) ⟨[(2, none, .sv (.lf (.val (.pointer none)))), eB 3 false, eP 4 2 0, eI 7 (endL l 2), eI 8 (3 : Int)], [lI 3 l, rII 42 (outS l 3 0), .blk true 52 (tblC 1 3 2 l)] ++ rowsX 3 x, oL 1 18⟩ [inK .i64 ((2 : Int) + (1 : Int))] (by kernel_rfl) ⟨(by simp only [inK]; omega), trivial⟩ ?_
    exact againK [2, 3, 4, 7, 8] (List.range 19) ⟨[(2, none, .sv (.lf (.val (.pointer none)))), eB 3 false, eP 4 2 0, eI 7 (endL l 2), eI 8 (3 : Int)], [lI 3 l, rII 42 (outS l 3 0), .blk true 52 (tblC 1 3 2 l)] ++ rowsX 3 x, oL 1 18⟩ (by kernel_rfl) 3 (by decide) (by decide) (by kernel_rfl)
theorem New_round3 {gg : Gam} {ww : World} {Q : Exit → Act → World → Prop} (l : List (List Value)) (x : Nat → List (List Value)) (hl : (l.length : Int) ≤ 17592186044416) (hk : ∀ j o : Nat, -9223372036854775808 ≤ vI (cellAt l j o) ∧ vI (cellAt l j o) ≤ 9223372036854775807) (hkr : kraftL l ≤ 32768) (hx0 : x 0 = symN l 0 l.length) (hx1 : x 1 = symN l 1 l.length) (hx2 : x 2 = symN l 2 l.length) (hx3 : x 3 = symN l 3 l.length) (hx4 : x 4 = symN l 4 l.length) (hx5 : x 5 = symN l 5 l.length) (hx6 : x 6 = symN l 6 l.length) (hx7 : x 7 = symN l 7 l.length) (hx8 : x 8 = symN l 8 l.length) (hx9 : x 9 = symN l 9 l.length) (hx10 : x 10 = symN l 10 l.length) (hx11 : x 11 = symN l 11 l.length) (hx12 : x 12 = symN l 12 l.length) (hx13 : x 13 = symN l 13 l.length) (hx14 : x 14 = symN l 14 l.length) (hx15 : x 15 = symN l 15 l.length) (hxl0 : (x 0).length ≤ l.length) (hxl1 : (x 1).length ≤ l.length) (hxl2 : (x 2).length ≤ l.length) (hxl3 : (x 3).length ≤ l.length) (hxl4 : (x 4).length ≤ l.length) (hxl5 : (x 5).length ≤ l.length) (hxl6 : (x 6).length ≤ l.length) (hxl7 : (x 7).length ≤ l.length) (hxl8 : (x 8).length ≤ l.length) (hxl9 : (x 9).length ≤ l.length) (hxl10 : (x 10).length ≤ l.length) (hxl11 : (x 11).length ≤ l.length) (hxl12 : (x 12).length ≤ l.length) (hxl13 : (x 13).length ≤ l.length) (hxl14 : (x 14).length ≤ l.length) (hxl15 : (x 15).length ≤ l.length) : W (mkC Try.prog tt 88 [.row false 3 [.int .i64] l] gg ww) (lopB (blkB (seqR (seqL (seqR (seqR (seqR (seqR (seqR (bodyC Try.f19)))))))))) (Exit.then (fun a w => ∃ n, (1 ≤ n ∧ n ≤ 16) ∧ 16 - n < 16 - 3 ∧ Sat (mkC Try.prog tt 88 [.row false 3 [.int .i64] l] gg ww) (⟨[(2, none, .sv (.lf (.val (.pointer none)))), eB 3 false, eP 4 2 0, eI 7 (endL l (n - 1)), eI 8 (n : Int)], [lI 3 l, rII 42 (outS l n 0), .blk true 52 (tblC 1 3 (n - 1) l)] ++ rowsX 3 x, oL 1 18⟩) a w) Q) ⟨[(2, none, .sv (.lf (.val (.pointer none)))), eB 3 false, eP 4 2 0, eI 7 (endL l 2), eI 8 (3 : Int)], [lI 3 l, rII 42 (outS l 3 0), .blk true 52 (tblC 1 3 2 l)] ++ rowsX 3 x, oL 1 18⟩ := by
  have hbe := endL_bd hkr (n := 2) (by decide)
  refine W.seq ?_
  refine W.sx tt_ok [⟨0, 0, none⟩, ⟨0, 1, none⟩] [2, 3, 4, 7, 8, 53] (List.range 19) ⟨[(2, none, .sv (.lf (.val (.pointer none)))), eB 3 false, eP 4 2 0, eI 7 (endL l 2), eI 8 (3 : Int), eB 53 true], [lI 3 l, rII 42 (outS l 3 0), .blk true 52 (tblC 1 3 2 l)] ++ rowsX 3 x, oL 1 18⟩ [(3 : Int) ≤ (15 : Int)] (by kernel_rfl) ⟨(by omega), trivial⟩ ?_
  refine W.cond (p := true) (by kernel_rfl) (fun _ => ?_) (fun h => nomatch h)
  refine W.skip ?_
  refine W.next ?_
  refine W.seq ?_
  refine W.block ?_
  refine W.sx tt_ok [] [2, 3, 4, 7, 8] (List.range 19) ⟨[(2, none, .sv (.lf (.val (.pointer none)))), eB 3 false, eP 4 2 0, eI 7 ((endL l 2) * (2 : Int)), eI 8 (3 : Int)], [lI 3 l, rII 42 (outS l 3 0), .blk true 52 (tblC 1 3 2 l)] ++ rowsX 3 x, oL 1 18⟩ [inK .i64 ((endL l 2) * (2 : Int))] (by kernel_rfl) ⟨(by simp only [inK]; omega), trivial⟩ ?_
  generalize hv3 : (endL l 2) * (2 : Int) = v3
  obtain rfl : v3 = baseL l 3 := by rw [← hv3]; exact base_dbl l 3 (by decide)
  have hb3 := baseL_bd hkr (n := 3) (by decide) (by decide)
  refine W.sx tt_ok [⟨0, 0, none⟩, ⟨0, 0, none⟩, ⟨0, 0, none⟩, ⟨0, 0, none⟩, ⟨0, 0, none⟩, ⟨0, 1, none⟩] [2, 3, 4, 7, 8] (List.range 19) ⟨[(2, none, .sv (.lf (.val (.pointer none)))), eB 3 false, eP 4 2 0, eI 7 (baseL l 3), eI 8 (3 : Int)], [lI 3 l, rII 42 (outS l 3 0), .blk true 52 (tblC 1 3 3 l)] ++ rowsX 3 x, oL 1 18⟩ [0 ≤ (3 : Int) ∧ (3 : Int) < (16 : Int)] (by kernel_rfl) ⟨(by omega), trivial⟩ ?_
  refine W.sx tt_ok [⟨0, 0, none⟩, ⟨0, 0, none⟩, ⟨0, 0, none⟩, ⟨0, 0, none⟩, ⟨0, 1, none⟩] [2, 3, 4, 7, 8, 69, 70, 71] (List.range 19) ⟨[(2, none, .sv (.lf (.val (.pointer none)))), eB 3 false, eP 4 2 0, eI 7 (baseL l 3), eI 8 (3 : Int), eR 69 6, eI 70 ((x 3).length : Int), eI 71 (0 : Int)], [lI 3 l, rII 42 (outS l 3 0), .blk true 52 (tblC 1 3 3 l)] ++ rowsX 3 x, oL 1 18⟩ [0 ≤ (3 : Int) ∧ (3 : Int) < (16 : Int)] (by kernel_rfl) ⟨(by omega), trivial⟩ ?_
  refine W.block ?_
  refine W.loop (ι := Int × Int × List (List Value)) (fun z => ⟨[(2, none, .sv (.lf (.val (.pointer none)))), eB 3 false, eP 4 2 0, eI 7 z.1, eI 8 (3 : Int), eR 69 6, eI 70 ((x 3).length : Int), eI 71 z.2.1], [lI 3 l, rII 42 z.2.2, .blk true 52 (tblC 1 3 3 l)] ++ rowsX 3 x, oL 1 18⟩) (fun z => (0 ≤ z.2.1 ∧ z.2.1 ≤ ((x 3).length : Int)) ∧ (z.1 = baseL l 3 + z.2.1) ∧ (z.2.2 = outS l 3 z.2.1)) (fun z => (((x 3).length : Int) - z.2.1).toNat) ⟨(baseL l 3), 0, (outS l 3 0)⟩ (show (0 ≤ (0 : Int) ∧ (0 : Int) ≤ ((x 3).length : Int)) ∧ ((baseL l 3) = baseL l 3 + (0 : Int)) ∧ ((outS l 3 0) = outS l 3 (0 : Int)) from ⟨by omega, by omega, rfl⟩) rfl ?_
  rintro ⟨c, j, zs⟩ ⟨hj, hc, hz2⟩
  dsimp only at hj hc hz2
  have hzl : zs.length = l.length := by rw [hz2, outS_len]
  have hbb := endL_bd hkr (n := 3) (by decide)
  have hee := end_base l 3 (by decide) hx3
  have hsy0 := fun h => sym_ok (n := 3) (j := j) hx3 hj.1 h
  refine W.sx tt_ok [] [2, 3, 4, 7, 8, 69, 70, 71, 72] (List.range 19) ⟨[(2, none, .sv (.lf (.val (.pointer none)))), eB 3 false, eP 4 2 0, eI 7 c, eI 8 (3 : Int), eR 69 6, eI 70 ((x 3).length : Int), eI 71 j, eB 72 (decide (j < ((x 3).length : Int)))], [lI 3 l, rII 42 zs, .blk true 52 (tblC 1 3 3 l)] ++ rowsX 3 x, oL 1 18⟩ [] (by kernel_rfl) trivial ?_
  refine W.seq ?_
  refine W.cond (p := (decide (j < ((x 3).length : Int)))) (by kernel_rfl) (fun h4 => ?_) (fun h4 => ?_)
  · have h4p := of_decide_eq_true h4
    have hsy := hsy0 (by omega)
    refine W.skip ?_
    refine W.next ?_
    refine W.seq ?_
    refine W.block ?_
    refine W.sx tt_ok [] [2, 3, 4, 7, 8, 10, 69, 70, 71] (List.range 19) ⟨[(2, none, .sv (.lf (.val (.pointer none)))), eB 3 false, eP 4 2 0, eI 7 c, eI 8 (3 : Int), eI 10 (vI (cellAt (x 3) j.toNat 0)), eR 69 6, eI 70 ((x 3).length : Int), eI 71 j], [lI 3 l, rII 42 zs, .blk true 52 (tblC 1 3 3 l)] ++ rowsX 3 x, oL 1 18⟩ [0 ≤ j ∧ j < ((x 3).length : Int), 0 ≤ j ∧ j < ((x 3).length : Int)] (by kernel_rfl) ⟨(by omega), (by omega), trivial⟩ ?_
    refine W.sx tt_ok [] [2, 3, 4, 7, 8, 69, 70, 71] (List.range 19) ⟨[(2, none, .sv (.lf (.val (.pointer none)))), eB 3 false, eP 4 2 0, eI 7 c, eI 8 (3 : Int), eR 69 6, eI 70 ((x 3).length : Int), eI 71 j], [lI 3 l, rII 42 (zs.set (vI (cellAt (x 3) j.toNat 0)).toNat [wI (3 : Int), wI c]), .blk true 52 (tblC 1 3 3 l)] ++ rowsX 3 x, oL 1 18⟩ [0 ≤ (vI (cellAt (x 3) j.toNat 0)) ∧ (vI (cellAt (x 3) j.toNat 0)) < (zs.length : Int), 0 ≤ (vI (cellAt (x 3) j.toNat 0)) ∧ (vI (cellAt (x 3) j.toNat 0)) < (zs.length : Int)] (by kernel_rfl) ⟨(by omega), (by omega), trivial⟩ ?_
    refine W.regionX tt_ok [] [2, 3, 4, 7, 8, 69, 70, 71] (List.range 19) ⟨[(2, none, .sv (.lf (.val (.pointer none)))), eB 3 false, eP 4 2 0, eI 7 (c + (1 : Int)), eI 8 (3 : Int), eR 69 6, eI 70 ((x 3).length : Int), eI 71 j], [lI 3 l, rII 42 (zs.set (vI (cellAt (x 3) j.toNat 0)).toNat [wI (3 : Int), wI c]), .blk true 52 (tblC 1 3 3 l)] ++ rowsX 3 x, oL 1 18⟩ [inK .i64 (c + (1 : Int))] (by kernel_rfl) ⟨(by simp only [inK]; omega), trivial⟩ ?_
    refine unblock ?_
    refine W.next ?_
    refine W.regionX tt_ok [] [2, 3, 4, 7, 8, 69, 70, 71] (List.range 19) ⟨[(2, none, .sv (.lf (.val (.pointer none)))), eB 3 false, eP 4 2 0, eI 7 (c + (1 : Int)), eI 8 (3 : Int), eR 69 6, eI 70 ((x 3).length : Int), eI 71 (j + (1 : Int))], [lI 3 l, rII 42 (zs.set (vI (cellAt (x 3) j.toNat 0)).toNat [wI (3 : Int), wI c]), .blk true 52 (tblC 1 3 3 l)] ++ rowsX 3 x, oL 1 18⟩ [inK .i64 (j + (1 : Int))] (by kernel_rfl) ⟨(by simp only [inK]; omega), trivial⟩ ?_
    exact againK [2, 3, 4, 7, 8, 69, 70, 71] (List.range 19) ⟨[(2, none, .sv (.lf (.val (.pointer none)))), eB 3 false, eP 4 2 0, eI 7 (c + (1 : Int)), eI 8 (3 : Int), eR 69 6, eI 70 ((x 3).length : Int), eI 71 (j + (1 : Int))], [lI 3 l, rII 42 (zs.set (vI (cellAt (x 3) j.toNat 0)).toNat [wI (3 : Int), wI c]), .blk true 52 (tblC 1 3 3 l)] ++ rowsX 3 x, oL 1 18⟩ (by kernel_rfl) ⟨(c + (1 : Int)), (j + (1 : Int)), (zs.set (vI (cellAt (x 3) j.toNat 0)).toNat [Value.int .i64 (3 : Int), Value.int .i64 c])⟩ (show (0 ≤ (j + (1 : Int)) ∧ (j + (1 : Int)) ≤ ((x 3).length : Int)) ∧ ((c + (1 : Int)) = baseL l 3 + (j + (1 : Int))) ∧ ((zs.set (vI (cellAt (x 3) j.toNat 0)).toNat [Value.int .i64 (3 : Int), Value.int .i64 c]) = outS l 3 (j + (1 : Int))) from ⟨by omega, by omega, by rw [hz2, hc]; exact outS_set (n := 3) (by decide) (by omega) hsy.2.2.1 hsy.2.2.2⟩) (show (((x 3).length : Int) - (j + (1 : Int))).toNat < (((x 3).length : Int) - j).toNat from by omega) rfl
  · have h4p := of_decide_eq_false h4
    refine W.exit ?_
    refine exit_then ?_
    refine exit_then ?_
    obtain rfl : j = ((x 3).length : Int) := by omega
    obtain rfl : c = (endL l 3) := by omega
    obtain rfl : zs = (outS l 4 0) := by rw [hz2]; exact outS_end l 3 hx3
    refine exit_here ?_
    refine unblock ?_
    refine W.next ?_
    refine W.regionX tt_ok [] [2, 3, 4, 7, 8] (List.range 19) ⟨[(2, none, .sv (.lf (.val (.pointer none)))), eB 3 false, eP 4 2 0, eI 7 (endL l 3), eI 8 (4 : Int)], [lI 3 l, rII 42 (outS l 4 0), .blk true 52 (tblC 1 3 3 l)] ++ rowsX 3 x, oL 1 18⟩ [inK .i64 ((3 : Int) + (1 : Int))] (by kernel_rfl) ⟨(by simp only [inK]; omega), trivial⟩ ?_
    exact againK [2, 3, 4, 7, 8] (List.range 19) ⟨[(2, none, .sv (.lf (.val (.pointer none)))), eB 3 false, eP 4 2 0, eI 7 (endL l 3), eI 8 (4 : Int)], [lI 3 l, rII 42 (outS l 4 0), .blk true 52 (tblC 1 3 3 l)] ++ rowsX 3 x, oL 1 18⟩ (by kernel_rfl) 4 (by decide) (by decide) (by kernel_rfl)
theorem New_round4 {gg : Gam} {ww : World} {Q : Exit → Act → World → Prop} (l : List (List Value)) (x : Nat → List (List Value)) (hl : (l.length : Int) ≤ 17592186044416) (hk : ∀ j o : Nat, -9223372036854775808 ≤ vI (cellAt l j o) ∧ vI (cellAt l j o) ≤ 9223372036854775807) (hkr : kraftL l ≤ 32768) (hx0 : x 0 = symN l 0 l.length) (hx1 : x 1 = symN l 1 l.length) (hx2 : x 2 = symN l 2 l.length) (hx3 : x 3 = symN l 3 l.length) (hx4 : x 4 = symN l 4 l.length) (hx5 : x 5 = symN l 5 l.length) (hx6 : x 6 = symN l 6 l.length) (hx7 : x 7 = symN l 7 l.length) (hx8 : x 8 = symN l 8 l.length) (hx9 : x 9 = symN l 9 l.length) (hx10 : x 10 = symN l 10 l.length) (hx11 : x 11 = symN l 11 l.length) (hx12 : x 12 = symN l 12 l.length) (hx13 : x 13 = symN l 13 l.length) (hx14 : x 14 = symN l 14 l.length) (hx15 : x 15 = symN l 15 l.length) (hxl0 : (x 0).length ≤ l.length) (hxl1 : (x 1).length ≤ l.length) (hxl2 : (x 2).length ≤ l.length) (hxl3 : (x 3).length ≤ l.length) (hxl4 : (x 4).length ≤ l.length) (hxl5 : (x 5).length ≤ l.length) (hxl6 : (x 6).length ≤ l.length) (hxl7 : (x 7).length ≤ l.length) (hxl8 : (x 8).length ≤ l.length) (hxl9 : (x 9).length ≤ l.length) (hxl10 : (x 10).length ≤ l.length) (hxl11 : (x 11).length ≤ l.length) (hxl12 : (x 12).length ≤ l.length) (hxl13 : (x 13).length ≤ l.length) (hxl14 : (x 14).length ≤ l.length) (hxl15 : (x 15).length ≤ l.length) : W (mkC Try.prog tt 88 [.row false 3 [.int .i64] l] gg ww) (lopB (blkB (seqR (seqL (seqR (seqR (seqR (seqR (seqR (bodyC Try.f19)))))))))) (Exit.then (fun a w => ∃ n, (1 ≤ n ∧ n ≤ 16) ∧ 16 - n < 16 - 4 ∧ Sat (mkC Try.prog tt 88 [.row false 3 [.int .i64] l] gg ww) (⟨[(2, none, .sv (.lf (.val (.pointer none)))), eB 3 false, eP 4 2 0, eI 7 (endL l (n - 1)), eI 8 (n : Int)], [lI 3 l, rII 42 (outS l n 0), .blk true 52 (tblC 1 3 (n - 1) l)] ++ rowsX 3 x, oL 1 18⟩) a w) Q) ⟨[(2, none, .sv (.lf (.val (.pointer none)))), eB 3 false, eP 4 2 0, eI 7 (endL l 3), eI 8 (4 : Int)], [lI 3 l, rII 42 (outS l 4 0), .blk true 52 (tblC 1 3 3 l)] ++ rowsX 3 x, oL 1 18⟩ := by
  have hbe := endL_bd hkr (n := 3) (by decide)
  refine W.seq ?_
  refine W.sx tt_ok [⟨0, 0, none⟩, ⟨0, 1, none⟩] [2, 3, 4, 7, 8, 53] (List.range 19) ⟨[(2, none, .sv (.lf (.val (.pointer none)))), eB 3 false, eP 4 2 0, eI 7 (endL l 3), eI 8 (4 : Int), eB 53 true], [lI 3 l, rII 42 (outS l 4 0), .blk true 52 (tblC 1 3 3 l)] ++ rowsX 3 x, oL 1 18⟩ [(4 : Int) ≤ (15 : Int)] (by kernel_rfl) ⟨(by omega), trivial⟩ ?_
  refine W.cond (p := true) (by kernel_rfl) (fun _ => ?_) (fun h => nomatch h)
  refine W.skip ?_
  refine W.next ?_
  refine W.seq ?_
  refine W.block ?_
  refine W.sx tt_ok [] [2, 3, 4, 7, 8] (List.range 19) ⟨[(2, none, .sv (.lf (.val (.pointer none)))), eB 3 false, eP 4 2 0, eI 7 ((endL l 3) * (2 : Int)), eI 8 (4 : Int)], [lI 3 l, rII 42 (outS l 4 0), .blk true 52 (tblC 1 3 3 l)] ++ rowsX 3 x, oL 1 18⟩ [inK .i64 ((endL l 3) * (2 : Int))] (by kernel_rfl) ⟨(by simp only [inK]; omega), trivial⟩ ?_
  generalize hv4 : (endL l 3) * (2 : Int) = v4
  obtain rfl : v4 = baseL l 4 := by rw [← hv4]; exact base_dbl l 4 (by decide)
  have hb4 := baseL_bd hkr (n := 4) (by decide) (by decide)
  refine W.sx tt_ok [⟨0, 0, none⟩, ⟨0, 0, none⟩, ⟨0, 0, none⟩, ⟨0, 0, none⟩, ⟨0, 0, none⟩, ⟨0, 1, none⟩] [2, 3, 4, 7, 8] (List.range 19) ⟨[(2, none, .sv (.lf (.val (.pointer none)))), eB 3 false, eP 4 2 0, eI 7 (baseL l 4), eI 8 (4 : Int)], [lI 3 l, rII 42 (outS l 4 0), .blk true 52 (tblC 1 3 4 l)] ++ rowsX 3 x, oL 1 18⟩ [0 ≤ (4 : Int) ∧ (4 : Int) < (16 : Int)] (by kernel_rfl) ⟨(by omega), trivial⟩ ?_
  refine W.sx tt_ok [⟨0, 0, none⟩, ⟨0, 0, none⟩, ⟨0, 0, none⟩, ⟨0, 0, none⟩, ⟨0, 1, none⟩] [2, 3, 4, 7, 8, 69, 70, 71] (List.range 19) ⟨[(2, none, .sv (.lf (.val (.pointer none)))), eB 3 false, eP 4 2 0, eI 7 (baseL l 4), eI 8 (4 : Int), eR 69 7, eI 70 ((x 4).length : Int), eI 71 (0 : Int)], [lI 3 l, rII 42 (outS l 4 0), .blk true 52 (tblC 1 3 4 l)] ++ rowsX 3 x, oL 1 18⟩ [0 ≤ (4 : Int) ∧ (4 : Int) < (16 : Int)] (by kernel_rfl) ⟨(by omega), trivial⟩ ?_
  refine W.block ?_
  refine W.loop (ι := Int × Int × List (List Value)) (fun z => ⟨[(2, none, .sv (.lf (.val (.pointer none)))), eB 3 false, eP 4 2 0, eI 7 z.1, eI 8 (4 : Int), eR 69 7, eI 70 ((x 4).length : Int), eI 71 z.2.1], [lI 3 l, rII 42 z.2.2, .blk true 52 (tblC 1 3 4 l)] ++ rowsX 3 x, oL 1 18⟩) (fun z => (0 ≤ z.2.1 ∧ z.2.1 ≤ ((x 4).length : Int)) ∧ (z.1 = baseL l 4 + z.2.1) ∧ (z.2.2 = outS l 4 z.2.1)) (fun z => (((x 4).length : Int) - z.2.1).toNat) ⟨(baseL l 4), 0, (outS l 4 0)⟩ (show (0 ≤ (0 : Int) ∧ (0 : Int) ≤ ((x 4).length : Int)) ∧ ((baseL l 4) = baseL l 4 + (0 : Int)) ∧ ((outS l 4 0) = outS l 4 (0 : Int)) from ⟨by omega, by omega, rfl⟩) rfl ?_
  rintro ⟨c, j, zs⟩ ⟨hj, hc, hz2⟩
  dsimp only at hj hc hz2
  have hzl : zs.length = l.length := by rw [hz2, outS_len]
  have hbb := endL_bd hkr (n := 4) (by decide)
  have hee := end_base l 4 (by decide) hx4
  have hsy0 := fun h => sym_ok (n := 4) (j := j) hx4 hj.1 h
  refine W.sx tt_ok [] [2, 3, 4, 7, 8, 69, 70, 71, 72] (List.range 19) ⟨[(2, none, .sv (.lf (.val (.pointer none)))), eB 3 false, eP 4 2 0, eI 7 c, eI 8 (4 : Int), eR 69 7, eI 70 ((x 4).length : Int), eI 71 j, eB 72 (decide (j < ((x 4).length : Int)))], [lI 3 l, rII 42 zs, .blk true 52 (tblC 1 3 4 l)] ++ rowsX 3 x, oL 1 18⟩ [] (by kernel_rfl) trivial ?_
  refine W.seq ?_
  refine W.cond (p := (decide (j < ((x 4).length : Int)))) (by kernel_rfl) (fun h4 => ?_) (fun h4 => ?_)
  · have h4p := of_decide_eq_true h4
    have hsy := hsy0 (by omega)
    refine W.skip ?_
    refine W.next ?_
    refine W.seq ?_
    refine W.block ?_
    refine W.sx tt_ok [] [2, 3, 4, 7, 8, 10, 69, 70, 71] (List.range 19) ⟨[(2, none, .sv (.lf (.val (.pointer none)))), eB 3 false, eP 4 2 0, eI 7 c, eI 8 (4 : Int), eI 10 (vI (cellAt (x 4) j.toNat 0)), eR 69 7, eI 70 ((x 4).length : Int), eI 71 j], [lI 3 l, rII 42 zs, .blk true 52 (tblC 1 3 4 l)] ++ rowsX 3 x, oL 1 18⟩ [0 ≤ j ∧ j < ((x 4).length : Int), 0 ≤ j ∧ j < ((x 4).length : Int)] (by kernel_rfl) ⟨(by omega), (by omega), trivial⟩ ?_
    refine W.sx tt_ok [] [2, 3, 4, 7, 8, 69, 70, 71] (List.range 19) ⟨[(2, none, .sv (.lf (.val (.pointer none)))), eB 3 false, eP 4 2 0, eI 7 c, eI 8 (4 : Int), eR 69 7, eI 70 ((x 4).length : Int), eI 71 j], [lI 3 l, rII 42 (zs.set (vI (cellAt (x 4) j.toNat 0)).toNat [wI (4 : Int), wI c]), .blk true 52 (tblC 1 3 4 l)] ++ rowsX 3 x, oL 1 18⟩ [0 ≤ (vI (cellAt (x 4) j.toNat 0)) ∧ (vI (cellAt (x 4) j.toNat 0)) < (zs.length : Int), 0 ≤ (vI (cellAt (x 4) j.toNat 0)) ∧ (vI (cellAt (x 4) j.toNat 0)) < (zs.length : Int)] (by kernel_rfl) ⟨(by omega), (by omega), trivial⟩ ?_
    refine W.regionX tt_ok [] [2, 3, 4, 7, 8, 69, 70, 71] (List.range 19) ⟨[(2, none, .sv (.lf (.val (.pointer none)))), eB 3 false, eP 4 2 0, eI 7 (c + (1 : Int)), eI 8 (4 : Int), eR 69 7, eI 70 ((x 4).length : Int), eI 71 j], [lI 3 l, rII 42 (zs.set (vI (cellAt (x 4) j.toNat 0)).toNat [wI (4 : Int), wI c]), .blk true 52 (tblC 1 3 4 l)] ++ rowsX 3 x, oL 1 18⟩ [inK .i64 (c + (1 : Int))] (by kernel_rfl) ⟨(by simp only [inK]; omega), trivial⟩ ?_
    refine unblock ?_
    refine W.next ?_
    refine W.regionX tt_ok [] [2, 3, 4, 7, 8, 69, 70, 71] (List.range 19) ⟨[(2, none, .sv (.lf (.val (.pointer none)))), eB 3 false, eP 4 2 0, eI 7 (c + (1 : Int)), eI 8 (4 : Int), eR 69 7, eI 70 ((x 4).length : Int), eI 71 (j + (1 : Int))], [lI 3 l, rII 42 (zs.set (vI (cellAt (x 4) j.toNat 0)).toNat [wI (4 : Int), wI c]), .blk true 52 (tblC 1 3 4 l)] ++ rowsX 3 x, oL 1 18⟩ [inK .i64 (j + (1 : Int))] (by kernel_rfl) ⟨(by simp only [inK]; omega), trivial⟩ ?_
    exact againK [2, 3, 4, 7, 8, 69, 70, 71] (List.range 19) ⟨[(2, none, .sv (.lf (.val (.pointer none)))), eB 3 false, eP 4 2 0, eI 7 (c + (1 : Int)), eI 8 (4 : Int), eR 69 7, eI 70 ((x 4).length : Int), eI 71 (j + (1 : Int))], [lI 3 l, rII 42 (zs.set (vI (cellAt (x 4) j.toNat 0)).toNat [wI (4 : Int), wI c]), .blk true 52 (tblC 1 3 4 l)] ++ rowsX 3 x, oL 1 18⟩ (by kernel_rfl) ⟨(c + (1 : Int)), (j + (1 : Int)), (zs.set (vI (cellAt (x 4) j.toNat 0)).toNat [Value.int .i64 (4 : Int), Value.int .i64 c])⟩ (show (0 ≤ (j + (1 : Int)) ∧ (j + (1 : Int)) ≤ ((x 4).length : Int)) ∧ ((c + (1 : Int)) = baseL l 4 + (j + (1 : Int))) ∧ ((zs.set (vI (cellAt (x 4) j.toNat 0)).toNat [Value.int .i64 (4 : Int), Value.int .i64 c]) = outS l 4 (j + (1 : Int))) from ⟨by omega, by omega, by rw [hz2, hc]; exact outS_set (n := 4) (by decide) (by omega) hsy.2.2.1 hsy.2.2.2⟩) (show (((x 4).length : Int) - (j + (1 : Int))).toNat < (((x 4).length : Int) - j).toNat from by omega) rfl
  · have h4p := of_decide_eq_false h4
    refine W.exit ?_
    refine exit_then ?_
    refine exit_then ?_
    obtain rfl : j = ((x 4).length : Int) := by omega
    obtain rfl : c = (endL l 4) := by omega
    obtain rfl : zs = (outS l 5 0) := by rw [hz2]; exact outS_end l 4 hx4
    refine exit_here ?_
    refine unblock ?_
    refine W.next ?_
    refine W.regionX tt_ok [] [2, 3, 4, 7, 8] (List.range 19) ⟨[(2, none, .sv (.lf (.val (.pointer none)))), eB 3 false, eP 4 2 0, eI 7 (endL l 4), eI 8 (5 : Int)], [lI 3 l, rII 42 (outS l 5 0), .blk true 52 (tblC 1 3 4 l)] ++ rowsX 3 x, oL 1 18⟩ [inK .i64 ((4 : Int) + (1 : Int))] (by kernel_rfl) ⟨(by simp only [inK]; omega), trivial⟩ ?_
    exact againK [2, 3, 4, 7, 8] (List.range 19) ⟨[(2, none, .sv (.lf (.val (.pointer none)))), eB 3 false, eP 4 2 0, eI 7 (endL l 4), eI 8 (5 : Int)], [lI 3 l, rII 42 (outS l 5 0), .blk true 52 (tblC 1 3 4 l)] ++ rowsX 3 x, oL 1 18⟩ (by kernel_rfl) 5 (by decide) (by decide) (by kernel_rfl)
theorem New_round5 {gg : Gam} {ww : World} {Q : Exit → Act → World → Prop} (l : List (List Value)) (x : Nat → List (List Value)) (hl : (l.length : Int) ≤ 17592186044416) (hk : ∀ j o : Nat, -9223372036854775808 ≤ vI (cellAt l j o) ∧ vI (cellAt l j o) ≤ 9223372036854775807) (hkr : kraftL l ≤ 32768) (hx0 : x 0 = symN l 0 l.length) (hx1 : x 1 = symN l 1 l.length) (hx2 : x 2 = symN l 2 l.length) (hx3 : x 3 = symN l 3 l.length) (hx4 : x 4 = symN l 4 l.length) (hx5 : x 5 = symN l 5 l.length) (hx6 : x 6 = symN l 6 l.length) (hx7 : x 7 = symN l 7 l.length) (hx8 : x 8 = symN l 8 l.length) (hx9 : x 9 = symN l 9 l.length) (hx10 : x 10 = symN l 10 l.length) (hx11 : x 11 = symN l 11 l.length) (hx12 : x 12 = symN l 12 l.length) (hx13 : x 13 = symN l 13 l.length) (hx14 : x 14 = symN l 14 l.length) (hx15 : x 15 = symN l 15 l.length) (hxl0 : (x 0).length ≤ l.length) (hxl1 : (x 1).length ≤ l.length) (hxl2 : (x 2).length ≤ l.length) (hxl3 : (x 3).length ≤ l.length) (hxl4 : (x 4).length ≤ l.length) (hxl5 : (x 5).length ≤ l.length) (hxl6 : (x 6).length ≤ l.length) (hxl7 : (x 7).length ≤ l.length) (hxl8 : (x 8).length ≤ l.length) (hxl9 : (x 9).length ≤ l.length) (hxl10 : (x 10).length ≤ l.length) (hxl11 : (x 11).length ≤ l.length) (hxl12 : (x 12).length ≤ l.length) (hxl13 : (x 13).length ≤ l.length) (hxl14 : (x 14).length ≤ l.length) (hxl15 : (x 15).length ≤ l.length) : W (mkC Try.prog tt 88 [.row false 3 [.int .i64] l] gg ww) (lopB (blkB (seqR (seqL (seqR (seqR (seqR (seqR (seqR (bodyC Try.f19)))))))))) (Exit.then (fun a w => ∃ n, (1 ≤ n ∧ n ≤ 16) ∧ 16 - n < 16 - 5 ∧ Sat (mkC Try.prog tt 88 [.row false 3 [.int .i64] l] gg ww) (⟨[(2, none, .sv (.lf (.val (.pointer none)))), eB 3 false, eP 4 2 0, eI 7 (endL l (n - 1)), eI 8 (n : Int)], [lI 3 l, rII 42 (outS l n 0), .blk true 52 (tblC 1 3 (n - 1) l)] ++ rowsX 3 x, oL 1 18⟩) a w) Q) ⟨[(2, none, .sv (.lf (.val (.pointer none)))), eB 3 false, eP 4 2 0, eI 7 (endL l 4), eI 8 (5 : Int)], [lI 3 l, rII 42 (outS l 5 0), .blk true 52 (tblC 1 3 4 l)] ++ rowsX 3 x, oL 1 18⟩ := by
  have hbe := endL_bd hkr (n := 4) (by decide)
  refine W.seq ?_
  refine W.sx tt_ok [⟨0, 0, none⟩, ⟨0, 1, none⟩] [2, 3, 4, 7, 8, 53] (List.range 19) ⟨[(2, none, .sv (.lf (.val (.pointer none)))), eB 3 false, eP 4 2 0, eI 7 (endL l 4), eI 8 (5 : Int), eB 53 true], [lI 3 l, rII 42 (outS l 5 0), .blk true 52 (tblC 1 3 4 l)] ++ rowsX 3 x, oL 1 18⟩ [(5 : Int) ≤ (15 : Int)] (by kernel_rfl) ⟨(by omega), trivial⟩ ?_
  refine W.cond (p := true) (by kernel_rfl) (fun _ => ?_) (fun h => nomatch h)
  refine W.skip ?_
  refine W.next ?_
  refine W.seq ?_
  refine W.block ?_
  refine W.sx tt_ok [] [2, 3, 4, 7, 8] (List.range 19) ⟨[(2, none, .sv (.lf (.val (.pointer none)))), eB 3 false, eP 4 2 0, eI 7 ((endL l 4) * (2 : Int)), eI 8 (5 : Int)], [lI 3 l, rII 42 (outS l 5 0), .blk true 52 (tblC 1 3 4 l)] ++ rowsX 3 x, oL 1 18⟩ [inK .i64 ((endL l 4) * (2 : Int))] (by kernel_rfl) ⟨(by simp only [inK]; omega), trivial⟩ ?_
  generalize hv5 : (endL l 4) * (2 : Int) = v5
  obtain rfl : v5 = baseL l 5 := by rw [← hv5]; exact base_dbl l 5 (by decide)
  have hb5 := baseL_bd hkr (n := 5) (by decide) (by decide)
  refine W.sx tt_ok [⟨0, 0, none⟩, ⟨0, 0, none⟩, ⟨0, 0, none⟩, ⟨0, 0, none⟩, ⟨0, 0, none⟩, ⟨0, 1, none⟩] [2, 3, 4, 7, 8] (List.range 19) ⟨[(2, none, .sv (.lf (.val (.pointer none)))), eB 3 false, eP 4 2 0, eI 7 (baseL l 5), eI 8 (5 : Int)], [lI 3 l, rII 42 (outS l 5 0), .blk true 52 (tblC 1 3 5 l)] ++ rowsX 3 x, oL 1 18⟩ [0 ≤ (5 : Int) ∧ (5 : Int) < (16 : Int)] (by kernel_rfl) ⟨(by omega), trivial⟩ ?_
  refine W.sx tt_ok [⟨0, 0, none⟩, ⟨0, 0, none⟩, ⟨0, 0, none⟩, ⟨0, 0, none⟩, ⟨0, 1, none⟩] [2, 3, 4, 7, 8, 69, 70, 71] (List.range 19) ⟨[(2, none, .sv (.lf (.val (.pointer none)))), eB 3 false, eP 4 2 0, eI 7 (baseL l 5), eI 8 (5 : Int), eR 69 8, eI 70 ((x 5).length : Int), eI 71 (0 : Int)], [lI 3 l, rII 42 (outS l 5 0), .blk true 52 (tblC 1 3 5 l)] ++ rowsX 3 x, oL 1 18⟩ [0 ≤ (5 : Int) ∧ (5 : Int) < (16 : Int)] (by kernel_rfl) ⟨(by omega), trivial⟩ ?_
  refine W.block ?_
  refine W.loop (ι := Int × Int × List (List Value)) (fun z => ⟨[(2, none, .sv (.lf (.val (.pointer none)))), eB 3 false, eP 4 2 0, eI 7 z.1, eI 8 (5 : Int), eR 69 8, eI 70 ((x 5).length : Int), eI 71 z.2.1], [lI 3 l, rII 42 z.2.2, .blk true 52 (tblC 1 3 5 l)] ++ rowsX 3 x, oL 1 18⟩) (fun z => (0 ≤ z.2.1 ∧ z.2.1 ≤ ((x 5).length : Int)) ∧ (z.1 = baseL l 5 + z.2.1) ∧ (z.2.2 = outS l 5 z.2.1)) (fun z => (((x 5).length : Int) - z.2.1).toNat) ⟨(baseL l 5), 0, (outS l 5 0)⟩ (show (0 ≤ (0 : Int) ∧ (0 : Int) ≤ ((x 5).length : Int)) ∧ ((baseL l 5) = baseL l 5 + (0 : Int)) ∧ ((outS l 5 0) = outS l 5 (0 : Int)) from ⟨by omega, by omega, rfl⟩) rfl ?_
  rintro ⟨c, j, zs⟩ ⟨hj, hc, hz2⟩
  dsimp only at hj hc hz2
  have hzl : zs.length = l.length := by rw [hz2, outS_len]
  have hbb := endL_bd hkr (n := 5) (by decide)
  have hee := end_base l 5 (by decide) hx5
  have hsy0 := fun h => sym_ok (n := 5) (j := j) hx5 hj.1 h
  refine W.sx tt_ok [] [2, 3, 4, 7, 8, 69, 70, 71, 72] (List.range 19) ⟨[(2, none, .sv (.lf (.val (.pointer none)))), eB 3 false, eP 4 2 0, eI 7 c, eI 8 (5 : Int), eR 69 8, eI 70 ((x 5).length : Int), eI 71 j, eB 72 (decide (j < ((x 5).length : Int)))], [lI 3 l, rII 42 zs, .blk true 52 (tblC 1 3 5 l)] ++ rowsX 3 x, oL 1 18⟩ [] (by kernel_rfl) trivial ?_
  refine W.seq ?_
  refine W.cond (p := (decide (j < ((x 5).length : Int)))) (by kernel_rfl) (fun h4 => ?_) (fun h4 => ?_)
  · have h4p := of_decide_eq_true h4
    have hsy := hsy0 (by omega)
    refine W.skip ?_
    refine W.next ?_
    refine W.seq ?_
    refine W.block ?_
    refine W.sx tt_ok [] [2, 3, 4, 7, 8, 10, 69, 70, 71] (List.range 19) ⟨[(2, none, .sv (.lf (.val (.pointer none)))), eB 3 false, eP 4 2 0, eI 7 c, eI 8 (5 : Int), eI 10 (vI (cellAt (x 5) j.toNat 0)), eR 69 8, eI 70 ((x 5).length : Int), eI 71 j], [lI 3 l, rII 42 zs, .blk true 52 (tblC 1 3 5 l)] ++ rowsX 3 x, oL 1 18⟩ [0 ≤ j ∧ j < ((x 5).length : Int), 0 ≤ j ∧ j < ((x 5).length : Int)] (by kernel_rfl) ⟨(by omega), (by omega), trivial⟩ ?_
    refine W.sx tt_ok [] [2, 3, 4, 7, 8, 69, 70, 71] (List.range 19) ⟨[(2, none, .sv (.lf (.val (.pointer none)))), eB 3 false, eP 4 2 0, eI 7 c, eI 8 (5 : Int), eR 69 8, eI 70 ((x 5).length : Int), eI 71 j], [lI 3 l, rII 42 (zs.set (vI (cellAt (x 5) j.toNat 0)).toNat [wI (5 : Int), wI c]), .blk true 52 (tblC 1 3 5 l)] ++ rowsX 3 x, oL 1 18⟩ [0 ≤ (vI (cellAt (x 5) j.toNat 0)) ∧ (vI (cellAt (x 5) j.toNat 0)) < (zs.length : Int), 0 ≤ (vI (cellAt (x 5) j.toNat 0)) ∧ (vI (cellAt (x 5) j.toNat 0)) < (zs.length : Int)] (by kernel_rfl) ⟨(by omega), (by omega), trivial⟩ ?_
    refine W.regionX tt_ok [] [2, 3, 4, 7, 8, 69, 70, 71] (List.range 19) ⟨[(2, none, .sv (.lf (.val (.pointer none)))), eB 3 false, eP 4 2 0, eI 7 (c + (1 : Int)), eI 8 (5 : Int), eR 69 8, eI 70 ((x 5).length : Int), eI 71 j], [lI 3 l, rII 42 (zs.set (vI (cellAt (x 5) j.toNat 0)).toNat [wI (5 : Int), wI c]), .blk true 52 (tblC 1 3 5 l)] ++ rowsX 3 x, oL 1 18⟩ [inK .i64 (c + (1 : Int))] (by kernel_rfl) ⟨(by simp only [inK]; omega), trivial⟩ ?_
    refine unblock ?_
    refine W.next ?_
    refine W.regionX tt_ok [] [2, 3, 4, 7, 8, 69, 70, 71] (List.range 19) ⟨[(2, none, .sv (.lf (.val (.pointer none)))), eB 3 false, eP 4 2 0, eI 7 (c + (1 : Int)), eI 8 (5 : Int), eR 69 8, eI 70 ((x 5).length : Int), eI 71 (j + (1 : Int))], [lI 3 l, rII 42 (zs.set (vI (cellAt (x 5) j.toNat 0)).toNat [wI (5 : Int), wI c]), .blk true 52 (tblC 1 3 5 l)] ++ rowsX 3 x, oL 1 18⟩ [inK .i64 (j + (1 : Int))] (by kernel_rfl) ⟨(by simp only [inK]; omega), trivial⟩ ?_
    exact againK [2, 3, 4, 7, 8, 69, 70, 71] (List.range 19) ⟨[(2, none, .sv (.lf (.val (.pointer none)))), eB 3 false, eP 4 2 0, eI 7 (c + (1 : Int)), eI 8 (5 : Int), eR 69 8, eI 70 ((x 5).length : Int), eI 71 (j + (1 : Int))], [lI 3 l, rII 42 (zs.set (vI (cellAt (x 5) j.toNat 0)).toNat [wI (5 : Int), wI c]), .blk true 52 (tblC 1 3 5 l)] ++ rowsX 3 x, oL 1 18⟩ (by kernel_rfl) ⟨(c + (1 : Int)), (j + (1 : Int)), (zs.set (vI (cellAt (x 5) j.toNat 0)).toNat [Value.int .i64 (5 : Int), Value.int .i64 c])⟩ (show (0 ≤ (j + (1 : Int)) ∧ (j + (1 : Int)) ≤ ((x 5).length : Int)) ∧ ((c + (1 : Int)) = baseL l 5 + (j + (1 : Int))) ∧ ((zs.set (vI (cellAt (x 5) j.toNat 0)).toNat [Value.int .i64 (5 : Int), Value.int .i64 c]) = outS l 5 (j + (1 : Int))) from ⟨by omega, by omega, by rw [hz2, hc]; exact outS_set (n := 5) (by decide) (by omega) hsy.2.2.1 hsy.2.2.2⟩) (show (((x 5).length : Int) - (j + (1 : Int))).toNat < (((x 5).length : Int) - j).toNat from by omega) rfl
  · have h4p := of_decide_eq_false h4
    refine W.exit ?_
    refine exit_then ?_
    refine exit_then ?_
    obtain rfl : j = ((x 5).length : Int) := by omega
    obtain rfl : c = (endL l 5) := by omega
    obtain rfl : zs = (outS l 6 0) := by rw [hz2]; exact outS_end l 5 hx5
    refine exit_here ?_
    refine unblock ?_
    refine W.next ?_
    refine W.regionX tt_ok [] [2, 3, 4, 7, 8] (List.range 19) ⟨[(2, none, .sv (.lf (.val (.pointer none)))), eB 3 false, eP 4 2 0, eI 7 (endL l 5), eI 8 (6 : Int)], [lI 3 l, rII 42 (outS l 6 0), .blk true 52 (tblC 1 3 5 l)] ++ rowsX 3 x, oL 1 18⟩ [inK .i64 ((5 : Int) + (1 : Int))] (by kernel_rfl) ⟨(by simp only [inK]; omega), trivial⟩ ?_
    exact againK [2, 3, 4, 7, 8] (List.range 19) ⟨[(2, none, .sv (.lf (.val (.pointer none)))), eB 3 false, eP 4 2 0, eI 7 (endL l 5), eI 8 (6 : Int)], [lI 3 l, rII 42 (outS l 6 0), .blk true 52 (tblC 1 3 5 l)] ++ rowsX 3 x, oL 1 18⟩ (by kernel_rfl) 6 (by decide) (by decide) (by kernel_rfl)
theorem New_round6 {gg : Gam} {ww : World} {Q : Exit → Act → World → Prop} (l : List (List Value)) (x : Nat → List (List Value)) (hl : (l.length : Int) ≤ 17592186044416) (hk : ∀ j o : Nat, -9223372036854775808 ≤ vI (cellAt l j o) ∧ vI (cellAt l j o) ≤ 9223372036854775807) (hkr : kraftL l ≤ 32768) (hx0 : x 0 = symN l 0 l.length) (hx1 : x 1 = symN l 1 l.length) (hx2 : x 2 = symN l 2 l.length) (hx3 : x 3 = symN l 3 l.length) (hx4 : x 4 = symN l 4 l.length) (hx5 : x 5 = symN l 5 l.length) (hx6 : x 6 = symN l 6 l.length) (hx7 : x 7 = symN l 7 l.length) (hx8 : x 8 = symN l 8 l.length) (hx9 : x 9 = symN l 9 l.length) (hx10 : x 10 = symN l 10 l.length) (hx11 : x 11 = symN l 11 l.length) (hx12 : x 12 = symN l 12 l.length) (hx13 : x 13 = symN l 13 l.length) (hx14 : x 14 = symN l 14 l.length) (hx15 : x 15 = symN l 15 l.length) (hxl0 : (x 0).length ≤ l.length) (hxl1 : (x 1).length ≤ l.length) (hxl2 : (x 2).length ≤ l.length) (hxl3 : (x 3).length ≤ l.length) (hxl4 : (x 4).length ≤ l.length) (hxl5 : (x 5).length ≤ l.length) (hxl6 : (x 6).length ≤ l.length) (hxl7 : (x 7).length ≤ l.length) (hxl8 : (x 8).length ≤ l.length) (hxl9 : (x 9).length ≤ l.length) (hxl10 : (x 10).length ≤ l.length) (hxl11 : (x 11).length ≤ l.length) (hxl12 : (x 12).length ≤ l.length) (hxl13 : (x 13).length ≤ l.length) (hxl14 : (x 14).length ≤ l.length) (hxl15 : (x 15).length ≤ l.length) : W (mkC Try.prog tt 88 [.row false 3 [.int .i64] l] gg ww) (lopB (blkB (seqR (seqL (seqR (seqR (seqR (seqR (seqR (bodyC Try.f19)))))))))) (Exit.then (fun a w => ∃ n, (1 ≤ n ∧ n ≤ 16) ∧ 16 - n < 16 - 6 ∧ Sat (mkC Try.prog tt 88 [.row false 3 [.int .i64] l] gg ww) (⟨[(2, none, .sv (.lf (.val (.pointer none)))), eB 3 false, eP 4 2 0, eI 7 (endL l (n - 1)), eI 8 (n : Int)], [lI 3 l, rII 42 (outS l n 0), .blk true 52 (tblC 1 3 (n - 1) l)] ++ rowsX 3 x, oL 1 18⟩) a w) Q) ⟨[(2, none, .sv (.lf (.val (.pointer none)))), eB 3 false, eP 4 2 0, eI 7 (endL l 5), eI 8 (6 : Int)], [lI 3 l, rII 42 (outS l 6 0), .blk true 52 (tblC 1 3 5 l)] ++ rowsX 3 x, oL 1 18⟩ := by
  have hbe := endL_bd hkr (n := 5) (by decide)
  refine W.seq ?_
  refine W.sx tt_ok [⟨0, 0, none⟩, ⟨0, 1, none⟩] [2, 3, 4, 7, 8, 53] (List.range 19) ⟨[(2, none, .sv (.lf (.val (.pointer none)))), eB 3 false, eP 4 2 0, eI 7 (endL l 5), eI 8 (6 : Int), eB 53 true], [lI 3 l, rII 42 (outS l 6 0), .blk true 52 (tblC 1 3 5 l)] ++ rowsX 3 x, oL 1 18⟩ [(6 : Int) ≤ (15 : Int)] (by kernel_rfl) ⟨(by omega), trivial⟩ ?_
  refine W.cond (p := true) (by kernel_rfl) (fun _ => ?_) (fun h => nomatch h)
  refine W.skip ?_
  refine W.next ?_
  refine W.seq ?_
  refine W.block ?_
  refine W.sx tt_ok [] [2, 3, 4, 7, 8] (List.range 19) ⟨[(2, none, .sv (.lf (.val (.pointer none)))), eB 3 false, eP 4 2 0, eI 7 ((endL l 5) * (2 : Int)), eI 8 (6 : Int)], [lI 3 l, rII 42 (outS l 6 0), .blk true 52 (tblC 1 3 5 l)] ++ rowsX 3 x, oL 1 18⟩ [inK .i64 ((endL l 5) * (2 : Int))] (by kernel_rfl) ⟨(by simp only [inK]; omega), trivial⟩ ?_
  generalize hv6 : (endL l 5) * (2 : Int) = v6
  obtain rfl : v6 = baseL l 6 := by rw [← hv6]; exact base_dbl l 6 (by decide)
  have hb6 := baseL_bd hkr (n := 6) (by decide) (by decide)
  refine W.sx tt_ok [⟨0, 0, none⟩, ⟨0, 0, none⟩, ⟨0, 0, none⟩, ⟨0, 0, none⟩, ⟨0, 0, none⟩, ⟨0, 1, none⟩] [2, 3, 4, 7, 8] (List.range 19) ⟨[(2, none, .sv (.lf (.val (.pointer none)))), eB 3 false, eP 4 2 0, eI 7 (baseL l 6), eI 8 (6 : Int)], [lI 3 l, rII 42 (outS l 6 0), .blk true 52 (tblC 1 3 6 l)] ++ rowsX 3 x, oL 1 18⟩ [0 ≤ (6 : Int) ∧ (6 : Int) < (16 : Int)] (by kernel_rfl) ⟨(by omega), trivial⟩ ?_
  refine W.sx tt_ok [⟨0, 0, none⟩, ⟨0, 0, none⟩, ⟨0, 0, none⟩, ⟨0, 0, none⟩, ⟨0, 1, none⟩] [2, 3, 4, 7, 8, 69, 70, 71] (List.range 19) ⟨[(2, none, .sv (.lf (.val (.pointer none)))), eB 3 false, eP 4 2 0, eI 7 (baseL l 6), eI 8 (6 : Int), eR 69 9, eI 70 ((x 6).length : Int), eI 71 (0 : Int)], [lI 3 l, rII 42 (outS l 6 0), .blk true 52 (tblC 1 3 6 l)] ++ rowsX 3 x, oL 1 18⟩ [0 ≤ (6 : Int) ∧ (6 : Int) < (16 : Int)] (by kernel_rfl) ⟨(by omega), trivial⟩ ?_
  refine W.block ?_
  refine W.loop (ι := Int × Int × List (List Value)) (fun z => ⟨[(2, none, .sv (.lf (.val (.pointer none)))), eB 3 false, eP 4 2 0, eI 7 z.1, eI 8 (6 : Int), eR 69 9, eI 70 ((x 6).length : Int), eI 71 z.2.1], [lI 3 l, rII 42 z.2.2, .blk true 52 (tblC 1 3 6 l)] ++ rowsX 3 x, oL 1 18⟩) (fun z => (0 ≤ z.2.1 ∧ z.2.1 ≤ ((x 6).length : Int)) ∧ (z.1 = baseL l 6 + z.2.1) ∧ (z.2.2 = outS l 6 z.2.1)) (fun z => (((x 6).length : Int) - z.2.1).toNat) ⟨(baseL l 6), 0, (outS l 6 0)⟩ (show (0 ≤ (0 : Int) ∧ (0 : Int) ≤ ((x 6).length : Int)) ∧ ((baseL l 6) = baseL l 6 + (0 : Int)) ∧ ((outS l 6 0) = outS l 6 (0 : Int)) from ⟨by omega, by omega, rfl⟩) rfl ?_
  rintro ⟨c, j, zs⟩ ⟨hj, hc, hz2⟩
  dsimp only at hj hc hz2
  have hzl : zs.length = l.length := by rw [hz2, outS_len]
  have hbb := endL_bd hkr (n := 6) (by decide)
  have hee := end_base l 6 (by decide) hx6
  have hsy0 := fun h => sym_ok (n := 6) (j := j) hx6 hj.1 h
  refine W.sx tt_ok [] [2, 3, 4, 7, 8, 69, 70, 71, 72] (List.range 19) ⟨[(2, none, .sv (.lf (.val (.pointer none)))), eB 3 false, eP 4 2 0, eI 7 c, eI 8 (6 : Int), eR 69 9, eI 70 ((x 6).length : Int), eI 71 j, eB 72 (decide (j < ((x 6).length : Int)))], [lI 3 l, rII 42 zs, .blk true 52 (tblC 1 3 6 l)] ++ rowsX 3 x, oL 1 18⟩ [] (by kernel_rfl) trivial ?_
  refine W.seq ?_
  refine W.cond (p := (decide (j < ((x 6).length : Int)))) (by kernel_rfl) (fun h4 => ?_) (fun h4 => ?_)
  · have h4p := of_decide_eq_true h4
    have hsy := hsy0 (by omega)
    refine W.skip ?_
    refine W.next ?_
    refine W.seq ?_
    refine W.block ?_
    refine W.sx tt_ok [] [2, 3, 4, 7, 8, 10, 69, 70, 71] (List.range 19) ⟨[(2, none, .sv (.lf (.val (.pointer none)))), eB 3 false, eP 4 2 0, eI 7 c, eI 8 (6 : Int), eI 10 (vI (cellAt (x 6) j.toNat 0)), eR 69 9, eI 70 ((x 6).length : Int), eI 71 j], [lI 3 l, rII 42 zs, .blk true 52 (tblC 1 3 6 l)] ++ rowsX 3 x, oL 1 18⟩ [0 ≤ j ∧ j < ((x 6).length : Int), 0 ≤ j ∧ j < ((x 6).length : Int)] (by kernel_rfl) ⟨(by omega), (by omega), trivial⟩ ?_
    refine W.sx tt_ok [] [2, 3, 4, 7, 8, 69, 70, 71] (List.range 19) ⟨[(2, none, .sv (.lf (.val (.pointer none)))), eB 3 false, eP 4 2 0, eI 7 c, eI 8 (6 : Int), eR 69 9, eI 70 ((x 6).length : Int), eI 71 j], [lI 3 l, rII 42 (zs.set (vI (cellAt (x 6) j.toNat 0)).toNat [wI (6 : Int), wI c]), .blk true 52 (tblC 1 3 6 l)] ++ rowsX 3 x, oL 1 18⟩ [0 ≤ (vI (cellAt (x 6) j.toNat 0)) ∧ (vI (cellAt (x 6) j.toNat 0)) < (zs.length : Int), 0 ≤ (vI (cellAt (x 6) j.toNat 0)) ∧ (vI (cellAt (x 6) j.toNat 0)) < (zs.length : Int)] (by kernel_rfl) ⟨(by omega), (by omega), trivial⟩ ?_
    refine W.regionX tt_ok [] [2, 3, 4, 7, 8, 69, 70, 71] (List.range 19) ⟨[(2, none, .sv (.lf (.val (.pointer none)))), eB 3 false, eP 4 2 0, eI 7 (c + (1 : Int)), eI 8 (6 : Int), eR 69 9, eI 70 ((x 6).length : Int), eI 71 j], [lI 3 l, rII 42 (zs.set (vI (cellAt (x 6) j.toNat 0)).toNat [wI (6 : Int), wI c]), .blk true 52 (tblC 1 3 6 l)] ++ rowsX 3 x, oL 1 18⟩ [inK .i64 (c + (1 : Int))] (by kernel_rfl) ⟨(by simp only [inK]; omega), trivial⟩ ?_
    refine unblock ?_
    refine W.next ?_
    refine W.regionX tt_ok [] [2, 3, 4, 7, 8, 69, 70, 71] (List.range 19) ⟨[(2, none, .sv (.lf (.val (.pointer none)))), eB 3 false, eP 4 2 0, eI 7 (c + (1 : Int)), eI 8 (6 : Int), eR 69 9, eI 70 ((x 6).length : Int), eI 71 (j + (1 : Int))], [lI 3 l, rII 42 (zs.set (vI (cellAt (x 6) j.toNat 0)).toNat [wI (6 : Int), wI c]), .blk true 52 (tblC 1 3 6 l)] ++ rowsX 3 x, oL 1 18⟩ [inK .i64 (j + (1 : Int))] (by kernel_rfl) ⟨(by simp only [inK]; omega), trivial⟩ ?_
    exact againK [2, 3, 4, 7, 8, 69, 70, 71] (List.range 19) ⟨[(2, none, .sv (.lf (.val (.pointer none)))), eB 3 false, eP 4 2 0, eI 7 (c + (1 : Int)), eI 8 (6 : Int), eR 69 9, eI 70 ((x 6).length : Int), eI 71 (j + (1 : Int))], [lI 3 l, rII 42 (zs.set (vI (cellAt (x 6) j.toNat 0)).toNat [wI (6 : Int), wI c]), .blk true 52 (tblC 1 3 6 l)] ++ rowsX 3 x, oL 1 18⟩ (by kernel_rfl) ⟨(c + (1 : Int)), (j + (1 : Int)), (zs.set (vI (cellAt (x 6) j.toNat 0)).toNat [Value.int .i64 (6 : Int), Value.int .i64 c])⟩ (show (0 ≤ (j + (1 : Int)) ∧ (j + (1 : Int)) ≤ ((x 6).length : Int)) ∧ ((c + (1 : Int)) = baseL l 6 + (j + (1 : Int))) ∧ ((zs.set (vI (cellAt (x 6) j.toNat 0)).toNat [Value.int .i64 (6 : Int), Value.int .i64 c]) = outS l 6 (j + (1 : Int))) from ⟨by omega, by omega, by rw [hz2, hc]; exact outS_set (n := 6) (by decide) (by omega) hsy.2.2.1 hsy.2.2.2⟩) (show (((x 6).length : Int) - (j + (1 : Int))).toNat < (((x 6).length : Int) - j).toNat from by omega) rfl
  · have h4p := of_decide_eq_false h4
    refine W.exit ?_
    refine exit_then ?_
    refine exit_then ?_
    obtain rfl : j = ((x 6).length : Int) := by omega
    obtain rfl : c = (endL l 6) := by omega
    obtain rfl : zs = (outS l 7 0) := by rw [hz2]; exact outS_end l 6 hx6
    refine exit_here ?_
    refine unblock ?_
    refine W.next ?_
    refine W.regionX tt_ok [] [2, 3, 4, 7, 8] (List.range 19) ⟨[(2, none, .sv (.lf (.val (.pointer none)))), eB 3 false, eP 4 2 0, eI 7 (endL l 6), eI 8 (7 : Int)], [lI 3 l, rII 42 (outS l 7 0), .blk true 52 (tblC 1 3 6 l)] ++ rowsX 3 x, oL 1 18⟩ [inK .i64 ((6 : Int) + (1 : Int))] (by kernel_rfl) ⟨(by simp only [inK]; omega), trivial⟩ ?_
    exact againK [2, 3, 4, 7, 8] (List.range 19) ⟨[(2, none, .sv (.lf (.val (.pointer none)))), eB 3 false, eP 4 2 0, eI 7 (endL l 6), eI 8 (7 : Int)], [lI 3 l, rII 42 (outS l 7 0), .blk true 52 (tblC 1 3 6 l)] ++ rowsX 3 x, oL 1 18⟩ (by kernel_rfl) 7 (by decide) (by decide) (by kernel_rfl)
theorem New_round7 {gg : Gam} {ww : World} {Q : Exit → Act → World → Prop} (l : List (List Value)) (x : Nat → List (List Value)) (hl : (l.length : Int) ≤ 17592186044416) (hk : ∀ j o : Nat, -9223372036854775808 ≤ vI (cellAt l j o) ∧ vI (cellAt l j o) ≤ 9223372036854775807) (hkr : kraftL l ≤ 32768) (hx0 : x 0 = symN l 0 l.length) (hx1 : x 1 = symN l 1 l.length) (hx2 : x 2 = symN l 2 l.length) (hx3 : x 3 = symN l 3 l.length) (hx4 : x 4 = symN l 4 l.length) (hx5 : x 5 = symN l 5 l.length) (hx6 : x 6 = symN l 6 l.length) (hx7 : x 7 = symN l 7 l.length) (hx8 : x 8 = symN l 8 l.length) (hx9 : x 9 = symN l 9 l.length) (hx10 : x 10 = symN l 10 l.length) (hx11 : x 11 = symN l 11 l.length) (hx12 : x 12 = symN l 12 l.length) (hx13 : x 13 = symN l 13 l.length) (hx14 : x 14 = symN l 14 l.length) (hx15 : x 15 = symN l 15 l.length) (hxl0 : (x 0).length ≤ l.length) (hxl1 : (x 1).length ≤ l.length) (hxl2 : (x 2).length ≤ l.length) (hxl3 : (x 3).length ≤ l.length) (hxl4 : (x 4).length ≤ l.length) (hxl5 : (x 5).length ≤ l.length) (hxl6 : (x 6).length ≤ l.length) (hxl7 : (x 7).length ≤ l.length) (hxl8 : (x 8).length ≤ l.length) (hxl9 : (x 9).length ≤ l.length) (hxl10 : (x 10).length ≤ l.length) (hxl11 : (x 11).length ≤ l.length) (hxl12 : (x 12).length ≤ l.length) (hxl13 : (x 13).length ≤ l.length) (hxl14 : (x 14).length ≤ l.length) (hxl15 : (x 15).length ≤ l.length) : W (mkC Try.prog tt 88 [.row false 3 [.int .i64] l] gg ww) (lopB (blkB (seqR (seqL (seqR (seqR (seqR (seqR (seqR (bodyC Try.f19)))))))))) (Exit.then (fun a w => ∃ n, (1 ≤ n ∧ n ≤ 16) ∧ 16 - n < 16 - 7 ∧ Sat (mkC Try.prog tt 88 [.row false 3 [.int .i64] l] gg ww) (⟨[(2, none, .sv (.lf (.val (.pointer none)))), eB 3 false, eP 4 2 0, eI 7 (endL l (n - 1)), eI 8 (n : Int)], [lI 3 l, rII 42 (outS l n 0), .blk true 52 (tblC 1 3 (n - 1) l)] ++ rowsX 3 x, oL 1 18⟩) a w) Q) ⟨[(2, none, .sv (.lf (.val (.pointer none)))), eB 3 false, eP 4 2 0, eI 7 (endL l 6), eI 8 (7 : Int)], [lI 3 l, rII 42 (outS l 7 0), .blk true 52 (tblC 1 3 6 l)] ++ rowsX 3 x, oL 1 18⟩ := by
  have hbe := endL_bd hkr (n := 6) (by decide)
  refine W.seq ?_
  refine W.sx tt_ok [⟨0, 0, none⟩, ⟨0, 1, none⟩] [2, 3, 4, 7, 8, 53] (List.range 19) ⟨[(2, none, .sv (.lf (.val (.pointer none)))), eB 3 false, eP 4 2 0, eI 7 (endL l 6), eI 8 (7 : Int), eB 53 true], [lI 3 l, rII 42 (outS l 7 0), .blk true 52 (tblC 1 3 6 l)] ++ rowsX 3 x, oL 1 18⟩ [(7 : Int) ≤ (15 : Int)] (by kernel_rfl) ⟨(by omega), trivial⟩ ?_
  refine W.cond (p := true) (by kernel_rfl) (fun _ => ?_) (fun h => nomatch h)
  refine W.skip ?_
  refine W.next ?_
  refine W.seq ?_
  refine W.block ?_
  refine W.sx tt_ok [] [2, 3, 4, 7, 8] (List.range 19) ⟨[(2, none, .sv (.lf (.val (.pointer none)))), eB 3 false, eP 4 2 0, eI 7 ((endL l 6) * (2 : Int)), eI 8 (7 : Int)], [lI 3 l, rII 42 (outS l 7 0), .blk true 52 (tblC 1 3 6 l)] ++ rowsX 3 x, oL 1 18⟩ [inK .i64 ((endL l 6) * (2 : Int))] (by kernel_rfl) ⟨(by simp only [inK]; omega), trivial⟩ ?_
  generalize hv7 : (endL l 6) * (2 : Int) = v7
  obtain rfl : v7 = baseL l 7 := by rw [← hv7]; exact base_dbl l 7 (by decide)
  have hb7 := baseL_bd hkr (n := 7) (by decide) (by decide)
  refine W.sx tt_ok [⟨0, 0, none⟩, ⟨0, 0, none⟩, ⟨0, 0, none⟩, ⟨0, 0, none⟩, ⟨0, 0, none⟩, ⟨0, 1, none⟩] [2, 3, 4, 7, 8] (List.range 19) ⟨[(2, none, .sv (.lf (.val (.pointer none)))), eB 3 false, eP 4 2 0, eI 7 (baseL l 7), eI 8 (7 : Int)], [lI 3 l, rII 42 (outS l 7 0), .blk true 52 (tblC 1 3 7 l)] ++ rowsX 3 x, oL 1 18⟩ [0 ≤ (7 : Int) ∧ (7 : Int) < (16 : Int)] (by kernel_rfl) ⟨(by omega), trivial⟩ ?_
  refine W.sx tt_ok [⟨0, 0, none⟩, ⟨0, 0, none⟩, ⟨0, 0, none⟩, ⟨0, 0, none⟩, ⟨0, 1, none⟩] [2, 3, 4, 7, 8, 69, 70, 71] (List.range 19) ⟨[(2, none, .sv (.lf (.val (.pointer none)))), eB 3 false, eP 4 2 0, eI 7 (baseL l 7), eI 8 (7 : Int), eR 69 10, eI 70 ((x 7).length : Int), eI 71 (0 : Int)], [lI 3 l, rII 42 (outS l 7 0), .blk true 52 (tblC 1 3 7 l)] ++ rowsX 3 x, oL 1 18⟩ [0 ≤ (7 : Int) ∧ (7 : Int) < (16 : Int)] (by kernel_rfl) ⟨(by omega), trivial⟩ ?_
  refine W.block ?_
  refine W.loop (ι := Int × Int × List (List Value)) (fun z => ⟨[(2, none, .sv (.lf (.val (.pointer none)))), eB 3 false, eP 4 2 0, eI 7 z.1, eI 8 (7 : Int), eR 69 10, eI 70 ((x 7).length : Int), eI 71 z.2.1], [lI 3 l, rII 42 z.2.2, .blk true 52 (tblC 1 3 7 l)] ++ rowsX 3 x, oL 1 18⟩) (fun z => (0 ≤ z.2.1 ∧ z.2.1 ≤ ((x 7).length : Int)) ∧ (z.1 = baseL l 7 + z.2.1) ∧ (z.2.2 = outS l 7 z.2.1)) (fun z => (((x 7).length : Int) - z.2.1).toNat) ⟨(baseL l 7), 0, (outS l 7 0)⟩ (show (0 ≤ (0 : Int) ∧ (0 : Int) ≤ ((x 7).length : Int)) ∧ ((baseL l 7) = baseL l 7 + (0 : Int)) ∧ ((outS l 7 0) = outS l 7 (0 : Int)) from ⟨by omega, by omega, rfl⟩) rfl ?_
  rintro ⟨c, j, zs⟩ ⟨hj, hc, hz2⟩
  dsimp only at hj hc hz2
  have hzl : zs.length = l.length := by rw [hz2, outS_len]
  have hbb := endL_bd hkr (n := 7) (by decide)
  have hee := end_base l 7 (by decide) hx7
  have hsy0 := fun h => sym_ok (n := 7) (j := j) hx7 hj.1 h
  refine W.sx tt_ok [] [2, 3, 4, 7, 8, 69, 70, 71, 72] (List.range 19) ⟨[(2, none, .sv (.lf (.val (.pointer none)))), eB 3 false, eP 4 2 0, eI 7 c, eI 8 (7 : Int), eR 69 10, eI 70 ((x 7).length : Int), eI 71 j, eB 72 (decide (j < ((x 7).length : Int)))], [lI 3 l, rII 42 zs, .blk true 52 (tblC 1 3 7 l)] ++ rowsX 3 x, oL 1 18⟩ [] (by kernel_rfl) trivial ?_
  refine W.seq ?_
  refine W.cond (p := (decide (j < ((x 7).length : Int)))) (by kernel_rfl) (fun h4 => ?_) (fun h4 => ?_)
  · have h4p := of_decide_eq_true h4
    have hsy := hsy0 (by omega)
    refine W.skip ?_
    refine W.next ?_
    refine W.seq ?_
    refine W.block ?_
    refine W.sx tt_ok [] [2, 3, 4, 7, 8, 10, 69, 70, 71] (List.range 19) ⟨[(2, none, .sv (.lf (.val (.pointer none)))), eB 3 false, eP 4 2 0, eI 7 c, eI 8 (7 : Int), eI 10 (vI (cellAt (x 7) j.toNat 0)), eR 69 10, eI 70 ((x 7).length : Int), eI 71 j], [lI 3 l, rII 42 zs, .blk true 52 (tblC 1 3 7 l)] ++ rowsX 3 x, oL 1 18⟩ [0 ≤ j ∧ j < ((x 7).length : Int), 0 ≤ j ∧ j < ((x 7).length : Int)] (by kernel_rfl) ⟨(by omega), (by omega), trivial⟩ ?_
    refine W.sx tt_ok [] [2, 3, 4, 7, 8, 69, 70, 71] (List.range 19) ⟨[(2, none, .sv (.lf (.val (.pointer none)))), eB 3 false, eP 4 2 0, eI 7 c, eI 8 (7 : Int), eR 69 10, eI 70 ((x 7).length : Int), eI 71 j], [lI 3 l, rII 42 (zs.set (vI (cellAt (x 7) j.toNat 0)).toNat [wI (7 : Int), wI c]), .blk true 52 (tblC 1 3 7 l)] ++ rowsX 3 x, oL 1 18⟩ [0 ≤ (vI (cellAt (x 7) j.toNat 0)) ∧ (vI (cellAt (x 7) j.toNat 0)) < (zs.length : Int), 0 ≤ (vI (cellAt (x 7) j.toNat 0)) ∧ (vI (cellAt (x 7) j.toNat 0)) < (zs.length : Int)] (by kernel_rfl) ⟨(by omega), (by omega), trivial⟩ ?_
    refine W.regionX tt_ok [] [2, 3, 4, 7, 8, 69, 70, 71] (List.range 19) ⟨[(2, none, .sv (.lf (.val (.pointer none)))), eB 3 false, eP 4 2 0, eI 7 (c + (1 : Int)), eI 8 (7 : Int), eR 69 10, eI 70 ((x 7).length : Int), eI 71 j], [lI 3 l, rII 42 (zs.set (vI (cellAt (x 7) j.toNat 0)).toNat [wI (7 : Int), wI c]), .blk true 52 (tblC 1 3 7 l)] ++ rowsX 3 x, oL 1 18⟩ [inK .i64 (c + (1 : Int))] (by kernel_rfl) ⟨(by simp only [inK]; omega), trivial⟩ ?_
    refine unblock ?_
    refine W.next ?_
    refine W.regionX tt_ok [] [2, 3, 4, 7, 8, 69, 70, 71] (List.range 19) ⟨[(2, none, .sv (.lf (.val (.pointer none)))), eB 3 false, eP 4 2 0, eI 7 (c + (1 : Int)), eI 8 (7 : Int), eR 69 10, eI 70 ((x 7).length : Int), eI 71 (j + (1 : Int))], [lI 3 l, rII 42 (zs.set (vI (cellAt (x 7) j.toNat 0)).toNat [wI (7 : Int), wI c]), .blk true 52 (tblC 1 3 7 l)] ++ rowsX 3 x, oL 1 18⟩ [inK .i64 (j + (1 : Int))] (by kernel_rfl) ⟨(by simp only [inK]; omega), trivial⟩ ?_
    exact againK [2, 3, 4, 7, 8, 69, 70, 71] (List.range 19) ⟨[(2, none, .sv (.lf (.val (.pointer none)))), eB 3 false, eP 4 2 0, eI 7 (c + (1 : Int)), eI 8 (7 : Int), eR 69 10, eI 70 ((x 7).length : Int), eI 71 (j + (1 : Int))], [lI 3 l, rII 42 (zs.set (vI (cellAt (x 7) j.toNat 0)).toNat [wI (7 : Int), wI c]), .blk true 52 (tblC 1 3 7 l)] ++ rowsX 3 x, oL 1 18⟩ (by kernel_rfl) ⟨(c + (1 : Int)), (j + (1 : Int)), (zs.set (vI (cellAt (x 7) j.toNat 0)).toNat [Value.int .i64 (7 : Int), Value.int .i64 c])⟩ (show (0 ≤ (j + (1 : Int)) ∧ (j + (1 : Int)) ≤ ((x 7).length : Int)) ∧ ((c + (1 : Int)) = baseL l 7 + (j + (1 : Int))) ∧ ((zs.set (vI (cellAt (x 7) j.toNat 0)).toNat [Value.int .i64 (7 : Int), Value.int .i64 c]) = outS l 7 (j + (1 : Int))) from ⟨by omega, by omega, by rw [hz2, hc]; exact outS_set (n := 7) (by decide) (by omega) hsy.2.2.1 hsy.2.2.2⟩) (show (((x 7).length : Int) - (j + (1 : Int))).toNat < (((x 7).length : Int) - j).toNat from by omega) rfl
  · have h4p := of_decide_eq_false h4
    refine W.exit ?_
    refine exit_then ?_
    refine exit_then ?_
    obtain rfl : j = ((x 7).length : Int) := by omega
    obtain rfl : c = (endL l 7) := by omega
    obtain rfl : zs = (outS l 8 0) := by rw [hz2]; exact outS_end l 7 hx7
    refine exit_here ?_
    refine unblock ?_
    refine W.next ?_
    refine W.regionX tt_ok [] [2, 3, 4, 7, 8] (List.range 19) ⟨[(2, none, .sv (.lf (.val (.pointer none)))), eB 3 false, eP 4 2 0, eI 7 (endL l 7), eI 8 (8 : Int)], [lI 3 l, rII 42 (outS l 8 0), .blk true 52 (tblC 1 3 7 l)] ++ rowsX 3 x, oL 1 18⟩ [inK .i64 ((7 : Int) + (1 : Int))] (by kernel_rfl) ⟨(by simp only [inK]; omega), trivial⟩ ?_
    exact againK [2, 3, 4, 7, 8] (List.range 19) ⟨[(2, none, .sv (.lf (.val (.pointer none)))), eB 3 false, eP 4 2 0, eI 7 (endL l 7), eI 8 (8 : Int)], [lI 3 l, rII 42 (outS l 8 0), .blk true 52 (tblC 1 3 7 l)] ++ rowsX 3 x, oL 1 18⟩ (by kernel_rfl) 8 (by decide) (by decide) (by kernel_rfl)
theorem New_round8 {gg : Gam} {ww : World} {Q : Exit → Act → World → Prop} (l : List (List Value)) (x : Nat → List (List Value)) (hl : (l.length : Int) ≤ 17592186044416) (hk : ∀ j o : Nat, -9223372036854775808 ≤ vI (cellAt l j o) ∧ vI (cellAt l j o) ≤ 9223372036854775807) (hkr : kraftL l ≤ 32768) (hx0 : x 0 = symN l 0 l.length) (hx1 : x 1 = symN l 1 l.length) (hx2 : x 2 = symN l 2 l.length) (hx3 : x 3 = symN l 3 l.length) (hx4 : x 4 = symN l 4 l.length) (hx5 : x 5 = symN l 5 l.length) (hx6 : x 6 = symN l 6 l.length) (hx7 : x 7 = symN l 7 l.length) (hx8 : x 8 = symN l 8 l.length) (hx9 : x 9 = symN l 9 l.length) (hx10 : x 10 = symN l 10 l.length) (hx11 : x 11 = symN l 11 l.length) (hx12 : x 12 = symN l 12 l.length) (hx13 : x 13 = symN l 13 l.length) (hx14 : x 14 = symN l 14 l.length) (hx15 : x 15 = symN l 15 l.length) (hxl0 : (x 0).length ≤ l.length) (hxl1 : (x 1).length ≤ l.length) (hxl2 : (x 2).length ≤ l.length) (hxl3 : (x 3).length ≤ l.length) (hxl4 : (x 4).length ≤ l.length) (hxl5 : (x 5).length ≤ l.length) (hxl6 : (x 6).length ≤ l.length) (hxl7 : (x 7).length ≤ l.length) (hxl8 : (x 8).length ≤ l.length) (hxl9 : (x 9).length ≤ l.length) (hxl10 : (x 10).length ≤ l.length) (hxl11 : (x 11).length ≤ l.length) (hxl12 : (x 12).length ≤ l.length) (hxl13 : (x 13).length ≤ l.length) (hxl14 : (x 14).length ≤ l.length) (hxl15 : (x 15).length ≤ l.length) : W (mkC Try.prog tt 88 [.row false 3 [.int .i64] l] gg ww) (lopB (blkB (seqR (seqL (seqR (seqR (seqR (seqR (seqR (bodyC Try.f19)))))))))) (Exit.then (fun a w => ∃ n, (1 ≤ n ∧ n ≤ 16) ∧ 16 - n < 16 - 8 ∧ Sat (mkC Try.prog tt 88 [.row false 3 [.int .i64] l] gg ww) (⟨[(2, none, .sv (.lf (.val (.pointer none)))), eB 3 false, eP 4 2 0, eI 7 (endL l (n - 1)), eI 8 (n : Int)], [lI 3 l, rII 42 (outS l n 0), .blk true 52 (tblC 1 3 (n - 1) l)] ++ rowsX 3 x, oL 1 18⟩) a w) Q) ⟨[(2, none, .sv (.lf (.val (.pointer none)))), eB 3 false, eP 4 2 0, eI 7 (endL l 7), eI 8 (8 : Int)], [lI 3 l, rII 42 (outS l 8 0), .blk true 52 (tblC 1 3 7 l)] ++ rowsX 3 x, oL 1 18⟩ := by
  have hbe := endL_bd hkr (n := 7) (by decide)
  refine W.seq ?_
  refine W.sx tt_ok [⟨0, 0, none⟩, ⟨0, 1, none⟩] [2, 3, 4, 7, 8, 53] (List.range 19) ⟨[(2, none, .sv (.lf (.val (.pointer none)))), eB 3 false, eP 4 2 0, eI 7 (endL l 7), eI 8 (8 : Int), eB 53 true], [lI 3 l, rII 42 (outS l 8 0), .blk true 52 (tblC 1 3 7 l)] ++ rowsX 3 x, oL 1 18⟩ [(8 : Int) ≤ (15 : Int)] (by kernel_rfl) ⟨(by omega), trivial⟩ ?_
  refine W.cond (p := true) (by kernel_rfl) (fun _ => ?_) (fun h => nomatch h)
  refine W.skip ?_
  refine W.next ?_
  refine W.seq ?_
  refine W.block ?_
  refine W.sx tt_ok [] [2, 3, 4, 7, 8] (List.range 19) ⟨[(2, none, .sv (.lf (.val (.pointer none)))), eB 3 false, eP 4 2 0, eI 7 ((endL l 7) * (2 : Int)), eI 8 (8 : Int)], [lI 3 l, rII 42 (outS l 8 0), .blk true 52 (tblC 1 3 7 l)] ++ rowsX 3 x, oL 1 18⟩ [inK .i64 ((endL l 7) * (2 : Int))] (by kernel_rfl) ⟨(by simp only [inK]; omega), trivial⟩ ?_
  generalize hv8 : (endL l 7) * (2 : Int) = v8
  obtain rfl : v8 = baseL l 8 := by rw [← hv8]; exact base_dbl l 8 (by decide)
  have hb8 := baseL_bd hkr (n := 8) (by decide) (by decide)
  refine W.sx tt_ok [⟨0, 0, none⟩, ⟨0, 0, none⟩, ⟨0, 0, none⟩, ⟨0, 0, none⟩, ⟨0, 0, none⟩, ⟨0, 1, none⟩] [2, 3, 4, 7, 8] (List.range 19) ⟨[(2, none, .sv (.lf (.val (.pointer none)))), eB 3 false, eP 4 2 0, eI 7 (baseL l 8), eI 8 (8 : Int)], [lI 3 l, rII 42 (outS l 8 0), .blk true 52 (tblC 1 3 8 l)] ++ rowsX 3 x, oL 1 18⟩ [0 ≤ (8 : Int) ∧ (8 : Int) < (16 : Int)] (by kernel_rfl) ⟨(by omega), trivial⟩ ?_
  refine W.sx tt_ok [⟨0, 0, none⟩, ⟨0, 0, none⟩, ⟨0, 0, none⟩, ⟨0, 0, none⟩, ⟨0, 1, none⟩] [2, 3, 4, 7, 8, 69, 70, 71] (List.range 19) ⟨[(2, none, .sv (.lf (.val (.pointer none)))), eB 3 false, eP 4 2 0, eI 7 (baseL l 8), eI 8 (8 : Int), eR 69 11, eI 70 ((x 8).length : Int), eI 71 (0 : Int)], [lI 3 l, rII 42 (outS l 8 0), .blk true 52 (tblC 1 3 8 l)] ++ rowsX 3 x, oL 1 18⟩ [0 ≤ (8 : Int) ∧ (8 : Int) < (16 : Int)] (by kernel_rfl) ⟨(by omega), trivial⟩ ?_
  refine W.block ?_
  refine W.loop (ι := Int × Int × List (List Value)) (fun z => ⟨[(2, none, .sv (.lf (.val (.pointer none)))), eB 3 false, eP 4 2 0, eI 7 z.1, eI 8 (8 : Int), eR 69 11, eI 70 ((x 8).length : Int), eI 71 z.2.1], [lI 3 l, rII 42 z.2.2, .blk true 52 (tblC 1 3 8 l)] ++ rowsX 3 x, oL 1 18⟩) (fun z => (0 ≤ z.2.1 ∧ z.2.1 ≤ ((x 8).length : Int)) ∧ (z.1 = baseL l 8 + z.2.1) ∧ (z.2.2 = outS l 8 z.2.1)) (fun z => (((x 8).length : Int) - z.2.1).toNat) ⟨(baseL l 8), 0, (outS l 8 0)⟩ (show (0 ≤ (0 : Int) ∧ (0 : Int) ≤ ((x 8).length : Int)) ∧ ((baseL l 8) = baseL l 8 + (0 : Int)) ∧ ((outS l 8 0) = outS l 8 (0 : Int)) from ⟨by omega, by omega, rfl⟩) rfl ?_
  rintro ⟨c, j, zs⟩ ⟨hj, hc, hz2⟩
  dsimp only at hj hc hz2
  have hzl : zs.length = l.length := by rw [hz2, outS_len]
  have hbb := endL_bd hkr (n := 8) (by decide)
  have hee := end_base l 8 (by decide) hx8
  have hsy0 := fun h => sym_ok (n := 8) (j := j) hx8 hj.1 h
  refine W.sx tt_ok [] [2, 3, 4, 7, 8, 69, 70, 71, 72] (List.range 19) ⟨[(2, none, .sv (.lf (.val (.pointer none)))), eB 3 false, eP 4 2 0, eI 7 c, eI 8 (8 : Int), eR 69 11, eI 70 ((x 8).length : Int), eI 71 j, eB 72 (decide (j < ((x 8).length : Int)))], [lI 3 l, rII 42 zs, .blk true 52 (tblC 1 3 8 l)] ++ rowsX 3 x, oL 1 18⟩ [] (by kernel_rfl) trivial ?_
  refine W.seq ?_
  refine W.cond (p := (decide (j < ((x 8).length : Int)))) (by kernel_rfl) (fun h4 => ?_) (fun h4 => ?_)
  · have h4p := of_decide_eq_true h4
    have hsy := hsy0 (by omega)
    refine W.skip ?_
    refine W.next ?_
    refine W.seq ?_
    refine W.block ?_
    refine W.sx tt_ok [] [2, 3, 4, 7, 8, 10, 69, 70, 71] (List.range 19) ⟨[(2, none, .sv (.lf (.val (.pointer none)))), eB 3 false, eP 4 2 0, eI 7 c, eI 8 (8 : Int), eI 10 (vI (cellAt (x 8) j.toNat 0)), eR 69 11, eI 70 ((x 8).length : Int), eI 71 j], [lI 3 l, rII 42 zs, .blk true 52 (tblC 1 3 8 l)] ++ rowsX 3 x, oL 1 18⟩ [0 ≤ j ∧ j < ((x 8).length : Int), 0 ≤ j ∧ j < ((x 8).length : Int)] (by kernel_rfl) ⟨(by omega), (by omega), trivial⟩ ?_
    refine W.sx tt_ok [] [2, 3, 4, 7, 8, 69, 70, 71] (List.range 19) ⟨[(2, none, .sv (.lf (.val (.pointer none)))), eB 3 false, eP 4 2 0, eI 7 c, eI 8 (8 : Int), eR 69 11, eI 70 ((x 8).length : Int), eI 71 j], [lI 3 l, rII 42 (zs.set (vI (cellAt (x 8) j.toNat 0)).toNat [wI (8 : Int), wI c]), .blk true 52 (tblC 1 3 8 l)] ++ rowsX 3 x, oL 1 18⟩ [0 ≤ (vI (cellAt (x 8) j.toNat 0)) ∧ (vI (cellAt (x 8) j.toNat 0)) < (zs.length : Int), 0 ≤ (vI (cellAt (x 8) j.toNat 0)) ∧ (vI (cellAt (x 8) j.toNat 0)) < (zs.length : Int)] (by kernel_rfl) ⟨(by omega), (by omega), trivial⟩ ?_
    refine W.regionX tt_ok [] [2, 3, 4, 7, 8, 69, 70, 71] (List.range 19) ⟨[(2, none, .sv (.lf (.val (.pointer none)))), eB 3 false, eP 4 2 0, eI 7 (c + (1 : Int)), eI 8 (8 : Int), eR 69 11, eI 70 ((x 8).length : Int), eI 71 j], [lI 3 l, rII 42 (zs.set (vI (cellAt (x 8) j.toNat 0)).toNat [wI (8 : Int), wI c]), .blk true 52 (tblC 1 3 8 l)] ++ rowsX 3 x, oL 1 18⟩ [inK .i64 (c + (1 : Int))] (by kernel_rfl) ⟨(by simp only [inK]; omega), trivial⟩ ?_
    refine unblock ?_
    refine W.next ?_
    refine W.regionX tt_ok [] [2, 3, 4, 7, 8, 69, 70, 71] (List.range 19) ⟨[(2, none, .sv (.lf (.val (.pointer none)))), eB 3 false, eP 4 2 0, eI 7 (c + (1 : Int)), eI 8 (8 : Int), eR 69 11, eI 70 ((x 8).length : Int), eI 71 (j + (1 : Int))], [lI 3 l, rII 42 (zs.set (vI (cellAt (x 8) j.toNat 0)).toNat [wI (8 : Int), wI c]), .blk true 52 (tblC 1 3 8 l)] ++ rowsX 3 x, oL 1 18⟩ [inK .i64 (j + (1 : Int))] (by kernel_rfl) ⟨(by simp only [inK]; omega), trivial⟩ ?_
    exact againK [2, 3, 4, 7, 8, 69, 70, 71] (List.range 19) ⟨[(2, none, .sv (.lf (.val (.pointer none)))), eB 3 false, eP 4 2 0, eI 7 (c + (1 : Int)), eI 8 (8 : Int), eR 69 11, eI 70 ((x 8).length : Int), eI 71 (j + (1 : Int))], [lI 3 l, rII 42 (zs.set (vI (cellAt (x 8) j.toNat 0)).toNat [wI (8 : Int), wI c]), .blk true 52 (tblC 1 3 8 l)] ++ rowsX 3 x, oL 1 18⟩ (by kernel_rfl) ⟨(c + (1 : Int)), (j + (1 : Int)), (zs.set (vI (cellAt (x 8) j.toNat 0)).toNat [Value.int .i64 (8 : Int), Value.int .i64 c])⟩ (show (0 ≤ (j + (1 : Int)) ∧ (j + (1 : Int)) ≤ ((x 8).length : Int)) ∧ ((c + (1 : Int)) = baseL l 8 + (j + (1 : Int))) ∧ ((zs.set (vI (cellAt (x 8) j.toNat 0)).toNat [Value.int .i64 (8 : Int), Value.int .i64 c]) = outS l 8 (j + (1 : Int))) from ⟨by omega, by omega, by rw [hz2, hc]; exact outS_set (n := 8) (by decide) (by omega) hsy.2.2.1 hsy.2.2.2⟩) (show (((x 8).length : Int) - (j + (1 : Int))).toNat < (((x 8).length : Int) - j).toNat from by omega) rfl
  · have h4p := of_decide_eq_false h4
    refine W.exit ?_
    refine exit_then ?_
    refine exit_then ?_
    obtain rfl : j = ((x 8).length : Int) := by omega
    obtain rfl : c = (endL l 8) := by omega
    obtain rfl : zs = (outS l 9 0) := by rw [hz2]; exact outS_end l 8 hx8
    refine exit_here ?_
    refine unblock ?_
    refine W.next ?_
    refine W.regionX tt_ok [] [2, 3, 4, 7, 8] (List.range 19) ⟨[(2, none, .sv (.lf (.val (.pointer none)))), eB 3 false, eP 4 2 0, eI 7 (endL l 8), eI 8 (9 : Int)], [lI 3 l, rII 42 (outS l 9 0), .blk true 52 (tblC 1 3 8 l)] ++ rowsX 3 x, oL 1 18⟩ [inK .i64 ((8 : Int) + (1 : Int))] (by kernel_rfl) ⟨(by simp only [inK]; omega), trivial⟩ ?_
    exact againK [2, 3, 4, 7, 8] (List.range 19) ⟨[(2, none, .sv (.lf (.val (.pointer none)))), eB 3 false, eP 4 2 0, eI 7 (endL l 8), eI 8 (9 : Int)], [lI 3 l, rII 42 (outS l 9 0), .blk true 52 (tblC 1 3 8 l)] ++ rowsX 3 x, oL 1 18⟩ (by kernel_rfl) 9 (by decide) (by decide) (by kernel_rfl)
theorem New_round9 {gg : Gam} {ww : World} {Q : Exit → Act → World → Prop} (l : List (List Value)) (x : Nat → List (List Value)) (hl : (l.length : Int) ≤ 17592186044416) (hk : ∀ j o : Nat, -9223372036854775808 ≤ vI (cellAt l j o) ∧ vI (cellAt l j o) ≤ 9223372036854775807) (hkr : kraftL l ≤ 32768) (hx0 : x 0 = symN l 0 l.length) (hx1 : x 1 = symN l 1 l.length) (hx2 : x 2 = symN l 2 l.length) (hx3 : x 3 = symN l 3 l.length) (hx4 : x 4 = symN l 4 l.length) (hx5 : x 5 = symN l 5 l.length) (hx6 : x 6 = symN l 6 l.length) (hx7 : x 7 = symN l 7 l.length) (hx8 : x 8 = symN l 8 l.length) (hx9 : x 9 = symN l 9 l.length) (hx10 : x 10 = symN l 10 l.length) (hx11 : x 11 = symN l 11 l.length) (hx12 : x 12 = symN l 12 l.length) (hx13 : x 13 = symN l 13 l.length) (hx14 : x 14 = symN l 14 l.length) (hx15 : x 15 = symN l 15 l.length) (hxl0 : (x 0).length ≤ l.length) (hxl1 : (x 1).length ≤ l.length) (hxl2 : (x 2).length ≤ l.length) (hxl3 : (x 3).length ≤ l.length) (hxl4 : (x 4).length ≤ l.length) (hxl5 : (x 5).length ≤ l.length) (hxl6 : (x 6).length ≤ l.length) (hxl7 : (x 7).length ≤ l.length) (hxl8 : (x 8).length ≤ l.length) (hxl9 : (x 9).length ≤ l.length) (hxl10 : (x 10).length ≤ l.length) (hxl11 : (x 11).length ≤ l.length) (hxl12 : (x 12).length ≤ l.length) (hxl13 : (x 13).length ≤ l.length) (hxl14 : (x 14).length ≤ l.length) (hxl15 : (x 15).length ≤ l.length) : W (mkC Try.prog tt 88 [.row false 3 [.int .i64] l] gg ww) (lopB (blkB (seqR (seqL (seqR (seqR (seqR (seqR (seqR (bodyC Try.f19)))))))))) (Exit.then (fun a w => ∃ n, (1 ≤ n ∧ n ≤ 16) ∧ 16 - n < 16 - 9 ∧ Sat (mkC Try.prog tt 88 [.row false 3 [.int .i64] l] gg ww) (⟨[(2, none, .sv (.lf (.val (.pointer none)))), eB 3 false, eP 4 2 0, eI 7 (endL l (n - 1)), eI 8 (n : Int)], [lI 3 l, rII 42 (outS l n 0), .blk true 52 (tblC 1 3 (n - 1) l)] ++ rowsX 3 x, oL 1 18⟩) a w) Q) ⟨[(2, none, .sv (.lf (.val (.pointer none)))), eB 3 false, eP 4 2 0, eI 7 (endL l 8), eI 8 (9 : Int)], [lI 3 l, rII 42 (outS l 9 0), .blk true 52 (tblC 1 3 8 l)] ++ rowsX 3 x, oL 1 18⟩ := by
  have hbe := endL_bd hkr (n := 8) (by decide)
  refine W.seq ?_
  refine W.sx tt_ok [⟨0, 0, none⟩, ⟨0, 1, none⟩] [2, 3, 4, 7, 8, 53] (List.range 19) ⟨[(2, none, .sv (.lf (.val (.pointer none)))), eB 3 false, eP 4 2 0, eI 7 (endL l 8), eI 8 (9 : Int), eB 53 true], [lI 3 l, rII 42 (outS l 9 0), .blk true 52 (tblC 1 3 8 l)] ++ rowsX 3 x, oL 1 18⟩ [(9 : Int) ≤ (15 : Int)] (by kernel_rfl) ⟨(by omega), trivial⟩ ?_
  refine W.cond (p := true) (by kernel_rfl) (fun _ => ?_) (fun h => nomatch h)
  refine W.skip ?_
  refine W.next ?_
  refine W.seq ?_
  refine W.block ?_
  refine W.sx tt_ok [] [2, 3, 4, 7, 8] (List.range 19) ⟨[(2, none, .sv (.lf (.val (.pointer none)))), eB 3 false, eP 4 2 0, eI 7 ((endL l 8) * (2 : Int)), eI 8 (9 : Int)], [lI 3 l, rII 42 (outS l 9 0), .blk true 52 (tblC 1 3 8 l)] ++ rowsX 3 x, oL 1 18⟩ [inK .i64 ((endL l 8) * (2 : Int))] (by kernel_rfl) ⟨(by simp only [inK]; omega), trivial⟩ ?_
  generalize hv9 : (endL l 8) * (2 : Int) = v9
  obtain rfl : v9 = baseL l 9 := by rw [← hv9]; exact base_dbl l 9 (by decide)
  have hb9 := baseL_bd hkr (n := 9) (by decide) (by decide)
  refine W.sx tt_ok [⟨0, 0, none⟩, ⟨0, 0, none⟩, ⟨0, 0, none⟩, ⟨0, 0, none⟩, ⟨0, 0, none⟩, ⟨0, 1, none⟩] [2, 3, 4, 7, 8] (List.range 19) ⟨[(2, none, .sv (.lf (.val (.pointer none)))), eB 3 false, eP 4 2 0, eI 7 (baseL l 9), eI 8 (9 : Int)], [lI 3 l, rII 42 (outS l 9 0), .blk true 52 (tblC 1 3 9 l)] ++ rowsX 3 x, oL 1 18⟩ [0 ≤ (9 : Int) ∧ (9 : Int) < (16 : Int)] (by kernel_rfl) ⟨(by omega), trivial⟩ ?_
  refine W.sx tt_ok [⟨0, 0, none⟩, ⟨0, 0, none⟩, ⟨0, 0, none⟩, ⟨0, 0, none⟩, ⟨0, 1, none⟩] [2, 3, 4, 7, 8, 69, 70, 71] (List.range 19) ⟨[(2, none, .sv (.lf (.val (.pointer none)))), eB 3 false, eP 4 2 0, eI 7 (baseL l 9), eI 8 (9 : Int), eR 69 12, eI 70 ((x 9).length : Int), eI 71 (0 : Int)], [lI 3 l, rII 42 (outS l 9 0), .blk true 52 (tblC 1 3 9 l)] ++ rowsX 3 x, oL 1 18⟩ [0 ≤ (9 : Int) ∧ (9 : Int) < (16 : Int)] (by kernel_rfl) ⟨(by omega), trivial⟩ ?_
  refine W.block ?_
  refine W.loop (ι := Int × Int × List (List Value)) (fun z => ⟨[(2, none, .sv (.lf (.val (.pointer none)))), eB 3 false, eP 4 2 0, eI 7 z.1, eI 8 (9 : Int), eR 69 12, eI 70 ((x 9).length : Int), eI 71 z.2.1], [lI 3 l, rII 42 z.2.2, .blk true 52 (tblC 1 3 9 l)] ++ rowsX 3 x, oL 1 18⟩) (fun z => (0 ≤ z.2.1 ∧ z.2.1 ≤ ((x 9).length : Int)) ∧ (z.1 = baseL l 9 + z.2.1) ∧ (z.2.2 = outS l 9 z.2.1)) (fun z => (((x 9).length : Int) - z.2.1).toNat) ⟨(baseL l 9), 0, (outS l 9 0)⟩ (show (0 ≤ (0 : Int) ∧ (0 : Int) ≤ ((x 9).length : Int)) ∧ ((baseL l 9) = baseL l 9 + (0 : Int)) ∧ ((outS l 9 0) = outS l 9 (0 : Int)) from ⟨by omega, by omega, rfl⟩) rfl ?_
  rintro ⟨c, j, zs⟩ ⟨hj, hc, hz2⟩
  dsimp only at hj hc hz2
  have hzl : zs.length = l.length := by rw [hz2, outS_len]
  have hbb := endL_bd hkr (n := 9) (by decide)
  have hee := end_base l 9 (by decide) hx9
  have hsy0 := fun h => sym_ok (n := 9) (j := j) hx9 hj.1 h
  refine W.sx tt_ok [] [2, 3, 4, 7, 8, 69, 70, 71, 72] (List.range 19) ⟨[(2, none, .sv (.lf (.val (.pointer none)))), eB 3 false, eP 4 2 0, eI 7 c, eI 8 (9 : Int), eR 69 12, eI 70 ((x 9).length : Int), eI 71 j, eB 72 (decide (j < ((x 9).length : Int)))], [lI 3 l, rII 42 zs, .blk true 52 (tblC 1 3 9 l)] ++ rowsX 3 x, oL 1 18⟩ [] (by kernel_rfl) trivial ?_
  refine W.seq ?_
  refine W.cond (p := (decide (j < ((x 9).length : Int)))) (by kernel_rfl) (fun h4 => ?_) (fun h4 => ?_)
  · have h4p := of_decide_eq_true h4
    have hsy := hsy0 (by omega)
    refine W.skip ?_
    refine W.next ?_
    refine W.seq ?_
    refine W.block ?_
    refine W.sx tt_ok [] [2, 3, 4, 7, 8, 10, 69, 70, 71] (List.range 19) ⟨[(2, none, .sv (.lf (.val (.pointer none)))), eB 3 false, eP 4 2 0, eI 7 c, eI 8 (9 : Int), eI 10 (vI (cellAt (x 9) j.toNat 0)), eR 69 12, eI 70 ((x 9).length : Int), eI 71 j], [lI 3 l, rII 42 zs, .blk true 52 (tblC 1 3 9 l)] ++ rowsX 3 x, oL 1 18⟩ [0 ≤ j ∧ j < ((x 9).length : Int), 0 ≤ j ∧ j < ((x 9).length : Int)] (by kernel_rfl) ⟨(by omega), (by omega), trivial⟩ ?_
    refine W.sx tt_ok [] [2, 3, 4, 7, 8, 69, 70, 71] (List.range 19) ⟨[(2, none, .sv (.lf (.val (.pointer none)))), eB 3 false, eP 4 2 0, eI 7 c, eI 8 (9 : Int), eR 69 12, eI 70 ((x 9).length : Int), eI 71 j], [lI 3 l, rII 42 (zs.set (vI (cellAt (x 9) j.toNat 0)).toNat [wI (9 : Int), wI c]), .blk true 52 (tblC 1 3 9 l)] ++ rowsX 3 x, oL 1 18⟩ [0 ≤ (vI (cellAt (x 9) j.toNat 0)) ∧ (vI (cellAt (x 9) j.toNat 0)) < (zs.length : Int), 0 ≤ (vI (cellAt (x 9) j.toNat 0)) ∧ (vI (cellAt (x 9) j.toNat 0)) < (zs.length : Int)] (by kernel_rfl) ⟨(by omega), (by omega), trivial⟩ ?_
    refine W.regionX tt_ok [] [2, 3, 4, 7, 8, 69, 70, 71] (List.range 19) ⟨[(2, none, .sv (.lf (.val (.pointer none)))), eB 3 false, eP 4 2 0, eI 7 (c + (1 : Int)), eI 8 (9 : Int), eR 69 12, eI 70 ((x 9).length : Int), eI 71 j], [lI 3 l, rII 42 (zs.set (vI (cellAt (x 9) j.toNat 0)).toNat [wI (9 : Int), wI c]), .blk true 52 (tblC 1 3 9 l)] ++ rowsX 3 x, oL 1 18⟩ [inK .i64 (c + (1 : Int))] (by kernel_rfl) ⟨(by simp only [inK]; omega), trivial⟩ ?_
    refine unblock ?_
    refine W.next ?_
    refine W.regionX tt_ok [] [2, 3, 4, 7, 8, 69, 70, 71] (List.range 19) ⟨[(2, none, .sv (.lf (.val (.pointer none)))), eB 3 false, eP 4 2 0, eI 7 (c + (1 : Int)), eI 8 (9 : Int), eR 69 12, eI 70 ((x 9).length : Int), eI 71 (j + (1 : Int))], [lI 3 l, rII 42 (zs.set (vI (cellAt (x 9) j.toNat 0)).toNat [wI (9 : Int), wI c]), .blk true 52 (tblC 1 3 9 l)] ++ rowsX 3 x, oL 1 18⟩ [inK .i64 (j + (1 : Int))] (by kernel_rfl) ⟨(by simp only [inK]; omega), trivial⟩ ?_
    exact againK [2, 3, 4, 7, 8, 69, 70, 71] (List.range 19) ⟨[(2, none, .sv (.lf (.val (.pointer none)))), eB 3 false, eP 4 2 0, eI 7 (c + (1 : Int)), eI 8 (9 : Int), eR 69 12, eI 70 ((x 9).length : Int), eI 71 (j + (1 : Int))], [lI 3 l, rII 42 (zs.set (vI (cellAt (x 9) j.toNat 0)).toNat [wI (9 : Int), wI c]), .blk true 52 (tblC 1 3 9 l)] ++ rowsX 3 x, oL 1 18⟩ (by kernel_rfl) ⟨(c + (1 : Int)), (j + (1 : Int)), (zs.set (vI (cellAt (x 9) j.toNat 0)).toNat [Value.int .i64 (9 : Int), Value.int .i64 c])⟩ (show (0 ≤ (j + (1 : Int)) ∧ (j + (1 : Int)) ≤ ((x 9).length : Int)) ∧ ((c + (1 : Int)) = baseL l 9 + (j + (1 : Int))) ∧ ((zs.set (vI (cellAt (x 9) j.toNat 0)).toNat [Value.int .i64 (9 : Int), Value.int .i64 c]) = outS l 9 (j + (1 : Int))) from ⟨by omega, by omega, by rw [hz2, hc]; exact outS_set (n := 9) (by decide) (by omega) hsy.2.2.1 hsy.2.2.2⟩) (show (((x 9).length : Int) - (j + (1 : Int))).toNat < (((x 9).length : Int) - j).toNat from by omega) rfl
  · have h4p := of_decide_eq_false h4
    refine W.exit ?_
    refine exit_then ?_
    refine exit_then ?_
    obtain rfl : j = ((x 9).length : Int) := by omega
    obtain rfl : c = (endL l 9) := by omega
    obtain rfl : zs = (outS l 10 0) := by rw [hz2]; exact outS_end l 9 hx9
    refine exit_here ?_
    refine unblock ?_
    refine W.next ?_
    refine W.regionX tt_ok [] [2, 3, 4, 7, 8] (List.range 19) ⟨[(2, none, .sv (.lf (.val (.pointer none)))), eB 3 false, eP 4 2 0, eI 7 (endL l 9), eI 8 (10 : Int)], [lI 3 l, rII 42 (outS l 10 0), .blk true 52 (tblC 1 3 9 l)] ++ rowsX 3 x, oL 1 18⟩ [inK .i64 ((9 : Int) + (1 : Int))] (by kernel_rfl) ⟨(by simp only [inK]; omega), trivial⟩ ?_
    exact againK [2, 3, 4, 7, 8] (List.range 19) ⟨[(2, none, .sv (.lf (.val (.pointer none)))), eB 3 false, eP 4 2 0, eI 7 (endL l 9), eI 8 (10 : Int)], [lI 3 l, rII 42 (outS l 10 0), .blk true 52 (tblC 1 3 9 l)] ++ rowsX 3 x, oL 1 18⟩ (by kernel_rfl) 10 (by decide) (by decide) (by kernel_rfl)
theorem New_round10 {gg : Gam} {ww : World} {Q : Exit → Act → World → Prop} (l : List (List Value)) (x : Nat → List (List Value)) (hl : (l.length : Int) ≤ 17592186044416) (hk : ∀ j o : Nat, -9223372036854775808 ≤ vI (cellAt l j o) ∧ vI (cellAt l j o) ≤ 9223372036854775807) (hkr : kraftL l ≤ 32768) (hx0 : x 0 = symN l 0 l.length) (hx1 : x 1 = symN l 1 l.length) (hx2 : x 2 = symN l 2 l.length) (hx3 : x 3 = symN l 3 l.length) (hx4 : x 4 = symN l 4 l.length) (hx5 : x 5 = symN l 5 l.length) (hx6 : x 6 = symN l 6 l.length) (hx7 : x 7 = symN l 7 l.length) (hx8 : x 8 = symN l 8 l.length) (hx9 : x 9 = symN l 9 l.length) (hx10 : x 10 = symN l 10 l.length) (hx11 : x 11 = symN l 11 l.length) (hx12 : x 12 = symN l 12 l.length) (hx13 : x 13 = symN l 13 l.length) (hx14 : x 14 = symN l 14 l.length) (hx15 : x 15 = symN l 15 l.length) (hxl0 : (x 0).length ≤ l.length) (hxl1 : (x 1).length ≤ l.length) (hxl2 : (x 2).length ≤ l.length) (hxl3 : (x 3).length ≤ l.length) (hxl4 : (x 4).length ≤ l.length) (hxl5 : (x 5).length ≤ l.length) (hxl6 : (x 6).length ≤ l.length) (hxl7 : (x 7).length ≤ l.length) (hxl8 : (x 8).length ≤ l.length) (hxl9 : (x 9).length ≤ l.length) (hxl10 : (x 10).length ≤ l.length) (hxl11 : (x 11).length ≤ l.length) (hxl12 : (x 12).length ≤ l.length) (hxl13 : (x 13).length ≤ l.length) (hxl14 : (x 14).length ≤ l.length) (hxl15 : (x 15).length ≤ l.length) : W (mkC Try.prog tt 88 [.row false 3 [.int .i64] l] gg ww) (lopB (blkB (seqR (seqL (seqR (seqR (seqR (seqR (seqR (bodyC Try.f19)))))))))) (Exit.then (fun a w => ∃ n, (1 ≤ n ∧ n ≤ 16) ∧ 16 - n < 16 - 10 ∧ Sat (mkC Try.prog tt 88 [.row false 3 [.int .i64] l] gg ww) (⟨[(2, none, .sv (.lf (.val (.pointer none)))), eB 3 false, eP 4 2 0, eI 7 (endL l (n - 1)), eI 8 (n : Int)], [lI 3 l, rII 42 (outS l n 0), .blk true 52 (tblC 1 3 (n - 1) l)] ++ rowsX 3 x, oL 1 18⟩) a w) Q) ⟨[(2, none, .sv (.lf (.val (.pointer none)))), eB 3 false, eP 4 2 0, eI 7 (endL l 9), eI 8 (10 : Int)], [lI 3 l, rII 42 (outS l 10 0), .blk true 52 (tblC 1 3 9 l)] ++ rowsX 3 x, oL 1 18⟩ := by
  have hbe := endL_bd hkr (n := 9) (by decide)
  refine W.seq ?_
  refine W.sx tt_ok [⟨0, 0, none⟩, ⟨0, 1, none⟩] [2, 3, 4, 7, 8, 53] (List.range 19) ⟨[(2, none, .sv (.lf (.val (.pointer none)))), eB 3 false, eP 4 2 0, eI 7 (endL l 9), eI 8 (10 : Int), eB 53 true], [lI 3 l, rII 42 (outS l 10 0), .blk true 52 (tblC 1 3 9 l)] ++ rowsX 3 x, oL 1 18⟩ [(10 : Int) ≤ (15 : Int)] (by kernel_rfl) ⟨(by omega), trivial⟩ ?_
  refine W.cond (p := true) (by kernel_rfl) (fun _ => ?_) (fun h => nomatch h)
  refine W.skip ?_
  refine W.next ?_
  refine W.seq ?_
  refine W.block ?_
  refine W.sx tt_ok [] [2, 3, 4, 7, 8] (List.range 19) ⟨[(2, none, .sv (.lf (.val (.pointer none)))), eB 3 false, eP 4 2 0, eI 7 ((endL l 9) * (2 : Int)), eI 8 (10 : Int)], [lI 3 l, rII 42 (outS l 10 0), .blk true 52 (tblC 1 3 9 l)] ++ rowsX 3 x, oL 1 18⟩ [inK .i64 ((endL l 9) * (2 : Int))] (by kernel_rfl) ⟨(by simp only [inK]; omega), trivial⟩ ?_
  generalize hv10 : (endL l 9) * (2 : Int) = v10
  obtain rfl : v10 = baseL l 10 := by rw [← hv10]; exact base_dbl l 10 (by decide)
  have hb10 := baseL_bd hkr (n := 10) (by decide) (by decide)
  refine W.sx tt_ok [⟨0, 0, none⟩, ⟨0, 0, none⟩, ⟨0, 0, none⟩, ⟨0, 0, none⟩, ⟨0, 0, none⟩, ⟨0, 1, none⟩] [2, 3, 4, 7, 8] (List.range 19) ⟨[(2, none, .sv (.lf (.val (.pointer none)))), eB 3 false, eP 4 2 0, eI 7 (baseL l 10), eI 8 (10 : Int)], [lI 3 l, rII 42 (outS l 10 0), .blk true 52 (tblC 1 3 10 l)] ++ rowsX 3 x, oL 1 18⟩ [0 ≤ (10 : Int) ∧ (10 : Int) < (16 : Int)] (by kernel_rfl) ⟨(by omega), trivial⟩ ?_
  refine W.sx tt_ok [⟨0, 0, none⟩, ⟨0, 0, none⟩, ⟨0, 0, none⟩, ⟨0, 0, none⟩, ⟨0, 1, none⟩] [2, 3, 4, 7, 8, 69, 70, 71] (List.range 19) ⟨[(2, none, .sv (.lf (.val (.pointer none)))), eB 3 false, eP 4 2 0, eI 7 (baseL l 10), eI 8 (10 : Int), eR 69 13, eI 70 ((x 10).length : Int), eI 71 (0 : Int)], [lI 3 l, rII 42 (outS l 10 0), .blk true 52 (tblC 1 3 10 l)] ++ rowsX 3 x, oL 1 18⟩ [0 ≤ (10 : Int) ∧ (10 : Int) < (16 : Int)] (by kernel_rfl) ⟨(by omega), trivial⟩ ?_
  refine W.block ?_
  refine W.loop (ι := Int × Int × List (List Value)) (fun z => ⟨[(2, none, .sv (.lf (.val (.pointer none)))), eB 3 false, eP 4 2 0, eI 7 z.1, eI 8 (10 : Int), eR 69 13, eI 70 ((x 10).length : Int), eI 71 z.2.1], [lI 3 l, rII 42 z.2.2, .blk true 52 (tblC 1 3 10 l)] ++ rowsX 3 x, oL 1 18⟩) (fun z => (0 ≤ z.2.1 ∧ z.2.1 ≤ ((x 10).length : Int)) ∧ (z.1 = baseL l 10 + z.2.1) ∧ (z.2.2 = outS l 10 z.2.1)) (fun z => (((x 10).length : Int) - z.2.1).toNat) ⟨(baseL l 10), 0, (outS l 10 0)⟩ (show (0 ≤ (0 : Int) ∧ (0 : Int) ≤ ((x 10).length : Int)) ∧ ((baseL l 10) = baseL l 10 + (0 : Int)) ∧ ((outS l 10 0) = outS l 10 (0 : Int)) from ⟨by omega, by omega, rfl⟩) rfl ?_
  rintro ⟨c, j, zs⟩ ⟨hj, hc, hz2⟩
  dsimp only at hj hc hz2
  have hzl : zs.length = l.length := by rw [hz2, outS_len]
  have hbb := endL_bd hkr (n := 10) (by decide)
  have hee := end_base l 10 (by decide) hx10
  have hsy0 := fun h => sym_ok (n := 10) (j := j) hx10 hj.1 h
  refine W.sx tt_ok [] [2, 3, 4, 7, 8, 69, 70, 71, 72] (List.range 19) ⟨[(2, none, .sv (.lf (.val (.pointer none)))), eB 3 false, eP 4 2 0, eI 7 c, eI 8 (10 : Int), eR 69 13, eI 70 ((x 10).length : Int), eI 71 j, eB 72 (decide (j < ((x 10).length : Int)))], [lI 3 l, rII 42 zs, .blk true 52 (tblC 1 3 10 l)] ++ rowsX 3 x, oL 1 18⟩ [] (by kernel_rfl) trivial ?_
  refine W.seq ?_
  refine W.cond (p := (decide (j < ((x 10).length : Int)))) (by kernel_rfl) (fun h4 => ?_) (fun h4 => ?_)
  · have h4p := of_decide_eq_true h4
    have hsy := hsy0 (by omega)
    refine W.skip ?_
    refine W.next ?_
    refine W.seq ?_
    refine W.block ?_
    refine W.sx tt_ok [] [2, 3, 4, 7, 8, 10, 69, 70, 71] (List.range 19) ⟨[(2, none, .sv (.lf (.val (.pointer none)))), eB 3 false, eP 4 2 0, eI 7 c, eI 8 (10 : Int), eI 10 (vI (cellAt (x 10) j.toNat 0)), eR 69 13, eI 70 ((x 10).length : Int), eI 71 j], [lI 3 l, rII 42 zs, .blk true 52 (tblC 1 3 10 l)] ++ rowsX 3 x, oL 1 18⟩ [0 ≤ j ∧ j < ((x 10).length : Int), 0 ≤ j ∧ j < ((x 10).length : Int)] (by kernel_rfl) ⟨(by omega), (by omega), trivial⟩ ?_
    refine W.sx tt_ok [] [2, 3, 4, 7, 8, 69, 70, 71] (List.range 19) ⟨[(2, none, .sv (.lf (.val (.pointer none)))), eB 3 false, eP 4 2 0, eI 7 c, eI 8 (10 : Int), eR 69 13, eI 70 ((x 10).length : Int), eI 71 j], [lI 3 l, rII 42 (zs.set (vI (cellAt (x 10) j.toNat 0)).toNat [wI (10 : Int), wI c]), .blk true 52 (tblC 1 3 10 l)] ++ rowsX 3 x, oL 1 18⟩ [0 ≤ (vI (cellAt (x 10) j.toNat 0)) ∧ (vI (cellAt (x 10) j.toNat 0)) < (zs.length : Int), 0 ≤ (vI (cellAt (x 10) j.toNat 0)) ∧ (vI (cellAt (x 10) j.toNat 0)) < (zs.length : Int)] (by kernel_rfl) ⟨(by omega), (by omega), trivial⟩ ?_
    refine W.regionX tt_ok [] [2, 3, 4, 7, 8, 69, 70, 71] (List.range 19) ⟨[(2, none, .sv (.lf (.val (.pointer none)))), eB 3 false, eP 4 2 0, eI 7 (c + (1 : Int)), eI 8 (10 : Int), eR 69 13, eI 70 ((x 10).length : Int), eI 71 j], [lI 3 l, rII 42 (zs.set (vI (cellAt (x 10) j.toNat 0)).toNat [wI (10 : Int), wI c]), .blk true 52 (tblC 1 3 10 l)] ++ rowsX 3 x, oL 1 18⟩ [inK .i64 (c + (1 : Int))] (by kernel_rfl) ⟨(by simp only [inK]; omega), trivial⟩ ?_
    refine unblock ?_
    refine W.next ?_
    refine W.regionX tt_ok [] [2, 3, 4, 7, 8, 69, 70, 71] (List.range 19) ⟨[(2, none, .sv (.lf (.val (.pointer none)))), eB 3 false, eP 4 2 0, eI 7 (c + (1 : Int)), eI 8 (10 : Int), eR 69 13, eI 70 ((x 10).length : Int), eI 71 (j + (1 : Int))], [lI 3 l, rII 42 (zs.set (vI (cellAt (x 10) j.toNat 0)).toNat [wI (10 : Int), wI c]), .blk true 52 (tblC 1 3 10 l)] ++ rowsX 3 x, oL 1 18⟩ [inK .i64 (j + (1 : Int))] (by kernel_rfl) ⟨(by simp only [inK]; omega), trivial⟩ ?_
    exact againK [2, 3, 4, 7, 8, 69, 70, 71] (List.range 19) ⟨[(2, none, .sv (.lf (.val (.pointer none)))), eB 3 false, eP 4 2 0, eI 7 (c + (1 : Int)), eI 8 (10 : Int), eR 69 13, eI 70 ((x 10).length : Int), eI 71 (j + (1 : Int))], [lI 3 l, rII 42 (zs.set (vI (cellAt (x 10) j.toNat 0)).toNat [wI (10 : Int), wI c]), .blk true 52 (tblC 1 3 10 l)] ++ rowsX 3 x, oL 1 18⟩ (by kernel_rfl) ⟨(c + (1 : Int)), (j + (1 : Int)), (zs.set (vI (cellAt (x 10) j.toNat 0)).toNat [Value.int .i64 (10 : Int), Value.int .i64 c])⟩ (show (0 ≤ (j + (1 : Int)) ∧ (j + (1 : Int)) ≤ ((x 10).length : Int)) ∧ ((c + (1 : Int)) = baseL l 10 + (j + (1 : Int))) ∧ ((zs.set (vI (cellAt (x 10) j.toNat 0)).toNat [Value.int .i64 (10 : Int), Value.int .i64 c]) = outS l 10 (j + (1 : Int))) from ⟨by omega, by omega, by rw [hz2, hc]; exact outS_set (n := 10) (by decide) (by omega) hsy.2.2.1 hsy.2.2.2⟩) (show (((x 10).length : Int) - (j + (1 : Int))).toNat < (((x 10).length : Int) - j).toNat from by omega) rfl
  · have h4p := of_decide_eq_false h4
    refine W.exit ?_
    refine exit_then ?_
    refine exit_then ?_
    obtain rfl : j = ((x 10).length : Int) := by omega
    obtain rfl : c = (endL l 10) := by omega
    obtain rfl : zs = (outS l 11 0) := by rw [hz2]; exact outS_end l 10 hx10
    refine exit_here ?_
    refine unblock ?_
    refine W.next ?_
    refine W.regionX tt_ok [] [2, 3, 4, 7, 8] (List.range 19) ⟨[(2, none, .sv (.lf (.val (.pointer none)))), eB 3 false, eP 4 2 0, eI 7 (endL l 10), eI 8 (11 : Int)], [lI 3 l, rII 42 (outS l 11 0), .blk true 52 (tblC 1 3 10 l)] ++ rowsX 3 x, oL 1 18⟩ [inK .i64 ((10 : Int) + (1 : Int))] (by kernel_rfl) ⟨(by simp only [inK]; omega), trivial⟩ ?_
    exact againK [2, 3, 4, 7, 8] (List.range 19) ⟨[(2, none, .sv (.lf (.val (.pointer none)))), eB 3 false, eP 4 2 0, eI 7 (endL l 10), eI 8 (11 : Int)], [lI 3 l, rII 42 (outS l 11 0), .blk true 52 (tblC 1 3 10 l)] ++ rowsX 3 x, oL 1 18⟩ (by kernel_rfl) 11 (by decide) (by decide) (by kernel_rfl)
theorem New_round11 {gg : Gam} {ww : World} {Q : Exit → Act → World → Prop} (l : List (List Value)) (x : Nat → List (List Value)) (hl : (l.length : Int) ≤ 17592186044416) (hk : ∀ j o : Nat, -9223372036854775808 ≤ vI (cellAt l j o) ∧ vI (cellAt l j o) ≤ 9223372036854775807) (hkr : kraftL l ≤ 32768) (hx0 : x 0 = symN l 0 l.length) (hx1 : x 1 = symN l 1 l.length) (hx2 : x 2 = symN l 2 l.length) (hx3 : x 3 = symN l 3 l.length) (hx4 : x 4 = symN l 4 l.length) (hx5 : x 5 = symN l 5 l.length) (hx6 : x 6 = symN l 6 l.length) (hx7 : x 7 = symN l 7 l.length) (hx8 : x 8 = symN l 8 l.length) (hx9 : x 9 = symN l 9 l.length) (hx10 : x 10 = symN l 10 l.length) (hx11 : x 11 = symN l 11 l.length) (hx12 : x 12 = symN l 12 l.length) (hx13 : x 13 = symN l 13 l.length) (hx14 : x 14 = symN l 14 l.length) (hx15 : x 15 = symN l 15 l.length) (hxl0 : (x 0).length ≤ l.length) (hxl1 : (x 1).length ≤ l.length) (hxl2 : (x 2).length ≤ l.length) (hxl3 : (x 3).length ≤ l.length) (hxl4 : (x 4).length ≤ l.length) (hxl5 : (x 5).length ≤ l.length) (hxl6 : (x 6).length ≤ l.length) (hxl7 : (x 7).length ≤ l.length) (hxl8 : (x 8).length ≤ l.length) (hxl9 : (x 9).length ≤ l.length) (hxl10 : (x 10).length ≤ l.length) (hxl11 : (x 11).length ≤ l.length) (hxl12 : (x 12).length ≤ l.length) (hxl13 : (x 13).length ≤ l.length) (hxl14 : (x 14).length ≤ l.length) (hxl15 : (x 15).length ≤ l.length) : W (mkC Try.prog tt 88 [.row false 3 [.int .i64] l] gg ww) (lopB (blkB (seqR (seqL (seqR (seqR (seqR (seqR (seqR (bodyC Try.f19)))))))))) (Exit.then (fun a w => ∃ n, (1 ≤ n ∧ n ≤ 16) ∧ 16 - n < 16 - 11 ∧ Sat (mkC Try.prog tt 88 [.row false 3 [.int .i64] l] gg ww) (⟨[(2, none, .sv (.lf (.val (.pointer none)))), eB 3 false, eP 4 2 0, eI 7 (endL l (n - 1)), eI 8 (n : Int)], [lI 3 l, rII 42 (outS l n 0), .blk true 52 (tblC 1 3 (n - 1) l)] ++ rowsX 3 x, oL 1 18⟩) a w) Q) ⟨[(2, none, .sv (.lf (.val (.pointer none)))), eB 3 false, eP 4 2 0, eI 7 (endL l 10), eI 8 (11 : Int)], [lI 3 l, rII 42 (outS l 11 0), .blk true 52 (tblC 1 3 10 l)] ++ rowsX 3 x, oL 1 18⟩ := by
  have hbe := endL_bd hkr (n := 10) (by decide)
  refine W.seq ?_
  refine W.sx tt_ok [⟨0, 0, none⟩, ⟨0, 1, none⟩] [2, 3, 4, 7, 8, 53] (List.range 19) ⟨[(2, none, .sv (.lf (.val (.pointer none)))), eB 3 false, eP 4 2 0, eI 7 (endL l 10), eI 8 (11 : Int), eB 53 true], [lI 3 l, rII 42 (outS l 11 0), .blk true 52 (tblC 1 3 10 l)] ++ rowsX 3 x, oL 1 18⟩ [(11 : Int) ≤ (15 : Int)] (by kernel_rfl) ⟨(by omega), trivial⟩ ?_
  refine W.cond (p := true) (by kernel_rfl) (fun _ => ?_) (fun h => nomatch h)
  refine W.skip ?_
  refine W.next ?_
  refine W.seq ?_
  refine W.block ?_
  refine W.sx tt_ok [] [2, 3, 4, 7, 8] (List.range 19) ⟨[(2, none, .sv (.lf (.val (.pointer none)))), eB 3 false, eP 4 2 0, eI 7 ((endL l 10) * (2 : Int)), eI 8 (11 : Int)], [lI 3 l, rII 42 (outS l 11 0), .blk true 52 (tblC 1 3 10 l)] ++ rowsX 3 x, oL 1 18⟩ [inK .i64 ((endL l 10) * (2 : Int))] (by kernel_rfl) ⟨(by simp only [inK]; omega), trivial⟩ ?_
  generalize hv11 : (endL l 10) * (2 : Int) = v11
  obtain rfl : v11 = baseL l 11 := by rw [← hv11]; exact base_dbl l 11 (by decide)
  have hb11 := baseL_bd hkr (n := 11) (by decide) (by decide)
  refine W.sx tt_ok [⟨0, 0, none⟩, ⟨0, 0, none⟩, ⟨0, 0, none⟩, ⟨0, 0, none⟩, ⟨0, 0, none⟩, ⟨0, 1, none⟩] [2, 3, 4, 7, 8] (List.range 19) ⟨[(2, none, .sv (.lf (.val (.pointer none)))), eB 3 false, eP 4 2 0, eI 7 (baseL l 11), eI 8 (11 : Int)], [lI 3 l, rII 42 (outS l 11 0), .blk true 52 (tblC 1 3 11 l)] ++ rowsX 3 x, oL 1 18⟩ [0 ≤ (11 : Int) ∧ (11 : Int) < (16 : Int)] (by kernel_rfl) ⟨(by omega), trivial⟩ ?_
  refine W.sx tt_ok [⟨0, 0, none⟩, ⟨0, 0, none⟩, ⟨0, 0, none⟩, ⟨0, 0, none⟩, ⟨0, 1, none⟩] [2, 3, 4, 7, 8, 69, 70, 71] (List.range 19) ⟨[(2, none, .sv (.lf (.val (.pointer none)))), eB 3 false, eP 4 2 0, eI 7 (baseL l 11), eI 8 (11 : Int), eR 69 14, eI 70 ((x 11).length : Int), eI 71 (0 : Int)], [lI 3 l, rII 42 (outS l 11 0), .blk true 52 (tblC 1 3 11 l)] ++ rowsX 3 x, oL 1 18⟩ [0 ≤ (11 : Int) ∧ (11 : Int) < (16 : Int)] (by kernel_rfl) ⟨(by omega), trivial⟩ ?_
  refine W.block ?_
  refine W.loop (ι := Int × Int × List (List Value)) (fun z => ⟨[(2, none, .sv (.lf (.val (.pointer none)))), eB 3 false, eP 4 2 0, eI 7 z.1, eI 8 (11 : Int), eR 69 14, eI 70 ((x 11).length : Int), eI 71 z.2.1], [lI 3 l, rII 42 z.2.2, .blk true 52 (tblC 1 3 11 l)] ++ rowsX 3 x, oL 1 18⟩) (fun z => (0 ≤ z.2.1 ∧ z.2.1 ≤ ((x 11).length : Int)) ∧ (z.1 = baseL l 11 + z.2.1) ∧ (z.2.2 = outS l 11 z.2.1)) (fun z => (((x 11).length : Int) - z.2.1).toNat) ⟨(baseL l 11), 0, (outS l 11 0)⟩ (show (0 ≤ (0 : Int) ∧ (0 : Int) ≤ ((x 11).length : Int)) ∧ ((baseL l 11) = baseL l 11 + (0 : Int)) ∧ ((outS l 11 0) = outS l 11 (0 : Int)) from ⟨by omega, by omega, rfl⟩) rfl ?_
  rintro ⟨c, j, zs⟩ ⟨hj, hc, hz2⟩
  dsimp only at hj hc hz2
  have hzl : zs.length = l.length := by rw [hz2, outS_len]
  have hbb := endL_bd hkr (n := 11) (by decide)
  have hee := end_base l 11 (by decide) hx11
  have hsy0 := fun h => sym_ok (n := 11) (j := j) hx11 hj.1 h
  refine W.sx tt_ok [] [2, 3, 4, 7, 8, 69, 70, 71, 72] (List.range 19) ⟨[(2, none, .sv (.lf (.val (.pointer none)))), eB 3 false, eP 4 2 0, eI 7 c, eI 8 (11 : Int), eR 69 14, eI 70 ((x 11).length : Int), eI 71 j, eB 72 (decide (j < ((x 11).length : Int)))], [lI 3 l, rII 42 zs, .blk true 52 (tblC 1 3 11 l)] ++ rowsX 3 x, oL 1 18⟩ [] (by kernel_rfl) trivial ?_
  refine W.seq ?_
  refine W.cond (p := (decide (j < ((x 11).length : Int)))) (by kernel_rfl) (fun h4 => ?_) (fun h4 => ?_)
  · have h4p := of_decide_eq_true h4
    have hsy := hsy0 (by omega)
    refine W.skip ?_
    refine W.next ?_
    refine W.seq ?_
    refine W.block ?_
    refine W.sx tt_ok [] [2, 3, 4, 7, 8, 10, 69, 70, 71] (List.range 19) ⟨[(2, none, .sv (.lf (.val (.pointer none)))), eB 3 false, eP 4 2 0, eI 7 c, eI 8 (11 : Int), eI 10 (vI (cellAt (x 11) j.toNat 0)), eR 69 14, eI 70 ((x 11).length : Int), eI 71 j], [lI 3 l, rII 42 zs, .blk true 52 (tblC 1 3 11 l)] ++ rowsX 3 x, oL 1 18⟩ [0 ≤ j ∧ j < ((x 11).length : Int), 0 ≤ j ∧ j < ((x 11).length : Int)] (by kernel_rfl) ⟨(by omega), (by omega), trivial⟩ ?_
    refine W.sx tt_ok [] [2, 3, 4, 7, 8, 69, 70, 71] (List.range 19) ⟨[(2, none, .sv (.lf (.val (.pointer none)))), eB 3 false, eP 4 2 0, eI 7 c, eI 8 (11 : Int), eR 69 14, eI 70 ((x 11).length : Int), eI 71 j], [lI 3 l, rII 42 (zs.set (vI (cellAt (x 11) j.toNat 0)).toNat [wI (11 : Int), wI c]), .blk true 52 (tblC 1 3 11 l)] ++ rowsX 3 x, oL 1 18⟩ [0 ≤ (vI (cellAt (x 11) j.toNat 0)) ∧ (vI (cellAt (x 11) j.toNat 0)) < (zs.length : Int), 0 ≤ (vI (cellAt (x 11) j.toNat 0)) ∧ (vI (cellAt (x 11) j.toNat 0)) < (zs.length : Int)] (by kernel_rfl) ⟨(by omega), (by omega), trivial⟩ ?_
    refine W.regionX tt_ok [] [2, 3, 4, 7, 8, 69, 70, 71] (List.range 19) ⟨[(2, none, .sv (.lf (.val (.pointer none)))), eB 3 false, eP 4 2 0, eI 7 (c + (1 : Int)), eI 8 (11 : Int), eR 69 14, eI 70 ((x 11).length : Int), eI 71 j], [lI 3 l, rII 42 (zs.set (vI (cellAt (x 11) j.toNat 0)).toNat [wI (11 : Int), wI c]), .blk true 52 (tblC 1 3 11 l)] ++ rowsX 3 x, oL 1 18⟩ [inK .i64 (c + (1 : Int))] (by kernel_rfl) ⟨(by simp only [inK]; omega), trivial⟩ ?_
    refine unblock ?_
    refine W.next ?_
    refine W.regionX tt_ok [] [2, 3, 4, 7, 8, 69, 70, 71] (List.range 19) ⟨[(2, none, .sv (.lf (.val (.pointer none)))), eB 3 false, eP 4 2 0, eI 7 (c + (1 : Int)), eI 8 (11 : Int), eR 69 14, eI 70 ((x 11).length : Int), eI 71 (j + (1 : Int))], [lI 3 l, rII 42 (zs.set (vI (cellAt (x 11) j.toNat 0)).toNat [wI (11 : Int), wI c]), .blk true 52 (tblC 1 3 11 l)] ++ rowsX 3 x, oL 1 18⟩ [inK .i64 (j + (1 : Int))] (by kernel_rfl) ⟨(by simp only [inK]; omega), trivial⟩ ?_
    exact againK [2, 3, 4, 7, 8, 69, 70, 71] (List.range 19) ⟨[(2, none, .sv (.lf (.val (.pointer none)))), eB 3 false, eP 4 2 0, eI 7 (c + (1 : Int)), eI 8 (11 : Int), eR 69 14, eI 70 ((x 11).length : Int), eI 71 (j + (1 : Int))], [lI 3 l, rII 42 (zs.set (vI (cellAt (x 11) j.toNat 0)).toNat [wI (11 : Int), wI c]), .blk true 52 (tblC 1 3 11 l)] ++ rowsX 3 x, oL 1 18⟩ (by kernel_rfl) ⟨(c + (1 : Int)), (j + (1 : Int)), (zs.set (vI (cellAt (x 11) j.toNat 0)).toNat [Value.int .i64 (11 : Int), Value.int .i64 c])⟩ (show (0 ≤ (j + (1 : Int)) ∧ (j + (1 : Int)) ≤ ((x 11).length : Int)) ∧ ((c + (1 : Int)) = baseL l 11 + (j + (1 : Int))) ∧ ((zs.set (vI (cellAt (x 11) j.toNat 0)).toNat [Value.int .i64 (11 : Int), Value.int .i64 c]) = outS l 11 (j + (1 : Int))) from ⟨by omega, by omega, by rw [hz2, hc]; exact outS_set (n := 11) (by decide) (by omega) hsy.2.2.1 hsy.2.2.2⟩) (show (((x 11).length : Int) - (j + (1 : Int))).toNat < (((x 11).length : Int) - j).toNat from by omega) rfl
  · have h4p := of_decide_eq_false h4
    refine W.exit ?_
    refine exit_then ?_
    refine exit_then ?_
    obtain rfl : j = ((x 11).length : Int) := by omega
    obtain rfl : c = (endL l 11) := by omega
    obtain rfl : zs = (outS l 12 0) := by rw [hz2]; exact outS_end l 11 hx11
    refine exit_here ?_
    refine unblock ?_
    refine W.next ?_
    refine W.regionX tt_ok [] [2, 3, 4, 7, 8] (List.range 19) ⟨[(2, none, .sv (.lf (.val (.pointer none)))), eB 3 false, eP 4 2 0, eI 7 (endL l 11), eI 8 (12 : Int)], [lI 3 l, rII 42 (outS l 12 0), .blk true 52 (tblC 1 3 11 l)] ++ rowsX 3 x, oL 1 18⟩ [inK .i64 ((11 : Int) + (1 : Int))] (by kernel_rfl) ⟨(by simp only [inK]; omega), trivial⟩ ?_
    exact againK [2, 3, 4, 7, 8] (List.range 19) ⟨[(2, none, .sv (.lf (.val (.pointer none)))), eB 3 false, eP 4 2 0, eI 7 (endL l 11), eI 8 (12 : Int)], [lI 3 l, rII 42 (outS l 12 0), .blk true 52 (tblC 1 3 11 l)] ++ rowsX 3 x, oL 1 18⟩ (by kernel_rfl) 12 (by decide) (by decide) (by kernel_rfl)
theorem New_round12 {gg : Gam} {ww : World} {Q : Exit → Act → World → Prop} (l : List (List Value)) (x : Nat → List (List Value)) (hl : (l.length : Int) ≤ 17592186044416) (hk : ∀ j o : Nat, -9223372036854775808 ≤ vI (cellAt l j o) ∧ vI (cellAt l j o) ≤ 9223372036854775807) (hkr : kraftL l ≤ 32768) (hx0 : x 0 = symN l 0 l.length) (hx1 : x 1 = symN l 1 l.length) (hx2 : x 2 = symN l 2 l.length) (hx3 : x 3 = symN l 3 l.length) (hx4 : x 4 = symN l 4 l.length) (hx5 : x 5 = symN l 5 l.length) (hx6 : x 6 = symN l 6 l.length) (hx7 : x 7 = symN l 7 l.length) (hx8 : x 8 = symN l 8 l.length) (hx9 : x 9 = symN l 9 l.length) (hx10 : x 10 = symN l 10 l.length) (hx11 : x 11 = symN l 11 l.length) (hx12 : x 12 = symN l 12 l.length) (hx13 : x 13 = symN l 13 l.length) (hx14 : x 14 = symN l 14 l.length) (hx15 : x 15 = symN l 15 l.length) (hxl0 : (x 0).length ≤ l.length) (hxl1 : (x 1).length ≤ l.length) (hxl2 : (x 2).length ≤ l.length) (hxl3 : (x 3).length ≤ l.length) (hxl4 : (x 4).length ≤ l.length) (hxl5 : (x 5).length ≤ l.length) (hxl6 : (x 6).length ≤ l.length) (hxl7 : (x 7).length ≤ l.length) (hxl8 : (x 8).length ≤ l.length) (hxl9 : (x 9).length ≤ l.length) (hxl10 : (x 10).length ≤ l.length) (hxl11 : (x 11).length ≤ l.length) (hxl12 : (x 12).length ≤ l.length) (hxl13 : (x 13).length ≤ l.length) (hxl14 : (x 14).length ≤ l.length) (hxl15 : (x 15).length ≤ l.length) : W (mkC Try.prog tt 88 [.row false 3 [.int .i64] l] gg ww) (lopB (blkB (seqR (seqL (seqR (seqR (seqR (seqR (seqR (bodyC Try.f19)))))))))) (Exit.then (fun a w => ∃ n, (1 ≤ n ∧ n ≤ 16) ∧ 16 - n < 16 - 12 ∧ Sat (mkC Try.prog tt 88 [.row false 3 [.int .i64] l] gg ww) (⟨[(2, none, .sv (.lf (.val (.pointer none)))), eB 3 false, eP 4 2 0, eI 7 (endL l (n - 1)), eI 8 (n : Int)], [lI 3 l, rII 42 (outS l n 0), .blk true 52 (tblC 1 3 (n - 1) l)] ++ rowsX 3 x, oL 1 18⟩) a w) Q) ⟨[(2, none, .sv (.lf (.val (.pointer none)))), eB 3 false, eP 4 2 0, eI 7 (endL l 11), eI 8 (12 : Int)], [lI 3 l, rII 42 (outS l 12 0), .blk true 52 (tblC 1 3 11 l)] ++ rowsX 3 x, oL 1 18⟩ := by
  have hbe := endL_bd hkr (n := 11) (by decide)
  refine W.seq ?_
  refine W.sx tt_ok [⟨0, 0, none⟩, ⟨0, 1, none⟩] [2, 3, 4, 7, 8, 53] (List.range 19) ⟨[(2, none, .sv (.lf (.val (.pointer none)))), eB 3 false, eP 4 2 0, eI 7 (endL l 11), eI 8 (12 : Int), eB 53 true], [lI 3 l, rII 42 (outS l 12 0), .blk true 52 (tblC 1 3 11 l)] ++ rowsX 3 x, oL 1 18⟩ [(12 : Int) ≤ (15 : Int)] (by kernel_rfl) ⟨(by omega), trivial⟩ ?_
  refine W.cond (p := true) (by kernel_rfl) (fun _ => ?_) (fun h => nomatch h)
  refine W.skip ?_
  refine W.next ?_
  refine W.seq ?_
  refine W.block ?_
  refine W.sx tt_ok [] [2, 3, 4, 7, 8] (List.range 19) ⟨[(2, none, .sv (.lf (.val (.pointer none)))), eB 3 false, eP 4 2 0, eI 7 ((endL l 11) * (2 : Int)), eI 8 (12 : Int)], [lI 3 l, rII 42 (outS l 12 0), .blk true 52 (tblC 1 3 11 l)] ++ rowsX 3 x, oL 1 18⟩ [inK .i64 ((endL l 11) * (2 : Int))] (by kernel_rfl) ⟨(by simp only [inK]; omega), trivial⟩ ?_
  generalize hv12 : (endL l 11) * (2 : Int) = v12
  obtain rfl : v12 = baseL l 12 := by rw [← hv12]; exact base_dbl l 12 (by decide)
  have hb12 := baseL_bd hkr (n := 12) (by decide) (by decide)
  refine W.sx tt_ok [⟨0, 0, none⟩, ⟨0, 0, none⟩, ⟨0, 0, none⟩, ⟨0, 0, none⟩, ⟨0, 0, none⟩, ⟨0, 1, none⟩] [2, 3, 4, 7, 8] (List.range 19) ⟨[(2, none, .sv (.lf (.val (.pointer none)))), eB 3 false, eP 4 2 0, eI 7 (baseL l 12), eI 8 (12 : Int)], [lI 3 l, rII 42 (outS l 12 0), .blk true 52 (tblC 1 3 12 l)] ++ rowsX 3 x, oL 1 18⟩ [0 ≤ (12 : Int) ∧ (12 : Int) < (16 : Int)] (by kernel_rfl) ⟨(by omega), trivial⟩ ?_
  refine W.sx tt_ok [⟨0, 0, none⟩, ⟨0, 0, none⟩, ⟨0, 0, none⟩, ⟨0, 0, none⟩, ⟨0, 1, none⟩] [2, 3, 4, 7, 8, 69, 70, 71] (List.range 19) ⟨[(2, none, .sv (.lf (.val (.pointer none)))), eB 3 false, eP 4 2 0, eI 7 (baseL l 12), eI 8 (12 : Int), eR 69 15, eI 70 ((x 12).length : Int), eI 71 (0 : Int)], [lI 3 l, rII 42 (outS l 12 0), .blk true 52 (tblC 1 3 12 l)] ++ rowsX 3 x, oL 1 18⟩ [0 ≤ (12 : Int) ∧ (12 : Int) < (16 : Int)] (by kernel_rfl) ⟨(by omega), trivial⟩ ?_
  refine W.block ?_
  refine W.loop (ι := Int × Int × List (List Value)) (fun z => ⟨[(2, none, .sv (.lf (.val (.pointer none)))), eB 3 false, eP 4 2 0, eI 7 z.1, eI 8 (12 : Int), eR 69 15, eI 70 ((x 12).length : Int), eI 71 z.2.1], [lI 3 l, rII 42 z.2.2, .blk true 52 (tblC 1 3 12 l)] ++ rowsX 3 x, oL 1 18⟩) (fun z => (0 ≤ z.2.1 ∧ z.2.1 ≤ ((x 12).length : Int)) ∧ (z.1 = baseL l 12 + z.2.1) ∧ (z.2.2 = outS l 12 z.2.1)) (fun z => (((x 12).length : Int) - z.2.1).toNat) ⟨(baseL l 12), 0, (outS l 12 0)⟩ (show (0 ≤ (0 : Int) ∧ (0 : Int) ≤ ((x 12).length : Int)) ∧ ((baseL l 12) = baseL l 12 + (0 : Int)) ∧ ((outS l 12 0) = outS l 12 (0 : Int)) from ⟨by omega, by omega, rfl⟩) rfl ?_
  rintro ⟨c, j, zs⟩ ⟨hj, hc, hz2⟩
  dsimp only at hj hc hz2
  have hzl : zs.length = l.length := by rw [hz2, outS_len]
  have hbb := endL_bd hkr (n := 12) (by decide)
  have hee := end_base l 12 (by decide) hx12
  have hsy0 := fun h => sym_ok (n := 12) (j := j) hx12 hj.1 h
  refine W.sx tt_ok [] [2, 3, 4, 7, 8, 69, 70, 71, 72] (List.range 19) ⟨[(2, none, .sv (.lf (.val (.pointer none)))), eB 3 false, eP 4 2 0, eI 7 c, eI 8 (12 : Int), eR 69 15, eI 70 ((x 12).length : Int), eI 71 j, eB 72 (decide (j < ((x 12).length : Int)))], [lI 3 l, rII 42 zs, .blk true 52 (tblC 1 3 12 l)] ++ rowsX 3 x, oL 1 18⟩ [] (by kernel_rfl) trivial ?_
  refine W.seq ?_
  refine W.cond (p := (decide (j < ((x 12).length : Int)))) (by kernel_rfl) (fun h4 => ?_) (fun h4 => ?_)
  · have h4p := of_decide_eq_true h4
    have hsy := hsy0 (by omega)
    refine W.skip ?_
    refine W.next ?_
    refine W.seq ?_
    refine W.block ?_
    refine W.sx tt_ok [] [2, 3, 4, 7, 8, 10, 69, 70, 71] (List.range 19) ⟨[(2, none, .sv (.lf (.val (.pointer none)))), eB 3 false, eP 4 2 0, eI 7 c, eI 8 (12 : Int), eI 10 (vI (cellAt (x 12) j.toNat 0)), eR 69 15, eI 70 ((x 12).length : Int), eI 71 j], [lI 3 l, rII 42 zs, .blk true 52 (tblC 1 3 12 l)] ++ rowsX 3 x, oL 1 18⟩ [0 ≤ j ∧ j < ((x 12).length : Int), 0 ≤ j ∧ j < ((x 12).length : Int)] (by kernel_rfl) ⟨(by omega), (by omega), trivial⟩ ?_
    refine W.sx tt_ok [] [2, 3, 4, 7, 8, 69, 70, 71] (List.range 19) ⟨[(2, none, .sv (.lf (.val (.pointer none)))), eB 3 false, eP 4 2 0, eI 7 c, eI 8 (12 : Int), eR 69 15, eI 70 ((x 12).length : Int), eI 71 j], [lI 3 l, rII 42 (zs.set (vI (cellAt (x 12) j.toNat 0)).toNat [wI (12 : Int), wI c]), .blk true 52 (tblC 1 3 12 l)] ++ rowsX 3 x, oL 1 18⟩ [0 ≤ (vI (cellAt (x 12) j.toNat 0)) ∧ (vI (cellAt (x 12) j.toNat 0)) < (zs.length : Int), 0 ≤ (vI (cellAt (x 12) j.toNat 0)) ∧ (vI (cellAt (x 12) j.toNat 0)) < (zs.length : Int)] (by kernel_rfl) ⟨(by omega), (by omega), trivial⟩ ?_
    refine W.regionX tt_ok [] [2, 3, 4, 7, 8, 69, 70, 71] (List.range 19) ⟨[(2, none, .sv (.lf (.val (.pointer none)))), eB 3 false, eP 4 2 0, eI 7 (c + (1 : Int)), eI 8 (12 : Int), eR 69 15, eI 70 ((x 12).length : Int), eI 71 j], [lI 3 l, rII 42 (zs.set (vI (cellAt (x 12) j.toNat 0)).toNat [wI (12 : Int), wI c]), .blk true 52 (tblC 1 3 12 l)] ++ rowsX 3 x, oL 1 18⟩ [inK .i64 (c + (1 : Int))] (by kernel_rfl) ⟨(by simp only [inK]; omega), trivial⟩ ?_
    refine unblock ?_
    refine W.next ?_
    refine W.regionX tt_ok [] [2, 3, 4, 7, 8, 69, 70, 71] (List.range 19) ⟨[(2, none, .sv (.lf (.val (.pointer none)))), eB 3 false, eP 4 2 0, eI 7 (c + (1 : Int)), eI 8 (12 : Int), eR 69 15, eI 70 ((x 12).length : Int), eI 71 (j + (1 : Int))], [lI 3 l, rII 42 (zs.set (vI (cellAt (x 12) j.toNat 0)).toNat [wI (12 : Int), wI c]), .blk true 52 (tblC 1 3 12 l)] ++ rowsX 3 x, oL 1 18⟩ [inK .i64 (j + (1 : Int))] (by kernel_rfl) ⟨(by simp only [inK]; omega), trivial⟩ ?_
    exact againK [2, 3, 4, 7, 8, 69, 70, 71] (List.range 19) ⟨[(2, none, .sv (.lf (.val (.pointer none)))), eB 3 false, eP 4 2 0, eI 7 (c + (1 : Int)), eI 8 (12 : Int), eR 69 15, eI 70 ((x 12).length : Int), eI 71 (j + (1 : Int))], [lI 3 l, rII 42 (zs.set (vI (cellAt (x 12) j.toNat 0)).toNat [wI (12 : Int), wI c]), .blk true 52 (tblC 1 3 12 l)] ++ rowsX 3 x, oL 1 18⟩ (by kernel_rfl) ⟨(c + (1 : Int)), (j + (1 : Int)), (zs.set (vI (cellAt (x 12) j.toNat 0)).toNat [Value.int .i64 (12 : Int), Value.int .i64 c])⟩ (show (0 ≤ (j + (1 : Int)) ∧ (j + (1 : Int)) ≤ ((x 12).length : Int)) ∧ ((c + (1 : Int)) = baseL l 12 + (j + (1 : Int))) ∧ ((zs.set (vI (cellAt (x 12) j.toNat 0)).toNat [Value.int .i64 (12 : Int), Value.int .i64 c]) = outS l 12 (j + (1 : Int))) from ⟨by omega, by omega, by rw [hz2, hc]; exact outS_set (n := 12) (by decide) (by omega) hsy.2.2.1 hsy.2.2.2⟩) (show (((x 12).length : Int) - (j + (1 : Int))).toNat < (((x 12).length : Int) - j).toNat from by omega) rfl
  · have h4p := of_decide_eq_false h4
    refine W.exit ?_
    refine exit_then ?_
    refine exit_then ?_
    obtain rfl : j = ((x 12).length : Int) := by omega
    obtain rfl : c = (endL l 12) := by omega
    obtain rfl : zs = (outS l 13 0) := by rw [hz2]; exact outS_end l 12 hx12
    refine exit_here ?_
    refine unblock ?_
    refine W.next ?_
    refine W.regionX tt_ok [] [2, 3, 4, 7, 8] (List.range 19) ⟨[(2, none, .sv (.lf (.val (.pointer none)))), eB 3 false, eP 4 2 0, eI 7 (endL l 12), eI 8 (13 : Int)], [lI 3 l, rII 42 (outS l 13 0), .blk true 52 (tblC 1 3 12 l)] ++ rowsX 3 x, oL 1 18⟩ [inK .i64 ((12 : Int) + (1 : Int))] (by kernel_rfl) ⟨(by simp only [inK]; omega), trivial⟩ ?_
    exact againK [2, 3, 4, 7, 8] (List.range 19) ⟨[(2, none, .sv (.lf (.val (.pointer none)))), eB 3 false, eP 4 2 0, eI 7 (endL l 12), eI 8 (13 : Int)], [lI 3 l, rII 42 (outS l 13 0), .blk true 52 (tblC 1 3 12 l)] ++ rowsX 3 x, oL 1 18⟩ (by kernel_rfl) 13 (by decide) (by decide) (by kernel_rfl)
theorem New_round13 {gg : Gam} {ww : World} {Q : Exit → Act → World → Prop} (l : List (List Value)) (x : Nat → List (List Value)) (hl : (l.length : Int) ≤ 17592186044416) (hk : ∀ j o : Nat, -9223372036854775808 ≤ vI (cellAt l j o) ∧ vI (cellAt l j o) ≤ 9223372036854775807) (hkr : kraftL l ≤ 32768) (hx0 : x 0 = symN l 0 l.length) (hx1 : x 1 = symN l 1 l.length) (hx2 : x 2 = symN l 2 l.length) (hx3 : x 3 = symN l 3 l.length) (hx4 : x 4 = symN l 4 l.length) (hx5 : x 5 = symN l 5 l.length) (hx6 : x 6 = symN l 6 l.length) (hx7 : x 7 = symN l 7 l.length) (hx8 : x 8 = symN l 8 l.length) (hx9 : x 9 = symN l 9 l.length) (hx10 : x 10 = symN l 10 l.length) (hx11 : x 11 = symN l 11 l.length) (hx12 : x 12 = symN l 12 l.length) (hx13 : x 13 = symN l 13 l.length) (hx14 : x 14 = symN l 14 l.length) (hx15 : x 15 = symN l 15 l.length) (hxl0 : (x 0).length ≤ l.length) (hxl1 : (x 1).length ≤ l.length) (hxl2 : (x 2).length ≤ l.length) (hxl3 : (x 3).length ≤ l.length) (hxl4 : (x 4).length ≤ l.length) (hxl5 : (x 5).length ≤ l.length) (hxl6 : (x 6).length ≤ l.length) (hxl7 : (x 7).length ≤ l.length) (hxl8 : (x 8).length ≤ l.length) (hxl9 : (x 9).length ≤ l.length) (hxl10 : (x 10).length ≤ l.length) (hxl11 : (x 11).length ≤ l.length) (hxl12 : (x 12).length ≤ l.length) (hxl13 : (x 13).length ≤ l.length) (hxl14 : (x 14).length ≤ l.length) (hxl15 : (x 15).length ≤ l.length) : W (mkC Try.prog tt 88 [.row false 3 [.int .i64] l] gg ww) (lopB (blkB (seqR (seqL (seqR (seqR (seqR (seqR (seqR (bodyC Try.f19)))))))))) (Exit.then (fun a w => ∃ n, (1 ≤ n ∧ n ≤ 16) ∧ 16 - n < 16 - 13 ∧ Sat (mkC Try.prog tt 88 [.row false 3 [.int .i64] l] gg ww) (⟨[(2, none, .sv (.lf (.val (.pointer none)))), eB 3 false, eP 4 2 0, eI 7 (endL l (n - 1)), eI 8 (n : Int)], [lI 3 l, rII 42 (outS l n 0), .blk true 52 (tblC 1 3 (n - 1) l)] ++ rowsX 3 x, oL 1 18⟩) a w) Q) ⟨[(2, none, .sv (.lf (.val (.pointer none)))), eB 3 false, eP 4 2 0, eI 7 (endL l 12), eI 8 (13 : Int)], [lI 3 l, rII 42 (outS l 13 0), .blk true 52 (tblC 1 3 12 l)] ++ rowsX 3 x, oL 1 18⟩ := by
  have hbe := endL_bd hkr (n := 12) (by decide)
  refine W.seq ?_
  refine W.sx tt_ok [⟨0, 0, none⟩, ⟨0, 1, none⟩] [2, 3, 4, 7, 8, 53] (List.range 19) ⟨[(2, none, .sv (.lf (.val (.pointer none)))), eB 3 false, eP 4 2 0, eI 7 (endL l 12), eI 8 (13 : Int), eB 53 true], [lI 3 l, rII 42 (outS l 13 0), .blk true 52 (tblC 1 3 12 l)] ++ rowsX 3 x, oL 1 18⟩ [(13 : Int) ≤ (15 : Int)] (by kernel_rfl) ⟨(by omega), trivial⟩ ?_
  refine W.cond (p := true) (by kernel_rfl) (fun _ => ?_) (fun h => nomatch h)
  refine W.skip ?_
  refine W.next ?_
  refine W.seq ?_
  refine W.block ?_
  refine W.sx tt_ok [] [2, 3, 4, 7, 8] (List.range 19) ⟨[(2, none, .sv (.lf (.val (.pointer none)))), eB 3 false, eP 4 2 0, eI 7 ((endL l 12) * (2 : Int)), eI 8 (13 : Int)], [lI 3 l, rII 42 (outS l 13 0), .blk true 52 (tblC 1 3 12 l)] ++ rowsX 3 x, oL 1 18⟩ [inK .i64 ((endL l 12) * (2 : Int))] (by kernel_rfl) ⟨(by simp only [inK]; omega), trivial⟩ ?_
  generalize hv13 : (endL l 12) * (2 : Int) = v13
  obtain rfl : v13 = baseL l 13 := by rw [← hv13]; exact base_dbl l 13 (by decide)
  have hb13 := baseL_bd hkr (n := 13) (by decide) (by decide)
  refine W.sx tt_ok [⟨0, 0, none⟩, ⟨0, 0, none⟩, ⟨0, 0, none⟩, ⟨0, 0, none⟩, ⟨0, 0, none⟩, ⟨0, 1, none⟩] [2, 3, 4, 7, 8] (List.range 19) ⟨[(2, none, .sv (.lf (.val (.pointer none)))), eB 3 false, eP 4 2 0, eI 7 (baseL l 13), eI 8 (13 : Int)], [lI 3 l, rII 42 (outS l 13 0), .blk true 52 (tblC 1 3 13 l)] ++ rowsX 3 x, oL 1 18⟩ [0 ≤ (13 : Int) ∧ (13 : Int) < (16 : Int)] (by kernel_rfl) ⟨(by omega), trivial⟩ ?_
  refine W.sx tt_ok [⟨0, 0, none⟩, ⟨0, 0, none⟩, ⟨0, 0, none⟩, ⟨0, 0, none⟩, ⟨0, 1, none⟩] [2, 3, 4, 7, 8, 69, 70, 71] (List.range 19) ⟨[(2, none, .sv (.lf (.val (.pointer none)))), eB 3 false, eP 4 2 0, eI 7 (baseL l 13), eI 8 (13 : Int), eR 69 16, eI 70 ((x 13).length : Int), eI 71 (0 : Int)], [lI 3 l, rII 42 (outS l 13 0), .blk true 52 (tblC 1 3 13 l)] ++ rowsX 3 x, oL 1 18⟩ [0 ≤ (13 : Int) ∧ (13 : Int) < (16 : Int)] (by kernel_rfl) ⟨(by omega), trivial⟩ ?_
  refine W.block ?_
  refine W.loop (ι := Int × Int × List (List Value)) (fun z => ⟨[(2, none, .sv (.lf (.val (.pointer none)))), eB 3 false, eP 4 2 0, eI 7 z.1, eI 8 (13 : Int), eR 69 16, eI 70 ((x 13).length : Int), eI 71 z.2.1], [lI 3 l, rII 42 z.2.2, .blk true 52 (tblC 1 3 13 l)] ++ rowsX 3 x, oL 1 18⟩) (fun z => (0 ≤ z.2.1 ∧ z.2.1 ≤ ((x 13).length : Int)) ∧ (z.1 = baseL l 13 + z.2.1) ∧ (z.2.2 = outS l 13 z.2.1)) (fun z => (((x 13).length : Int) - z.2.1).toNat) ⟨(baseL l 13), 0, (outS l 13 0)⟩ (show (0 ≤ (0 : Int) ∧ (0 : Int) ≤ ((x 13).length : Int)) ∧ ((baseL l 13) = baseL l 13 + (0 : Int)) ∧ ((outS l 13 0) = outS l 13 (0 : Int)) from ⟨by omega, by omega, rfl⟩) rfl ?_
  rintro ⟨c, j, zs⟩ ⟨hj, hc, hz2⟩
  dsimp only at hj hc hz2
  have hzl : zs.length = l.length := by rw [hz2, outS_len]
  have hbb := endL_bd hkr (n := 13) (by decide)
  have hee := end_base l 13 (by decide) hx13
  have hsy0 := fun h => sym_ok (n := 13) (j := j) hx13 hj.1 h
  refine W.sx tt_ok [] [2, 3, 4, 7, 8, 69, 70, 71, 72] (List.range 19) ⟨[(2, none, .sv (.lf (.val (.pointer none)))), eB 3 false, eP 4 2 0, eI 7 c, eI 8 (13 : Int), eR 69 16, eI 70 ((x 13).length : Int), eI 71 j, eB 72 (decide (j < ((x 13).length : Int)))], [lI 3 l, rII 42 zs, .blk true 52 (tblC 1 3 13 l)] ++ rowsX 3 x, oL 1 18⟩ [] (by kernel_rfl) trivial ?_
  refine W.seq ?_
  refine W.cond (p := (decide (j < ((x 13).length : Int)))) (by kernel_rfl) (fun h4 => ?_) (fun h4 => ?_)
  · have h4p := of_decide_eq_true h4
    have hsy := hsy0 (by omega)
    refine W.skip ?_
    refine W.next ?_
    refine W.seq ?_
    refine W.block ?_
    refine W.sx tt_ok [] [2, 3, 4, 7, 8, 10, 69, 70, 71] (List.range 19) ⟨[(2, none, .sv (.lf (.val (.pointer none)))), eB 3 false, eP 4 2 0, eI 7 c, eI 8 (13 : Int), eI 10 (vI (cellAt (x 13) j.toNat 0)), eR 69 16, eI 70 ((x 13).length : Int), eI 71 j], [lI 3 l, rII 42 zs, .blk true 52 (tblC 1 3 13 l)] ++ rowsX 3 x, oL 1 18⟩ [0 ≤ j ∧ j < ((x 13).length : Int), 0 ≤ j ∧ j < ((x 13).length : Int)] (by kernel_rfl) ⟨(by omega), (by omega), trivial⟩ ?_
    refine W.sx tt_ok [] [2, 3, 4, 7, 8, 69, 70, 71] (List.range 19) ⟨[(2, none, .sv (.lf (.val (.pointer none)))), eB 3 false, eP 4 2 0, eI 7 c, eI 8 (13 : Int), eR 69 16, eI 70 ((x 13).length : Int), eI 71 j], [lI 3 l, rII 42 (zs.set (vI (cellAt (x 13) j.toNat 0)).toNat [wI (13 : Int), wI c]), .blk true 52 (tblC 1 3 13 l)] ++ rowsX 3 x, oL 1 18⟩ [0 ≤ (vI (cellAt (x 13) j.toNat 0)) ∧ (vI (cellAt (x 13) j.toNat 0)) < (zs.length : Int), 0 ≤ (vI (cellAt (x 13) j.toNat 0)) ∧ (vI (cellAt (x 13) j.toNat 0)) < (zs.length : Int)] (by kernel_rfl) ⟨(by omega), (by omega), trivial⟩ ?_
    refine W.regionX tt_ok [] [2, 3, 4, 7, 8, 69, 70, 71] (List.range 19) ⟨[(2, none, .sv (.lf (.val (.pointer none)))), eB 3 false, eP 4 2 0, eI 7 (c + (1 : Int)), eI 8 (13 : Int), eR 69 16, eI 70 ((x 13).length : Int), eI 71 j], [lI 3 l, rII 42 (zs.set (vI (cellAt (x 13) j.toNat 0)).toNat [wI (13 : Int), wI c]), .blk true 52 (tblC 1 3 13 l)] ++ rowsX 3 x, oL 1 18⟩ [inK .i64 (c + (1 : Int))] (by kernel_rfl) ⟨(by simp only [inK]; omega), trivial⟩ ?_
    refine unblock ?_
    refine W.next ?_
    refine W.regionX tt_ok [] [2, 3, 4, 7, 8, 69, 70, 71] (List.range 19) ⟨[(2, none, .sv (.lf (.val (.pointer none)))), eB 3 false, eP 4 2 0, eI 7 (c + (1 : Int)), eI 8 (13 : Int), eR 69 16, eI 70 ((x 13).length : Int), eI 71 (j + (1 : Int))], [lI 3 l, rII 42 (zs.set (vI (cellAt (x 13) j.toNat 0)).toNat [wI (13 : Int), wI c]), .blk true 52 (tblC 1 3 13 l)] ++ rowsX 3 x, oL 1 18⟩ [inK .i64 (j + (1 : Int))] (by kernel_rfl) ⟨(by simp only [inK]; omega), trivial⟩ ?_
    exact againK [2, 3, 4, 7, 8, 69, 70, 71] (List.range 19) ⟨[(2, none, .sv (.lf (.val (.pointer none)))), eB 3 false, eP 4 2 0, eI 7 (c + (1 : Int)), eI 8 (13 : Int), eR 69 16, eI 70 ((x 13).length : Int), eI 71 (j + (1 : Int))], [lI 3 l, rII 42 (zs.set (vI (cellAt (x 13) j.toNat 0)).toNat [wI (13 : Int), wI c]), .blk true 52 (tblC 1 3 13 l)] ++ rowsX 3 x, oL 1 18⟩ (by kernel_rfl) ⟨(c + (1 : Int)), (j + (1 : Int)), (zs.set (vI (cellAt (x 13) j.toNat 0)).toNat [Value.int .i64 (13 : Int), Value.int .i64 c])⟩ (show (0 ≤ (j + (1 : Int)) ∧ (j + (1 : Int)) ≤ ((x 13).length : Int)) ∧ ((c + (1 : Int)) = baseL l 13 + (j + (1 : Int))) ∧ ((zs.set (vI (cellAt (x 13) j.toNat 0)).toNat [Value.int .i64 (13 : Int), Value.int .i64 c]) = outS l 13 (j + (1 : Int))) from ⟨by omega, by omega, by rw [hz2, hc]; exact outS_set (n := 13) (by decide) (by omega) hsy.2.2.1 hsy.2.2.2⟩) (show (((x 13).length : Int) - (j + (1 : Int))).toNat < (((x 13).length : Int) - j).toNat from by omega) rfl
  · have h4p := of_decide_eq_false h4
    refine W.exit ?_
    refine exit_then ?_
    refine exit_then ?_
    obtain rfl : j = ((x 13).length : Int) := by omega
    obtain rfl : c = (endL l 13) := by omega
    obtain rfl : zs = (outS l 14 0) := by rw [hz2]; exact outS_end l 13 hx13
    refine exit_here ?_
    refine unblock ?_
    refine W.next ?_
    refine W.regionX tt_ok [] [2, 3, 4, 7, 8] (List.range 19) ⟨[(2, none, .sv (.lf (.val (.pointer none)))), eB 3 false, eP 4 2 0, eI 7 (endL l 13), eI 8 (14 : Int)], [lI 3 l, rII 42 (outS l 14 0), .blk true 52 (tblC 1 3 13 l)] ++ rowsX 3 x, oL 1 18⟩ [inK .i64 ((13 : Int) + (1 : Int))] (by kernel_rfl) ⟨(by simp only [inK]; omega), trivial⟩ ?_
    exact againK [2, 3, 4, 7, 8] (List.range 19) ⟨[(2, none, .sv (.lf (.val (.pointer none)))), eB 3 false, eP 4 2 0, eI 7 (endL l 13), eI 8 (14 : Int)], [lI 3 l, rII 42 (outS l 14 0), .blk true 52 (tblC 1 3 13 l)] ++ rowsX 3 x, oL 1 18⟩ (by kernel_rfl) 14 (by decide) (by decide) (by kernel_rfl)
theorem New_round14 {gg : Gam} {ww : World} {Q : Exit → Act → World → Prop} (l : List (List Value)) (x : Nat → List (List Value)) (hl : (l.length : Int) ≤ 17592186044416) (hk : ∀ j o : Nat, -9223372036854775808 ≤ vI (cellAt l j o) ∧ vI (cellAt l j o) ≤ 9223372036854775807) (hkr : kraftL l ≤ 32768) (hx0 : x 0 = symN l 0 l.length) (hx1 : x 1 = symN l 1 l.length) (hx2 : x 2 = symN l 2 l.length) (hx3 : x 3 = symN l 3 l.length) (hx4 : x 4 = symN l 4 l.length) (hx5 : x 5 = symN l 5 l.length) (hx6 : x 6 = symN l 6 l.length) (hx7 : x 7 = symN l 7 l.length) (hx8 : x 8 = symN l 8 l.length) (hx9 : x 9 = symN l 9 l.length) (hx10 : x 10 = symN l 10 l.length) (hx11 : x 11 = symN l 11 l.length) (hx12 : x 12 = symN l 12 l.length) (hx13 : x 13 = symN l 13 l.length) (hx14 : x 14 = symN l 14 l.length) (hx15 : x 15 = symN l 15 l.length) (hxl0 : (x 0).length ≤ l.length) (hxl1 : (x 1).length ≤ l.length) (hxl2 : (x 2).length ≤ l.length) (hxl3 : (x 3).length ≤ l.length) (hxl4 : (x 4).length ≤ l.length) (hxl5 : (x 5).length ≤ l.length) (hxl6 : (x 6).length ≤ l.length) (hxl7 : (x 7).length ≤ l.length) (hxl8 : (x 8).length ≤ l.length) (hxl9 : (x 9).length ≤ l.length) (hxl10 : (x 10).length ≤ l.length) (hxl11 : (x 11).length ≤ l.length) (hxl12 : (x 12).length ≤ l.length) (hxl13 : (x 13).length ≤ l.length) (hxl14 : (x 14).length ≤ l.length) (hxl15 : (x 15).length ≤ l.length) : W (mkC Try.prog tt 88 [.row false 3 [.int .i64] l] gg ww) (lopB (blkB (seqR (seqL (seqR (seqR (seqR (seqR (seqR (bodyC Try.f19)))))))))) (Exit.then (fun a w => ∃ n, (1 ≤ n ∧ n ≤ 16) ∧ 16 - n < 16 - 14 ∧ Sat (mkC Try.prog tt 88 [.row false 3 [.int .i64] l] gg ww) (⟨[(2, none, .sv (.lf (.val (.pointer none)))), eB 3 false, eP 4 2 0, eI 7 (endL l (n - 1)), eI 8 (n : Int)], [lI 3 l, rII 42 (outS l n 0), .blk true 52 (tblC 1 3 (n - 1) l)] ++ rowsX 3 x, oL 1 18⟩) a w) Q) ⟨[(2, none, .sv (.lf (.val (.pointer none)))), eB 3 false, eP 4 2 0, eI 7 (endL l 13), eI 8 (14 : Int)], [lI 3 l, rII 42 (outS l 14 0), .blk true 52 (tblC 1 3 13 l)] ++ rowsX 3 x, oL 1 18⟩ := by
  have hbe := endL_bd hkr (n := 13) (by decide)
  refine W.seq ?_
  refine W.sx tt_ok [⟨0, 0, none⟩, ⟨0, 1, none⟩] [2, 3, 4, 7, 8, 53] (List.range 19) ⟨[(2, none, .sv (.lf (.val (.pointer none)))), eB 3 false, eP 4 2 0, eI 7 (endL l 13), eI 8 (14 : Int), eB 53 true], [lI 3 l, rII 42 (outS l 14 0), .blk true 52 (tblC 1 3 13 l)] ++ rowsX 3 x, oL 1 18⟩ [(14 : Int) ≤ (15 : Int)] (by kernel_rfl) ⟨(by omega), trivial⟩ ?_
  refine W.cond (p := true) (by kernel_rfl) (fun _ => ?_) (fun h => nomatch h)
  refine W.skip ?_
  refine W.next ?_
  refine W.seq ?_
  refine W.block ?_
  refine W.sx tt_ok [] [2, 3, 4, 7, 8] (List.range 19) ⟨[(2, none, .sv (.lf (.val (.pointer none)))), eB 3 false, eP 4 2 0, eI 7 ((endL l 13) * (2 : Int)), eI 8 (14 : Int)], [lI 3 l, rII 42 (outS l 14 0), .blk true 52 (tblC 1 3 13 l)] ++ rowsX 3 x, oL 1 18⟩ [inK .i64 ((endL l 13) * (2 : Int))] (by kernel_rfl) ⟨(by simp only [inK]; omega), trivial⟩ ?_
  generalize hv14 : (endL l 13) * (2 : Int) = v14
  obtain rfl : v14 = baseL l 14 := by rw [← hv14]; exact base_dbl l 14 (by decide)
  have hb14 := baseL_bd hkr (n := 14) (by decide) (by decide)
  refine W.sx tt_ok [⟨0, 0, none⟩, ⟨0, 0, none⟩, ⟨0, 0, none⟩, ⟨0, 0, none⟩, ⟨0, 0, none⟩, ⟨0, 1, none⟩] [2, 3, 4, 7, 8] (List.range 19) ⟨[(2, none, .sv (.lf (.val (.pointer none)))), eB 3 false, eP 4 2 0, eI 7 (baseL l 14), eI 8 (14 : Int)], [lI 3 l, rII 42 (outS l 14 0), .blk true 52 (tblC 1 3 14 l)] ++ rowsX 3 x, oL 1 18⟩ [0 ≤ (14 : Int) ∧ (14 : Int) < (16 : Int)] (by kernel_rfl) ⟨(by omega), trivial⟩ ?_
  refine W.sx tt_ok [⟨0, 0, none⟩, ⟨0, 0, none⟩, ⟨0, 0, none⟩, ⟨0, 0, none⟩, ⟨0, 1, none⟩] [2, 3, 4, 7, 8, 69, 70, 71] (List.range 19) ⟨[(2, none, .sv (.lf (.val (.pointer none)))), eB 3 false, eP 4 2 0, eI 7 (baseL l 14), eI 8 (14 : Int), eR 69 17, eI 70 ((x 14).length : Int), eI 71 (0 : Int)], [lI 3 l, rII 42 (outS l 14 0), .blk true 52 (tblC 1 3 14 l)] ++ rowsX 3 x, oL 1 18⟩ [0 ≤ (14 : Int) ∧ (14 : Int) < (16 : Int)] (by kernel_rfl) ⟨(by omega), trivial⟩ ?_
  refine W.block ?_
  refine W.loop (ι := Int × Int × List (List Value)) (fun z => ⟨[(2, none, .sv (.lf (.val (.pointer none)))), eB 3 false, eP 4 2 0, eI 7 z.1, eI 8 (14 : Int), eR 69 17, eI 70 ((x 14).length : Int), eI 71 z.2.1], [lI 3 l, rII 42 z.2.2, .blk true 52 (tblC 1 3 14 l)] ++ rowsX 3 x, oL 1 18⟩) (fun z => (0 ≤ z.2.1 ∧ z.2.1 ≤ ((x 14).length : Int)) ∧ (z.1 = baseL l 14 + z.2.1) ∧ (z.2.2 = outS l 14 z.2.1)) (fun z => (((x 14).length : Int) - z.2.1).toNat) ⟨(baseL l 14), 0, (outS l 14 0)⟩ (show (0 ≤ (0 : Int) ∧ (0 : Int) ≤ ((x 14).length : Int)) ∧ ((baseL l 14) = baseL l 14 + (0 : Int)) ∧ ((outS l 14 0) = outS l 14 (0 : Int)) from ⟨by omega, by omega, rfl⟩) rfl ?_
  rintro ⟨c, j, zs⟩ ⟨hj, hc, hz2⟩
  dsimp only at hj hc hz2
  have hzl : zs.length = l.length := by rw [hz2, outS_len]
  have hbb := endL_bd hkr (n := 14) (by decide)
  have hee := end_base l 14 (by decide) hx14
  have hsy0 := fun h => sym_ok (n := 14) (j := j) hx14 hj.1 h
  refine W.sx tt_ok [] [2, 3, 4, 7, 8, 69, 70, 71, 72] (List.range 19) ⟨[(2, none, .sv (.lf (.val (.pointer none)))), eB 3 false, eP 4 2 0, eI 7 c, eI 8 (14 : Int), eR 69 17, eI 70 ((x 14).length : Int), eI 71 j, eB 72 (decide (j < ((x 14).length : Int)))], [lI 3 l, rII 42 zs, .blk true 52 (tblC 1 3 14 l)] ++ rowsX 3 x, oL 1 18⟩ [] (by kernel_rfl) trivial ?_
  refine W.seq ?_
  refine W.cond (p := (decide (j < ((x 14).length : Int)))) (by kernel_rfl) (fun h4 => ?_) (fun h4 => ?_)
  · have h4p := of_decide_eq_true h4
    have hsy := hsy0 (by omega)
    refine W.skip ?_
    refine W.next ?_
    refine W.seq ?_
    refine W.block ?_
    refine W.sx tt_ok [] [2, 3, 4, 7, 8, 10, 69, 70, 71] (List.range 19) ⟨[(2, none, .sv (.lf (.val (.pointer none)))), eB 3 false, eP 4 2 0, eI 7 c, eI 8 (14 : Int), eI 10 (vI (cellAt (x 14) j.toNat 0)), eR 69 17, eI 70 ((x 14).length : Int), eI 71 j], [lI 3 l, rII 42 zs, .blk true 52 (tblC 1 3 14 l)] ++ rowsX 3 x, oL 1 18⟩ [0 ≤ j ∧ j < ((x 14).length : Int), 0 ≤ j ∧ j < ((x 14).length : Int)] (by kernel_rfl) ⟨(by omega), (by omega), trivial⟩ ?_
    refine W.sx tt_ok [] [2, 3, 4, 7, 8, 69, 70, 71] (List.range 19) ⟨[(2, none, .sv (.lf (.val (.pointer none)))), eB 3 false, eP 4 2 0, eI 7 c, eI 8 (14 : Int), eR 69 17, eI 70 ((x 14).length : Int), eI 71 j], [lI 3 l, rII 42 (zs.set (vI (cellAt (x 14) j.toNat 0)).toNat [wI (14 : Int), wI c]), .blk true 52 (tblC 1 3 14 l)] ++ rowsX 3 x, oL 1 18⟩ [0 ≤ (vI (cellAt (x 14) j.toNat 0)) ∧ (vI (cellAt (x 14) j.toNat 0)) < (zs.length : Int), 0 ≤ (vI (cellAt (x 14) j.toNat 0)) ∧ (vI (cellAt (x 14) j.toNat 0)) < (zs.length : Int)] (by kernel_rfl) ⟨(by omega), (by omega), trivial⟩ ?_
    refine W.regionX tt_ok [] [2, 3, 4, 7, 8, 69, 70, 71] (List.range 19) ⟨[(2, none, .sv (.lf (.val (.pointer none)))), eB 3 false, eP 4 2 0, eI 7 (c + (1 : Int)), eI 8 (14 : Int), eR 69 17, eI 70 ((x 14).length : Int), eI 71 j], [lI 3 l, rII 42 (zs.set (vI (cellAt (x 14) j.toNat 0)).toNat [wI (14 : Int), wI c]), .blk true 52 (tblC 1 3 14 l)] ++ rowsX 3 x, oL 1 18⟩ [inK .i64 (c + (1 : Int))] (by kernel_rfl) ⟨(by simp only [inK]; omega), trivial⟩ ?_
    refine unblock ?_
    refine W.next ?_
    refine W.regionX tt_ok [] [2, 3, 4, 7, 8, 69, 70, 71] (List.range 19) ⟨[(2, none, .sv (.lf (.val (.pointer none)))), eB 3 false, eP 4 2 0, eI 7 (c + (1 : Int)), eI 8 (14 : Int), eR 69 17, eI 70 ((x 14).length : Int), eI 71 (j + (1 : Int))], [lI 3 l, rII 42 (zs.set (vI (cellAt (x 14) j.toNat 0)).toNat [wI (14 : Int), wI c]), .blk true 52 (tblC 1 3 14 l)] ++ rowsX 3 x, oL 1 18⟩ [inK .i64 (j + (1 : Int))] (by kernel_rfl) ⟨(by simp only [inK]; omega), trivial⟩ ?_
    exact againK [2, 3, 4, 7, 8, 69, 70, 71] (List.range 19) ⟨[(2, none, .sv (.lf (.val (.pointer none)))), eB 3 false, eP 4 2 0, eI 7 (c + (1 : Int)), eI 8 (14 : Int), eR 69 17, eI 70 ((x 14).length : Int), eI 71 (j + (1 : Int))], [lI 3 l, rII 42 (zs.set (vI (cellAt (x 14) j.toNat 0)).toNat [wI (14 : Int), wI c]), .blk true 52 (tblC 1 3 14 l)] ++ rowsX 3 x, oL 1 18⟩ (by kernel_rfl) ⟨(c + (1 : Int)), (j + (1 : Int)), (zs.set (vI (cellAt (x 14) j.toNat 0)).toNat [Value.int .i64 (14 : Int), Value.int .i64 c])⟩ (show (0 ≤ (j + (1 : Int)) ∧ (j + (1 : Int)) ≤ ((x 14).length : Int)) ∧ ((c + (1 : Int)) = baseL l 14 + (j + (1 : Int))) ∧ ((zs.set (vI (cellAt (x 14) j.toNat 0)).toNat [Value.int .i64 (14 : Int), Value.int .i64 c]) = outS l 14 (j + (1 : Int))) from ⟨by omega, by omega, by rw [hz2, hc]; exact outS_set (n := 14) (by decide) (by omega) hsy.2.2.1 hsy.2.2.2⟩) (show (((x 14).length : Int) - (j + (1 : Int))).toNat < (((x 14).length : Int) - j).toNat from by omega) rfl
  · have h4p := of_decide_eq_false h4
    refine W.exit ?_
    refine exit_then ?_
    refine exit_then ?_
    obtain rfl : j = ((x 14).length : Int) := by omega
    obtain rfl : c = (endL l 14) := by omega
    obtain rfl : zs = (outS l 15 0) := by rw [hz2]; exact outS_end l 14 hx14
    refine exit_here ?_
    refine unblock ?_
    refine W.next ?_
    refine W.regionX tt_ok [] [2, 3, 4, 7, 8] (List.range 19) ⟨[(2, none, .sv (.lf (.val (.pointer none)))), eB 3 false, eP 4 2 0, eI 7 (endL l 14), eI 8 (15 : Int)], [lI 3 l, rII 42 (outS l 15 0), .blk true 52 (tblC 1 3 14 l)] ++ rowsX 3 x, oL 1 18⟩ [inK .i64 ((14 : Int) + (1 : Int))] (by kernel_rfl) ⟨(by simp only [inK]; omega), trivial⟩ ?_
    exact againK [2, 3, 4, 7, 8] (List.range 19) ⟨[(2, none, .sv (.lf (.val (.pointer none)))), eB 3 false, eP 4 2 0, eI 7 (endL l 14), eI 8 (15 : Int)], [lI 3 l, rII 42 (outS l 15 0), .blk true 52 (tblC 1 3 14 l)] ++ rowsX 3 x, oL 1 18⟩ (by kernel_rfl) 15 (by decide) (by decide) (by kernel_rfl)
theorem New_round15 {gg : Gam} {ww : World} {Q : Exit → Act → World → Prop} (l : List (List Value)) (x : Nat → List (List Value)) (hl : (l.length : Int) ≤ 17592186044416) (hk : ∀ j o : Nat, -9223372036854775808 ≤ vI (cellAt l j o) ∧ vI (cellAt l j o) ≤ 9223372036854775807) (hkr : kraftL l ≤ 32768) (hx0 : x 0 = symN l 0 l.length) (hx1 : x 1 = symN l 1 l.length) (hx2 : x 2 = symN l 2 l.length) (hx3 : x 3 = symN l 3 l.length) (hx4 : x 4 = symN l 4 l.length) (hx5 : x 5 = symN l 5 l.length) (hx6 : x 6 = symN l 6 l.length) (hx7 : x 7 = symN l 7 l.length) (hx8 : x 8 = symN l 8 l.length) (hx9 : x 9 = symN l 9 l.length) (hx10 : x 10 = symN l 10 l.length) (hx11 : x 11 = symN l 11 l.length) (hx12 : x 12 = symN l 12 l.length) (hx13 : x 13 = symN l 13 l.length) (hx14 : x 14 = symN l 14 l.length) (hx15 : x 15 = symN l 15 l.length) (hxl0 : (x 0).length ≤ l.length) (hxl1 : (x 1).length ≤ l.length) (hxl2 : (x 2).length ≤ l.length) (hxl3 : (x 3).length ≤ l.length) (hxl4 : (x 4).length ≤ l.length) (hxl5 : (x 5).length ≤ l.length) (hxl6 : (x 6).length ≤ l.length) (hxl7 : (x 7).length ≤ l.length) (hxl8 : (x 8).length ≤ l.length) (hxl9 : (x 9).length ≤ l.length) (hxl10 : (x 10).length ≤ l.length) (hxl11 : (x 11).length ≤ l.length) (hxl12 : (x 12).length ≤ l.length) (hxl13 : (x 13).length ≤ l.length) (hxl14 : (x 14).length ≤ l.length) (hxl15 : (x 15).length ≤ l.length) : W (mkC Try.prog tt 88 [.row false 3 [.int .i64] l] gg ww) (lopB (blkB (seqR (seqL (seqR (seqR (seqR (seqR (seqR (bodyC Try.f19)))))))))) (Exit.then (fun a w => ∃ n, (1 ≤ n ∧ n ≤ 16) ∧ 16 - n < 16 - 15 ∧ Sat (mkC Try.prog tt 88 [.row false 3 [.int .i64] l] gg ww) (⟨[(2, none, .sv (.lf (.val (.pointer none)))), eB 3 false, eP 4 2 0, eI 7 (endL l (n - 1)), eI 8 (n : Int)], [lI 3 l, rII 42 (outS l n 0), .blk true 52 (tblC 1 3 (n - 1) l)] ++ rowsX 3 x, oL 1 18⟩) a w) Q) ⟨[(2, none, .sv (.lf (.val (.pointer none)))), eB 3 false, eP 4 2 0, eI 7 (endL l 14), eI 8 (15 : Int)], [lI 3 l, rII 42 (outS l 15 0), .blk true 52 (tblC 1 3 14 l)] ++ rowsX 3 x, oL 1 18⟩ := by
  have hbe := endL_bd hkr (n := 14) (by decide)
  refine W.seq ?_
  refine W.sx tt_ok [⟨0, 0, none⟩, ⟨0, 1, none⟩] [2, 3, 4, 7, 8, 53] (List.range 19) ⟨[(2, none, .sv (.lf (.val (.pointer none)))), eB 3 false, eP 4 2 0, eI 7 (endL l 14), eI 8 (15 : Int), eB 53 true], [lI 3 l, rII 42 (outS l 15 0), .blk true 52 (tblC 1 3 14 l)] ++ rowsX 3 x, oL 1 18⟩ [(15 : Int) ≤ (15 : Int)] (by kernel_rfl) ⟨(by omega), trivial⟩ ?_
  refine W.cond (p := true) (by kernel_rfl) (fun _ => ?_) (fun h => nomatch h)
  refine W.skip ?_
  refine W.next ?_
  refine W.seq ?_
  refine W.block ?_
  refine W.sx tt_ok [] [2, 3, 4, 7, 8] (List.range 19) ⟨[(2, none, .sv (.lf (.val (.pointer none)))), eB 3 false, eP 4 2 0, eI 7 ((endL l 14) * (2 : Int)), eI 8 (15 : Int)], [lI 3 l, rII 42 (outS l 15 0), .blk true 52 (tblC 1 3 14 l)] ++ rowsX 3 x, oL 1 18⟩ [inK .i64 ((endL l 14) * (2 : Int))] (by kernel_rfl) ⟨(by simp only [inK]; omega), trivial⟩ ?_
  generalize hv15 : (endL l 14) * (2 : Int) = v15
  obtain rfl : v15 = baseL l 15 := by rw [← hv15]; exact base_dbl l 15 (by decide)
  have hb15 := baseL_bd hkr (n := 15) (by decide) (by decide)
  refine W.sx tt_ok [⟨0, 0, none⟩, ⟨0, 0, none⟩, ⟨0, 0, none⟩, ⟨0, 0, none⟩, ⟨0, 0, none⟩, ⟨0, 1, none⟩] [2, 3, 4, 7, 8] (List.range 19) ⟨[(2, none, .sv (.lf (.val (.pointer none)))), eB 3 false, eP 4 2 0, eI 7 (baseL l 15), eI 8 (15 : Int)], [lI 3 l, rII 42 (outS l 15 0), .blk true 52 (tblC 1 3 15 l)] ++ rowsX 3 x, oL 1 18⟩ [0 ≤ (15 : Int) ∧ (15 : Int) < (16 : Int)] (by kernel_rfl) ⟨(by omega), trivial⟩ ?_
  refine W.sx tt_ok [⟨0, 0, none⟩, ⟨0, 0, none⟩, ⟨0, 0, none⟩, ⟨0, 0, none⟩, ⟨0, 1, none⟩] [2, 3, 4, 7, 8, 69, 70, 71] (List.range 19) ⟨[(2, none, .sv (.lf (.val (.pointer none)))), eB 3 false, eP 4 2 0, eI 7 (baseL l 15), eI 8 (15 : Int), eR 69 18, eI 70 ((x 15).length : Int), eI 71 (0 : Int)], [lI 3 l, rII 42 (outS l 15 0), .blk true 52 (tblC 1 3 15 l)] ++ rowsX 3 x, oL 1 18⟩ [0 ≤ (15 : Int) ∧ (15 : Int) < (16 : Int)] (by kernel_rfl) ⟨(by omega), trivial⟩ ?_
  refine W.block ?_
  refine W.loop (ι := Int × Int × List (List Value)) (fun z => ⟨[(2, none, .sv (.lf (.val (.pointer none)))), eB 3 false, eP 4 2 0, eI 7 z.1, eI 8 (15 : Int), eR 69 18, eI 70 ((x 15).length : Int), eI 71 z.2.1], [lI 3 l, rII 42 z.2.2, .blk true 52 (tblC 1 3 15 l)] ++ rowsX 3 x, oL 1 18⟩) (fun z => (0 ≤ z.2.1 ∧ z.2.1 ≤ ((x 15).length : Int)) ∧ (z.1 = baseL l 15 + z.2.1) ∧ (z.2.2 = outS l 15 z.2.1)) (fun z => (((x 15).length : Int) - z.2.1).toNat) ⟨(baseL l 15), 0, (outS l 15 0)⟩ (show (0 ≤ (0 : Int) ∧ (0 : Int) ≤ ((x 15).length : Int)) ∧ ((baseL l 15) = baseL l 15 + (0 : Int)) ∧ ((outS l 15 0) = outS l 15 (0 : Int)) from ⟨by omega, by omega, rfl⟩) rfl ?_
  rintro ⟨c, j, zs⟩ ⟨hj, hc, hz2⟩
  dsimp only at hj hc hz2
  have hzl : zs.length = l.length := by rw [hz2, outS_len]
  have hbb := endL_bd hkr (n := 15) (by decide)
  have hee := end_base l 15 (by decide) hx15
  have hsy0 := fun h => sym_ok (n := 15) (j := j) hx15 hj.1 h
  refine W.sx tt_ok [] [2, 3, 4, 7, 8, 69, 70, 71, 72] (List.range 19) ⟨[(2, none, .sv (.lf (.val (.pointer none)))), eB 3 false, eP 4 2 0, eI 7 c, eI 8 (15 : Int), eR 69 18, eI 70 ((x 15).length : Int), eI 71 j, eB 72 (decide (j < ((x 15).length : Int)))], [lI 3 l, rII 42 zs, .blk true 52 (tblC 1 3 15 l)] ++ rowsX 3 x, oL 1 18⟩ [] (by kernel_rfl) trivial ?_
  refine W.seq ?_
  refine W.cond (p := (decide (j < ((x 15).length : Int)))) (by kernel_rfl) (fun h4 => ?_) (fun h4 => ?_)
  · have h4p := of_decide_eq_true h4
    have hsy := hsy0 (by omega)
    refine W.skip ?_
    refine W.next ?_
    refine W.seq ?_
    refine W.block ?_
    refine W.sx tt_ok [] [2, 3, 4, 7, 8, 10, 69, 70, 71] (List.range 19) ⟨[(2, none, .sv (.lf (.val (.pointer none)))), eB 3 false, eP 4 2 0, eI 7 c, eI 8 (15 : Int), eI 10 (vI (cellAt (x 15) j.toNat 0)), eR 69 18, eI 70 ((x 15).length : Int), eI 71 j], [lI 3 l, rII 42 zs, .blk true 52 (tblC 1 3 15 l)] ++ rowsX 3 x, oL 1 18⟩ [0 ≤ j ∧ j < ((x 15).length : Int), 0 ≤ j ∧ j < ((x 15).length : Int)] (by kernel_rfl) ⟨(by omega), (by omega), trivial⟩ ?_
    refine W.sx tt_ok [] [2, 3, 4, 7, 8, 69, 70, 71] (List.range 19) ⟨[(2, none, .sv (.lf (.val (.pointer none)))), eB 3 false, eP 4 2 0, eI 7 c, eI 8 (15 : Int), eR 69 18, eI 70 ((x 15).length : Int), eI 71 j], [lI 3 l, rII 42 (zs.set (vI (cellAt (x 15) j.toNat 0)).toNat [wI (15 : Int), wI c]), .blk true 52 (tblC 1 3 15 l)] ++ rowsX 3 x, oL 1 18⟩ [0 ≤ (vI (cellAt (x 15) j.toNat 0)) ∧ (vI (cellAt (x 15) j.toNat 0)) < (zs.length : Int), 0 ≤ (vI (cellAt (x 15) j.toNat 0)) ∧ (vI (cellAt (x 15) j.toNat 0)) < (zs.length : Int)] (by kernel_rfl) ⟨(by omega), (by omega), trivial⟩ ?_
    refine W.regionX tt_ok [] [2, 3, 4, 7, 8, 69, 70, 71] (List.range 19) ⟨[(2, none, .sv (.lf (.val (.pointer none)))), eB 3 false, eP 4 2 0, eI 7 (c + (1 : Int)), eI 8 (15 : Int), eR 69 18, eI 70 ((x 15).length : Int), eI 71 j], [lI 3 l, rII 42 (zs.set (vI (cellAt (x 15) j.toNat 0)).toNat [wI (15 : Int), wI c]), .blk true 52 (tblC 1 3 15 l)] ++ rowsX 3 x, oL 1 18⟩ [inK .i64 (c + (1 : Int))] (by kernel_rfl) ⟨(by simp only [inK]; omega), trivial⟩ ?_
    refine unblock ?_
    refine W.next ?_
    refine W.regionX tt_ok [] [2, 3, 4, 7, 8, 69, 70, 71] (List.range 19) ⟨[(2, none, .sv (.lf (.val (.pointer none)))), eB 3 false, eP 4 2 0, eI 7 (c + (1 : Int)), eI 8 (15 : Int), eR 69 18, eI 70 ((x 15).length : Int), eI 71 (j + (1 : Int))], [lI 3 l, rII 42 (zs.set (vI (cellAt (x 15) j.toNat 0)).toNat [wI (15 : Int), wI c]), .blk true 52 (tblC 1 3 15 l)] ++ rowsX 3 x, oL 1 18⟩ [inK .i64 (j + (1 : Int))] (by kernel_rfl) ⟨(by simp only [inK]; omega), trivial⟩ ?_
    exact againK [2, 3, 4, 7, 8, 69, 70, 71] (List.range 19) ⟨[(2, none, .sv (.lf (.val (.pointer none)))), eB 3 false, eP 4 2 0, eI 7 (c + (1 : Int)), eI 8 (15 : Int), eR 69 18, eI 70 ((x 15).length : Int), eI 71 (j + (1 : Int))], [lI 3 l, rII 42 (zs.set (vI (cellAt (x 15) j.toNat 0)).toNat [wI (15 : Int), wI c]), .blk true 52 (tblC 1 3 15 l)] ++ rowsX 3 x, oL 1 18⟩ (by kernel_rfl) ⟨(c + (1 : Int)), (j + (1 : Int)), (zs.set (vI (cellAt (x 15) j.toNat 0)).toNat [Value.int .i64 (15 : Int), Value.int .i64 c])⟩ (show (0 ≤ (j + (1 : Int)) ∧ (j + (1 : Int)) ≤ ((x 15).length : Int)) ∧ ((c + (1 : Int)) = baseL l 15 + (j + (1 : Int))) ∧ ((zs.set (vI (cellAt (x 15) j.toNat 0)).toNat [Value.int .i64 (15 : Int), Value.int .i64 c]) = outS l 15 (j + (1 : Int))) from ⟨by omega, by omega, by rw [hz2, hc]; exact outS_set (n := 15) (by decide) (by omega) hsy.2.2.1 hsy.2.2.2⟩) (show (((x 15).length : Int) - (j + (1 : Int))).toNat < (((x 15).length : Int) - j).toNat from by omega) rfl
  · have h4p := of_decide_eq_false h4
    refine W.exit ?_
    refine exit_then ?_
    refine exit_then ?_
    obtain rfl : j = ((x 15).length : Int) := by omega
    obtain rfl : c = (endL l 15) := by omega
    obtain rfl : zs = (outS l 16 0) := by rw [hz2]; exact outS_end l 15 hx15
    refine exit_here ?_
    refine unblock ?_
    refine W.next ?_
    refine W.regionX tt_ok [] [2, 3, 4, 7, 8] (List.range 19) ⟨[(2, none, .sv (.lf (.val (.pointer none)))), eB 3 false, eP 4 2 0, eI 7 (endL l 15), eI 8 (16 : Int)], [lI 3 l, rII 42 (outS l 16 0), .blk true 52 (tblC 1 3 15 l)] ++ rowsX 3 x, oL 1 18⟩ [inK .i64 ((15 : Int) + (1 : Int))] (by kernel_rfl) ⟨(by simp only [inK]; omega), trivial⟩ ?_
    exact againK [2, 3, 4, 7, 8] (List.range 19) ⟨[(2, none, .sv (.lf (.val (.pointer none)))), eB 3 false, eP 4 2 0, eI 7 (endL l 15), eI 8 (16 : Int)], [lI 3 l, rII 42 (outS l 16 0), .blk true 52 (tblC 1 3 15 l)] ++ rowsX 3 x, oL 1 18⟩ (by kernel_rfl) 16 (by decide) (by decide) (by kernel_rfl)
end T3
end Go.Proofs.Ytpjiobflmcmlmaa
