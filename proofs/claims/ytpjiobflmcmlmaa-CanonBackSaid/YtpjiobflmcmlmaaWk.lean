/- Printed: contracts of the functions. -/
import Derived.Test.YtpjiobflmcmlmaaChecked
import Derived.Test.YtpjiobflmcmlmaaRsY
import Derived.Test.YtpjiobflmcmlmaaRsCanon
set_option linter.unusedVariables false
set_option linter.unusedSimpArgs false
set_option maxRecDepth 100000
set_option maxHeartbeats 2000000
namespace Go.Proofs.Ytpjiobflmcmlmaa
open Go Go.Proofs.Ytpjiobflmcmlmaa.RS Go.RowKit
theorem hm : Try.prog.follows .mixedOrders = true := Try.checked.mixed
def tt : TT := [(3, ⟨.int .i64, 1, 8, (.int .i64 (0 : Int)), []⟩), (4, ⟨.bool, 1, 1, (.bool false), []⟩), (22, ⟨.sl 3, 1, 24, (.slice none 0 0), []⟩), (23, ⟨.sl 4, 1, 24, (.slice none 0 0), []⟩), (27, ⟨.sl 42, 1, 24, (.slice none 0 0), []⟩), (42, ⟨.st [(3, 0), (3, 1)], 2, 16, (.agg #[(.int .i64 (0 : Int)), (.int .i64 (0 : Int))]), [.int .i64, .int .i64]⟩)]
def tt0 : TT := [(3, ⟨.int .i64, 1, 8, (.int .i64 (0 : Int)), []⟩), (4, ⟨.bool, 1, 1, (.bool false), []⟩), (22, ⟨.sl 3, 1, 24, (.slice none 0 0), []⟩), (23, ⟨.sl 4, 1, 24, (.slice none 0 0), []⟩), (27, ⟨.sl 42, 1, 24, (.slice none 0 0), []⟩)]
theorem tt0_ok : tt0.ok Try.prog := (TT.ok_cons (by kernel_rfl) (by kernel_rfl) (fun h => absurd rfl h) (TT.ok_cons (by kernel_rfl) (by kernel_rfl) (fun h => absurd rfl h) (TT.ok_cons (by kernel_rfl) (by kernel_rfl) (fun h => absurd rfl h) (TT.ok_cons (by kernel_rfl) (by kernel_rfl) (fun h => absurd rfl h) (TT.ok_cons (by kernel_rfl) (by kernel_rfl) (fun h => absurd rfl h) (TT.ok_nil _))))))
theorem eqok42 : EqOK Try.prog 42 [.int .i64, .int .i64] := EqOK.of tt0_ok Try.underlying42 (by kernel_rfl) (by kernel_rfl) (by kernel_rfl)
theorem tt_ok : tt.ok Try.prog := (TT.ok_cons (by kernel_rfl) (by kernel_rfl) (fun h => absurd rfl h) (TT.ok_cons (by kernel_rfl) (by kernel_rfl) (fun h => absurd rfl h) (TT.ok_cons (by kernel_rfl) (by kernel_rfl) (fun h => absurd rfl h) (TT.ok_cons (by kernel_rfl) (by kernel_rfl) (fun h => absurd rfl h) (TT.ok_cons (by kernel_rfl) (by kernel_rfl) (fun h => absurd rfl h) (TT.ok_cons (by kernel_rfl) (by kernel_rfl) (fun _ => eqok42) (TT.ok_nil _)))))))
theorem Power_spec (n : Int) (hn : n ≤ 61) : RS.Spec Try.prog 18 [] [.sv (.lf (.val (.int .i64 n)))] [] (.sv (.lf (.val (.int .i64 ((2 : Int) ^ n.toNat))))) := by
  refine RS.Spec.intro (tt := tt) (nt := 13) Try.f18 _ Try.func18 (FnOK.of Try.func18 rfl rfl) rfl rfl (by simp) (fun gg ww => ?_)
  refine W.sx tt_ok [] [0, 2] [] ⟨[eI 0 n, eI 2 (0 : Int)], [], oL 0 0⟩ [] (by kernel_rfl) trivial ?_
  refine W.sx tt_ok [] [0, 2, 3] [] ⟨[eI 0 n, eI 2 (0 : Int), eI 3 (1 : Int)], [], oL 0 0⟩ [] (by kernel_rfl) trivial ?_
  refine W.seq ?_
  refine W.sx tt_ok [] [0, 2, 3, 4] [] ⟨[eI 0 n, eI 2 (0 : Int), eI 3 (1 : Int), eI 4 (0 : Int)], [], oL 0 0⟩ [] (by kernel_rfl) trivial ?_
  refine W.block ?_
  refine W.loop (ι := Int × Int) (fun z => ⟨[eI 0 n, eI 2 (0 : Int), eI 3 z.1, eI 4 z.2], [], oL 0 0⟩) (fun z => (0 ≤ z.2 ∧ z.2 ≤ max n 0) ∧ (z.1 = 2 ^ z.2.toNat)) (fun z => (n - z.2).toNat) ⟨1, 0⟩ (show (0 ≤ (0 : Int) ∧ (0 : Int) ≤ max n 0) ∧ ((1 : Int) = 2 ^ (0 : Int).toNat) from ⟨by omega, rfl⟩) rfl ?_
  rintro ⟨x, i⟩ ⟨hi, hx⟩
  dsimp only at hi hx
  have hxb := pow_le61 (k := i.toNat) (by omega)
  rw [← hx] at hxb
  refine W.seq ?_
  refine W.sx tt_ok [] [0, 2, 3, 4, 7] [] ⟨[eI 0 n, eI 2 (0 : Int), eI 3 x, eI 4 i, eB 7 (decide (i < n))], [], oL 0 0⟩ [] (by kernel_rfl) trivial ?_
  refine W.cond (p := (decide (i < n))) (by kernel_rfl) (fun h1 => ?_) (fun h1 => ?_)
  · have h1p := of_decide_eq_true h1
    refine W.skip ?_
    refine W.next ?_
    refine W.seq ?_
    refine W.block ?_
    refine W.regionX tt_ok [] [0, 2, 3, 4] [] ⟨[eI 0 n, eI 2 (0 : Int), eI 3 ((2 : Int) * x), eI 4 i], [], oL 0 0⟩ [inK .i64 ((2 : Int) * x)] (by kernel_rfl) ⟨(by simp only [inK]; omega), trivial⟩ ?_
    refine unblock ?_
    refine W.next ?_
    refine W.regionX tt_ok [] [0, 2, 3, 4] [] ⟨[eI 0 n, eI 2 (0 : Int), eI 3 ((2 : Int) * x), eI 4 (i + (1 : Int))], [], oL 0 0⟩ [inK .i64 (i + (1 : Int))] (by kernel_rfl) ⟨(by simp only [inK]; omega), trivial⟩ ?_
    exact againK [0, 2, 3, 4] [] ⟨[eI 0 n, eI 2 (0 : Int), eI 3 ((2 : Int) * x), eI 4 (i + (1 : Int))], [], oL 0 0⟩ (by kernel_rfl) ⟨((2 : Int) * x), (i + (1 : Int))⟩ (show (0 ≤ (i + (1 : Int)) ∧ (i + (1 : Int)) ≤ max n 0) ∧ (((2 : Int) * x) = 2 ^ (i + (1 : Int)).toNat) from ⟨by omega, by rw [show ((i + (1 : Int))).toNat = i.toNat + 1 by omega, Int.pow_succ, ← hx]; omega⟩) (show (n - (i + (1 : Int))).toNat < (n - i).toNat from by omega) rfl
  · have h1p := of_decide_eq_false h1
    refine W.exit ?_
    refine exit_then ?_
    refine exit_then ?_
    refine exit_here ?_
    refine W.next ?_
    refine W.sx tt_ok [] [2] [] ⟨[eI 2 x], [], oL 0 0⟩ [] (by kernel_rfl) trivial ?_
    exact W.retq tt_ok Try.f18 [] [] (.sv (.lf (.val (.int .i64 x)))) (by kernel_rfl) (rfl) (by rw [hx, show i.toNat = n.toNat by omega]) (fun _ _ h => h)
theorem Append_spec (xs : List (List Value)) (n : Int) (w : Int) (hn : 0 ≤ n ∧ n ≤ 9223372036854775807) (hw : 0 ≤ w ∧ w ≤ 30) (hx : (xs.length : Int) + 30 ≤ 140737488355328) : RS.Spec Try.prog 20 [.row true 4 [.bool] xs] [.sv (.lf (.row 0)), .sv (.lf (.val (.int .i64 n))), .sv (.lf (.val (.int .i64 w)))] [.row true 4 [.bool] (bAppend xs n w)] (.sv (.lf (.row 0))) := by
  refine RS.Spec.intro (tt := tt) (nt := 23) Try.f20 _ Try.func20 (FnOK.of Try.func20 rfl rfl) rfl rfl (by simp) (fun gg ww => ?_)
  refine W.sx tt_ok [] [0, 1, 2, 6] [0] ⟨[eR 0 0, eI 1 n, eI 2 w, (6, none, .sv (.lf (.val (.slice none 0 0))))], [rB 4 xs], oL 1 0⟩ [] (by kernel_rfl) trivial ?_
  refine W.seq ?_
  refine W.sx tt_ok [] [0, 1, 6, 7] [0] ⟨[eR 0 0, eI 1 n, (6, none, .sv (.lf (.val (.slice none 0 0)))), eI 7 (w - (1 : Int))], [rB 4 xs], oL 1 0⟩ [inK .i64 (w - (1 : Int))] (by kernel_rfl) ⟨(by simp only [inK]; omega), trivial⟩ ?_
  refine W.block ?_
  refine W.og [none] (by kernel_rfl) ?_
  refine W.loop (ι := Int × List (List Value)) (fun z => ⟨[eR 0 0, eI 1 n, (6, none, .sv (.lf (.val (.slice none 0 0)))), eI 7 z.1], [rB 4 z.2], oL 0 1⟩) (fun z => (-1 ≤ z.1 ∧ z.1 < w) ∧ (z.2 ++ appN n (z.1 + 1).toNat = xs ++ appN n w.toNat) ∧ ((z.2.length : Int) + z.1 + 1 = (xs.length : Int) + w)) (fun z => (z.1 + 1).toNat) ⟨(w - (1 : Int)), xs⟩ (show (-1 ≤ (w - (1 : Int)) ∧ (w - (1 : Int)) < w) ∧ (xs ++ appN n ((w - (1 : Int)) + 1).toNat = xs ++ appN n w.toNat) ∧ ((xs.length : Int) + (w - (1 : Int)) + 1 = (xs.length : Int) + w) from ⟨by omega, by rw [show (w - 1 + 1).toNat = w.toNat by omega], by (try simp only [List.length_nil]); omega⟩) rfl ?_
  rintro ⟨i, ys⟩ ⟨hi, hy, hl⟩
  dsimp only at hi hy hl
  refine W.seq ?_
  refine W.sx tt_ok [] [0, 1, 6, 7, 11] [0] ⟨[eR 0 0, eI 1 n, (6, none, .sv (.lf (.val (.slice none 0 0)))), eI 7 i, eB 11 (decide ((0 : Int) ≤ i))], [rB 4 ys], oL 0 1⟩ [] (by kernel_rfl) trivial ?_
  refine W.cond (p := (decide ((0 : Int) ≤ i))) (by kernel_rfl) (fun h1 => ?_) (fun h1 => ?_)
  · have h1p := of_decide_eq_true h1
    refine W.skip ?_
    refine W.next ?_
    refine W.seq ?_
    refine W.block ?_
    refine W.regionX tt_ok [] [0, 1, 6, 7] [0] ⟨[eR 0 0, eI 1 n, (6, none, .sv (.lf (.val (.slice none 0 0)))), eI 7 i], [rB 4 (ys ++ ([[Value.bool (decide ((bitop .and .i64 (n / 2 ^ i.toNat) (1 : Int)) = (1 : Int)))]]))], oL 0 1⟩ [0 ≤ i ∧ i ≤ (64 : Int), (ys.length + ([[Value.bool (decide ((bitop .and .i64 (n / 2 ^ i.toNat) (1 : Int)) = (1 : Int)))]]).length) * 1 ≤ 140737488355328] (by kernel_rfl) ⟨(by omega), (by (try simp only [inK, List.length_append, List.length_cons, List.length_nil, List.length_replicate, strVals_len, bstr_len, set_len, ByteArray.size_append, Nat.mul_one, List.length_drop, List.length_take, appN_len]); all_goals first | omega | trivial | (simp; done) | (simp_all; done) | (simp_all; omega)), trivial⟩ ?_
    refine unblock ?_
    refine W.next ?_
    refine W.regionX tt_ok [] [0, 1, 6, 7] [0] ⟨[eR 0 0, eI 1 n, (6, none, .sv (.lf (.val (.slice none 0 0)))), eI 7 (i - (1 : Int))], [rB 4 (ys ++ ([[Value.bool (decide ((bitop .and .i64 (n / 2 ^ i.toNat) (1 : Int)) = (1 : Int)))]]))], oL 0 1⟩ [inK .i64 (i - (1 : Int))] (by kernel_rfl) ⟨(by simp only [inK]; omega), trivial⟩ ?_
    exact againK [0, 1, 6, 7] [0] ⟨[eR 0 0, eI 1 n, (6, none, .sv (.lf (.val (.slice none 0 0)))), eI 7 (i - (1 : Int))], [rB 4 (ys ++ ([[Value.bool (decide ((bitop .and .i64 (n / 2 ^ i.toNat) (1 : Int)) = (1 : Int)))]]))], oL 0 1⟩ (by kernel_rfl) ⟨(i - (1 : Int)), (ys ++ ([[Value.bool (decide ((bitop .and .i64 (n / 2 ^ i.toNat) (1 : Int)) = (1 : Int)))]]))⟩ (show (-1 ≤ (i - (1 : Int)) ∧ (i - (1 : Int)) < w) ∧ ((ys ++ ([[Value.bool (decide ((bitop .and .i64 (n / 2 ^ i.toNat) (1 : Int)) = (1 : Int)))]])) ++ appN n ((i - (1 : Int)) + 1).toNat = xs ++ appN n w.toNat) ∧ (((ys ++ ([[Value.bool (decide ((bitop .and .i64 (n / 2 ^ i.toNat) (1 : Int)) = (1 : Int)))]])).length : Int) + (i - (1 : Int)) + 1 = (xs.length : Int) + w) from ⟨by omega, by rw [← hy, show (i + 1).toNat = i.toNat + 1 by omega, appN, show ((i.toNat : Nat) : Int) = i by omega, show ((i - (1 : Int)) + 1).toNat = i.toNat by omega]; simp, by simp only [List.length_append, List.length_cons, List.length_nil]; omega⟩) (show ((i - (1 : Int)) + 1).toNat < (i + 1).toNat from by omega) rfl
  · have h1p := of_decide_eq_false h1
    refine W.exit ?_
    refine exit_then ?_
    refine exit_then ?_
    refine exit_here ?_
    refine W.next ?_
    refine W.sx tt_ok [] [6] [0] ⟨[eR 6 0], [rB 4 ys], oL 0 1⟩ [] (by kernel_rfl) trivial ?_
    exact W.retq tt_ok Try.f20 [0] [.row true 4 [.bool] ys] (.sv (.lf (.row 0))) (by kernel_rfl) (by unfold bAppend; rw [← hy, show (i + 1).toNat = 0 by omega, appN, List.append_nil]) (rfl) (fun _ _ h => h)
theorem AppendNil_spec (n : Int) (w : Int) (hn : 0 ≤ n ∧ n ≤ 9223372036854775807) (hw : 0 ≤ w ∧ w ≤ 30) : RS.Spec Try.prog 20 [] [.sv (.lf (.val (.slice none 0 0))), .sv (.lf (.val (.int .i64 n))), .sv (.lf (.val (.int .i64 w)))] [.row true 4 [.bool] (bAppend [] n w)] (.sv (.lf (.row 0))) := by
  refine RS.Spec.intro (tt := tt) (nt := 23) Try.f20 _ Try.func20 (FnOK.of Try.func20 rfl rfl) rfl rfl (by simp) (fun gg ww => ?_)
  refine W.nilrow 0 4 [.bool] ⟨[eR 0 0, eI 1 n, eI 2 w], [rB 4 ([] : List (List Value))], oL 0 0⟩ (by kernel_rfl) ?_
  refine W.sx tt_ok [] [0, 1, 2, 6] [0] ⟨[eR 0 0, eI 1 n, eI 2 w, (6, none, .sv (.lf (.val (.slice none 0 0))))], [rB 4 ([] : List (List Value))], oL 0 1⟩ [] (by kernel_rfl) trivial ?_
  refine W.seq ?_
  refine W.sx tt_ok [] [0, 1, 6, 7] [0] ⟨[eR 0 0, eI 1 n, (6, none, .sv (.lf (.val (.slice none 0 0)))), eI 7 (w - (1 : Int))], [rB 4 ([] : List (List Value))], oL 0 1⟩ [inK .i64 (w - (1 : Int))] (by kernel_rfl) ⟨(by simp only [inK]; omega), trivial⟩ ?_
  refine W.block ?_
  refine W.loop (ι := Int × List (List Value)) (fun z => ⟨[eR 0 0, eI 1 n, (6, none, .sv (.lf (.val (.slice none 0 0)))), eI 7 z.1], [rB 4 z.2], oL 0 1⟩) (fun z => (-1 ≤ z.1 ∧ z.1 < w) ∧ (z.2 ++ appN n (z.1 + 1).toNat = ([] : List (List Value)) ++ appN n w.toNat) ∧ ((z.2.length : Int) + z.1 + 1 = w)) (fun z => (z.1 + 1).toNat) ⟨(w - (1 : Int)), ([] : List (List Value))⟩ (show (-1 ≤ (w - (1 : Int)) ∧ (w - (1 : Int)) < w) ∧ (([] : List (List Value)) ++ appN n ((w - (1 : Int)) + 1).toNat = ([] : List (List Value)) ++ appN n w.toNat) ∧ ((([] : List (List Value)).length : Int) + (w - (1 : Int)) + 1 = w) from ⟨by omega, by rw [show (w - 1 + 1).toNat = w.toNat by omega], by (try simp only [List.length_nil]); omega⟩) rfl ?_
  rintro ⟨i, ys⟩ ⟨hi, hy, hl⟩
  dsimp only at hi hy hl
  refine W.seq ?_
  refine W.sx tt_ok [] [0, 1, 6, 7, 11] [0] ⟨[eR 0 0, eI 1 n, (6, none, .sv (.lf (.val (.slice none 0 0)))), eI 7 i, eB 11 (decide ((0 : Int) ≤ i))], [rB 4 ys], oL 0 1⟩ [] (by kernel_rfl) trivial ?_
  refine W.cond (p := (decide ((0 : Int) ≤ i))) (by kernel_rfl) (fun h1 => ?_) (fun h1 => ?_)
  · have h1p := of_decide_eq_true h1
    refine W.skip ?_
    refine W.next ?_
    refine W.seq ?_
    refine W.block ?_
    refine W.regionX tt_ok [] [0, 1, 6, 7] [0] ⟨[eR 0 0, eI 1 n, (6, none, .sv (.lf (.val (.slice none 0 0)))), eI 7 i], [rB 4 (ys ++ ([[Value.bool (decide ((bitop .and .i64 (n / 2 ^ i.toNat) (1 : Int)) = (1 : Int)))]]))], oL 0 1⟩ [0 ≤ i ∧ i ≤ (64 : Int), (ys.length + ([[Value.bool (decide ((bitop .and .i64 (n / 2 ^ i.toNat) (1 : Int)) = (1 : Int)))]]).length) * 1 ≤ 140737488355328] (by kernel_rfl) ⟨(by omega), (by (try simp only [inK, List.length_append, List.length_cons, List.length_nil, List.length_replicate, strVals_len, bstr_len, set_len, ByteArray.size_append, Nat.mul_one, List.length_drop, List.length_take, appN_len]); all_goals first | omega | trivial | (simp; done) | (simp_all; done) | (simp_all; omega)), trivial⟩ ?_
    refine unblock ?_
    refine W.next ?_
    refine W.regionX tt_ok [] [0, 1, 6, 7] [0] ⟨[eR 0 0, eI 1 n, (6, none, .sv (.lf (.val (.slice none 0 0)))), eI 7 (i - (1 : Int))], [rB 4 (ys ++ ([[Value.bool (decide ((bitop .and .i64 (n / 2 ^ i.toNat) (1 : Int)) = (1 : Int)))]]))], oL 0 1⟩ [inK .i64 (i - (1 : Int))] (by kernel_rfl) ⟨(by simp only [inK]; omega), trivial⟩ ?_
    exact againK [0, 1, 6, 7] [0] ⟨[eR 0 0, eI 1 n, (6, none, .sv (.lf (.val (.slice none 0 0)))), eI 7 (i - (1 : Int))], [rB 4 (ys ++ ([[Value.bool (decide ((bitop .and .i64 (n / 2 ^ i.toNat) (1 : Int)) = (1 : Int)))]]))], oL 0 1⟩ (by kernel_rfl) ⟨(i - (1 : Int)), (ys ++ ([[Value.bool (decide ((bitop .and .i64 (n / 2 ^ i.toNat) (1 : Int)) = (1 : Int)))]]))⟩ (show (-1 ≤ (i - (1 : Int)) ∧ (i - (1 : Int)) < w) ∧ ((ys ++ ([[Value.bool (decide ((bitop .and .i64 (n / 2 ^ i.toNat) (1 : Int)) = (1 : Int)))]])) ++ appN n ((i - (1 : Int)) + 1).toNat = ([] : List (List Value)) ++ appN n w.toNat) ∧ (((ys ++ ([[Value.bool (decide ((bitop .and .i64 (n / 2 ^ i.toNat) (1 : Int)) = (1 : Int)))]])).length : Int) + (i - (1 : Int)) + 1 = w) from ⟨by omega, by rw [← hy, show (i + 1).toNat = i.toNat + 1 by omega, appN, show ((i.toNat : Nat) : Int) = i by omega, show ((i - (1 : Int)) + 1).toNat = i.toNat by omega]; simp, by simp only [List.length_append, List.length_cons, List.length_nil]; omega⟩) (show ((i - (1 : Int)) + 1).toNat < (i + 1).toNat from by omega) rfl
  · have h1p := of_decide_eq_false h1
    refine W.exit ?_
    refine exit_then ?_
    refine exit_then ?_
    refine exit_here ?_
    refine W.next ?_
    refine W.sx tt_ok [] [6] [0] ⟨[eR 6 0], [rB 4 ys], oL 0 1⟩ [] (by kernel_rfl) trivial ?_
    exact W.retq tt_ok Try.f20 [0] [.row true 4 [.bool] ys] (.sv (.lf (.row 0))) (by kernel_rfl) (by unfold bAppend; rw [← hy, show (i + 1).toNat = 0 by omega, appN, List.append_nil]) (rfl) (fun _ _ h => h)
theorem Same_spec (xs : List (List Value)) (ys : List (List Value)) (hx : (xs.length : Int) ≤ 140737488355328) (hy : (ys.length : Int) ≤ 140737488355328) : RS.Spec Try.prog 16 [.row false 4 [.bool] xs, .row false 4 [.bool] ys] [.sv (.lf (.row 0)), .sv (.lf (.row 1))] [.row false 4 [.bool] xs, .row false 4 [.bool] ys] (.sv (.lf (.val (.bool (sameB xs ys))))) := by
  refine RS.Spec.intro (tt := tt) (nt := 26) Try.f16 _ Try.func16 (FnOK.of Try.func16 rfl rfl) rfl rfl (by simp) (fun gg ww => ?_)
  refine W.sx tt_ok [] [0, 1, 4] [0, 1] ⟨[eR 0 0, eR 1 1, eB 4 false], [lB 4 xs, lB 4 ys], oL 2 0⟩ [] (by kernel_rfl) trivial ?_
  refine W.seq ?_
  refine W.sx tt_ok [] [0, 1, 4, 10] [0, 1] ⟨[eR 0 0, eR 1 1, eB 4 false, eB 10 (decide (¬ (xs.length : Int) = (ys.length : Int)))], [lB 4 xs, lB 4 ys], oL 2 0⟩ [] (by kernel_rfl) trivial ?_
  refine W.cond (p := (decide (¬ (xs.length : Int) = (ys.length : Int)))) (by kernel_rfl) (fun h1 => ?_) (fun h1 => ?_)
  · have h1p := h1
    try simp only [orB, andB, Bool.or_eq_true, Bool.and_eq_true, Bool.or_eq_false_iff, Bool.and_eq_false_iff, Bool.not_eq_true', Bool.not_eq_false', decide_eq_true_eq, decide_eq_false_iff_not, Int.not_lt, Int.not_le, Decidable.not_not, List.length_replicate] at h1p
    refine W.sx tt_ok [] [0, 1, 4] [0, 1] ⟨[eR 0 0, eR 1 1, eB 4 false], [lB 4 xs, lB 4 ys], oL 2 0⟩ [] (by kernel_rfl) trivial ?_
    exact W.retq tt_ok Try.f16 [0, 1] [.row false 4 [.bool] xs, .row false 4 [.bool] ys] (.sv (.lf (.val (.bool false)))) (by kernel_rfl) (rfl) (by rw [sameB_len h1p]) (fun _ _ h => h)
  · have h1p := h1
    try simp only [orB, andB, Bool.or_eq_true, Bool.and_eq_true, Bool.or_eq_false_iff, Bool.and_eq_false_iff, Bool.not_eq_true', Bool.not_eq_false', decide_eq_true_eq, decide_eq_false_iff_not, Int.not_lt, Int.not_le, Decidable.not_not, List.length_replicate] at h1p
    refine W.skip ?_
    refine W.next ?_
    refine W.seq ?_
    refine W.sx tt_ok [] [0, 1, 4, 5] [0, 1] ⟨[eR 0 0, eR 1 1, eB 4 false, eI 5 (0 : Int)], [lB 4 xs, lB 4 ys], oL 2 0⟩ [] (by kernel_rfl) trivial ?_
    refine W.block ?_
    refine W.loop (ι := Int) (fun z => ⟨[eR 0 0, eR 1 1, eB 4 false, eI 5 z], [lB 4 xs, lB 4 ys], oL 2 0⟩) (fun z => (0 ≤ z ∧ z ≤ (xs.length : Int)) ∧ (∀ j : Nat, (j : Int) < z → bt xs j = bt ys j)) (fun z => ((xs.length : Int) - z).toNat) (0 : Int) (show (0 ≤ (0 : Int) ∧ (0 : Int) ≤ (xs.length : Int)) ∧ (∀ j : Nat, (j : Int) < (0 : Int) → bt xs j = bt ys j) from ⟨by omega, fun j hj => by omega⟩) rfl ?_
    rintro i ⟨hi, ha⟩
    refine W.seq ?_
    refine W.sx tt_ok [] [0, 1, 4, 5, 14] [0, 1] ⟨[eR 0 0, eR 1 1, eB 4 false, eI 5 i, eB 14 (decide (i < (xs.length : Int)))], [lB 4 xs, lB 4 ys], oL 2 0⟩ [] (by kernel_rfl) trivial ?_
    refine W.cond (p := (decide (i < (xs.length : Int)))) (by kernel_rfl) (fun h2 => ?_) (fun h2 => ?_)
    · have h2p := of_decide_eq_true h2
      refine W.skip ?_
      refine W.next ?_
      refine W.seq ?_
      refine W.block ?_
      refine W.sd hm tt_ok 9 (by kernel_rfl) [] [0, 1, 4, 5, 25] [0, 1] ⟨[eR 0 0, eR 1 1, eB 4 false, eI 5 i, eB 25 (decide (¬ (vB (cellAt xs i.toNat 0)) = (vB (cellAt ys i.toNat 0))))], [lB 4 xs, lB 4 ys], oL 2 0⟩ [0 ≤ i ∧ i < (xs.length : Int), 0 ≤ i ∧ i < (xs.length : Int), 0 ≤ i ∧ i < (ys.length : Int), 0 ≤ i ∧ i < (ys.length : Int)] (by kernel_rfl) ⟨(by omega), (by omega), (by omega), (by omega), trivial⟩ ?_
      refine W.cond (p := (decide (¬ (vB (cellAt xs i.toNat 0)) = (vB (cellAt ys i.toNat 0))))) (by kernel_rfl) (fun h3 => ?_) (fun h3 => ?_)
      · have h3p := h3
        try simp only [orB, andB, Bool.or_eq_true, Bool.and_eq_true, Bool.or_eq_false_iff, Bool.and_eq_false_iff, Bool.not_eq_true', Bool.not_eq_false', decide_eq_true_eq, decide_eq_false_iff_not, Int.not_lt, Int.not_le, Decidable.not_not, List.length_replicate] at h3p
        refine W.sx tt_ok [] [0, 1, 4, 5] [0, 1] ⟨[eR 0 0, eR 1 1, eB 4 false, eI 5 i], [lB 4 xs, lB 4 ys], oL 2 0⟩ [] (by kernel_rfl) trivial ?_
        exact W.retq tt_ok Try.f16 [0, 1] [.row false 4 [.bool] xs, .row false 4 [.bool] ys] (.sv (.lf (.val (.bool false)))) (by kernel_rfl) (rfl) (by first | rw [sameB_all (by omega) (fun j hj => ha j (by omega))] | rw [sameB_at (i := i) (by omega) (by omega) h3p]) (fun _ _ h => h)
      · have h3p := h3
        try simp only [orB, andB, Bool.or_eq_true, Bool.and_eq_true, Bool.or_eq_false_iff, Bool.and_eq_false_iff, Bool.not_eq_true', Bool.not_eq_false', decide_eq_true_eq, decide_eq_false_iff_not, Int.not_lt, Int.not_le, Decidable.not_not, List.length_replicate] at h3p
        refine W.skip ?_
        refine unblock ?_
        refine W.next ?_
        refine W.regionX tt_ok [] [0, 1, 4, 5] [0, 1] ⟨[eR 0 0, eR 1 1, eB 4 false, eI 5 (i + (1 : Int))], [lB 4 xs, lB 4 ys], oL 2 0⟩ [inK .i64 (i + (1 : Int))] (by kernel_rfl) ⟨(by simp only [inK]; omega), trivial⟩ ?_
        exact againK [0, 1, 4, 5] [0, 1] ⟨[eR 0 0, eR 1 1, eB 4 false, eI 5 (i + (1 : Int))], [lB 4 xs, lB 4 ys], oL 2 0⟩ (by kernel_rfl) (i + (1 : Int)) (show (0 ≤ (i + (1 : Int)) ∧ (i + (1 : Int)) ≤ (xs.length : Int)) ∧ (∀ j : Nat, (j : Int) < (i + (1 : Int)) → bt xs j = bt ys j) from ⟨by omega, fun j hj => by by_cases e : (j : Int) = i; exact (show j = i.toNat by omega) ▸ h3p; exact ha j (by omega)⟩) (show ((xs.length : Int) - (i + (1 : Int))).toNat < ((xs.length : Int) - i).toNat from by omega) rfl
    · have h2p := of_decide_eq_false h2
      refine W.exit ?_
      refine exit_then ?_
      refine exit_then ?_
      refine exit_here ?_
      refine W.next ?_
      refine W.sx tt_ok [] [4] [0, 1] ⟨[eB 4 true], [lB 4 xs, lB 4 ys], oL 2 0⟩ [] (by kernel_rfl) trivial ?_
      exact W.retq tt_ok Try.f16 [0, 1] [.row false 4 [.bool] xs, .row false 4 [.bool] ys] (.sv (.lf (.val (.bool true)))) (by kernel_rfl) (rfl) (by first | rw [sameB_all (by omega) (fun j hj => ha j (by omega))] | rw [sameB_at (i := i) (by omega) (by omega) h3p]) (fun _ _ h => h)
theorem rPut_spec (n : Int) (w : Int) (hn : inK .i64 n) (hw : inK .i64 w) : RS.Spec Try.prog 21 [] [.sv (.lf (.val (.slice none 0 0))), .sv (.lf (.val (.int .i64 n))), .sv (.lf (.val (.int .i64 w)))] [.row true 4 [.bool] ((bPut [] n w).1)] (.tup [.lf (.row 0), .lf (.val (.bool ((bPut [] n w).2)))]) := by
  refine RS.Spec.intro (tt := tt) (nt := 43) Try.f21 _ Try.func21 (FnOK.of Try.func21 rfl rfl) rfl rfl (by simp) (fun gg ww => ?_)
  simp only [inK] at hn hw
  have p30 : w ≤ 30 → (2 : Int) ^ w.toNat ≤ 1073741824 := fun h => pow_le30 (by omega)
  refine W.sx tt_ok [] [0, 1, 2, 6, 7] [] ⟨[(0, none, .sv (.lf (.val (.slice none 0 0)))), eI 1 n, eI 2 w, (6, none, .sv (.lf (.val (.slice none 0 0)))), eB 7 false], [], oL 0 0⟩ [] (by kernel_rfl) trivial ?_
  refine W.seq ?_
  refine W.sx tt_ok [] [0, 1, 2, 6, 7, 15] [] ⟨[(0, none, .sv (.lf (.val (.slice none 0 0)))), eI 1 n, eI 2 w, (6, none, .sv (.lf (.val (.slice none 0 0)))), eB 7 false, eB 15 (orB (decide (w < (0 : Int))) (decide ((30 : Int) < w)))], [], oL 0 0⟩ [] (by kernel_rfl) trivial ?_
  refine W.cond (p := (orB (decide (w < (0 : Int))) (decide ((30 : Int) < w)))) (by kernel_rfl) (fun h1 => ?_) (fun h1 => ?_)
  · have h1p := h1
    try simp only [orB, andB, Bool.or_eq_true, Bool.and_eq_true, Bool.or_eq_false_iff, Bool.and_eq_false_iff, Bool.not_eq_true', Bool.not_eq_false', decide_eq_true_eq, decide_eq_false_iff_not, Int.not_lt, Int.not_le, Decidable.not_not, List.length_replicate] at h1p
    refine W.sx tt_ok [] [0, 1, 2, 6, 7] [] ⟨[(0, none, .sv (.lf (.val (.slice none 0 0)))), eI 1 n, eI 2 w, (6, none, .sv (.lf (.val (.slice none 0 0)))), eB 7 false], [], oL 0 0⟩ [] (by kernel_rfl) trivial ?_
    refine W.nilrow 6 4 [.bool] ⟨[eR 6 0, (0, none, .sv (.lf (.val (.slice none 0 0)))), eI 1 n, eI 2 w, eB 7 false], [rB 4 ([] : List (List Value))], oL 0 0⟩ (by kernel_rfl) ?_
    exact W.retq tt_ok Try.f21 [0] [.row true 4 [.bool] ([] : List (List Value))] (.tup [.lf (.row 0), .lf (.val (.bool false))]) (by kernel_rfl) (by rw [bPut_w (by omega)]) (by rw [bPut_w (by omega)]) (fun _ _ h => h)
  · have h1p := h1
    try simp only [orB, andB, Bool.or_eq_true, Bool.and_eq_true, Bool.or_eq_false_iff, Bool.and_eq_false_iff, Bool.not_eq_true', Bool.not_eq_false', decide_eq_true_eq, decide_eq_false_iff_not, Int.not_lt, Int.not_le, Decidable.not_not, List.length_replicate] at h1p
    refine W.skip ?_
    refine W.next ?_
    refine W.seq ?_
    refine W.sx tt_ok [⟨0, 0, none⟩, ⟨0, 0, none⟩, ⟨0, 0, none⟩, ⟨0, 0, none⟩, ⟨0, 0, none⟩, ⟨3, 0, some ⟨[], [], .sv (.lf (.val (.int .i64 ((2 : Int) ^ w.toNat))))⟩⟩] [0, 1, 2, 6, 7, 23] [] ⟨[(0, none, .sv (.lf (.val (.slice none 0 0)))), eI 1 n, eI 2 w, (6, none, .sv (.lf (.val (.slice none 0 0)))), eB 7 false, eB 23 (orB (decide (n < (0 : Int))) (decide (((2 : Int) ^ w.toNat) ≤ n)))], [], oL 0 0⟩ [(decide (n < (0 : Int))) = false → RS.Spec Try.prog 18 [] [.sv (.lf (.val (.int .i64 w)))] [] (.sv (.lf (.val (.int .i64 ((2 : Int) ^ w.toNat)))))] (by kernel_rfl) ⟨(fun hc => by (try simp only [orB, andB, Bool.or_eq_true, Bool.and_eq_true, Bool.or_eq_false_iff, Bool.and_eq_false_iff, Bool.not_eq_true', Bool.not_eq_false', decide_eq_true_eq, decide_eq_false_iff_not, Int.not_lt, Int.not_le, Decidable.not_not, List.length_replicate, inK] at hc); exact (Power_spec w (by omega))), trivial⟩ ?_
    refine W.cond (p := (orB (decide (n < (0 : Int))) (decide (((2 : Int) ^ w.toNat) ≤ n)))) (by kernel_rfl) (fun h2 => ?_) (fun h2 => ?_)
    · have h2p := h2
      try simp only [orB, andB, Bool.or_eq_true, Bool.and_eq_true, Bool.or_eq_false_iff, Bool.and_eq_false_iff, Bool.not_eq_true', Bool.not_eq_false', decide_eq_true_eq, decide_eq_false_iff_not, Int.not_lt, Int.not_le, Decidable.not_not, List.length_replicate] at h2p
      refine W.sx tt_ok [] [0, 1, 2, 6, 7] [] ⟨[(0, none, .sv (.lf (.val (.slice none 0 0)))), eI 1 n, eI 2 w, (6, none, .sv (.lf (.val (.slice none 0 0)))), eB 7 false], [], oL 0 0⟩ [] (by kernel_rfl) trivial ?_
      refine W.nilrow 6 4 [.bool] ⟨[eR 6 0, (0, none, .sv (.lf (.val (.slice none 0 0)))), eI 1 n, eI 2 w, eB 7 false], [rB 4 ([] : List (List Value))], oL 0 0⟩ (by kernel_rfl) ?_
      exact W.retq tt_ok Try.f21 [0] [.row true 4 [.bool] ([] : List (List Value))] (.tup [.lf (.row 0), .lf (.val (.bool false))]) (by kernel_rfl) (by rw [bPut_n (by omega)]) (by rw [bPut_n (by omega)]) (fun _ _ h => h)
    · have h2p := h2
      try simp only [orB, andB, Bool.or_eq_true, Bool.and_eq_true, Bool.or_eq_false_iff, Bool.and_eq_false_iff, Bool.not_eq_true', Bool.not_eq_false', decide_eq_true_eq, decide_eq_false_iff_not, Int.not_lt, Int.not_le, Decidable.not_not, List.length_replicate] at h2p
      refine W.skip ?_
      refine W.next ?_
      refine W.sx tt_ok [] [1, 2, 6, 7, 8] [0] ⟨[eI 1 n, eI 2 w, (6, none, .sv (.lf (.val (.slice none 0 0)))), eB 7 false, eR 8 0], [rB 4 (([] : List (List Value)) ++ ([] : List (List Value)))], oL 0 1⟩ [(([] : List (List Value)).length + ([] : List (List Value)).length) * 1 ≤ 140737488355328] (by kernel_rfl) ⟨(by (try simp only [inK, List.length_append, List.length_cons, List.length_nil, List.length_replicate, strVals_len, bstr_len, set_len, ByteArray.size_append, Nat.mul_one, List.length_drop, List.length_take, appN_len]); all_goals first | omega | trivial | (simp; done) | (simp_all; done) | (simp_all; omega)), trivial⟩ ?_
      refine W.seq ?_
      refine W.sx tt_ok [] [1, 6, 7, 8, 9] [0] ⟨[eI 1 n, (6, none, .sv (.lf (.val (.slice none 0 0)))), eB 7 false, eR 8 0, eI 9 (w - (1 : Int))], [rB 4 (([] : List (List Value)) ++ ([] : List (List Value)))], oL 0 1⟩ [inK .i64 (w - (1 : Int))] (by kernel_rfl) ⟨(by simp only [inK]; omega), trivial⟩ ?_
      refine W.block ?_
      refine W.loop (ι := Int × List (List Value)) (fun z => ⟨[eI 1 n, (6, none, .sv (.lf (.val (.slice none 0 0)))), eB 7 false, eR 8 0, eI 9 z.1], [rB 4 z.2], oL 0 1⟩) (fun z => (-1 ≤ z.1 ∧ z.1 < w) ∧ (z.2 ++ appN n (z.1 + 1).toNat = appN n w.toNat) ∧ ((z.2.length : Int) + z.1 + 1 = w)) (fun z => (z.1 + 1).toNat) ⟨(w - (1 : Int)), (([] : List (List Value)) ++ ([] : List (List Value)))⟩ (show (-1 ≤ (w - (1 : Int)) ∧ (w - (1 : Int)) < w) ∧ ((([] : List (List Value)) ++ ([] : List (List Value))) ++ appN n ((w - (1 : Int)) + 1).toNat = appN n w.toNat) ∧ (((([] : List (List Value)) ++ ([] : List (List Value))).length : Int) + (w - (1 : Int)) + 1 = w) from ⟨by omega, by rw [show (w - 1 + 1).toNat = w.toNat by omega]; rfl, by simp⟩) rfl ?_
      rintro ⟨i, ys⟩ ⟨hi, hy, hl⟩
      dsimp only at hi hy hl
      have hpi := pow_pos' i.toNat
      have hdv := ediv_pow_le (n := n) (by omega) i.toNat
      refine W.seq ?_
      refine W.sx tt_ok [] [1, 6, 7, 8, 9, 30] [0] ⟨[eI 1 n, (6, none, .sv (.lf (.val (.slice none 0 0)))), eB 7 false, eR 8 0, eI 9 i, eB 30 (decide ((0 : Int) ≤ i))], [rB 4 ys], oL 0 1⟩ [] (by kernel_rfl) trivial ?_
      refine W.cond (p := (decide ((0 : Int) ≤ i))) (by kernel_rfl) (fun h3 => ?_) (fun h3 => ?_)
      · have h3p := of_decide_eq_true h3
        refine W.skip ?_
        refine W.next ?_
        refine W.seq ?_
        refine W.block ?_
        refine W.regionX tt_ok [⟨0, 0, none⟩, ⟨0, 0, none⟩, ⟨0, 0, none⟩, ⟨0, 0, some ⟨[], [], .sv (.lf (.val (.int .i64 ((2 : Int) ^ i.toNat))))⟩⟩] [1, 6, 7, 8, 9] [0] ⟨[eI 1 n, (6, none, .sv (.lf (.val (.slice none 0 0)))), eB 7 false, eR 8 0, eI 9 i], [rB 4 (ys ++ ([[Value.bool (decide (((n / ((2 : Int) ^ i.toNat)) % (2 : Int)) = (1 : Int)))]]))], oL 0 1⟩ [RS.Spec Try.prog 18 [] [.sv (.lf (.val (.int .i64 i)))] [] (.sv (.lf (.val (.int .i64 ((2 : Int) ^ i.toNat))))), 0 ≤ n ∧ inK .i64 (n / ((2 : Int) ^ i.toNat)) ∧ 0 < ((2 : Int) ^ i.toNat), 0 ≤ (n / ((2 : Int) ^ i.toNat)) ∧ 0 < (2 : Int), (ys.length + ([[Value.bool (decide (((n / ((2 : Int) ^ i.toNat)) % (2 : Int)) = (1 : Int)))]]).length) * 1 ≤ 140737488355328] (by kernel_rfl) ⟨(Power_spec i (by omega)), (by (try simp only [inK, List.length_append, List.length_cons, List.length_nil, List.length_replicate, strVals_len, bstr_len, set_len, ByteArray.size_append, Nat.mul_one, List.length_drop, List.length_take, appN_len]); all_goals first | omega | trivial | (simp; done) | (simp_all; done) | (simp_all; omega)), (by (try simp only [inK, List.length_append, List.length_cons, List.length_nil, List.length_replicate, strVals_len, bstr_len, set_len, ByteArray.size_append, Nat.mul_one, List.length_drop, List.length_take, appN_len]); all_goals first | omega | trivial | (simp; done) | (simp_all; done) | (simp_all; omega)), (by (try simp only [inK, List.length_append, List.length_cons, List.length_nil, List.length_replicate, strVals_len, bstr_len, set_len, ByteArray.size_append, Nat.mul_one, List.length_drop, List.length_take, appN_len]); all_goals first | omega | trivial | (simp; done) | (simp_all; done) | (simp_all; omega)), trivial⟩ ?_
        refine unblock ?_
        refine W.next ?_
        refine W.regionX tt_ok [] [1, 6, 7, 8, 9] [0] ⟨[eI 1 n, (6, none, .sv (.lf (.val (.slice none 0 0)))), eB 7 false, eR 8 0, eI 9 (i - (1 : Int))], [rB 4 (ys ++ ([[Value.bool (decide (((n / ((2 : Int) ^ i.toNat)) % (2 : Int)) = (1 : Int)))]]))], oL 0 1⟩ [inK .i64 (i - (1 : Int))] (by kernel_rfl) ⟨(by simp only [inK]; omega), trivial⟩ ?_
        exact againK [1, 6, 7, 8, 9] [0] ⟨[eI 1 n, (6, none, .sv (.lf (.val (.slice none 0 0)))), eB 7 false, eR 8 0, eI 9 (i - (1 : Int))], [rB 4 (ys ++ ([[Value.bool (decide (((n / ((2 : Int) ^ i.toNat)) % (2 : Int)) = (1 : Int)))]]))], oL 0 1⟩ (by kernel_rfl) ⟨(i - (1 : Int)), (ys ++ ([[Value.bool (decide (((n / ((2 : Int) ^ i.toNat)) % (2 : Int)) = (1 : Int)))]]))⟩ (show (-1 ≤ (i - (1 : Int)) ∧ (i - (1 : Int)) < w) ∧ ((ys ++ ([[Value.bool (decide (((n / ((2 : Int) ^ i.toNat)) % (2 : Int)) = (1 : Int)))]])) ++ appN n ((i - (1 : Int)) + 1).toNat = appN n w.toNat) ∧ (((ys ++ ([[Value.bool (decide (((n / ((2 : Int) ^ i.toNat)) % (2 : Int)) = (1 : Int)))]])).length : Int) + (i - (1 : Int)) + 1 = w) from ⟨by omega, by rw [← hy, show (i + 1).toNat = i.toNat + 1 by omega, appN_ref (by omega) (by omega), show ((i - (1 : Int)) + 1).toNat = i.toNat by omega]; simp, by simp only [List.length_append, List.length_cons, List.length_nil]; omega⟩) (show ((i - (1 : Int)) + 1).toNat < (i + 1).toNat from by omega) rfl
      · have h3p := of_decide_eq_false h3
        refine W.exit ?_
        refine exit_then ?_
        refine exit_then ?_
        refine exit_here ?_
        refine W.next ?_
        refine W.sx tt_ok [] [6, 7] [0] ⟨[eR 6 0, eB 7 true], [rB 4 ys], oL 0 1⟩ [] (by kernel_rfl) trivial ?_
        exact W.retq tt_ok Try.f21 [0] [.row true 4 [.bool] ys] (.tup [.lf (.row 0), .lf (.val (.bool true))]) (by kernel_rfl) (by rw [bPut_go (by omega) (by omega) (by omega) (by omega), List.nil_append, ← hy, show (i + 1).toNat = 0 by omega, appN, List.append_nil]) (by rw [bPut_go (by omega) (by omega) (by omega) (by omega)]) (fun _ _ h => h)
theorem rTake3_spec (xs : List (List Value)) (a : Int) (w : Int) (hx : (xs.length : Int) ≤ 140737488355328) (ha : inK .i64 a) (hw : inK .i64 w) : RS.Spec Try.prog 23 [.row false 4 [.bool] xs] [.sv (.lf (.row 0)), .sv (.lf (.val (.int .i64 a))), .sv (.lf (.val (.int .i64 w)))] [.row false 4 [.bool] xs] (.tup [.lf (.val (.int .i64 ((bTake3 xs a w).1))), .lf (.val (.int .i64 ((bTake3 xs a w).2.1))), .lf (.val (.bool ((bTake3 xs a w).2.2)))]) := by
  refine RS.Spec.intro (tt := tt) (nt := 53) Try.f23 _ Try.func23 (FnOK.of Try.func23 rfl rfl) rfl rfl (by simp) (fun gg ww => ?_)
  simp only [inK] at ha hw
  refine W.sx tt_ok [] [0, 1, 2, 6, 7, 8] [0] ⟨[eR 0 0, eI 1 a, eI 2 w, eI 6 (0 : Int), eI 7 (0 : Int), eB 8 false], [lB 4 xs], oL 1 0⟩ [] (by kernel_rfl) trivial ?_
  refine W.seq ?_
  refine W.sx tt_ok [] [0, 1, 2, 6, 7, 8, 26] [0] ⟨[eR 0 0, eI 1 a, eI 2 w, eI 6 (0 : Int), eI 7 (0 : Int), eB 8 false, eB 26 (orB (orB (orB (decide (w < (0 : Int))) (decide ((30 : Int) < w))) (decide (a < (0 : Int)))) (decide ((xs.length : Int) < a)))], [lB 4 xs], oL 1 0⟩ [] (by kernel_rfl) trivial ?_
  refine W.cond (p := (orB (orB (orB (decide (w < (0 : Int))) (decide ((30 : Int) < w))) (decide (a < (0 : Int)))) (decide ((xs.length : Int) < a)))) (by kernel_rfl) (fun h1 => ?_) (fun h1 => ?_)
  · have h1p := h1
    try simp only [orB, andB, Bool.or_eq_true, Bool.and_eq_true, Bool.or_eq_false_iff, Bool.and_eq_false_iff, Bool.not_eq_true', Bool.not_eq_false', decide_eq_true_eq, decide_eq_false_iff_not, Int.not_lt, Int.not_le, Decidable.not_not, List.length_replicate] at h1p
    refine W.sx tt_ok [] [0, 1, 2, 6, 7, 8] [0] ⟨[eR 0 0, eI 1 a, eI 2 w, eI 6 (0 : Int), eI 7 (0 : Int), eB 8 false], [lB 4 xs], oL 1 0⟩ [] (by kernel_rfl) trivial ?_
    exact W.retq tt_ok Try.f23 [0] [.row false 4 [.bool] xs] (.tup [.lf (.val (.int .i64 (0 : Int))), .lf (.val (.int .i64 (0 : Int))), .lf (.val (.bool false))]) (by kernel_rfl) (rfl) (by rw [bTake_out (by omega)]) (fun _ _ h => h)
  · have h1p := h1
    try simp only [orB, andB, Bool.or_eq_true, Bool.and_eq_true, Bool.or_eq_false_iff, Bool.and_eq_false_iff, Bool.not_eq_true', Bool.not_eq_false', decide_eq_true_eq, decide_eq_false_iff_not, Int.not_lt, Int.not_le, Decidable.not_not, List.length_replicate] at h1p
    refine W.skip ?_
    refine W.next ?_
    refine W.seq ?_
    refine W.sx tt_ok [] [0, 1, 2, 6, 7, 8, 32] [0] ⟨[eR 0 0, eI 1 a, eI 2 w, eI 6 (0 : Int), eI 7 (0 : Int), eB 8 false, eB 32 (decide ((xs.length : Int) < (a + w)))], [lB 4 xs], oL 1 0⟩ [inK .i64 (a + w)] (by kernel_rfl) ⟨(by simp only [inK]; omega), trivial⟩ ?_
    refine W.cond (p := (decide ((xs.length : Int) < (a + w)))) (by kernel_rfl) (fun h2 => ?_) (fun h2 => ?_)
    · have h2p := of_decide_eq_true h2
      refine W.sx tt_ok [] [0, 1, 2, 6, 7, 8] [0] ⟨[eR 0 0, eI 1 a, eI 2 w, eI 6 (0 : Int), eI 7 (0 : Int), eB 8 false], [lB 4 xs], oL 1 0⟩ [] (by kernel_rfl) trivial ?_
      exact W.retq tt_ok Try.f23 [0] [.row false 4 [.bool] xs] (.tup [.lf (.val (.int .i64 (0 : Int))), .lf (.val (.int .i64 (0 : Int))), .lf (.val (.bool false))]) (by kernel_rfl) (rfl) (by rw [bTake_out (by omega)]) (fun _ _ h => h)
    · have h2p := of_decide_eq_false h2
      refine W.skip ?_
      refine W.next ?_
      refine W.sx tt_ok [] [0, 1, 2, 6, 7, 8, 9] [0] ⟨[eR 0 0, eI 1 a, eI 2 w, eI 6 (0 : Int), eI 7 (0 : Int), eB 8 false, eI 9 (0 : Int)], [lB 4 xs], oL 1 0⟩ [] (by kernel_rfl) trivial ?_
      refine W.seq ?_
      refine W.sx tt_ok [] [0, 1, 2, 6, 7, 8, 9, 10] [0] ⟨[eR 0 0, eI 1 a, eI 2 w, eI 6 (0 : Int), eI 7 (0 : Int), eB 8 false, eI 9 (0 : Int), eI 10 a], [lB 4 xs], oL 1 0⟩ [] (by kernel_rfl) trivial ?_
      refine W.block ?_
      refine W.loop (ι := Int × Int) (fun z => ⟨[eR 0 0, eI 1 a, eI 2 w, eI 6 (0 : Int), eI 7 (0 : Int), eB 8 false, eI 9 z.1, eI 10 z.2], [lB 4 xs], oL 1 0⟩) (fun z => (a ≤ z.2 ∧ z.2 ≤ a + w) ∧ (z.1 = takeN xs a (z.2 - a).toNat)) (fun z => (a + w - z.2).toNat) ⟨0, a⟩ (show (a ≤ a ∧ a ≤ a + w) ∧ ((0 : Int) = takeN xs a (a - a).toNat) from ⟨by omega, by rw [show (a - a).toNat = 0 by omega]; rfl⟩) rfl ?_
      rintro ⟨n, i⟩ ⟨hi, hn⟩
      dsimp only at hi hn
      have hnb := takeN_bd30 xs a (k := (i - a).toNat) (by omega)
      rw [← hn] at hnb
      refine W.seq ?_
      refine W.sx tt_ok [] [0, 1, 2, 6, 7, 8, 9, 10, 38] [0] ⟨[eR 0 0, eI 1 a, eI 2 w, eI 6 (0 : Int), eI 7 (0 : Int), eB 8 false, eI 9 n, eI 10 i, eB 38 (decide (i < (a + w)))], [lB 4 xs], oL 1 0⟩ [inK .i64 (a + w)] (by kernel_rfl) ⟨(by simp only [inK]; omega), trivial⟩ ?_
      refine W.cond (p := (decide (i < (a + w)))) (by kernel_rfl) (fun h3 => ?_) (fun h3 => ?_)
      · have h3p := of_decide_eq_true h3
        refine W.skip ?_
        refine W.next ?_
        refine W.cut (ι := Bool) (fun zc => ⟨[eR 0 0, eI 1 a, eI 2 w, eI 6 (0 : Int), eI 7 (0 : Int), eB 8 false, eI 9 (bif zc then (((2 : Int) * n) + (1 : Int)) else ((2 : Int) * n)), eI 10 i], [lB 4 xs], oL 1 0⟩) (fun zc => (vB (cellAt xs i.toNat 0)) = zc) ?_ ?_
        · skip
          refine W.block ?_
          refine W.sx tt_ok [] [0, 1, 2, 6, 7, 8, 9, 10] [0] ⟨[eR 0 0, eI 1 a, eI 2 w, eI 6 (0 : Int), eI 7 (0 : Int), eB 8 false, eI 9 ((2 : Int) * n), eI 10 i], [lB 4 xs], oL 1 0⟩ [inK .i64 ((2 : Int) * n)] (by kernel_rfl) ⟨(by simp only [inK]; omega), trivial⟩ ?_
          refine W.sx tt_ok [] [0, 1, 2, 6, 7, 8, 9, 10, 46] [0] ⟨[eR 0 0, eI 1 a, eI 2 w, eI 6 (0 : Int), eI 7 (0 : Int), eB 8 false, eI 9 ((2 : Int) * n), eI 10 i, eB 46 (vB (cellAt xs i.toNat 0))], [lB 4 xs], oL 1 0⟩ [0 ≤ i ∧ i < (xs.length : Int), 0 ≤ i ∧ i < (xs.length : Int)] (by kernel_rfl) ⟨(by omega), (by omega), trivial⟩ ?_
          refine W.cond (p := (vB (cellAt xs i.toNat 0))) (by kernel_rfl) (fun h4 => ?_) (fun h4 => ?_)
          · have h4p := h4
            try simp only [orB, andB, Bool.or_eq_true, Bool.and_eq_true, Bool.or_eq_false_iff, Bool.and_eq_false_iff, Bool.not_eq_true', Bool.not_eq_false', decide_eq_true_eq, decide_eq_false_iff_not, Int.not_lt, Int.not_le, Decidable.not_not, List.length_replicate] at h4p
            refine W.regionX tt_ok [] [0, 1, 2, 6, 7, 8, 9, 10] [0] ⟨[eR 0 0, eI 1 a, eI 2 w, eI 6 (0 : Int), eI 7 (0 : Int), eB 8 false, eI 9 (((2 : Int) * n) + (1 : Int)), eI 10 i], [lB 4 xs], oL 1 0⟩ [inK .i64 (((2 : Int) * n) + (1 : Int))] (by kernel_rfl) ⟨(by simp only [inK]; omega), trivial⟩ ?_
            refine unblock ?_
            exact meetK [0, 1, 2, 6, 7, 8, 9, 10] [0] ⟨[eR 0 0, eI 1 a, eI 2 w, eI 6 (0 : Int), eI 7 (0 : Int), eB 8 false, eI 9 (((2 : Int) * n) + (1 : Int)), eI 10 i], [lB 4 xs], oL 1 0⟩ (by kernel_rfl) true h4 rfl
          · have h4p := h4
            try simp only [orB, andB, Bool.or_eq_true, Bool.and_eq_true, Bool.or_eq_false_iff, Bool.and_eq_false_iff, Bool.not_eq_true', Bool.not_eq_false', decide_eq_true_eq, decide_eq_false_iff_not, Int.not_lt, Int.not_le, Decidable.not_not, List.length_replicate] at h4p
            refine W.skip ?_
            refine unblock ?_
            exact meetK [0, 1, 2, 6, 7, 8, 9, 10] [0] ⟨[eR 0 0, eI 1 a, eI 2 w, eI 6 (0 : Int), eI 7 (0 : Int), eB 8 false, eI 9 ((2 : Int) * n), eI 10 i], [lB 4 xs], oL 1 0⟩ (by kernel_rfl) false h4 rfl
        · rintro _ rfl
          refine W.regionX tt_ok [] [0, 1, 2, 6, 7, 8, 9, 10] [0] ⟨[eR 0 0, eI 1 a, eI 2 w, eI 6 (0 : Int), eI 7 (0 : Int), eB 8 false, eI 9 (bif (vB (cellAt xs i.toNat 0)) then (((2 : Int) * n) + (1 : Int)) else ((2 : Int) * n)), eI 10 (i + (1 : Int))], [lB 4 xs], oL 1 0⟩ [inK .i64 (i + (1 : Int))] (by kernel_rfl) ⟨(by simp only [inK]; omega), trivial⟩ ?_
          exact againK [0, 1, 2, 6, 7, 8, 9, 10] [0] ⟨[eR 0 0, eI 1 a, eI 2 w, eI 6 (0 : Int), eI 7 (0 : Int), eB 8 false, eI 9 (bif (vB (cellAt xs i.toNat 0)) then (((2 : Int) * n) + (1 : Int)) else ((2 : Int) * n)), eI 10 (i + (1 : Int))], [lB 4 xs], oL 1 0⟩ (by kernel_rfl) ⟨(bif (vB (cellAt xs i.toNat 0)) then (((2 : Int) * n) + (1 : Int)) else ((2 : Int) * n)), (i + (1 : Int))⟩ (show (a ≤ (i + (1 : Int)) ∧ (i + (1 : Int)) ≤ a + w) ∧ ((bif (vB (cellAt xs i.toNat 0)) then (((2 : Int) * n) + (1 : Int)) else ((2 : Int) * n)) = takeN xs a ((i + (1 : Int)) - a).toNat) from ⟨by omega, by rw [show (i + 1 - a).toNat = (i - a).toNat + 1 by omega, takeN, ← hn, show a + (((i - a).toNat : Nat) : Int) = i by omega]; unfold bt; cases vB (cellAt xs i.toNat 0) <;> simp <;> omega⟩) (show (a + w - (i + (1 : Int))).toNat < (a + w - i).toNat from by omega) rfl
      · have h3p := of_decide_eq_false h3
        refine W.exit ?_
        refine exit_then ?_
        refine exit_then ?_
        refine exit_here ?_
        refine W.next ?_
        refine W.sx tt_ok [] [6, 7, 8] [0] ⟨[eI 6 n, eI 7 (a + w), eB 8 true], [lB 4 xs], oL 1 0⟩ [inK .i64 (a + w)] (by kernel_rfl) ⟨(by simp only [inK]; omega), trivial⟩ ?_
        exact W.retq tt_ok Try.f23 [0] [.row false 4 [.bool] xs] (.tup [.lf (.val (.int .i64 n)), .lf (.val (.int .i64 (a + w))), .lf (.val (.bool true))]) (by kernel_rfl) (rfl) (by rw [bTake_in (by omega), hn, show (i - a).toNat = w.toNat by omega]) (fun _ _ h => h)
theorem Kraft_spec (l : List (List Value)) (hl : (l.length : Int) ≤ 17592186044416) (hk : ∀ j o : Nat, -9223372036854775808 ≤ vI (cellAt l j o) ∧ vI (cellAt l j o) ≤ 9223372036854775807) : RS.Spec Try.prog 24 [.row false 3 [.int .i64] l] [.sv (.lf (.row 0))] [.row false 3 [.int .i64] l] (.sv (.lf (.val (.int .i64 (kraftL l))))) := by
  refine RS.Spec.intro (tt := tt) (nt := 25) Try.f24 _ Try.func24 (FnOK.of Try.func24 rfl rfl) rfl rfl (by simp) (fun gg ww => ?_)
  refine W.sx tt_ok [] [0, 2] [0] ⟨[eR 0 0, eI 2 (0 : Int)], [lI 3 l], oL 1 0⟩ [] (by kernel_rfl) trivial ?_
  refine W.sx tt_ok [] [0, 2, 3] [0] ⟨[eR 0 0, eI 2 (0 : Int), eI 3 (0 : Int)], [lI 3 l], oL 1 0⟩ [] (by kernel_rfl) trivial ?_
  refine W.seq ?_
  refine W.sx tt_ok [] [2, 3, 6, 7, 8] [0] ⟨[eI 2 (0 : Int), eI 3 (0 : Int), eR 6 0, eI 7 (l.length : Int), eI 8 (0 : Int)], [lI 3 l], oL 1 0⟩ [] (by kernel_rfl) trivial ?_
  refine W.block ?_
  refine W.loop (ι := Int × Int) (fun z => ⟨[eI 2 (0 : Int), eI 3 z.1, eR 6 0, eI 7 (l.length : Int), eI 8 z.2], [lI 3 l], oL 1 0⟩) (fun z => (0 ≤ z.2 ∧ z.2 ≤ (l.length : Int)) ∧ (z.1 = kraftN l z.2.toNat)) (fun z => ((l.length : Int) - z.2).toNat) ⟨0, 0⟩ (show (0 ≤ (0 : Int) ∧ (0 : Int) ≤ (l.length : Int)) ∧ ((0 : Int) = kraftN l (0 : Int).toNat) from ⟨by omega, rfl⟩) rfl ?_
  rintro ⟨n, i⟩ ⟨hi, hn⟩
  dsimp only at hi hn
  have hkk := hk i.toNat 0
  have hkb := kraftN_bd l i.toNat
  have hkt := kraft_term (num l i.toNat 0)
  have hk1 : kraftN l (i.toNat + 1) = kraftN l i.toNat + (bif andB (decide (1 ≤ num l i.toNat 0)) (decide (num l i.toNat 0 ≤ 15)) then 2 ^ ((15 : Int) - num l i.toNat 0).toNat else 0) := rfl
  have hkb1 := kraftN_bd l (i.toNat + 1)
  refine W.sx tt_ok [] [2, 3, 6, 7, 8, 9] [0] ⟨[eI 2 (0 : Int), eI 3 n, eR 6 0, eI 7 (l.length : Int), eI 8 i, eB 9 (decide (i < (l.length : Int)))], [lI 3 l], oL 1 0⟩ [] (by kernel_rfl) trivial ?_
  refine W.seq ?_
  refine W.cond (p := (decide (i < (l.length : Int)))) (by kernel_rfl) (fun h1 => ?_) (fun h1 => ?_)
  · have h1p := of_decide_eq_true h1
    refine W.skip ?_
    refine W.next ?_
    refine W.seq ?_
    refine W.block ?_
    refine W.sx tt_ok [] [2, 3, 5, 6, 7, 8] [0] ⟨[eI 2 (0 : Int), eI 3 n, eI 5 (vI (cellAt l i.toNat 0)), eR 6 0, eI 7 (l.length : Int), eI 8 i], [lI 3 l], oL 1 0⟩ [0 ≤ i ∧ i < (l.length : Int), 0 ≤ i ∧ i < (l.length : Int)] (by kernel_rfl) ⟨(by omega), (by omega), trivial⟩ ?_
    refine W.sx tt_ok [] [2, 3, 5, 6, 7, 8, 17] [0] ⟨[eI 2 (0 : Int), eI 3 n, eI 5 (vI (cellAt l i.toNat 0)), eR 6 0, eI 7 (l.length : Int), eI 8 i, eB 17 (andB (decide ((1 : Int) ≤ (vI (cellAt l i.toNat 0)))) (decide ((vI (cellAt l i.toNat 0)) ≤ (15 : Int))))], [lI 3 l], oL 1 0⟩ [] (by kernel_rfl) trivial ?_
    refine W.cond (p := (andB (decide ((1 : Int) ≤ (vI (cellAt l i.toNat 0)))) (decide ((vI (cellAt l i.toNat 0)) ≤ (15 : Int))))) (by kernel_rfl) (fun h2 => ?_) (fun h2 => ?_)
    · have h2p := h2
      try simp only [orB, andB, Bool.or_eq_true, Bool.and_eq_true, Bool.or_eq_false_iff, Bool.and_eq_false_iff, Bool.not_eq_true', Bool.not_eq_false', decide_eq_true_eq, decide_eq_false_iff_not, Int.not_lt, Int.not_le, Decidable.not_not, List.length_replicate] at h2p
      have hp15 : 0 < (2 : Int) ^ ((15 : Int) - vI (cellAt l i.toNat 0)).toNat ∧ (2 : Int) ^ ((15 : Int) - vI (cellAt l i.toNat 0)).toNat ≤ 1073741824 := ⟨pow_pos' _, pow_le30 (by omega)⟩
      refine W.regionX tt_ok [] [2, 3, 6, 7, 8] [0] ⟨[eI 2 (0 : Int), eI 3 (n + ((1 : Int) * 2 ^ ((15 : Int) - (vI (cellAt l i.toNat 0))).toNat)), eR 6 0, eI 7 (l.length : Int), eI 8 i], [lI 3 l], oL 1 0⟩ [inK .i64 ((15 : Int) - (vI (cellAt l i.toNat 0))), 0 ≤ ((15 : Int) - (vI (cellAt l i.toNat 0))) ∧ ((15 : Int) - (vI (cellAt l i.toNat 0))) ≤ (64 : Int) ∧ inK .i64 ((1 : Int) * 2 ^ ((15 : Int) - (vI (cellAt l i.toNat 0))).toNat), inK .i64 (n + ((1 : Int) * 2 ^ ((15 : Int) - (vI (cellAt l i.toNat 0))).toNat))] (by kernel_rfl) ⟨(by simp only [inK]; omega), (by (try simp only [inK, List.length_append, List.length_cons, List.length_nil, List.length_replicate, strVals_len, bstr_len, set_len, ByteArray.size_append, Nat.mul_one, List.length_drop, List.length_take, appN_len]); all_goals first | omega | trivial | (simp; done) | (simp_all; done) | (simp_all; omega)), (by simp only [inK]; omega), trivial⟩ ?_
      refine unblock ?_
      refine W.next ?_
      refine W.regionX tt_ok [] [2, 3, 6, 7, 8] [0] ⟨[eI 2 (0 : Int), eI 3 (n + ((1 : Int) * 2 ^ ((15 : Int) - (vI (cellAt l i.toNat 0))).toNat)), eR 6 0, eI 7 (l.length : Int), eI 8 (i + (1 : Int))], [lI 3 l], oL 1 0⟩ [inK .i64 (i + (1 : Int))] (by kernel_rfl) ⟨(by simp only [inK]; omega), trivial⟩ ?_
      exact againK [2, 3, 6, 7, 8] [0] ⟨[eI 2 (0 : Int), eI 3 (n + ((1 : Int) * 2 ^ ((15 : Int) - (vI (cellAt l i.toNat 0))).toNat)), eR 6 0, eI 7 (l.length : Int), eI 8 (i + (1 : Int))], [lI 3 l], oL 1 0⟩ (by kernel_rfl) ⟨(n + ((1 : Int) * 2 ^ ((15 : Int) - (vI (cellAt l i.toNat 0))).toNat)), (i + (1 : Int))⟩ (show (0 ≤ (i + (1 : Int)) ∧ (i + (1 : Int)) ≤ (l.length : Int)) ∧ ((n + ((1 : Int) * 2 ^ ((15 : Int) - (vI (cellAt l i.toNat 0))).toNat)) = kraftN l (i + (1 : Int)).toNat) from ⟨by omega, by rw [show (i + 1).toNat = i.toNat + 1 by omega, hn]; first | rw [kraft_yes (by omega), Int.one_mul] | rw [kraft_yes (by omega)] | rw [kraft_no (by omega)]⟩) (show ((l.length : Int) - (i + (1 : Int))).toNat < ((l.length : Int) - i).toNat from by omega) rfl
    · have h2p := h2
      try simp only [orB, andB, Bool.or_eq_true, Bool.and_eq_true, Bool.or_eq_false_iff, Bool.and_eq_false_iff, Bool.not_eq_true', Bool.not_eq_false', decide_eq_true_eq, decide_eq_false_iff_not, Int.not_lt, Int.not_le, Decidable.not_not, List.length_replicate] at h2p
      refine W.skip ?_
      refine unblock ?_
      refine W.next ?_
      refine W.regionX tt_ok [] [2, 3, 6, 7, 8] [0] ⟨[eI 2 (0 : Int), eI 3 n, eR 6 0, eI 7 (l.length : Int), eI 8 (i + (1 : Int))], [lI 3 l], oL 1 0⟩ [inK .i64 (i + (1 : Int))] (by kernel_rfl) ⟨(by simp only [inK]; omega), trivial⟩ ?_
      exact againK [2, 3, 6, 7, 8] [0] ⟨[eI 2 (0 : Int), eI 3 n, eR 6 0, eI 7 (l.length : Int), eI 8 (i + (1 : Int))], [lI 3 l], oL 1 0⟩ (by kernel_rfl) ⟨n, (i + (1 : Int))⟩ (show (0 ≤ (i + (1 : Int)) ∧ (i + (1 : Int)) ≤ (l.length : Int)) ∧ (n = kraftN l (i + (1 : Int)).toNat) from ⟨by omega, by rw [show (i + 1).toNat = i.toNat + 1 by omega, hn]; first | rw [kraft_yes (by omega), Int.one_mul] | rw [kraft_yes (by omega)] | rw [kraft_no (by omega)]⟩) (show ((l.length : Int) - (i + (1 : Int))).toNat < ((l.length : Int) - i).toNat from by omega) rfl
  · have h1p := of_decide_eq_false h1
    refine W.exit ?_
    refine exit_then ?_
    refine exit_then ?_
    refine exit_here ?_
    refine W.next ?_
    refine W.sx tt_ok [] [2] [0] ⟨[eI 2 n], [lI 3 l], oL 1 0⟩ [] (by kernel_rfl) trivial ?_
    exact W.retq tt_ok Try.f24 [0] [.row false 3 [.int .i64] l] (.sv (.lf (.val (.int .i64 n)))) (by kernel_rfl) (rfl) (by unfold kraftL; rw [hn, show i.toNat = l.length by omega]) (fun _ _ h => h)
theorem rKraft_spec (l : List (List Value)) (hl : (l.length : Int) ≤ 17592186044416) (hk : ∀ j o : Nat, -9223372036854775808 ≤ vI (cellAt l j o) ∧ vI (cellAt l j o) ≤ 9223372036854775807) : RS.Spec Try.prog 17 [.row false 3 [.int .i64] l] [.sv (.lf (.row 0))] [.row false 3 [.int .i64] l] (.sv (.lf (.val (.int .i64 (kraftL l))))) := by
  refine RS.Spec.intro (tt := tt) (nt := 32) Try.f17 _ Try.func17 (FnOK.of Try.func17 rfl rfl) rfl rfl (by simp) (fun gg ww => ?_)
  refine W.sx tt_ok [] [0, 2] [0] ⟨[eR 0 0, eI 2 (0 : Int)], [lI 3 l], oL 1 0⟩ [] (by kernel_rfl) trivial ?_
  refine W.sx tt_ok [] [0, 2, 3] [0] ⟨[eR 0 0, eI 2 (0 : Int), eI 3 (0 : Int)], [lI 3 l], oL 1 0⟩ [] (by kernel_rfl) trivial ?_
  refine W.seq ?_
  refine W.sx tt_ok [] [0, 2, 3, 4] [0] ⟨[eR 0 0, eI 2 (0 : Int), eI 3 (0 : Int), eI 4 (0 : Int)], [lI 3 l], oL 1 0⟩ [] (by kernel_rfl) trivial ?_
  refine W.block ?_
  refine W.loop (ι := Int × Int) (fun z => ⟨[eR 0 0, eI 2 (0 : Int), eI 3 z.1, eI 4 z.2], [lI 3 l], oL 1 0⟩) (fun z => (0 ≤ z.2 ∧ z.2 ≤ (l.length : Int)) ∧ (z.1 = kraftN l z.2.toNat)) (fun z => ((l.length : Int) - z.2).toNat) ⟨0, 0⟩ (show (0 ≤ (0 : Int) ∧ (0 : Int) ≤ (l.length : Int)) ∧ ((0 : Int) = kraftN l (0 : Int).toNat) from ⟨by omega, rfl⟩) rfl ?_
  rintro ⟨n, i⟩ ⟨hi, hn⟩
  dsimp only at hi hn
  have hkk := hk i.toNat 0
  have hkb := kraftN_bd l i.toNat
  have hkt := kraft_term (num l i.toNat 0)
  have hk1 : kraftN l (i.toNat + 1) = kraftN l i.toNat + (bif andB (decide (1 ≤ num l i.toNat 0)) (decide (num l i.toNat 0 ≤ 15)) then 2 ^ ((15 : Int) - num l i.toNat 0).toNat else 0) := rfl
  have hkb1 := kraftN_bd l (i.toNat + 1)
  refine W.seq ?_
  refine W.sx tt_ok [] [0, 2, 3, 4, 8] [0] ⟨[eR 0 0, eI 2 (0 : Int), eI 3 n, eI 4 i, eB 8 (decide (i < (l.length : Int)))], [lI 3 l], oL 1 0⟩ [] (by kernel_rfl) trivial ?_
  refine W.cond (p := (decide (i < (l.length : Int)))) (by kernel_rfl) (fun h1 => ?_) (fun h1 => ?_)
  · have h1p := of_decide_eq_true h1
    refine W.skip ?_
    refine W.next ?_
    refine W.seq ?_
    refine W.block ?_
    refine W.sx tt_ok [] [0, 2, 3, 4, 22] [0] ⟨[eR 0 0, eI 2 (0 : Int), eI 3 n, eI 4 i, eB 22 (andB (decide ((0 : Int) < (vI (cellAt l i.toNat 0)))) (decide ((vI (cellAt l i.toNat 0)) < (16 : Int))))], [lI 3 l], oL 1 0⟩ [0 ≤ i ∧ i < (l.length : Int), 0 ≤ i ∧ i < (l.length : Int), (decide ((0 : Int) < (vI (cellAt l i.toNat 0)))) = true → 0 ≤ i ∧ i < (l.length : Int), (decide ((0 : Int) < (vI (cellAt l i.toNat 0)))) = true → 0 ≤ i ∧ i < (l.length : Int)] (by kernel_rfl) ⟨(by omega), (by omega), (by intro hc; (try simp only [orB, andB, Bool.or_eq_true, Bool.and_eq_true, Bool.or_eq_false_iff, Bool.and_eq_false_iff, Bool.not_eq_true', Bool.not_eq_false', decide_eq_true_eq, decide_eq_false_iff_not, Int.not_lt, Int.not_le, Decidable.not_not, List.length_replicate, inK] at hc); (try simp only [inK, List.length_append, List.length_cons, List.length_nil, List.length_replicate, strVals_len, bstr_len, set_len, ByteArray.size_append, Nat.mul_one, List.length_drop, List.length_take, appN_len]); all_goals first | omega | (simp; done) | (simp_all; done) | (simp_all; omega)), (by intro hc; (try simp only [orB, andB, Bool.or_eq_true, Bool.and_eq_true, Bool.or_eq_false_iff, Bool.and_eq_false_iff, Bool.not_eq_true', Bool.not_eq_false', decide_eq_true_eq, decide_eq_false_iff_not, Int.not_lt, Int.not_le, Decidable.not_not, List.length_replicate, inK] at hc); (try simp only [inK, List.length_append, List.length_cons, List.length_nil, List.length_replicate, strVals_len, bstr_len, set_len, ByteArray.size_append, Nat.mul_one, List.length_drop, List.length_take, appN_len]); all_goals first | omega | (simp; done) | (simp_all; done) | (simp_all; omega)), trivial⟩ ?_
    refine W.cond (p := (andB (decide ((0 : Int) < (vI (cellAt l i.toNat 0)))) (decide ((vI (cellAt l i.toNat 0)) < (16 : Int))))) (by kernel_rfl) (fun h2 => ?_) (fun h2 => ?_)
    · have h2p := h2
      try simp only [orB, andB, Bool.or_eq_true, Bool.and_eq_true, Bool.or_eq_false_iff, Bool.and_eq_false_iff, Bool.not_eq_true', Bool.not_eq_false', decide_eq_true_eq, decide_eq_false_iff_not, Int.not_lt, Int.not_le, Decidable.not_not, List.length_replicate] at h2p
      have hp15 : 0 < (2 : Int) ^ ((15 : Int) - vI (cellAt l i.toNat 0)).toNat ∧ (2 : Int) ^ ((15 : Int) - vI (cellAt l i.toNat 0)).toNat ≤ 1073741824 := ⟨pow_pos' _, pow_le30 (by omega)⟩
      refine W.regionX tt_ok [⟨0, 0, none⟩, ⟨0, 0, none⟩, ⟨0, 0, none⟩, ⟨0, 0, none⟩, ⟨0, 0, none⟩, ⟨0, 0, none⟩, ⟨0, 0, some ⟨[], [], .sv (.lf (.val (.int .i64 ((2 : Int) ^ ((15 : Int) - (vI (cellAt l i.toNat 0))).toNat))))⟩⟩] [0, 2, 3, 4] [0] ⟨[eR 0 0, eI 2 (0 : Int), eI 3 (n + ((2 : Int) ^ ((15 : Int) - (vI (cellAt l i.toNat 0))).toNat)), eI 4 i], [lI 3 l], oL 1 0⟩ [0 ≤ i ∧ i < (l.length : Int), 0 ≤ i ∧ i < (l.length : Int), inK .i64 ((15 : Int) - (vI (cellAt l i.toNat 0))), RS.Spec Try.prog 18 [] [.sv (.lf (.val (.int .i64 ((15 : Int) - (vI (cellAt l i.toNat 0))))))] [] (.sv (.lf (.val (.int .i64 ((2 : Int) ^ ((15 : Int) - (vI (cellAt l i.toNat 0))).toNat))))), inK .i64 (n + ((2 : Int) ^ ((15 : Int) - (vI (cellAt l i.toNat 0))).toNat))] (by kernel_rfl) ⟨(by omega), (by omega), (by simp only [inK]; omega), (Power_spec ((15 : Int) - (vI (cellAt l i.toNat 0))) (by omega)), (by simp only [inK]; omega), trivial⟩ ?_
      refine unblock ?_
      refine W.next ?_
      refine W.regionX tt_ok [] [0, 2, 3, 4] [0] ⟨[eR 0 0, eI 2 (0 : Int), eI 3 (n + ((2 : Int) ^ ((15 : Int) - (vI (cellAt l i.toNat 0))).toNat)), eI 4 (i + (1 : Int))], [lI 3 l], oL 1 0⟩ [inK .i64 (i + (1 : Int))] (by kernel_rfl) ⟨(by simp only [inK]; omega), trivial⟩ ?_
      exact againK [0, 2, 3, 4] [0] ⟨[eR 0 0, eI 2 (0 : Int), eI 3 (n + ((2 : Int) ^ ((15 : Int) - (vI (cellAt l i.toNat 0))).toNat)), eI 4 (i + (1 : Int))], [lI 3 l], oL 1 0⟩ (by kernel_rfl) ⟨(n + ((2 : Int) ^ ((15 : Int) - (vI (cellAt l i.toNat 0))).toNat)), (i + (1 : Int))⟩ (show (0 ≤ (i + (1 : Int)) ∧ (i + (1 : Int)) ≤ (l.length : Int)) ∧ ((n + ((2 : Int) ^ ((15 : Int) - (vI (cellAt l i.toNat 0))).toNat)) = kraftN l (i + (1 : Int)).toNat) from ⟨by omega, by rw [show (i + 1).toNat = i.toNat + 1 by omega, hn]; first | rw [kraft_yes (by omega), Int.one_mul] | rw [kraft_yes (by omega)] | rw [kraft_no (by omega)]⟩) (show ((l.length : Int) - (i + (1 : Int))).toNat < ((l.length : Int) - i).toNat from by omega) rfl
    · have h2p := h2
      try simp only [orB, andB, Bool.or_eq_true, Bool.and_eq_true, Bool.or_eq_false_iff, Bool.and_eq_false_iff, Bool.not_eq_true', Bool.not_eq_false', decide_eq_true_eq, decide_eq_false_iff_not, Int.not_lt, Int.not_le, Decidable.not_not, List.length_replicate] at h2p
      refine W.skip ?_
      refine unblock ?_
      refine W.next ?_
      refine W.regionX tt_ok [] [0, 2, 3, 4] [0] ⟨[eR 0 0, eI 2 (0 : Int), eI 3 n, eI 4 (i + (1 : Int))], [lI 3 l], oL 1 0⟩ [inK .i64 (i + (1 : Int))] (by kernel_rfl) ⟨(by simp only [inK]; omega), trivial⟩ ?_
      exact againK [0, 2, 3, 4] [0] ⟨[eR 0 0, eI 2 (0 : Int), eI 3 n, eI 4 (i + (1 : Int))], [lI 3 l], oL 1 0⟩ (by kernel_rfl) ⟨n, (i + (1 : Int))⟩ (show (0 ≤ (i + (1 : Int)) ∧ (i + (1 : Int)) ≤ (l.length : Int)) ∧ (n = kraftN l (i + (1 : Int)).toNat) from ⟨by omega, by rw [show (i + 1).toNat = i.toNat + 1 by omega, hn]; first | rw [kraft_yes (by omega), Int.one_mul] | rw [kraft_yes (by omega)] | rw [kraft_no (by omega)]⟩) (show ((l.length : Int) - (i + (1 : Int))).toNat < ((l.length : Int) - i).toNat from by omega) rfl
  · have h1p := of_decide_eq_false h1
    refine W.exit ?_
    refine exit_then ?_
    refine exit_then ?_
    refine exit_here ?_
    refine W.next ?_
    refine W.sx tt_ok [] [2] [0] ⟨[eI 2 n], [lI 3 l], oL 1 0⟩ [] (by kernel_rfl) trivial ?_
    exact W.retq tt_ok Try.f17 [0] [.row false 3 [.int .i64] l] (.sv (.lf (.val (.int .i64 n)))) (by kernel_rfl) (rfl) (by unfold kraftL; rw [hn, show i.toNat = l.length by omega]) (fun _ _ h => h)
theorem rCodes_spec (l : List (List Value)) (hl : (l.length : Int) ≤ 17592186044416) (hk : ∀ j o : Nat, -9223372036854775808 ≤ vI (cellAt l j o) ∧ vI (cellAt l j o) ≤ 9223372036854775807) : RS.Spec Try.prog 10 [.row false 3 [.int .i64] l] [.sv (.lf (.row 0))] [.row false 3 [.int .i64] l, .row true 42 [.int .i64, .int .i64] ((wCodes l).1)] (.tup [.lf (.row 1), .lf (.val (.bool ((wCodes l).2)))]) := by
  refine RS.Spec.intro (tt := tt) (nt := 65) Try.f10 _ Try.func10 (FnOK.of Try.func10 rfl rfl) rfl rfl (by simp) (fun gg ww => ?_)
  refine W.sx tt_ok [] [0, 2, 3] [0] ⟨[eR 0 0, (2, none, .sv (.lf (.val (.slice none 0 0)))), eB 3 false], [lI 3 l], oL 1 0⟩ [] (by kernel_rfl) trivial ?_
  refine W.seq ?_
  refine W.sx tt_ok [] [0, 2, 3, 11] [0] ⟨[eR 0 0, (2, none, .sv (.lf (.val (.slice none 0 0)))), eB 3 false, eB 11 (decide ((300 : Int) < (l.length : Int)))], [lI 3 l], oL 1 0⟩ [] (by kernel_rfl) trivial ?_
  refine W.cond (p := (decide ((300 : Int) < (l.length : Int)))) (by kernel_rfl) (fun h1 => ?_) (fun h1 => ?_)
  · have h1p := of_decide_eq_true h1
    refine W.sx tt_ok [] [0, 2, 3] [0] ⟨[eR 0 0, (2, none, .sv (.lf (.val (.slice none 0 0)))), eB 3 false], [lI 3 l], oL 1 0⟩ [] (by kernel_rfl) trivial ?_
    refine W.nilrow 2 42 [.int .i64, .int .i64] ⟨[eR 2 1, eR 0 0, eB 3 false], [lI 3 l, rII 42 ([] : List (List Value))], oL 1 0⟩ (by kernel_rfl) ?_
    exact W.retq tt_ok Try.f10 [0, 1] [.row false 3 [.int .i64] l, .row true 42 [.int .i64, .int .i64] ([] : List (List Value))] (.tup [.lf (.row 1), .lf (.val (.bool false))]) (by kernel_rfl) (by rw [wCodes_no (badL_1 (by omega))]) (by rw [wCodes_no (badL_1 (by omega))]) (fun _ _ h => h)
  · have h1p := of_decide_eq_false h1
    refine W.skip ?_
    refine W.next ?_
    refine W.sx tt_ok [] [0, 2, 3, 4] [0, 1] ⟨[eR 0 0, (2, none, .sv (.lf (.val (.slice none 0 0)))), eB 3 false, eR 4 1], [lI 3 l, rII 42 ([] : List (List Value))], oL 1 1⟩ [] (by kernel_rfl) trivial ?_
    refine W.seq ?_
    refine W.sx tt_ok [] [0, 2, 3, 4, 5] [0, 1] ⟨[eR 0 0, (2, none, .sv (.lf (.val (.slice none 0 0)))), eB 3 false, eR 4 1, eI 5 (0 : Int)], [lI 3 l, rII 42 ([] : List (List Value))], oL 1 1⟩ [] (by kernel_rfl) trivial ?_
    refine W.block ?_
    refine W.loop (ι := Int × List (List Value)) (fun z => ⟨[eR 0 0, (2, none, .sv (.lf (.val (.slice none 0 0)))), eB 3 false, eR 4 1, eI 5 z.1], [lI 3 l, rII 42 z.2], oL 1 1⟩) (fun z => (0 ≤ z.1 ∧ z.1 ≤ (l.length : Int)) ∧ (z.2 = List.replicate z.1.toNat (cell2 0 0)) ∧ (∀ j : Nat, (j : Int) < z.1 → 0 ≤ vI (cellAt l j 0) ∧ vI (cellAt l j 0) ≤ 15)) (fun z => ((l.length : Int) - z.1).toNat) ⟨0, ([] : List (List Value))⟩ (show (0 ≤ (0 : Int) ∧ (0 : Int) ≤ (l.length : Int)) ∧ (([] : List (List Value)) = List.replicate (0 : Int).toNat (cell2 0 0)) ∧ (∀ j : Nat, (j : Int) < (0 : Int) → 0 ≤ vI (cellAt l j 0) ∧ vI (cellAt l j 0) ≤ 15) from ⟨by omega, rfl, fun j hj => by omega⟩) rfl ?_
    rintro ⟨i, ys⟩ ⟨hi, hy, hz⟩
    dsimp only at hi hy hz
    have hkk := hk i.toNat 0
    have hyl : ys.length = i.toNat := by rw [hy, List.length_replicate]
    refine W.seq ?_
    refine W.sx tt_ok [] [0, 2, 3, 4, 5, 16] [0, 1] ⟨[eR 0 0, (2, none, .sv (.lf (.val (.slice none 0 0)))), eB 3 false, eR 4 1, eI 5 i, eB 16 (decide (i < (l.length : Int)))], [lI 3 l, rII 42 ys], oL 1 1⟩ [] (by kernel_rfl) trivial ?_
    refine W.cond (p := (decide (i < (l.length : Int)))) (by kernel_rfl) (fun h2 => ?_) (fun h2 => ?_)
    · have h2p := of_decide_eq_true h2
      refine W.skip ?_
      refine W.next ?_
      refine W.seq ?_
      refine W.block ?_
      refine W.seq ?_
      refine W.sx tt_ok [] [0, 2, 3, 4, 5, 30] [0, 1] ⟨[eR 0 0, (2, none, .sv (.lf (.val (.slice none 0 0)))), eB 3 false, eR 4 1, eI 5 i, eB 30 (orB (decide ((vI (cellAt l i.toNat 0)) < (0 : Int))) (decide ((15 : Int) < (vI (cellAt l i.toNat 0)))))], [lI 3 l, rII 42 ys], oL 1 1⟩ [0 ≤ i ∧ i < (l.length : Int), 0 ≤ i ∧ i < (l.length : Int), (decide ((vI (cellAt l i.toNat 0)) < (0 : Int))) = false → 0 ≤ i ∧ i < (l.length : Int), (decide ((vI (cellAt l i.toNat 0)) < (0 : Int))) = false → 0 ≤ i ∧ i < (l.length : Int)] (by kernel_rfl) ⟨(by omega), (by omega), (by intro hc; (try simp only [orB, andB, Bool.or_eq_true, Bool.and_eq_true, Bool.or_eq_false_iff, Bool.and_eq_false_iff, Bool.not_eq_true', Bool.not_eq_false', decide_eq_true_eq, decide_eq_false_iff_not, Int.not_lt, Int.not_le, Decidable.not_not, List.length_replicate, inK] at hc); (try simp only [inK, List.length_append, List.length_cons, List.length_nil, List.length_replicate, strVals_len, bstr_len, set_len, ByteArray.size_append, Nat.mul_one, List.length_drop, List.length_take, appN_len]); all_goals first | omega | (simp; done) | (simp_all; done) | (simp_all; omega)), (by intro hc; (try simp only [orB, andB, Bool.or_eq_true, Bool.and_eq_true, Bool.or_eq_false_iff, Bool.and_eq_false_iff, Bool.not_eq_true', Bool.not_eq_false', decide_eq_true_eq, decide_eq_false_iff_not, Int.not_lt, Int.not_le, Decidable.not_not, List.length_replicate, inK] at hc); (try simp only [inK, List.length_append, List.length_cons, List.length_nil, List.length_replicate, strVals_len, bstr_len, set_len, ByteArray.size_append, Nat.mul_one, List.length_drop, List.length_take, appN_len]); all_goals first | omega | (simp; done) | (simp_all; done) | (simp_all; omega)), trivial⟩ ?_
      refine W.cond (p := (orB (decide ((vI (cellAt l i.toNat 0)) < (0 : Int))) (decide ((15 : Int) < (vI (cellAt l i.toNat 0)))))) (by kernel_rfl) (fun h3 => ?_) (fun h3 => ?_)
      · have h3p := h3
        try simp only [orB, andB, Bool.or_eq_true, Bool.and_eq_true, Bool.or_eq_false_iff, Bool.and_eq_false_iff, Bool.not_eq_true', Bool.not_eq_false', decide_eq_true_eq, decide_eq_false_iff_not, Int.not_lt, Int.not_le, Decidable.not_not, List.length_replicate] at h3p
        refine W.sx tt_ok [] [0, 2, 3, 4, 5] [0, 1] ⟨[eR 0 0, (2, none, .sv (.lf (.val (.slice none 0 0)))), eB 3 false, eR 4 1, eI 5 i], [lI 3 l, rII 42 ys], oL 1 1⟩ [] (by kernel_rfl) trivial ?_
        refine W.nilrow 2 42 [.int .i64, .int .i64] ⟨[eR 2 2, eR 0 0, eB 3 false, eR 4 1, eI 5 i], [lI 3 l, rII 42 ys, rII 42 ([] : List (List Value))], oL 1 1⟩ (by kernel_rfl) ?_
        exact W.retq tt_ok Try.f10 [0, 2] [.row false 3 [.int .i64] l, .row true 42 [.int .i64, .int .i64] ([] : List (List Value))] (.tup [.lf (.row 1), .lf (.val (.bool false))]) (by kernel_rfl) (by rw [wCodes_no (badL_2 (i := i) hi.1 (by omega) (by omega))]) (by rw [wCodes_no (badL_2 (i := i) hi.1 (by omega) (by omega))]) (fun _ _ h => h)
      · have h3p := h3
        try simp only [orB, andB, Bool.or_eq_true, Bool.and_eq_true, Bool.or_eq_false_iff, Bool.and_eq_false_iff, Bool.not_eq_true', Bool.not_eq_false', decide_eq_true_eq, decide_eq_false_iff_not, Int.not_lt, Int.not_le, Decidable.not_not, List.length_replicate] at h3p
        refine W.skip ?_
        refine W.next ?_
        refine W.regionX tt_ok [] [0, 2, 3, 4, 5] [0, 1] ⟨[eR 0 0, (2, none, .sv (.lf (.val (.slice none 0 0)))), eB 3 false, eR 4 1, eI 5 i], [lI 3 l, rII 42 (ys ++ ([[wI (0 : Int), wI (0 : Int)]]))], oL 1 1⟩ [(ys.length + ([[Value.int .i64 (0 : Int), Value.int .i64 (0 : Int)]]).length) * 16 ≤ 140737488355328] (by kernel_rfl) ⟨(by (try simp only [inK, List.length_append, List.length_cons, List.length_nil, List.length_replicate, strVals_len, bstr_len, set_len, ByteArray.size_append, Nat.mul_one, List.length_drop, List.length_take, appN_len]); all_goals first | omega | trivial | (simp; done) | (simp_all; done) | (simp_all; omega)), trivial⟩ ?_
        refine unblock ?_
        refine W.next ?_
        refine W.regionX tt_ok [] [0, 2, 3, 4, 5] [0, 1] ⟨[eR 0 0, (2, none, .sv (.lf (.val (.slice none 0 0)))), eB 3 false, eR 4 1, eI 5 (i + (1 : Int))], [lI 3 l, rII 42 (ys ++ ([[wI (0 : Int), wI (0 : Int)]]))], oL 1 1⟩ [inK .i64 (i + (1 : Int))] (by kernel_rfl) ⟨(by simp only [inK]; omega), trivial⟩ ?_
        exact againK [0, 2, 3, 4, 5] [0, 1] ⟨[eR 0 0, (2, none, .sv (.lf (.val (.slice none 0 0)))), eB 3 false, eR 4 1, eI 5 (i + (1 : Int))], [lI 3 l, rII 42 (ys ++ ([[wI (0 : Int), wI (0 : Int)]]))], oL 1 1⟩ (by kernel_rfl) ⟨(i + (1 : Int)), (ys ++ ([[Value.int .i64 (0 : Int), Value.int .i64 (0 : Int)]]))⟩ (show (0 ≤ (i + (1 : Int)) ∧ (i + (1 : Int)) ≤ (l.length : Int)) ∧ ((ys ++ ([[Value.int .i64 (0 : Int), Value.int .i64 (0 : Int)]])) = List.replicate (i + (1 : Int)).toNat (cell2 0 0)) ∧ (∀ j : Nat, (j : Int) < (i + (1 : Int)) → 0 ≤ vI (cellAt l j 0) ∧ vI (cellAt l j 0) ≤ 15) from ⟨by omega, by rw [show (i + 1).toNat = i.toNat + 1 by omega, ← rep2_succ, hy], fun j hj => by by_cases e : (j : Int) = i; rw [show j = i.toNat by omega]; omega; exact hz j (by omega)⟩) (show ((l.length : Int) - (i + (1 : Int))).toNat < ((l.length : Int) - i).toNat from by omega) rfl
    · have h2p := of_decide_eq_false h2
      refine W.exit ?_
      refine exit_then ?_
      refine exit_then ?_
      refine exit_here ?_
      refine W.next ?_
      refine W.seq ?_
      have := kraftN_bd l l.length
      refine W.sx tt_ok [⟨0, 0, none⟩, ⟨0, 0, some ⟨[.lend 0], [.row false 3 [.int .i64] l], .sv (.lf (.val (.int .i64 (kraftL l))))⟩⟩] [0, 2, 3, 4, 37] [0, 1] ⟨[eR 0 0, (2, none, .sv (.lf (.val (.slice none 0 0)))), eB 3 false, eR 4 1, eB 37 (decide ((32768 : Int) < (kraftL l)))], [lI 3 l, rII 42 ys], oL 1 1⟩ [RS.Spec Try.prog 17 [.row false 3 [.int .i64] l] [.sv (.lf (.row 0))] [.row false 3 [.int .i64] l] (.sv (.lf (.val (.int .i64 (kraftL l)))))] (by kernel_rfl) ⟨(rKraft_spec l (by omega) (by (try simp only [inK, List.length_append, List.length_cons, List.length_nil, List.length_replicate, strVals_len, bstr_len, set_len, ByteArray.size_append, Nat.mul_one, List.length_drop, List.length_take, appN_len]); all_goals first | omega | trivial | (simp; done) | (simp_all; done) | (simp_all; omega))), trivial⟩ ?_
      refine W.cond (p := (decide ((32768 : Int) < (kraftL l)))) (by kernel_rfl) (fun h4 => ?_) (fun h4 => ?_)
      · have h4p := of_decide_eq_true h4
        refine W.sx tt_ok [] [0, 2, 3, 4] [0, 1] ⟨[eR 0 0, (2, none, .sv (.lf (.val (.slice none 0 0)))), eB 3 false, eR 4 1], [lI 3 l, rII 42 ys], oL 1 1⟩ [] (by kernel_rfl) trivial ?_
        refine W.nilrow 2 42 [.int .i64, .int .i64] ⟨[eR 2 2, eR 0 0, eB 3 false, eR 4 1], [lI 3 l, rII 42 ys, rII 42 ([] : List (List Value))], oL 1 1⟩ (by kernel_rfl) ?_
        exact W.retq tt_ok Try.f10 [0, 2] [.row false 3 [.int .i64] l, .row true 42 [.int .i64, .int .i64] ([] : List (List Value))] (.tup [.lf (.row 1), .lf (.val (.bool false))]) (by kernel_rfl) (by rw [wCodes_no (badL_3 (by omega))]) (by rw [wCodes_no (badL_3 (by omega))]) (fun _ _ h => h)
      · have h4p := of_decide_eq_false h4
        refine W.skip ?_
        refine W.next ?_
        refine W.sx tt_ok [] [0, 2, 3, 4, 6] [0, 1] ⟨[eR 0 0, (2, none, .sv (.lf (.val (.slice none 0 0)))), eB 3 false, eR 4 1, eI 6 (0 : Int)], [lI 3 l, rII 42 ys], oL 1 1⟩ [] (by kernel_rfl) trivial ?_
        refine W.seq ?_
        refine W.sx tt_ok [] [0, 2, 3, 4, 6, 7] [0, 1] ⟨[eR 0 0, (2, none, .sv (.lf (.val (.slice none 0 0)))), eB 3 false, eR 4 1, eI 6 (0 : Int), eI 7 (1 : Int)], [lI 3 l, rII 42 ys], oL 1 1⟩ [] (by kernel_rfl) trivial ?_
        refine W.block ?_
        refine W.loop (ι := Int × Int × List (List Value)) (fun z => ⟨[eR 0 0, (2, none, .sv (.lf (.val (.slice none 0 0)))), eB 3 false, eR 4 1, eI 6 z.1, eI 7 z.2.1], [lI 3 l, rII 42 z.2.2], oL 1 1⟩) (fun z => (1 ≤ z.2.1 ∧ z.2.1 ≤ 16) ∧ (z.1 = endL l (z.2.1 - 1).toNat) ∧ (z.2.2 = outN l z.2.1 0)) (fun z => (16 - z.2.1).toNat) ⟨0, 1, ys⟩ (show (1 ≤ (1 : Int) ∧ (1 : Int) ≤ 16) ∧ ((0 : Int) = endL l ((1 : Int) - 1).toNat) ∧ (ys = outN l (1 : Int) 0) from ⟨by omega, rfl, by rw [outN_zero, hy, show i.toNat = l.length by omega]⟩) rfl ?_
        rintro ⟨nx, n, zs⟩ ⟨hn, hx, hq⟩
        dsimp only at hn hx hq
        have hkr : kraftL l ≤ 32768 := by omega
        have heb := endL_bd hkr (n := (n - 1).toNat) (by omega)
        refine W.seq ?_
        refine W.sx tt_ok [] [0, 2, 3, 4, 6, 7, 39] [0, 1] ⟨[eR 0 0, (2, none, .sv (.lf (.val (.slice none 0 0)))), eB 3 false, eR 4 1, eI 6 nx, eI 7 n, eB 39 (decide (n ≤ (15 : Int)))], [lI 3 l, rII 42 zs], oL 1 1⟩ [] (by kernel_rfl) trivial ?_
        refine W.cond (p := (decide (n ≤ (15 : Int)))) (by kernel_rfl) (fun h5 => ?_) (fun h5 => ?_)
        · have h5p := of_decide_eq_true h5
          refine W.skip ?_
          refine W.next ?_
          refine W.seq ?_
          refine W.block ?_
          refine W.sx tt_ok [] [0, 2, 3, 4, 6, 7] [0, 1] ⟨[eR 0 0, (2, none, .sv (.lf (.val (.slice none 0 0)))), eB 3 false, eR 4 1, eI 6 ((2 : Int) * nx), eI 7 n], [lI 3 l, rII 42 zs], oL 1 1⟩ [inK .i64 ((2 : Int) * nx)] (by kernel_rfl) ⟨(by simp only [inK]; omega), trivial⟩ ?_
          refine W.sx tt_ok [] [0, 2, 3, 4, 6, 7, 8] [0, 1] ⟨[eR 0 0, (2, none, .sv (.lf (.val (.slice none 0 0)))), eB 3 false, eR 4 1, eI 6 ((2 : Int) * nx), eI 7 n, eI 8 (0 : Int)], [lI 3 l, rII 42 zs], oL 1 1⟩ [] (by kernel_rfl) trivial ?_
          refine W.block ?_
          refine W.loop (ι := Int × Int × List (List Value)) (fun z => ⟨[eR 0 0, (2, none, .sv (.lf (.val (.slice none 0 0)))), eB 3 false, eR 4 1, eI 6 z.1, eI 7 n, eI 8 z.2.1], [lI 3 l, rII 42 z.2.2], oL 1 1⟩) (fun z => (0 ≤ z.2.1 ∧ z.2.1 ≤ (l.length : Int)) ∧ (z.1 = baseL l n.toNat + cntL l n z.2.1.toNat) ∧ (z.2.2 = outN l n z.2.1.toNat)) (fun z => ((l.length : Int) - z.2.1).toNat) ⟨((2 : Int) * nx), 0, zs⟩ (show (0 ≤ (0 : Int) ∧ (0 : Int) ≤ (l.length : Int)) ∧ (((2 : Int) * nx) = baseL l n.toNat + cntL l n (0 : Int).toNat) ∧ (zs = outN l n (0 : Int).toNat) from ⟨by omega, by rw [hx]; unfold baseL; simp only [Int.toNat_zero, cntL, Int.add_zero, show (0 : Int).toNat = 0 from rfl]; rw [show n.toNat - 1 = (n - 1).toNat by omega], by rw [hq]; rfl⟩) rfl ?_
          rintro ⟨ny, k, ws⟩ ⟨hk2, hx2, hq2⟩
          dsimp only at hk2 hx2 hq2
          have hib := inner_bd hkr hn.1 (by omega) (i := k.toNat) (by omega)
          have hwl : ws.length = l.length := by rw [hq2, outN_len]
          refine W.seq ?_
          refine W.sx tt_ok [] [0, 2, 3, 4, 6, 7, 8, 47] [0, 1] ⟨[eR 0 0, (2, none, .sv (.lf (.val (.slice none 0 0)))), eB 3 false, eR 4 1, eI 6 ny, eI 7 n, eI 8 k, eB 47 (decide (k < (l.length : Int)))], [lI 3 l, rII 42 ws], oL 1 1⟩ [] (by kernel_rfl) trivial ?_
          refine W.cond (p := (decide (k < (l.length : Int)))) (by kernel_rfl) (fun h6 => ?_) (fun h6 => ?_)
          · have h6p := of_decide_eq_true h6
            refine W.skip ?_
            refine W.next ?_
            refine W.seq ?_
            refine W.block ?_
            refine W.sx tt_ok [] [0, 2, 3, 4, 6, 7, 8, 55] [0, 1] ⟨[eR 0 0, (2, none, .sv (.lf (.val (.slice none 0 0)))), eB 3 false, eR 4 1, eI 6 ny, eI 7 n, eI 8 k, eB 55 (decide ((vI (cellAt l k.toNat 0)) = n))], [lI 3 l, rII 42 ws], oL 1 1⟩ [0 ≤ k ∧ k < (l.length : Int), 0 ≤ k ∧ k < (l.length : Int)] (by kernel_rfl) ⟨(by omega), (by omega), trivial⟩ ?_
            refine W.cond (p := (decide ((vI (cellAt l k.toNat 0)) = n))) (by kernel_rfl) (fun h7 => ?_) (fun h7 => ?_)
            · have h7p := of_decide_eq_true h7
              refine W.sx tt_ok [] [0, 2, 3, 4, 6, 7, 8] [0, 1] ⟨[eR 0 0, (2, none, .sv (.lf (.val (.slice none 0 0)))), eB 3 false, eR 4 1, eI 6 ny, eI 7 n, eI 8 k], [lI 3 l, rII 42 (ws.set k.toNat [wI n, wI ny])], oL 1 1⟩ [0 ≤ k ∧ k < (ws.length : Int), 0 ≤ k ∧ k < (ws.length : Int)] (by kernel_rfl) ⟨(by omega), (by omega), trivial⟩ ?_
              refine W.regionX tt_ok [] [0, 2, 3, 4, 6, 7, 8] [0, 1] ⟨[eR 0 0, (2, none, .sv (.lf (.val (.slice none 0 0)))), eB 3 false, eR 4 1, eI 6 (ny + (1 : Int)), eI 7 n, eI 8 k], [lI 3 l, rII 42 (ws.set k.toNat [wI n, wI ny])], oL 1 1⟩ [inK .i64 (ny + (1 : Int))] (by kernel_rfl) ⟨(by simp only [inK]; omega), trivial⟩ ?_
              refine unblock ?_
              refine W.next ?_
              refine W.regionX tt_ok [] [0, 2, 3, 4, 6, 7, 8] [0, 1] ⟨[eR 0 0, (2, none, .sv (.lf (.val (.slice none 0 0)))), eB 3 false, eR 4 1, eI 6 (ny + (1 : Int)), eI 7 n, eI 8 (k + (1 : Int))], [lI 3 l, rII 42 (ws.set k.toNat [wI n, wI ny])], oL 1 1⟩ [inK .i64 (k + (1 : Int))] (by kernel_rfl) ⟨(by simp only [inK]; omega), trivial⟩ ?_
              exact againK [0, 2, 3, 4, 6, 7, 8] [0, 1] ⟨[eR 0 0, (2, none, .sv (.lf (.val (.slice none 0 0)))), eB 3 false, eR 4 1, eI 6 (ny + (1 : Int)), eI 7 n, eI 8 (k + (1 : Int))], [lI 3 l, rII 42 (ws.set k.toNat [wI n, wI ny])], oL 1 1⟩ (by kernel_rfl) ⟨(ny + (1 : Int)), (k + (1 : Int)), (ws.set k.toNat [Value.int .i64 n, Value.int .i64 ny])⟩ (show (0 ≤ (k + (1 : Int)) ∧ (k + (1 : Int)) ≤ (l.length : Int)) ∧ ((ny + (1 : Int)) = baseL l n.toNat + cntL l n (k + (1 : Int)).toNat) ∧ ((ws.set k.toNat [Value.int .i64 n, Value.int .i64 ny]) = outN l n (k + (1 : Int)).toNat) from ⟨by omega, by first | rw [show (k + 1).toNat = k.toNat + 1 by omega, cnt_yes (by assumption), hx2, Int.add_assoc] | rw [show (k + 1).toNat = k.toNat + 1 by omega, cnt_no (by assumption), hx2], by first | (rw [show (k + 1).toNat = k.toNat + 1 by omega, ← outN_set (i := k.toNat) (by omega) hn.1 (by assumption), ← hx2, hq2]; rfl) | rw [show (k + 1).toNat = k.toNat + 1 by omega, outN_skip (by assumption), hq2]⟩) (show ((l.length : Int) - (k + (1 : Int))).toNat < ((l.length : Int) - k).toNat from by omega) rfl
            · have h7p := of_decide_eq_false h7
              refine W.skip ?_
              refine unblock ?_
              refine W.next ?_
              refine W.regionX tt_ok [] [0, 2, 3, 4, 6, 7, 8] [0, 1] ⟨[eR 0 0, (2, none, .sv (.lf (.val (.slice none 0 0)))), eB 3 false, eR 4 1, eI 6 ny, eI 7 n, eI 8 (k + (1 : Int))], [lI 3 l, rII 42 ws], oL 1 1⟩ [inK .i64 (k + (1 : Int))] (by kernel_rfl) ⟨(by simp only [inK]; omega), trivial⟩ ?_
              exact againK [0, 2, 3, 4, 6, 7, 8] [0, 1] ⟨[eR 0 0, (2, none, .sv (.lf (.val (.slice none 0 0)))), eB 3 false, eR 4 1, eI 6 ny, eI 7 n, eI 8 (k + (1 : Int))], [lI 3 l, rII 42 ws], oL 1 1⟩ (by kernel_rfl) ⟨ny, (k + (1 : Int)), ws⟩ (show (0 ≤ (k + (1 : Int)) ∧ (k + (1 : Int)) ≤ (l.length : Int)) ∧ (ny = baseL l n.toNat + cntL l n (k + (1 : Int)).toNat) ∧ (ws = outN l n (k + (1 : Int)).toNat) from ⟨by omega, by first | rw [show (k + 1).toNat = k.toNat + 1 by omega, cnt_yes (by assumption), hx2, Int.add_assoc] | rw [show (k + 1).toNat = k.toNat + 1 by omega, cnt_no (by assumption), hx2], by first | (rw [show (k + 1).toNat = k.toNat + 1 by omega, ← outN_set (i := k.toNat) (by omega) hn.1 (by assumption), ← hx2, hq2]; rfl) | rw [show (k + 1).toNat = k.toNat + 1 by omega, outN_skip (by assumption), hq2]⟩) (show ((l.length : Int) - (k + (1 : Int))).toNat < ((l.length : Int) - k).toNat from by omega) rfl
          · have h6p := of_decide_eq_false h6
            refine W.exit ?_
            refine exit_then ?_
            refine exit_then ?_
            refine exit_here ?_
            refine unblock ?_
            refine W.next ?_
            refine W.regionX tt_ok [] [0, 2, 3, 4, 6, 7] [0, 1] ⟨[eR 0 0, (2, none, .sv (.lf (.val (.slice none 0 0)))), eB 3 false, eR 4 1, eI 6 ny, eI 7 (n + (1 : Int))], [lI 3 l, rII 42 ws], oL 1 1⟩ [inK .i64 (n + (1 : Int))] (by kernel_rfl) ⟨(by simp only [inK]; omega), trivial⟩ ?_
            exact againK [0, 2, 3, 4, 6, 7] [0, 1] ⟨[eR 0 0, (2, none, .sv (.lf (.val (.slice none 0 0)))), eB 3 false, eR 4 1, eI 6 ny, eI 7 (n + (1 : Int))], [lI 3 l, rII 42 ws], oL 1 1⟩ (by kernel_rfl) ⟨ny, (n + (1 : Int)), ws⟩ (show (1 ≤ (n + (1 : Int)) ∧ (n + (1 : Int)) ≤ 16) ∧ (ny = endL l ((n + (1 : Int)) - 1).toNat) ∧ (ws = outN l (n + (1 : Int)) 0) from ⟨by omega, by rw [hx2, show (n + 1 - 1).toNat = n.toNat by omega, endL_eq l (by omega), show ((n.toNat : Nat) : Int) = n by omega, show k.toNat = l.length by omega], by rw [hq2, show k.toNat = l.length by omega, outN_next]⟩) (show (16 - (n + (1 : Int))).toNat < (16 - n).toNat from by omega) rfl
        · have h5p := of_decide_eq_false h5
          refine W.exit ?_
          refine exit_then ?_
          refine exit_then ?_
          refine exit_here ?_
          refine W.next ?_
          refine W.sx tt_ok [] [2, 3] [0, 1] ⟨[eR 2 1, eB 3 true], [lI 3 l, rII 42 zs], oL 1 1⟩ [] (by kernel_rfl) trivial ?_
          exact W.retq tt_ok Try.f10 [0, 1] [.row false 3 [.int .i64] l, .row true 42 [.int .i64, .int .i64] zs] (.tup [.lf (.row 1), .lf (.val (.bool true))]) (by kernel_rfl) (by rw [wCodes_yes (badL_no.2 ⟨by omega, fun j hj => hz j (by omega), by omega⟩), hq, show n = 16 by omega]; rfl) (by rw [wCodes_yes (badL_no.2 ⟨by omega, fun j hj => hz j (by omega), by omega⟩)]) (fun _ _ h => h)
theorem sameC_spec (xs : List (List Value)) (ys : List (List Value)) (hx : (xs.length : Int) ≤ 140737488355328) (hy : (ys.length : Int) ≤ 140737488355328) : RS.Spec Try.prog 15 [.row false 42 [.int .i64, .int .i64] xs, .row false 42 [.int .i64, .int .i64] ys] [.sv (.lf (.row 0)), .sv (.lf (.row 1))] [.row false 42 [.int .i64, .int .i64] xs, .row false 42 [.int .i64, .int .i64] ys] (.sv (.lf (.val (.bool (sameC xs ys))))) := by
  refine RS.Spec.intro (tt := tt) (nt := 26) Try.f15 _ Try.func15 (FnOK.of Try.func15 rfl rfl) rfl rfl (by simp) (fun gg ww => ?_)
  refine W.sx tt_ok [] [0, 1, 4] [0, 1] ⟨[eR 0 0, eR 1 1, eB 4 false], [lII 42 xs, lII 42 ys], oL 2 0⟩ [] (by kernel_rfl) trivial ?_
  refine W.seq ?_
  refine W.sx tt_ok [] [0, 1, 4, 10] [0, 1] ⟨[eR 0 0, eR 1 1, eB 4 false, eB 10 (decide (¬ (xs.length : Int) = (ys.length : Int)))], [lII 42 xs, lII 42 ys], oL 2 0⟩ [] (by kernel_rfl) trivial ?_
  refine W.cond (p := (decide (¬ (xs.length : Int) = (ys.length : Int)))) (by kernel_rfl) (fun h1 => ?_) (fun h1 => ?_)
  · have h1p := h1
    try simp only [orB, andB, Bool.or_eq_true, Bool.and_eq_true, Bool.or_eq_false_iff, Bool.and_eq_false_iff, Bool.not_eq_true', Bool.not_eq_false', decide_eq_true_eq, decide_eq_false_iff_not, Int.not_lt, Int.not_le, Decidable.not_not, List.length_replicate] at h1p
    refine W.sx tt_ok [] [0, 1, 4] [0, 1] ⟨[eR 0 0, eR 1 1, eB 4 false], [lII 42 xs, lII 42 ys], oL 2 0⟩ [] (by kernel_rfl) trivial ?_
    exact W.retq tt_ok Try.f15 [0, 1] [.row false 42 [.int .i64, .int .i64] xs, .row false 42 [.int .i64, .int .i64] ys] (.sv (.lf (.val (.bool false)))) (by kernel_rfl) (rfl) (by rw [sameC_len h1p]) (fun _ _ h => h)
  · have h1p := h1
    try simp only [orB, andB, Bool.or_eq_true, Bool.and_eq_true, Bool.or_eq_false_iff, Bool.and_eq_false_iff, Bool.not_eq_true', Bool.not_eq_false', decide_eq_true_eq, decide_eq_false_iff_not, Int.not_lt, Int.not_le, Decidable.not_not, List.length_replicate] at h1p
    refine W.skip ?_
    refine W.next ?_
    refine W.seq ?_
    refine W.sx tt_ok [] [0, 1, 4, 5] [0, 1] ⟨[eR 0 0, eR 1 1, eB 4 false, eI 5 (0 : Int)], [lII 42 xs, lII 42 ys], oL 2 0⟩ [] (by kernel_rfl) trivial ?_
    refine W.block ?_
    refine W.loop (ι := Int) (fun z => ⟨[eR 0 0, eR 1 1, eB 4 false, eI 5 z], [lII 42 xs, lII 42 ys], oL 2 0⟩) (fun z => (0 ≤ z ∧ z ≤ (xs.length : Int)) ∧ (∀ j : Nat, (j : Int) < z → num xs j 0 = num ys j 0 ∧ num xs j 1 = num ys j 1)) (fun z => ((xs.length : Int) - z).toNat) (0 : Int) (show (0 ≤ (0 : Int) ∧ (0 : Int) ≤ (xs.length : Int)) ∧ (∀ j : Nat, (j : Int) < (0 : Int) → num xs j 0 = num ys j 0 ∧ num xs j 1 = num ys j 1) from ⟨by omega, fun j hj => by omega⟩) rfl ?_
    rintro i ⟨hi, ha⟩
    refine W.seq ?_
    refine W.sx tt_ok [] [0, 1, 4, 5, 14] [0, 1] ⟨[eR 0 0, eR 1 1, eB 4 false, eI 5 i, eB 14 (decide (i < (xs.length : Int)))], [lII 42 xs, lII 42 ys], oL 2 0⟩ [] (by kernel_rfl) trivial ?_
    refine W.cond (p := (decide (i < (xs.length : Int)))) (by kernel_rfl) (fun h2 => ?_) (fun h2 => ?_)
    · have h2p := of_decide_eq_true h2
      refine W.skip ?_
      refine W.next ?_
      refine W.seq ?_
      refine W.block ?_
      refine W.sd hm tt_ok 9 (by kernel_rfl) [] [0, 1, 4, 5, 25] [0, 1] ⟨[eR 0 0, eR 1 1, eB 4 false, eI 5 i, eB 25 (decide (¬ eqLV [.val (.int .i64 (vI (cellAt xs i.toNat 0))), .val (.int .i64 (vI (cellAt xs i.toNat 1)))] [.val (.int .i64 (vI (cellAt ys i.toNat 0))), .val (.int .i64 (vI (cellAt ys i.toNat 1)))] = true))], [lII 42 xs, lII 42 ys], oL 2 0⟩ [0 ≤ i ∧ i < (xs.length : Int), 0 ≤ i ∧ i < (xs.length : Int), 0 ≤ i ∧ i < (ys.length : Int), 0 ≤ i ∧ i < (ys.length : Int)] (by kernel_rfl) ⟨(by omega), (by omega), (by omega), (by omega), trivial⟩ ?_
      refine W.cond (p := (decide (¬ eqLV [.val (.int .i64 (vI (cellAt xs i.toNat 0))), .val (.int .i64 (vI (cellAt xs i.toNat 1)))] [.val (.int .i64 (vI (cellAt ys i.toNat 0))), .val (.int .i64 (vI (cellAt ys i.toNat 1)))] = true))) (by kernel_rfl) (fun h3 => ?_) (fun h3 => ?_)
      · have h3p := h3
        try simp only [orB, andB, Bool.or_eq_true, Bool.and_eq_true, Bool.or_eq_false_iff, Bool.and_eq_false_iff, Bool.not_eq_true', Bool.not_eq_false', decide_eq_true_eq, decide_eq_false_iff_not, Int.not_lt, Int.not_le, Decidable.not_not, List.length_replicate] at h3p
        refine W.sx tt_ok [] [0, 1, 4, 5] [0, 1] ⟨[eR 0 0, eR 1 1, eB 4 false, eI 5 i], [lII 42 xs, lII 42 ys], oL 2 0⟩ [] (by kernel_rfl) trivial ?_
        exact W.retq tt_ok Try.f15 [0, 1] [.row false 42 [.int .i64, .int .i64] xs, .row false 42 [.int .i64, .int .i64] ys] (.sv (.lf (.val (.bool false)))) (by kernel_rfl) (rfl) (by first | rw [sameC_all (by omega) (fun j hj => ha j (by omega))] | rw [sameC_at (i := i) hi.1 (by omega) (fun q => (of_decide_eq_true h3) (eqLV2_iff.2 q))]) (fun _ _ h => h)
      · have h3p := h3
        try simp only [orB, andB, Bool.or_eq_true, Bool.and_eq_true, Bool.or_eq_false_iff, Bool.and_eq_false_iff, Bool.not_eq_true', Bool.not_eq_false', decide_eq_true_eq, decide_eq_false_iff_not, Int.not_lt, Int.not_le, Decidable.not_not, List.length_replicate] at h3p
        refine W.skip ?_
        refine unblock ?_
        refine W.next ?_
        refine W.regionX tt_ok [] [0, 1, 4, 5] [0, 1] ⟨[eR 0 0, eR 1 1, eB 4 false, eI 5 (i + (1 : Int))], [lII 42 xs, lII 42 ys], oL 2 0⟩ [inK .i64 (i + (1 : Int))] (by kernel_rfl) ⟨(by simp only [inK]; omega), trivial⟩ ?_
        exact againK [0, 1, 4, 5] [0, 1] ⟨[eR 0 0, eR 1 1, eB 4 false, eI 5 (i + (1 : Int))], [lII 42 xs, lII 42 ys], oL 2 0⟩ (by kernel_rfl) (i + (1 : Int)) (show (0 ≤ (i + (1 : Int)) ∧ (i + (1 : Int)) ≤ (xs.length : Int)) ∧ (∀ j : Nat, (j : Int) < (i + (1 : Int)) → num xs j 0 = num ys j 0 ∧ num xs j 1 = num ys j 1) from ⟨by omega, fun j hj => by by_cases e : (j : Int) = i; exact (show i.toNat = j by omega) ▸ (eqLV2_iff.1 (Classical.not_not.1 (of_decide_eq_false h3))); exact ha j (by omega)⟩) (show ((xs.length : Int) - (i + (1 : Int))).toNat < ((xs.length : Int) - i).toNat from by omega) rfl
    · have h2p := of_decide_eq_false h2
      refine W.exit ?_
      refine exit_then ?_
      refine exit_then ?_
      refine exit_here ?_
      refine W.next ?_
      refine W.sx tt_ok [] [4] [0, 1] ⟨[eB 4 true], [lII 42 xs, lII 42 ys], oL 2 0⟩ [] (by kernel_rfl) trivial ?_
      exact W.retq tt_ok Try.f15 [0, 1] [.row false 42 [.int .i64, .int .i64] xs, .row false 42 [.int .i64, .int .i64] ys] (.sv (.lf (.val (.bool true)))) (by kernel_rfl) (rfl) (by first | rw [sameC_all (by omega) (fun j hj => ha j (by omega))] | rw [sameC_at (i := i) hi.1 (by omega) (fun q => (of_decide_eq_true h3) (eqLV2_iff.2 q))]) (fun _ _ h => h)
theorem rWrite_spec (l : List (List Value)) (s : Int) (hl : (l.length : Int) ≤ 17592186044416) (hk : ∀ j o : Nat, -9223372036854775808 ≤ vI (cellAt l j o) ∧ vI (cellAt l j o) ≤ 9223372036854775807) (hs : inK .i64 s) : RS.Spec Try.prog 12 [.row false 3 [.int .i64] l] [.sv (.lf (.row 0)), .sv (.lf (.val (.int .i64 s)))] [.row false 3 [.int .i64] l, .row true 4 [.bool] ((wWrite l s).1)] (.tup [.lf (.row 1), .lf (.val (.bool ((wWrite l s).2)))]) := by
  refine RS.Spec.intro (tt := tt) (nt := 43) Try.f12 _ Try.func12 (FnOK.of Try.func12 rfl rfl) rfl rfl (by simp) (fun gg ww => ?_)
  simp only [inK] at hs
  refine W.sx tt_ok [] [0, 1, 4, 5] [0] ⟨[eR 0 0, eI 1 s, (4, none, .sv (.lf (.val (.slice none 0 0)))), eB 5 false], [lI 3 l], oL 1 0⟩ [] (by kernel_rfl) trivial ?_
  have := wCodes_len l
  refine W.sx tt_ok [⟨0, 0, none⟩, ⟨0, 0, some ⟨[.lend 0], [.row false 3 [.int .i64] l, .row true 42 [.int .i64, .int .i64] ((wCodes l).1)], .tup [.lf (.row 1), .lf (.val (.bool ((wCodes l).2)))]⟩⟩] [0, 1, 4, 5, 6, 7] [0, 1] ⟨[eR 0 0, eI 1 s, (4, none, .sv (.lf (.val (.slice none 0 0)))), eB 5 false, eR 6 1, eB 7 ((wCodes l).2)], [lI 3 l, rII 42 ((wCodes l).1)], oL 1 1⟩ [RS.Spec Try.prog 10 [.row false 3 [.int .i64] l] [.sv (.lf (.row 0))] [.row false 3 [.int .i64] l, .row true 42 [.int .i64, .int .i64] ((wCodes l).1)] (.tup [.lf (.row 1), .lf (.val (.bool ((wCodes l).2)))])] (by kernel_rfl) ⟨(rCodes_spec l (by omega) (by (try simp only [inK, List.length_append, List.length_cons, List.length_nil, List.length_replicate, strVals_len, bstr_len, set_len, ByteArray.size_append, Nat.mul_one, List.length_drop, List.length_take, appN_len]); all_goals first | omega | trivial | (simp; done) | (simp_all; done) | (simp_all; omega))), trivial⟩ ?_
  have hwb : (wCodes l).2 = !(badL l) := wCodes_ok l
  refine W.seq ?_
  refine W.sx tt_ok [] [0, 1, 4, 5, 6, 24] [0, 1] ⟨[eR 0 0, eI 1 s, (4, none, .sv (.lf (.val (.slice none 0 0)))), eB 5 false, eR 6 1, eB 24 (orB (orB (!((wCodes l).2)) (decide (s < (0 : Int)))) (decide ((l.length : Int) ≤ s)))], [lI 3 l, rII 42 ((wCodes l).1)], oL 1 1⟩ [] (by kernel_rfl) trivial ?_
  refine W.cond (p := (orB (orB (!((wCodes l).2)) (decide (s < (0 : Int)))) (decide ((l.length : Int) ≤ s)))) (by kernel_rfl) (fun h1 => ?_) (fun h1 => ?_)
  · have h1p := h1
    try simp only [orB, andB, Bool.or_eq_true, Bool.and_eq_true, Bool.or_eq_false_iff, Bool.and_eq_false_iff, Bool.not_eq_true', Bool.not_eq_false', decide_eq_true_eq, decide_eq_false_iff_not, Int.not_lt, Int.not_le, Decidable.not_not, List.length_replicate] at h1p
    have hno : badL l = true ∨ s < 0 ∨ (l.length : Int) ≤ s := by rw [hwb] at h1; revert h1; cases badL l <;> simp [orB] <;> omega
    refine W.sx tt_ok [] [0, 1, 4, 5, 6] [0, 1] ⟨[eR 0 0, eI 1 s, (4, none, .sv (.lf (.val (.slice none 0 0)))), eB 5 false, eR 6 1], [lI 3 l, rII 42 ((wCodes l).1)], oL 1 1⟩ [] (by kernel_rfl) trivial ?_
    refine W.nilrow 4 4 [.bool] ⟨[eR 4 2, eR 0 0, eI 1 s, eB 5 false, eR 6 1], [lI 3 l, rII 42 ((wCodes l).1), rB 4 ([] : List (List Value))], oL 1 1⟩ (by kernel_rfl) ?_
    exact W.retq tt_ok Try.f12 [0, 2] [.row false 3 [.int .i64] l, .row true 4 [.bool] ([] : List (List Value))] (.tup [.lf (.row 1), .lf (.val (.bool false))]) (by kernel_rfl) (by rw [wWrite_no (by rcases hno with q | q | q; exact .inl q; exact .inr (.inl q); exact .inr (.inr (.inl q)))]) (by rw [wWrite_no (by rcases hno with q | q | q; exact .inl q; exact .inr (.inl q); exact .inr (.inr (.inl q)))]) (fun _ _ h => h)
  · have h1p := h1
    try simp only [orB, andB, Bool.or_eq_true, Bool.and_eq_true, Bool.or_eq_false_iff, Bool.and_eq_false_iff, Bool.not_eq_true', Bool.not_eq_false', decide_eq_true_eq, decide_eq_false_iff_not, Int.not_lt, Int.not_le, Decidable.not_not, List.length_replicate] at h1p
    have hbad : badL l = false := by rw [hwb] at h1; revert h1; cases badL l <;> simp [orB]
    have hs2 : 0 ≤ s ∧ s < (l.length : Int) := by rw [hwb, hbad] at h1; revert h1; simp [orB] <;> omega
    have hbn := badL_no.1 hbad
    have hcl : (wCodes l).1.length = l.length := by rw [wCodes_yes hbad]; exact outN_len _ _ _
    refine W.skip ?_
    refine W.next ?_
    refine W.seq ?_
    refine W.sx tt_ok [] [1, 4, 5, 6, 29] [0, 1] ⟨[eI 1 s, (4, none, .sv (.lf (.val (.slice none 0 0)))), eB 5 false, eR 6 1, eB 29 (decide ((vI (cellAt l s.toNat 0)) = (0 : Int)))], [lI 3 l, rII 42 ((wCodes l).1)], oL 1 1⟩ [0 ≤ s ∧ s < (l.length : Int), 0 ≤ s ∧ s < (l.length : Int)] (by kernel_rfl) ⟨(by omega), (by omega), trivial⟩ ?_
    refine W.cond (p := (decide ((vI (cellAt l s.toNat 0)) = (0 : Int)))) (by kernel_rfl) (fun h2 => ?_) (fun h2 => ?_)
    · have h2p := of_decide_eq_true h2
      refine W.sx tt_ok [] [1, 4, 5, 6] [0, 1] ⟨[eI 1 s, (4, none, .sv (.lf (.val (.slice none 0 0)))), eB 5 false, eR 6 1], [lI 3 l, rII 42 ((wCodes l).1)], oL 1 1⟩ [] (by kernel_rfl) trivial ?_
      refine W.nilrow 4 4 [.bool] ⟨[eR 4 2, eI 1 s, eB 5 false, eR 6 1], [lI 3 l, rII 42 ((wCodes l).1), rB 4 ([] : List (List Value))], oL 1 1⟩ (by kernel_rfl) ?_
      exact W.retq tt_ok Try.f12 [0, 2] [.row false 3 [.int .i64] l, .row true 4 [.bool] ([] : List (List Value))] (.tup [.lf (.row 1), .lf (.val (.bool false))]) (by kernel_rfl) (by rw [wWrite_no (by exact .inr (.inr (.inr h2p)))]) (by rw [wWrite_no (by exact .inr (.inr (.inr h2p)))]) (fun _ _ h => h)
    · have h2p := of_decide_eq_false h2
      have hok : wrOK l s := ⟨hbad, hs2.1, hs2.2, h2p⟩
      refine W.skip ?_
      refine W.next ?_
      have := bPut_len (vI (cellAt ((wCodes l).1) s.toNat 1)) (vI (cellAt ((wCodes l).1) s.toNat 0))
      refine W.weaken [1, 6] [0, 1] ⟨[eI 1 s, eR 6 1], [lI 3 l, rII 42 ((wCodes l).1)], oL 1 1⟩ (by kernel_rfl) ?_
      refine W.sy hm tt_ok 15 [⟨30, some (none, aR 1), none⟩, ⟨31, some (none, aI s), none⟩, ⟨32, some (none, .sv (.lf (.elt 1 2 s 0))), none⟩, ⟨33, some (none, .sv (.lf (.elt 1 2 s 1))), none⟩, ⟨34, some (none, aI (vI (cellAt ((wCodes l).1) s.toNat 1))), none⟩, ⟨35, some (none, aR 1), none⟩, ⟨36, some (none, aI s), none⟩, ⟨37, some (none, .sv (.lf (.elt 1 2 s 0))), none⟩, ⟨38, some (none, .sv (.lf (.elt 1 2 s 0))), none⟩, ⟨39, some (none, aI (vI (cellAt ((wCodes l).1) s.toNat 0))), none⟩, ⟨40, some (none, .tup [.lf (.row 12), .lf (.val (.bool ((bPut [] (vI (cellAt ((wCodes l).1) s.toNat 1)) (vI (cellAt ((wCodes l).1) s.toNat 0))).2)))]), some (rB 4 ((bPut [] (vI (cellAt ((wCodes l).1) s.toNat 1)) (vI (cellAt ((wCodes l).1) s.toNat 0))).1))⟩, ⟨41, some (none, aR 12), none⟩, ⟨42, some (none, aB ((bPut [] (vI (cellAt ((wCodes l).1) s.toNat 1)) (vI (cellAt ((wCodes l).1) s.toNat 0))).2)), none⟩, ⟨4, some (none, aR 12), none⟩, ⟨5, some (none, aB ((bPut [] (vI (cellAt ((wCodes l).1) s.toNat 1)) (vI (cellAt ((wCodes l).1) s.toNat 0))).2)), none⟩] (by kernel_rfl) [⟨0, 0, none⟩, ⟨0, 0, none⟩, ⟨0, 0, none⟩, ⟨0, 0, none⟩, ⟨0, 0, none⟩, ⟨0, 0, none⟩, ⟨0, 0, none⟩, ⟨0, 0, none⟩, ⟨0, 0, none⟩, ⟨0, 0, none⟩, ⟨0, 0, some ⟨[], [.row true 4 [.bool] ((bPut [] (vI (cellAt ((wCodes l).1) s.toNat 1)) (vI (cellAt ((wCodes l).1) s.toNat 0))).1)], .tup [.lf (.row 0), .lf (.val (.bool ((bPut [] (vI (cellAt ((wCodes l).1) s.toNat 1)) (vI (cellAt ((wCodes l).1) s.toNat 0))).2)))]⟩⟩] [4, 5] [0, 12] ⟨[eR 4 1, eB 5 ((bPut [] (vI (cellAt ((wCodes l).1) s.toNat 1)) (vI (cellAt ((wCodes l).1) s.toNat 0))).2)], [lI 3 l, rB 4 ((bPut [] (vI (cellAt ((wCodes l).1) s.toNat 1)) (vI (cellAt ((wCodes l).1) s.toNat 0))).1)], oL 1 1⟩ [0 ≤ s ∧ s < (((wCodes l).1).length : Int), 0 ≤ s ∧ s < (((wCodes l).1).length : Int), 0 ≤ s ∧ s < (((wCodes l).1).length : Int), 0 ≤ s ∧ s < (((wCodes l).1).length : Int), RS.Spec Try.prog 21 [] [.sv (.lf (.val (.slice none 0 0))), .sv (.lf (.val (.int .i64 (vI (cellAt ((wCodes l).1) s.toNat 1))))), .sv (.lf (.val (.int .i64 (vI (cellAt ((wCodes l).1) s.toNat 0)))))] [.row true 4 [.bool] ((bPut [] (vI (cellAt ((wCodes l).1) s.toNat 1)) (vI (cellAt ((wCodes l).1) s.toNat 0))).1)] (.tup [.lf (.row 0), .lf (.val (.bool ((bPut [] (vI (cellAt ((wCodes l).1) s.toNat 1)) (vI (cellAt ((wCodes l).1) s.toNat 0))).2)))])] (by kernel_rfl) ⟨(by omega), (by omega), (by omega), (by omega), (rPut_spec (vI (cellAt ((wCodes l).1) s.toNat 1)) (vI (cellAt ((wCodes l).1) s.toNat 0)) (wCodes_in l _ _) (wCodes_in l _ _)), trivial⟩ ?_
      exact W.retq tt_ok Try.f12 [0, 1] [.row false 3 [.int .i64] l, .row true 4 [.bool] ((bPut [] (vI (cellAt ((wCodes l).1) s.toNat 1)) (vI (cellAt ((wCodes l).1) s.toNat 0))).1)] (.tup [.lf (.row 1), .lf (.val (.bool ((bPut [] (vI (cellAt ((wCodes l).1) s.toNat 1)) (vI (cellAt ((wCodes l).1) s.toNat 0))).2)))]) (by kernel_rfl) (by rw [wCodes_yes hbad]; rw [put_code hok]) (by rw [wCodes_yes hbad]; rw [put_code hok]) (fun _ _ h => h)
theorem rRead_spec (l : List (List Value)) (b : List (List Value)) (a : Int) (hl : (l.length : Int) ≤ 17592186044416) (hk : ∀ j o : Nat, -9223372036854775808 ≤ vI (cellAt l j o) ∧ vI (cellAt l j o) ≤ 9223372036854775807) (hb : (b.length : Int) ≤ 17592186044416) (ha : inK .i64 a) : RS.Spec Try.prog 14 [.row false 3 [.int .i64] l, .row false 4 [.bool] b] [.sv (.lf (.row 0)), .sv (.lf (.row 1)), .sv (.lf (.val (.int .i64 a)))] [.row false 3 [.int .i64] l, .row false 4 [.bool] b] (.tup [.lf (.val (.int .i64 ((wRead l b a).1))), .lf (.val (.int .i64 ((wRead l b a).2.1))), .lf (.val (.bool ((wRead l b a).2.2)))]) := by
  refine RS.Spec.intro (tt := tt) (nt := 58) Try.f14 _ Try.func14 (FnOK.of Try.func14 rfl rfl) rfl rfl (by simp) (fun gg ww => ?_)
  simp only [inK] at ha
  refine W.sx tt_ok [] [0, 1, 2, 6, 7, 8] [0, 1] ⟨[eR 0 0, eR 1 1, eI 2 a, eI 6 (0 : Int), eI 7 (0 : Int), eB 8 false], [lI 3 l, lB 4 b], oL 2 0⟩ [] (by kernel_rfl) trivial ?_
  have := wCodes_len l
  refine W.sx tt_ok [⟨0, 0, none⟩, ⟨0, 0, some ⟨[.lend 0], [.row false 3 [.int .i64] l, .row true 42 [.int .i64, .int .i64] ((wCodes l).1)], .tup [.lf (.row 1), .lf (.val (.bool ((wCodes l).2)))]⟩⟩] [1, 2, 6, 7, 8, 9, 10] [0, 1, 2] ⟨[eR 1 1, eI 2 a, eI 6 (0 : Int), eI 7 (0 : Int), eB 8 false, eR 9 2, eB 10 ((wCodes l).2)], [lI 3 l, lB 4 b, rII 42 ((wCodes l).1)], oL 2 1⟩ [RS.Spec Try.prog 10 [.row false 3 [.int .i64] l] [.sv (.lf (.row 0))] [.row false 3 [.int .i64] l, .row true 42 [.int .i64, .int .i64] ((wCodes l).1)] (.tup [.lf (.row 1), .lf (.val (.bool ((wCodes l).2)))])] (by kernel_rfl) ⟨(rCodes_spec l (by omega) (by (try simp only [inK, List.length_append, List.length_cons, List.length_nil, List.length_replicate, strVals_len, bstr_len, set_len, ByteArray.size_append, Nat.mul_one, List.length_drop, List.length_take, appN_len]); all_goals first | omega | trivial | (simp; done) | (simp_all; done) | (simp_all; omega))), trivial⟩ ?_
  have hwb : (wCodes l).2 = !(badL l) := wCodes_ok l
  refine W.seq ?_
  refine W.sx tt_ok [] [1, 2, 6, 7, 8, 9, 21] [0, 1, 2] ⟨[eR 1 1, eI 2 a, eI 6 (0 : Int), eI 7 (0 : Int), eB 8 false, eR 9 2, eB 21 (!((wCodes l).2))], [lI 3 l, lB 4 b, rII 42 ((wCodes l).1)], oL 2 1⟩ [] (by kernel_rfl) trivial ?_
  refine W.cond (p := (!((wCodes l).2))) (by kernel_rfl) (fun h1 => ?_) (fun h1 => ?_)
  · have h1p := h1
    try simp only [orB, andB, Bool.or_eq_true, Bool.and_eq_true, Bool.or_eq_false_iff, Bool.and_eq_false_iff, Bool.not_eq_true', Bool.not_eq_false', decide_eq_true_eq, decide_eq_false_iff_not, Int.not_lt, Int.not_le, Decidable.not_not, List.length_replicate] at h1p
    have hbad : badL l = true := by rw [hwb] at h1; simpa using h1
    refine W.sx tt_ok [] [1, 2, 6, 7, 8, 9] [0, 1, 2] ⟨[eR 1 1, eI 2 a, eI 6 (0 : Int), eI 7 (0 : Int), eB 8 false, eR 9 2], [lI 3 l, lB 4 b, rII 42 ((wCodes l).1)], oL 2 1⟩ [] (by kernel_rfl) trivial ?_
    exact W.retq tt_ok Try.f14 [0, 1] [.row false 3 [.int .i64] l, .row false 4 [.bool] b] (.tup [.lf (.val (.int .i64 (0 : Int))), .lf (.val (.int .i64 (0 : Int))), .lf (.val (.bool false))]) (by kernel_rfl) (rfl) (by rw [wRead_bad hbad]) (fun _ _ h => h)
  · have h1p := h1
    try simp only [orB, andB, Bool.or_eq_true, Bool.and_eq_true, Bool.or_eq_false_iff, Bool.and_eq_false_iff, Bool.not_eq_true', Bool.not_eq_false', decide_eq_true_eq, decide_eq_false_iff_not, Int.not_lt, Int.not_le, Decidable.not_not, List.length_replicate] at h1p
    have hbad : badL l = false := by rw [hwb] at h1; simpa using h1
    have hbn := badL_no.1 hbad
    have hcl : (wCodes l).1.length = l.length := by rw [wCodes_yes hbad]; exact outN_len _ _ _
    refine W.skip ?_
    refine W.next ?_
    refine W.seq ?_
    refine W.sx tt_ok [] [1, 2, 6, 7, 8, 9, 11] [0, 1, 2] ⟨[eR 1 1, eI 2 a, eI 6 (0 : Int), eI 7 (0 : Int), eB 8 false, eR 9 2, eI 11 (0 : Int)], [lI 3 l, lB 4 b, rII 42 ((wCodes l).1)], oL 2 1⟩ [] (by kernel_rfl) trivial ?_
    refine W.block ?_
    refine W.loop (ι := Int) (fun z => ⟨[eR 1 1, eI 2 a, eI 6 (0 : Int), eI 7 (0 : Int), eB 8 false, eR 9 2, eI 11 z], [lI 3 l, lB 4 b, rII 42 ((wCodes l).1)], oL 2 1⟩) (fun z => (0 ≤ z ∧ z ≤ (l.length : Int)) ∧ (∀ j : Nat, (j : Int) < z → hitR l b a j = false)) (fun z => ((l.length : Int) - z).toNat) (0 : Int) (show (0 ≤ (0 : Int) ∧ (0 : Int) ≤ (l.length : Int)) ∧ (∀ j : Nat, (j : Int) < (0 : Int) → hitR l b a j = false) from ⟨by omega, fun j hj => by omega⟩) rfl ?_
    rintro i ⟨hi, hz⟩
    have hin := codes_hit (b := b) (a := a) hbad (i := i)
    refine W.seq ?_
    refine W.sx tt_ok [] [1, 2, 6, 7, 8, 9, 11, 25] [0, 1, 2] ⟨[eR 1 1, eI 2 a, eI 6 (0 : Int), eI 7 (0 : Int), eB 8 false, eR 9 2, eI 11 i, eB 25 (decide (i < (((wCodes l).1).length : Int)))], [lI 3 l, lB 4 b, rII 42 ((wCodes l).1)], oL 2 1⟩ [] (by kernel_rfl) trivial ?_
    refine W.cond (p := (decide (i < (((wCodes l).1).length : Int)))) (by kernel_rfl) (fun h2 => ?_) (fun h2 => ?_)
    · have h2p := of_decide_eq_true h2
      refine W.skip ?_
      refine W.next ?_
      refine W.seq ?_
      refine W.block ?_
      refine W.seq ?_
      refine W.sx tt_ok [] [1, 2, 6, 7, 8, 9, 11, 33] [0, 1, 2] ⟨[eR 1 1, eI 2 a, eI 6 (0 : Int), eI 7 (0 : Int), eB 8 false, eR 9 2, eI 11 i, eB 33 (decide ((vI (cellAt ((wCodes l).1) i.toNat 0)) = (0 : Int)))], [lI 3 l, lB 4 b, rII 42 ((wCodes l).1)], oL 2 1⟩ [0 ≤ i ∧ i < (((wCodes l).1).length : Int), 0 ≤ i ∧ i < (((wCodes l).1).length : Int)] (by kernel_rfl) ⟨(by omega), (by omega), trivial⟩ ?_
      refine W.cond (p := (decide ((vI (cellAt ((wCodes l).1) i.toNat 0)) = (0 : Int)))) (by kernel_rfl) (fun h3 => ?_) (fun h3 => ?_)
      · have h3p := of_decide_eq_true h3
        refine W.exit ?_
        refine exit_then ?_
        refine exit_here ?_
        refine W.next ?_
        refine W.regionX tt_ok [] [1, 2, 6, 7, 8, 9, 11] [0, 1, 2] ⟨[eR 1 1, eI 2 a, eI 6 (0 : Int), eI 7 (0 : Int), eB 8 false, eR 9 2, eI 11 (i + (1 : Int))], [lI 3 l, lB 4 b, rII 42 ((wCodes l).1)], oL 2 1⟩ [inK .i64 (i + (1 : Int))] (by kernel_rfl) ⟨(by simp only [inK]; omega), trivial⟩ ?_
        exact againK [1, 2, 6, 7, 8, 9, 11] [0, 1, 2] ⟨[eR 1 1, eI 2 a, eI 6 (0 : Int), eI 7 (0 : Int), eB 8 false, eR 9 2, eI 11 (i + (1 : Int))], [lI 3 l, lB 4 b, rII 42 ((wCodes l).1)], oL 2 1⟩ (by kernel_rfl) (i + (1 : Int)) (show (0 ≤ (i + (1 : Int)) ∧ (i + (1 : Int)) ≤ (l.length : Int)) ∧ (∀ j : Nat, (j : Int) < (i + (1 : Int)) → hitR l b a j = false) from ⟨by omega, fun j hj => by by_cases e : (j : Int) = i; rw [show j = i.toNat by omega]; (first | exact hin.1 hi.1 (by omega) (by assumption) | exact hin.2.1 hi.1 (by omega) (by assumption) (by assumption)); exact hz j (by omega)⟩) (show ((l.length : Int) - (i + (1 : Int))).toNat < ((l.length : Int) - i).toNat from by omega) rfl
      · have h3p := of_decide_eq_false h3
        refine W.skip ?_
        refine W.next ?_
        have := bTake3_bd b a (vI (cellAt ((wCodes l).1) i.toNat 0))
        refine W.sx tt_ok [⟨0, 0, none⟩, ⟨0, 0, none⟩, ⟨0, 0, none⟩, ⟨0, 0, none⟩, ⟨0, 0, none⟩, ⟨0, 0, none⟩, ⟨0, 0, none⟩, ⟨0, 0, some ⟨[.lend 1], [.row false 4 [.bool] b], .tup [.lf (.val (.int .i64 ((bTake3 b a (vI (cellAt ((wCodes l).1) i.toNat 0))).1))), .lf (.val (.int .i64 ((bTake3 b a (vI (cellAt ((wCodes l).1) i.toNat 0))).2.1))), .lf (.val (.bool ((bTake3 b a (vI (cellAt ((wCodes l).1) i.toNat 0))).2.2)))]⟩⟩] [1, 2, 6, 7, 8, 9, 11, 12, 13, 14] [0, 1, 2] ⟨[eR 1 1, eI 2 a, eI 6 (0 : Int), eI 7 (0 : Int), eB 8 false, eR 9 2, eI 11 i, eI 12 ((bTake3 b a (vI (cellAt ((wCodes l).1) i.toNat 0))).1), eI 13 ((bTake3 b a (vI (cellAt ((wCodes l).1) i.toNat 0))).2.1), eB 14 ((bTake3 b a (vI (cellAt ((wCodes l).1) i.toNat 0))).2.2)], [lI 3 l, lB 4 b, rII 42 ((wCodes l).1)], oL 2 1⟩ [0 ≤ i ∧ i < (((wCodes l).1).length : Int), 0 ≤ i ∧ i < (((wCodes l).1).length : Int), RS.Spec Try.prog 23 [.row false 4 [.bool] b] [.sv (.lf (.row 0)), .sv (.lf (.val (.int .i64 a))), .sv (.lf (.val (.int .i64 (vI (cellAt ((wCodes l).1) i.toNat 0)))))] [.row false 4 [.bool] b] (.tup [.lf (.val (.int .i64 ((bTake3 b a (vI (cellAt ((wCodes l).1) i.toNat 0))).1))), .lf (.val (.int .i64 ((bTake3 b a (vI (cellAt ((wCodes l).1) i.toNat 0))).2.1))), .lf (.val (.bool ((bTake3 b a (vI (cellAt ((wCodes l).1) i.toNat 0))).2.2)))])] (by kernel_rfl) ⟨(by omega), (by omega), (rTake3_spec b a (vI (cellAt ((wCodes l).1) i.toNat 0)) (by omega) (by (try simp only [inK, List.length_append, List.length_cons, List.length_nil, List.length_replicate, strVals_len, bstr_len, set_len, ByteArray.size_append, Nat.mul_one, List.length_drop, List.length_take, appN_len]); all_goals first | omega | trivial | (simp; done) | (simp_all; done) | (simp_all; omega)) (wCodes_in l _ _)), trivial⟩ ?_
        refine W.sx tt_ok [] [1, 2, 6, 7, 8, 9, 11, 13, 55] [0, 1, 2] ⟨[eR 1 1, eI 2 a, eI 6 (0 : Int), eI 7 (0 : Int), eB 8 false, eR 9 2, eI 11 i, eI 13 ((bTake3 b a (vI (cellAt ((wCodes l).1) i.toNat 0))).2.1), eB 55 (andB ((bTake3 b a (vI (cellAt ((wCodes l).1) i.toNat 0))).2.2) (decide (((bTake3 b a (vI (cellAt ((wCodes l).1) i.toNat 0))).1) = (vI (cellAt ((wCodes l).1) i.toNat 1)))))], [lI 3 l, lB 4 b, rII 42 ((wCodes l).1)], oL 2 1⟩ [((bTake3 b a (vI (cellAt ((wCodes l).1) i.toNat 0))).2.2) = true → 0 ≤ i ∧ i < (((wCodes l).1).length : Int), ((bTake3 b a (vI (cellAt ((wCodes l).1) i.toNat 0))).2.2) = true → 0 ≤ i ∧ i < (((wCodes l).1).length : Int)] (by kernel_rfl) ⟨(by intro hc; (try simp only [orB, andB, Bool.or_eq_true, Bool.and_eq_true, Bool.or_eq_false_iff, Bool.and_eq_false_iff, Bool.not_eq_true', Bool.not_eq_false', decide_eq_true_eq, decide_eq_false_iff_not, Int.not_lt, Int.not_le, Decidable.not_not, List.length_replicate, inK] at hc); (try simp only [inK, List.length_append, List.length_cons, List.length_nil, List.length_replicate, strVals_len, bstr_len, set_len, ByteArray.size_append, Nat.mul_one, List.length_drop, List.length_take, appN_len]); all_goals first | omega | (simp; done) | (simp_all; done) | (simp_all; omega)), (by intro hc; (try simp only [orB, andB, Bool.or_eq_true, Bool.and_eq_true, Bool.or_eq_false_iff, Bool.and_eq_false_iff, Bool.not_eq_true', Bool.not_eq_false', decide_eq_true_eq, decide_eq_false_iff_not, Int.not_lt, Int.not_le, Decidable.not_not, List.length_replicate, inK] at hc); (try simp only [inK, List.length_append, List.length_cons, List.length_nil, List.length_replicate, strVals_len, bstr_len, set_len, ByteArray.size_append, Nat.mul_one, List.length_drop, List.length_take, appN_len]); all_goals first | omega | (simp; done) | (simp_all; done) | (simp_all; omega)), trivial⟩ ?_
        refine W.cond (p := (andB ((bTake3 b a (vI (cellAt ((wCodes l).1) i.toNat 0))).2.2) (decide (((bTake3 b a (vI (cellAt ((wCodes l).1) i.toNat 0))).1) = (vI (cellAt ((wCodes l).1) i.toNat 1)))))) (by kernel_rfl) (fun h4 => ?_) (fun h4 => ?_)
        · have h4p := h4
          try simp only [orB, andB, Bool.or_eq_true, Bool.and_eq_true, Bool.or_eq_false_iff, Bool.and_eq_false_iff, Bool.not_eq_true', Bool.not_eq_false', decide_eq_true_eq, decide_eq_false_iff_not, Int.not_lt, Int.not_le, Decidable.not_not, List.length_replicate] at h4p
          refine W.sx tt_ok [] [1, 2, 6, 7, 8, 9, 11] [0, 1, 2] ⟨[eR 1 1, eI 2 a, eI 6 i, eI 7 ((bTake3 b a (vI (cellAt ((wCodes l).1) i.toNat 0))).2.1), eB 8 true, eR 9 2, eI 11 i], [lI 3 l, lB 4 b, rII 42 ((wCodes l).1)], oL 2 1⟩ [] (by kernel_rfl) trivial ?_
          exact W.retq tt_ok Try.f14 [0, 1] [.row false 3 [.int .i64] l, .row false 4 [.bool] b] (.tup [.lf (.val (.int .i64 i)), .lf (.val (.int .i64 ((bTake3 b a (vI (cellAt ((wCodes l).1) i.toNat 0))).2.1))), .lf (.val (.bool true))]) (by kernel_rfl) (rfl) (by rw [hin.2.2 hi.1 (by omega) h3 h4 (fun j hj => hz j (by omega))]) (fun _ _ h => h)
        · have h4p := h4
          try simp only [orB, andB, Bool.or_eq_true, Bool.and_eq_true, Bool.or_eq_false_iff, Bool.and_eq_false_iff, Bool.not_eq_true', Bool.not_eq_false', decide_eq_true_eq, decide_eq_false_iff_not, Int.not_lt, Int.not_le, Decidable.not_not, List.length_replicate] at h4p
          refine W.skip ?_
          refine unblock ?_
          refine W.next ?_
          refine W.regionX tt_ok [] [1, 2, 6, 7, 8, 9, 11] [0, 1, 2] ⟨[eR 1 1, eI 2 a, eI 6 (0 : Int), eI 7 (0 : Int), eB 8 false, eR 9 2, eI 11 (i + (1 : Int))], [lI 3 l, lB 4 b, rII 42 ((wCodes l).1)], oL 2 1⟩ [inK .i64 (i + (1 : Int))] (by kernel_rfl) ⟨(by simp only [inK]; omega), trivial⟩ ?_
          exact againK [1, 2, 6, 7, 8, 9, 11] [0, 1, 2] ⟨[eR 1 1, eI 2 a, eI 6 (0 : Int), eI 7 (0 : Int), eB 8 false, eR 9 2, eI 11 (i + (1 : Int))], [lI 3 l, lB 4 b, rII 42 ((wCodes l).1)], oL 2 1⟩ (by kernel_rfl) (i + (1 : Int)) (show (0 ≤ (i + (1 : Int)) ∧ (i + (1 : Int)) ≤ (l.length : Int)) ∧ (∀ j : Nat, (j : Int) < (i + (1 : Int)) → hitR l b a j = false) from ⟨by omega, fun j hj => by by_cases e : (j : Int) = i; rw [show j = i.toNat by omega]; (first | exact hin.1 hi.1 (by omega) (by assumption) | exact hin.2.1 hi.1 (by omega) (by assumption) (by assumption)); exact hz j (by omega)⟩) (show ((l.length : Int) - (i + (1 : Int))).toNat < ((l.length : Int) - i).toNat from by omega) rfl
    · have h2p := of_decide_eq_false h2
      refine W.exit ?_
      refine exit_then ?_
      refine exit_then ?_
      refine exit_here ?_
      refine W.next ?_
      refine W.sx tt_ok [] [6, 7, 8] [0, 1] ⟨[eI 6 (0 : Int), eI 7 (0 : Int), eB 8 false], [lI 3 l, lB 4 b], oL 2 0⟩ [] (by kernel_rfl) trivial ?_
      exact W.retq tt_ok Try.f14 [0, 1] [.row false 3 [.int .i64] l, .row false 4 [.bool] b] (.tup [.lf (.val (.int .i64 (0 : Int))), .lf (.val (.int .i64 (0 : Int))), .lf (.val (.bool false))]) (by kernel_rfl) (rfl) (by rw [wRead_none hbad (fun j hj => hz j (by omega))]) (fun _ _ h => h)
end Go.Proofs.Ytpjiobflmcmlmaa
