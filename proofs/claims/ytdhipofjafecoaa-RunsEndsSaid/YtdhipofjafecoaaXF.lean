/- Chapter 13: the iterator over the runs, and the functions that range over it. -/
import Derived.RangeFuncBox
import Derived.RangeFuncKeeps
import Derived.RangeFuncLeaves
import Derived.Shelf.Abstract
import Derived.WalkKit
import Derived.OwnWalkIn
import Derived.TacticsInMore
import Derived.LoopNIn
import Derived.LoopIn
import Derived.BigFrameIn
import Derived.Test.YtdhipofjafecoaaChecked
import Derived.Test.YtdhipofjafecoaaRsRunsM
import Derived.Test.YtdhipofjafecoaaRsBool
set_option linter.unusedVariables false
set_option linter.unusedSimpArgs false
namespace Go.Proofs.Ytdhipofjafecoaa
open Go Go.RowKit Go.Shelf Go.Proofs.Ytdhipofjafecoaa.RS
attribute [local go_sem] Oper.semAt_some
abbrev encs (p : Int × Int) : Array Value := #[.int .i64 p.1, .int .i64 p.2]
/-- What a round must keep: what lay below, and the box with the slice. -/
def Kp (n0 B : Nat) (A C : World) : Prop := Below n0 A C ∧ ∀ v, A.cell? ⟨B, 0, none⟩ = some v → C.cell? ⟨B, 0, none⟩ = some v
theorem Kp.trans {n0 B : Nat} {X Y Z : World} (h : Kp n0 B X Y) (k : Kp n0 B Y Z) : Kp n0 B X Z := ⟨h.1.trans k.1, fun v hv => k.2 v (h.2 v hv)⟩
theorem Kp.refl (n0 B : Nat) (X : World) : Kp n0 B X X := ⟨Below.refl _ _, fun _ h => h⟩
set_option maxRecDepth 100000 in
set_option maxHeartbeats 4000000 in
theorem all1_in (F : Fence) (n : Nat) (h23 : F.fn 23) (hro : F.round = none) (hn : 1 ≤ n) (l B n0 b off : Nat) (A : Option Addr) (len cap : Nat) (u : Nat → Bool) (hlen : len ≤ 140737488355328) (J Jx : List (Int × Int) → World → Prop)
    (hY : ∀ pre x W, J pre W → pre.length < (runsL u len).length → YieldAt F (n - 1) Try.prog l (encs x) W fun e W' =>
      (e = .returned (.bool true) ∧ J (pre ++ [x]) W' ∧ Kp n0 B W W') ∨ (e = .returned (.bool false) ∧ Jx (pre ++ [x]) W'))
    (W : World) (hB : W.cell? ⟨B, 0, none⟩ = some (.slice A len cap)) (hA : 0 < len → A = some ⟨b, off, none⟩) (hb : 0 < len → b < n0) (hcs : ∀ j, j < len → W.cell? ⟨b, off + j, none⟩ = some (.bool (u j))) (h0 : J [] W) :
    CallsIn F n Try.prog 23 #[.func (.yield l) #[] #[], .pointer (some ⟨B, 0, none⟩)] W fun e W' => (∃ v, e = .returned v) ∧
      ((∃ ys, ys = runsL u len ∧ J ys W') ∨ (∃ pre, pre <+: runsL u len ∧ Jx pre W')) := by
  refine callsIn_of_wp Try.func23 rfl h23 ?_ hro
  simp only [Try.ntmps23, List.size_toArray, List.length_cons, List.length_nil, Nat.reduceAdd, Nat.reduceSub, Array.replicate_succ, Array.replicate_zero, List.push_toArray, List.append_toArray, List.nil_append, List.cons_append]
  gi_wp2
  gi_loopw [3, 8] (fun vn vi wr => ∃ k : Nat, k ≤ len + 1 ∧ vn = .int .i64 (curN u len k) ∧ vi = .int .i64 k ∧ J (runsN u len k) wr ∧ Kp n0 B W wr)
    (fun _ vi _ => len + 1 - (intOf vi).toNat)
  case atStart => exact ⟨0, Nat.zero_le _, rfl, rfl, h0, Kp.refl _ _ _⟩
  case round =>
    obtain ⟨k, hk, rfl, rfl, hJs, hkp⟩ := hrel
    have hB' := hkp.2 _ hB
    have hcur := curN_le u len k
    by_cases hlt : k < len + 1
    · by_cases hin : k < len
      · obtain rfl := hA (by omega)
        have hck := (hkp.1.cell (p := ⟨b, off + k, none⟩) (hb (by omega))).trans (hcs k hin)
        cases hu : u k with
        | false =>
          rw [hu] at hck
          gi_wp2
          go_roundw
          case rel => exact ⟨k + 1, by omega, by simp [curN, hin, hu], by simp, by simp only [runsN]; rw [if_pos ⟨hin, hu⟩]; exact hJs, hkp⟩
          case measure => simp [intOf] <;> omega
        | true =>
          rw [hu] at hck
          have hnu : ¬ (k < len ∧ u k = false) := fun h => by rw [hu] at h; cases h.2
          by_cases hc : 0 < curN u len k
          · obtain ⟨fn, tmps, assign, body, hy, hR⟩ := hY _ ((k : Int) - curN u len k, (curN u len k : Int)) wr hJs (runsN_len u len (by omega) hnu hc)
            dsimp only [encs] at hy
            gi_wp2
            refine hR.mono ?_
            rintro e W3 (⟨rfl, hJ3, hk3⟩ | ⟨rfl, hJx3⟩)
            · gi_wp2
              go_roundw
              case rel => exact ⟨k + 1, by omega, by simp [curN, hu], by simp, by simp only [runsN]; rw [if_neg hnu, if_pos hc]; exact hJ3, hkp.trans hk3⟩
              case measure => simp [intOf] <;> omega
            · gi_wp2
              refine bodyPost_ret (results_none rfl _ _ _) rfl ?_
              exact ⟨⟨_, rfl⟩, .inr ⟨_, by have q := runsN_prefix u len (k := k + 1) (by omega); simp only [runsN] at q; rw [if_neg hnu, if_pos hc] at q; exact q, hJx3⟩⟩
          · have hz : curN u len k = 0 := by omega
            rw [hz]
            gi_wp2
            refine ⟨fun f h => (nomatch h), ?_⟩
            gi_wp2
            go_roundw
            case rel => exact ⟨k + 1, by omega, by simp [curN, hu], by simp, by simp only [runsN]; rw [if_neg hnu, if_neg hc]; exact hJs, hkp⟩
            case measure => simp [intOf] <;> omega
      · obtain rfl : k = len := by omega
        have hnu : ¬ (k < k ∧ u k = false) := fun h => by omega
        by_cases hc : 0 < curN u k k
        · obtain ⟨fn, tmps, assign, body, hy, hR⟩ := hY _ ((k : Int) - curN u k k, (curN u k k : Int)) wr hJs (runsN_len u k (by omega) hnu hc)
          dsimp only [encs] at hy
          gi_wp2
          refine hR.mono ?_
          rintro e W3 (⟨rfl, hJ3, hk3⟩ | ⟨rfl, hJx3⟩)
          · gi_wp2
            go_roundw
            case rel => exact ⟨k + 1, by omega, by simp [curN, hnu], by simp, by simp only [runsN]; rw [if_neg hnu, if_pos hc]; exact hJ3, hkp.trans hk3⟩
            case measure => simp [intOf] <;> omega
          · gi_wp2
            refine bodyPost_ret (results_none rfl _ _ _) rfl ?_
            exact ⟨⟨_, rfl⟩, .inr ⟨_, by have q := runsN_prefix u k (k := k + 1) (by omega); simp only [runsN] at q; rw [if_neg hnu, if_pos hc] at q; exact q, hJx3⟩⟩
        · have hz : curN u k k = 0 := by omega
          rw [hz]
          gi_wp2
          refine ⟨fun f h => (nomatch h), ?_⟩
          gi_wp2
          go_roundw
          case rel => exact ⟨k + 1, by omega, by simp [curN, hnu], by simp, by simp only [runsN]; rw [if_neg hnu, if_neg hc]; exact hJs, hkp⟩
          case measure => simp [intOf] <;> omega
    · obtain rfl : k = len + 1 := by omega
      gi_wp2
      go_end0
      exact ⟨⟨_, rfl⟩, .inl ⟨_, rfl, hJs⟩⟩
set_option maxHeartbeats 1000000 in
theorem all_in (F : Fence) (n : Nat) (h21 : F.fn 21) (hro : F.round = none) (a : Option Addr) (len cap : Nat) (w : World) :
    CallsIn F n Try.prog 21 #[.slice a len cap] w fun e w' => e = .returned (.func (.func 23) #[] #[.pointer (some ⟨w.heap.size, 0, none⟩)]) ∧ w' = w.alloc (.cells #[.slice a len cap] 22) := by
  refine callsIn_of_wp Try.func21 rfl h21 ?_ hro
  simp only [Try.ntmps21, List.size_toArray, List.length_cons, List.length_nil, Nat.reduceAdd, Nat.reduceSub, Array.replicate_succ, Array.replicate_zero, List.push_toArray, List.append_toArray, List.nil_append, List.cons_append]
  gi_wp2
  go_ret
  exact ⟨rfl, rfl⟩
theorem all_stops (F : Fence) (n : Nat) (h23 : F.fn 23) (hro : F.round = none) (hn : 1 ≤ n) (B n0 b off : Nat) (A : Option Addr) (len cap : Nat) (u : Nat → Bool) (hlen : len ≤ 140737488355328) (w : World) (hBs : B < w.heap.size) (hn0 : n0 ≤ w.heap.size)
    (hB : w.cell? ⟨B, 0, none⟩ = some (.slice A len cap)) (hA : 0 < len → A = some ⟨b, off, none⟩) (hb : 0 < len → b < n0) (hcs : ∀ j, j < len → w.cell? ⟨b, off + j, none⟩ = some (.bool (u j))) :
    SeqStopsK F n Try.prog 23 #[.pointer (some ⟨B, 0, none⟩)] encs (Kp n0 B) (fun ys => ys = runsL u len) (fun pre => pre <+: runsL u len) (runsL u len).length w := fun l J Jx W hW _ _ hY h0 =>
  all1_in F n h23 hro hn l B n0 b off A len cap u hlen J Jx hY W ((hW.cell (p := ⟨B, 0, none⟩) hBs).trans hB) hA hb (fun j hj => (hW.cell (p := ⟨b, off + j, none⟩) (Nat.lt_of_lt_of_le (hb (by omega)) hn0)).trans (hcs j hj)) h0
theorem Kp.b {n0 B : Nat} {w : World} (hn : n0 ≤ w.heap.size) (W : World) (l : Nat) (o o' : Obj) (hl : w.heap.size ≤ l) (h : W.heap[l]? = some o) (hc : o.isCells = false) (hw : o.isWalk = false) : Kp n0 B W (W.putObj l o') :=
  ⟨belowK_b hn W l o o' hl h hc hw, fun v hv => cell_kept hv (grownBy_putObj' W l o') (fun r e => by cases e; exact ⟨_, h, hc⟩)⟩
theorem Kp.set {n0 B p : Nat} {W : World} (h : n0 ≤ p) (hne : p ≠ B) (v : Value) : Kp n0 B W (W.setCell ⟨p, 0, none⟩ v) :=
  ⟨(Below.refl n0 W).setCell (p := ⟨p, 0, none⟩) h v, fun x hx => by
    rw [← hx]
    exact World.cell?_of_block ((grownBy_setCell' W p v).block B (by
      obtain ⟨o, ho, _⟩ := cells_of_cell hx
      exact (Array.getElem?_eq_some_iff.1 ho).1) (by simp; omega))⟩
set_option maxRecDepth 100000 in
set_option maxHeartbeats 4000000 in
theorem Longest_in (F : Fence) (n : Nat) (hF : ∀ f, F.fn f) (hro : F.round = none) (hn : 3 ≤ n) (b off : Nat) (a : Option Addr) (len cap : Nat) (u : Nat → Bool) (hlen : len ≤ 140737488355328) (w : World) (hA : 0 < len → a = some ⟨b, off, none⟩) (hb : 0 < len → b < w.heap.size) (hcs : ∀ j, j < len → w.cell? ⟨b, off + j, none⟩ = some (.bool (u j))) :
    CallsIn F n Try.prog 13 #[.slice a len cap] w fun e W' => e = .returned (.int .i64 (maxR (runsL u len))) ∧ Below w.heap.size w W' := by
  have h1 : 1 ≤ n := by omega
  refine callsIn_of_wp_marks Try.func13 rfl (hF 13) ?_ hro
  simp only [Try.ntmps13, List.size_toArray, List.length_cons, List.length_nil, Nat.reduceAdd, Nat.reduceSub, Array.replicate_succ, Array.replicate_zero, List.push_toArray, List.append_toArray, List.nil_append, List.cons_append]
  gi_wp2_with (gi_at_call 21; refine (all_in F (n - 1) (hF 21) hro _ _ _ _).mono ?_; rintro e w' ⟨rfl, rfl⟩)
  have bS := Boxed.new w 3 (.int .i64 0)
  have bN := Boxed.new (w.alloc (.cells #[.int .i64 0] 3)) 22 (.slice a len cap)
  rw [World.size_alloc] at bN
  have hB0 : Below w.heap.size w ((w.alloc (.cells #[.int .i64 0] 3)).alloc (.cells #[.slice a len cap] 22)) := ((Below.refl _ w).alloc (Nat.le_refl _) _).alloc (by simp) _
  refine wpIn_rangeFunc_ownG hro h1 (gf := 23) (lb := #[.pointer (some ⟨w.heap.size + 1, 0, none⟩)]) rfl (hF 23) (enters_of Try.func23 (by kernel_rfl) rfl)
    (all_stops F (n - 1) (hF 23) hro (by omega) (w.heap.size + 1) w.heap.size b off a len cap u hlen _ (by simp) (by simp; omega) bN.cell hA hb (fun j hj => (hB0.cell (p := ⟨b, off + j, none⟩) (hb (by omega))).trans (hcs j hj))) Kp.trans (Kp.b (by simp; omega)) (Below.refl _ _) (fun _ => rfl)
    (fun pre W => (W.cell? ⟨w.heap.size, 0, none⟩ = some (.int .i64 (maxR pre)) ∧ W.frozen? ⟨w.heap.size, 0, none⟩ = false) ∧ Below w.heap.size w W)
    (fun _ _ _ => False)
    (OwnFrom.and (Own.from (fun s A B row hs hg hr => ⟨cell_kept hs.1 hg hr, (frozen_kept hs.1 hg hr).trans hs.2⟩) _) (ownFrom_below (Nat.le_refl _) (by simp; omega)))
    (fun _ _ _ _ _ hs _ _ => hs)
    ⟨⟨(bS.alloc _).cell, (bS.alloc _).frozen⟩, hB0⟩
    (fun x => { tmps := #[.slice a len cap, undef, .int .i64 0, .pointer (some ⟨w.heap.size, 0, none⟩), undef, .int .i64 x.2, .slice a len cap, .func (.func 23) #[] #[.pointer (some ⟨w.heap.size + 1, 0, none⟩)], .int .i64 x.1, .int .i64 x.2, undef, undef, undef, undef], defers := [] }) ?assign ?body ?done ?stop
  case assign =>
    intro l x W K hK
    gi_wp2
    exact hK
  case body =>
    rintro l pre x W ⟨⟨hc, hf⟩, hB⟩ _
    gi_wp2
    all_goals exact ⟨(KeepsOthers.setCell _ _ _).from _, Kp.set (Nat.le_refl _) (by omega) _, ⟨by rw [maxR_snoc]; refine (World.cell?_setCell_same' _ _ _ (by rw [hc]; rfl)).trans ?_; congr 2; omega, by rw [World.frozen?_setCell]; exact hf⟩, hB.setCell (p := ⟨w.heap.size, 0, none⟩) (Nat.le_refl _) _⟩
  case done =>
    rintro D ys W hD rfl ⟨⟨hc, _⟩, hB⟩ hK
    gi_wp2
    refine ⟨by simp, .inl ⟨_, _, rfl, run_takeDeferred hK, ?_⟩⟩
    exact ⟨_, results_tmp rfl _ _ _, rfl, hB.trans (belowK_b (w := w) (Nat.le_refl _) W D _ _ (by simp at hD; omega) hK rfl rfl)⟩
  case stop =>
    rintro D c pre W _ _ h _
    exact h.elim
set_option maxRecDepth 100000 in
set_option maxHeartbeats 4000000 in
theorem Free_in (F : Fence) (n : Nat) (hF : ∀ f, F.fn f) (hro : F.round = none) (hn : 3 ≤ n) (b off : Nat) (a : Option Addr) (len cap : Nat) (u : Nat → Bool) (hlen : len ≤ 140737488355328) (w : World) (hA : 0 < len → a = some ⟨b, off, none⟩) (hb : 0 < len → b < w.heap.size) (hcs : ∀ j, j < len → w.cell? ⟨b, off + j, none⟩ = some (.bool (u j))) :
    CallsIn F n Try.prog 15 #[.slice a len cap] w fun e W' => e = .returned (.int .i64 (cntN u len)) ∧ Below w.heap.size w W' := by
  have h1 : 1 ≤ n := by omega
  refine callsIn_of_wp_marks Try.func15 rfl (hF 15) ?_ hro
  simp only [Try.ntmps15, List.size_toArray, List.length_cons, List.length_nil, Nat.reduceAdd, Nat.reduceSub, Array.replicate_succ, Array.replicate_zero, List.push_toArray, List.append_toArray, List.nil_append, List.cons_append]
  gi_wp2_with (gi_at_call 21; refine (all_in F (n - 1) (hF 21) hro _ _ _ _).mono ?_; rintro e w' ⟨rfl, rfl⟩)
  have bS := Boxed.new w 3 (.int .i64 0)
  have bN := Boxed.new (w.alloc (.cells #[.int .i64 0] 3)) 22 (.slice a len cap)
  rw [World.size_alloc] at bN
  have hB0 : Below w.heap.size w ((w.alloc (.cells #[.int .i64 0] 3)).alloc (.cells #[.slice a len cap] 22)) := ((Below.refl _ w).alloc (Nat.le_refl _) _).alloc (by simp) _
  refine wpIn_rangeFunc_ownG hro h1 (gf := 23) (lb := #[.pointer (some ⟨w.heap.size + 1, 0, none⟩)]) rfl (hF 23) (enters_of Try.func23 (by kernel_rfl) rfl)
    (all_stops F (n - 1) (hF 23) hro (by omega) (w.heap.size + 1) w.heap.size b off a len cap u hlen _ (by simp) (by simp; omega) bN.cell hA hb (fun j hj => (hB0.cell (p := ⟨b, off + j, none⟩) (hb (by omega))).trans (hcs j hj))) Kp.trans (Kp.b (by simp; omega)) (Below.refl _ _) (fun _ => rfl)
    (fun pre W => (W.cell? ⟨w.heap.size, 0, none⟩ = some (.int .i64 (sumW pre)) ∧ W.frozen? ⟨w.heap.size, 0, none⟩ = false) ∧ Below w.heap.size w W)
    (fun _ _ _ => False)
    (OwnFrom.and (Own.from (fun s A B row hs hg hr => ⟨cell_kept hs.1 hg hr, (frozen_kept hs.1 hg hr).trans hs.2⟩) _) (ownFrom_below (Nat.le_refl _) (by simp; omega)))
    (fun _ _ _ _ _ hs _ _ => hs)
    ⟨⟨(bS.alloc _).cell, (bS.alloc _).frozen⟩, hB0⟩
    (fun x => { tmps := #[.slice a len cap, undef, .int .i64 0, .pointer (some ⟨w.heap.size, 0, none⟩), undef, .int .i64 x.2, .slice a len cap, .func (.func 23) #[] #[.pointer (some ⟨w.heap.size + 1, 0, none⟩)], .int .i64 x.1, .int .i64 x.2, undef, undef, undef, undef], defers := [] }) ?assign ?body ?done ?stop
  case assign =>
    intro l x W K hK
    gi_wp2
    exact hK
  case body =>
    rintro l pre x W ⟨⟨hc, hf⟩, hB⟩ _
    gi_wp2
    exact ⟨(KeepsOthers.setCell _ _ _).from _, Kp.set (Nat.le_refl _) (by omega) _, ⟨by rw [sumW_snoc]; exact World.cell?_setCell_same' _ _ _ (by rw [hc]; rfl), by rw [World.frozen?_setCell]; exact hf⟩, hB.setCell (p := ⟨w.heap.size, 0, none⟩) (Nat.le_refl _) _⟩
  case done =>
    rintro D ys W hD rfl ⟨⟨hc, _⟩, hB⟩ hK
    gi_wp2
    refine ⟨by simp, .inl ⟨_, _, rfl, run_takeDeferred hK, ?_⟩⟩
    exact ⟨_, results_tmp rfl _ _ _, by rw [sumW_all u len hlen]; rfl, hB.trans (belowK_b (w := w) (Nat.le_refl _) W D _ _ (by simp at hD; omega) hK rfl rfl)⟩
  case stop =>
    rintro D c pre W _ _ h _
    exact h.elim
set_option maxRecDepth 100000 in
set_option maxHeartbeats 4000000 in
theorem First_in (F : Fence) (n : Nat) (hF : ∀ f, F.fn f) (hro : F.round = none) (hn : 3 ≤ n) (b off : Nat) (a : Option Addr) (len cap : Nat) (u : Nat → Bool) (m : Int) (hlen : len ≤ 140737488355328) (w : World) (hA : 0 < len → a = some ⟨b, off, none⟩) (hb : 0 < len → b < w.heap.size) (hcs : ∀ j, j < len → w.cell? ⟨b, off + j, none⟩ = some (.bool (u j))) :
    CallsIn F n Try.prog 11 #[.slice a len cap, .int .i64 m] w fun e W' => e = .returned (.int .i64 (fstZ m (runsL u len))) ∧ Below w.heap.size w W' := by
  have h1 : 1 ≤ n := by omega
  refine callsIn_of_wp_marks Try.func11 rfl (hF 11) ?_ hro
  simp only [Try.ntmps11, List.size_toArray, List.length_cons, List.length_nil, Nat.reduceAdd, Nat.reduceSub, Array.replicate_succ, Array.replicate_zero, List.push_toArray, List.append_toArray, List.nil_append, List.cons_append]
  gi_wp2_with (gi_at_call 21; refine (all_in F (n - 1) (hF 21) hro _ _ _ _).mono ?_; rintro e w' ⟨rfl, rfl⟩)
  have bM := Boxed.new w 3 (.int .i64 m)
  have bS := Boxed.new (w.alloc (.cells #[.int .i64 m] 3)) 3 (.int .i64 0)
  have bN := Boxed.new ((w.alloc (.cells #[.int .i64 m] 3)).alloc (.cells #[.int .i64 0] 3)) 22 (.slice a len cap)
  rw [World.size_alloc] at bS
  rw [World.size_alloc, World.size_alloc] at bN
  have hB0 : Below w.heap.size w (((w.alloc (.cells #[.int .i64 m] 3)).alloc (.cells #[.int .i64 0] 3)).alloc (.cells #[.slice a len cap] 22)) := (((Below.refl _ w).alloc (Nat.le_refl _) _).alloc (by simp) _).alloc (by simp; omega) _
  refine wpIn_rangeFunc_ownG hro h1 (gf := 23) (lb := #[.pointer (some ⟨w.heap.size + 2, 0, none⟩)]) rfl (hF 23) (enters_of Try.func23 (by kernel_rfl) rfl)
    (all_stops F (n - 1) (hF 23) hro (by omega) (w.heap.size + 2) w.heap.size b off a len cap u hlen _ (by simp) (by simp; omega) bN.cell hA hb (fun j hj => (hB0.cell (p := ⟨b, off + j, none⟩) (hb (by omega))).trans (hcs j hj))) Kp.trans (Kp.b (by simp; omega)) (Below.refl _ _) (fun _ => rfl)
    (fun pre W => (pre.find? (hitP m) = none ∧ W.cell? ⟨w.heap.size, 0, none⟩ = some (.int .i64 m) ∧ W.cell? ⟨w.heap.size + 1, 0, none⟩ = some (.int .i64 0) ∧ W.frozen? ⟨w.heap.size + 1, 0, none⟩ = false) ∧ Below w.heap.size w W)
    (fun c pre W => (c = .ret ∧ ∃ ini last, pre = ini ++ [last] ∧ ini.find? (hitP m) = none ∧ hitP m last = true ∧ W.cell? ⟨w.heap.size + 1, 0, none⟩ = some (.int .i64 last.1)) ∧ Below w.heap.size w W)
    (OwnFrom.and (Own.from (fun s A B row hs hg hr => ⟨hs.1, cell_kept hs.2.1 hg hr, cell_kept hs.2.2.1 hg hr, (frozen_kept hs.2.2.1 hg hr).trans hs.2.2.2⟩) _) (ownFrom_below (Nat.le_refl _) (by simp; omega)))
    (fun c => OwnFrom.and (Own.from (fun s A B row hs hg hr => by obtain ⟨hc, ini, last, e1, e2, e3, e4⟩ := hs; exact ⟨hc, ini, last, e1, e2, e3, cell_kept e4 hg hr⟩) _) (ownFrom_below (Nat.le_refl _) (by simp; omega)))
    ⟨⟨rfl, ((bM.alloc _).alloc _).cell, (bS.alloc _).cell, (bS.alloc _).frozen⟩, hB0⟩
    (fun x => { tmps := #[.slice a len cap, .int .i64 m, undef, .pointer (some ⟨w.heap.size, 0, none⟩), .pointer (some ⟨w.heap.size + 1, 0, none⟩), .int .i64 x.1, .int .i64 x.2, .slice a len cap, .func (.func 23) #[] #[.pointer (some ⟨w.heap.size + 2, 0, none⟩)], .int .i64 x.1, .int .i64 x.2, undef, undef, undef, undef, undef, undef, undef, undef], defers := [] }) ?assign ?body ?done ?stop
  case assign =>
    intro l x W K hK
    gi_wp2
    exact hK
  case body =>
    rintro l pre x W ⟨⟨hp, hcm, hcr, hfr⟩, hB⟩ _
    by_cases hm : 1 ≤ m
    · by_cases hx : m ≤ x.2
      · gi_wp2
        exact ⟨(KeepsOthers.setCell _ _ _).from _, ⟨rfl, pre, x, rfl, hp, by simp [hitP, hm, hx], World.cell?_setCell_same' _ _ _ (by rw [hcr]; rfl)⟩, hB.setCell (p := ⟨w.heap.size + 1, 0, none⟩) (by simp) _⟩
      · gi_wp2
        exact ⟨KeepsFrom.refl _ _, Kp.refl _ _ _, ⟨by first | exact hit_snoc_no hp (by unfold hitP; simp; omega) | exact none_all (hit_snoc_no hp (by unfold hitP; simp; omega)), hcm, hcr, hfr⟩, hB⟩
    · gi_wp2
      exact ⟨KeepsFrom.refl _ _, Kp.refl _ _ _, ⟨by first | exact hit_snoc_no hp (by unfold hitP; simp; omega) | exact none_all (hit_snoc_no hp (by unfold hitP; simp; omega)), hcm, hcr, hfr⟩, hB⟩
  case done =>
    rintro D ys W hD rfl ⟨⟨hne, hcm, hcr, hfr⟩, hB⟩ hK
    gi_wp2
    have hK' := (KeepsOthers.setCell W ⟨w.heap.size + 1, 0, none⟩ (.int .i64 (-1))).same D _ hK rfl
    refine ⟨by simp, .inl ⟨_, _, rfl, run_takeDeferred hK', ?_⟩⟩
    have hc5 := cell_kept (World.cell?_setCell_same' W ⟨w.heap.size + 1, 0, none⟩ (.int .i64 (-1)) (by rw [hcr]; rfl)) (grownBy_putObj' _ D (.deferred none)) (fun r e => by cases e; exact ⟨_, hK', rfl⟩)
    refine ⟨.int .i64 (-1), ?_, by rw [fstZ_no hne], (hB.setCell (p := ⟨w.heap.size + 1, 0, none⟩) (by simp) _).trans (belowK_b (w := w) (Nat.le_refl _) _ D _ _ (by simp at hD; omega) hK' rfl rfl)⟩
    simp [results, Try.f11, go_sem, hc5]
  case stop =>
    rintro D c pre W hD ⟨r, hr⟩ ⟨⟨rfl, ini, last, rfl, e2, e3, hcr⟩, hB⟩ hK
    gi_wp2
    refine ⟨by simp, .inl ⟨_, _, rfl, run_takeDeferred hK, ?_⟩⟩
    have hc5 := cell_kept hcr (grownBy_putObj' _ D (.deferred none)) (fun r e => by cases e; exact ⟨_, hK, rfl⟩)
    refine ⟨.int .i64 last.1, ?_, by rw [← hr, fstZ_hit e2 e3], hB.trans (belowK_b (w := w) (Nat.le_refl _) W D _ _ (by simp at hD; omega) hK rfl rfl)⟩
    simp [results, Try.f11, go_sem, hc5]
theorem First_spec (xs : List (List Value)) (m : Int) (hx : (xs.length : Int) ≤ 140737488355328) : RS.Spec Try.prog 11 [.row false 4 [.bool] xs] [.sv (.lf (.row 0)), .sv (.lf (.val (.int .i64 m)))] [.row false 4 [.bool] xs] (.sv (.lf (.val (.int .i64 (wF xs m))))) := by
  refine ⟨FnOK.of Try.func11 rfl rfl, fun g w vs hm hv => ?_⟩
  match vs, hv with
  | [x, y], ⟨h1, h2, _⟩ =>
    have h2 : y = .int .i64 m := h2
    obtain ⟨h1, _⟩ := h1
    subst h1 h2
    obtain ⟨A, c, b, off, hg, hA, hb, hcs⟩ := row_bool hm
    rw [hg]
    refine (callsIn_wide.1 (First_in Fence.wide 3 (fun _ => trivial) rfl (by omega) b off A xs.length c (bt xs) m (by omega) w hA hb hcs)).mono ?_
    rintro e w' ⟨rfl, hbl⟩
    exact ⟨g, _, rfl, rfl, post_lent hm (fun r hr => by simp at hr; subst hr; rfl) hbl⟩
theorem Longest_spec (xs : List (List Value)) (hx : (xs.length : Int) ≤ 140737488355328) : RS.Spec Try.prog 13 [.row false 4 [.bool] xs] [.sv (.lf (.row 0))] [.row false 4 [.bool] xs] (.sv (.lf (.val (.int .i64 (wM xs))))) := by
  refine ⟨FnOK.of Try.func13 rfl rfl, fun g w vs hm hv => ?_⟩
  match vs, hv with
  | [x], ⟨h1, _⟩ =>
    obtain ⟨h1, _⟩ := h1
    subst h1
    obtain ⟨A, c, b, off, hg, hA, hb, hcs⟩ := row_bool hm
    rw [hg]
    refine (callsIn_wide.1 (Longest_in Fence.wide 3 (fun _ => trivial) rfl (by omega) b off A xs.length c (bt xs) (by omega) w hA hb hcs)).mono ?_
    rintro e w' ⟨rfl, hbl⟩
    exact ⟨g, _, rfl, rfl, post_lent hm (fun r hr => by simp at hr; subst hr; rfl) hbl⟩
theorem Free_spec (xs : List (List Value)) (hx : (xs.length : Int) ≤ 140737488355328) : RS.Spec Try.prog 15 [.row false 4 [.bool] xs] [.sv (.lf (.row 0))] [.row false 4 [.bool] xs] (.sv (.lf (.val (.int .i64 (wC xs))))) := by
  refine ⟨FnOK.of Try.func15 rfl rfl, fun g w vs hm hv => ?_⟩
  match vs, hv with
  | [x], ⟨h1, _⟩ =>
    obtain ⟨h1, _⟩ := h1
    subst h1
    obtain ⟨A, c, b, off, hg, hA, hb, hcs⟩ := row_bool hm
    rw [hg]
    refine (callsIn_wide.1 (Free_in Fence.wide 3 (fun _ => trivial) rfl (by omega) b off A xs.length c (bt xs) (by omega) w hA hb hcs)).mono ?_
    rintro e w' ⟨rfl, hbl⟩
    exact ⟨g, _, rfl, rfl, post_lent hm (fun r hr => by simp at hr; subst hr; rfl) hbl⟩
end Go.Proofs.Ytdhipofjafecoaa
