/- strings.Builder: from the kit's contracts of its parts to contracts over resources. -/
import Derived.Test.YtjpcnknegdpnoaaRsY
import Derived.Lib.Builder
import Derived.Lib.AppendStr
import Derived.Lib.UnsafeStr
import Derived.Lib.Walk
import Derived.Lib.Slices
import Derived.WalkKit
import Derived.Laws.Externs
import Derived.RegionTactic
import Derived.Laws.IdiomCopy
set_option linter.unusedVariables false
set_option linter.unusedSimpArgs false
namespace Go.Proofs.Ytjpcnknegdpnoaa.RS
open Go Go.RowKit
section
variable {P : Program} {w : World} {g : Gam} {vs : List Value}
theorem areps_one {x : AV} (h : areps g [x] vs) : ∃ v, vs = [v] ∧ arep g x v := by
  match vs, h with
  | [v], ⟨h, _⟩ => exact ⟨v, rfl, h⟩
theorem bld_used {T U : TypeId} {xs : List (List Value)} (hm : Mem g [.blk false T [.ptr 0 0, .row 1], .row false U [.int .u8] xs] w) (hv : areps g [.sv (.lf (.ptr 0 0))] vs) :
    ∃ b, vs.toArray = #[.pointer (some ⟨b, 0, none⟩)] ∧ w.cell? ⟨b, 0, none⟩ = some (.pointer (some ⟨b, 0, none⟩)) := by
  obtain ⟨v, rfl, b, hb, rfl⟩ := areps_one hv
  obtain ⟨b', cs, hb', hh, hr⟩ := hm.ok 0 _ rfl
  rw [hb'] at hb
  injection hb with hb; injection hb with hb; injection hb with hb
  subst hb
  refine ⟨b', rfl, ?_⟩
  rw [cell_blk hh]
  obtain ⟨u, hu, b2, e1, e2⟩ := reps_at (o := 0) hr rfl
  rw [hb'] at e1
  injection e1 with e1; injection e1 with e1; injection e1 with e1
  subst e1
  rw [← e2]
  simpa using hu
theorem bld_same {ins : List Res} (hm : Mem g ins w) (hl : ∀ r ∈ ins, r.own = false) : SpecPost g w ins ins (.tup []) (.returned (.tuple #[])) w :=
  ⟨g, _, rfl, ⟨#[], rfl, trivial⟩, hm, Frm.refl _ _, fun _ _ _ _ => rfl, fun j r b h1 h2 _ => by
    simp [lentAt, h1, hl r (List.mem_of_getElem? h1)] at h2⟩
theorem bld_fresh {T : TypeId} (hm : Mem g [.blk true T [.val (.pointer none), .val (.slice none 0 0)]] w) (hv : areps g [.sv (.lf (.ptr 0 0))] vs) :
    ∃ b, vs.toArray = #[.pointer (some ⟨b, 0, none⟩)] ∧ w.cell? ⟨b, 0, none⟩ = some (.pointer none) ∧ w.shape? b = some (T, 2) ∧ w.frozen? ⟨b, 0, none⟩ = false ∧
      w.heap[b]? = some (.cells #[.pointer none, .slice none 0 0] T (0, 0)) ∧ g 0 = .pointer (some ⟨b, 0, none⟩) := by
  obtain ⟨v, rfl, b, hb, rfl⟩ := areps_one hv
  obtain ⟨b', cs, hb', hh, hr⟩ := hm.ok 0 _ rfl
  rw [hb'] at hb
  injection hb with hb; injection hb with hb; injection hb with hb
  subst hb
  have hcs : cs = #[.pointer none, .slice none 0 0] := by
    apply Array.ext'
    have : reps g [.val (.pointer none), .val (.slice none 0 0)] cs.toList := hr
    match h : cs.toList, this with
    | [a, b], ⟨h1, h2, _⟩ => rw [show a = _ from h1, show b = _ from h2]
  subst hcs
  refine ⟨b', rfl, ?_, ?_, ?_, hh, hb'⟩
  · rw [cell_blk hh]; rfl
  · simp [World.shape?, hh]
  · exact Lib.frozen_of_heap hh 0
theorem bld_set {T : TypeId} {b : Nat} (hm : Mem g [.blk true T [.val (.pointer none), .val (.slice none 0 0)]] w) (hh : w.heap[b]? = some (.cells #[.pointer none, .slice none 0 0] T (0, 0))) (hg : g 0 = .pointer (some ⟨b, 0, none⟩)) :
    SpecPost g w [.blk true T [.val (.pointer none), .val (.slice none 0 0)]] [.blk true T [.ptr 0 0, .val (.slice none 0 0)]] (.tup []) (.returned (.tuple #[])) (w.setCell ⟨b, 0, none⟩ (.pointer (some ⟨b, 0, none⟩))) := by
  have hb := setCell_block (o := 0) (.pointer (some ⟨b, 0, none⟩)) hh
  have hc := setCell_chg (w := w) b 0 (.pointer (some ⟨b, 0, none⟩))
  have hat : (Res.blk true T [.val (.pointer none), .val (.slice none 0 0)]).at (g 0) = some b := by rw [hg]; rfl
  refine ⟨g, _, rfl, ⟨#[], rfl, trivial⟩, ⟨fun h r hr => ?_, fun h h' r r' b hne h1 h2 _ _ => ?_⟩, ⟨hc.os, hc.tape, hc.output, hc.size, fun k hk hm => hc.block k hk fun e => ?_⟩, fun _ _ _ _ => rfl, fun j r b' h1 h2 h3 => ?_⟩
  · match h, hr with
    | 0, hr =>
      obtain rfl := Option.some.inj hr
      refine ⟨b, _, hg, hb, ?_⟩
      exact ⟨⟨b, hg, rfl⟩, rfl, trivial⟩
    | h + 1, hr => simp at hr
  · match h, h', h1, h2 with
    | 0, 0, _, _ => exact absurd rfl hne
    | 0, h + 1, _, h2 => simp at h2
    | h + 1, _, h1, _ => simp at h1
  · injection e with e
    exact hm ⟨0, _, rfl, rfl, by rw [hat, e]⟩
  · match j, h1 with
    | 0, h1 =>
      obtain rfl := Option.some.inj h1
      right
      refine ⟨0, _, rfl, rfl, ?_⟩
      rw [hat]
      rw [hg] at h3
      exact h3
    | j + 1, h1 => simp at h1
/-- What a builder's String leaves: the buffer's bytes are frozen, all else is as it was. -/
structure Froze (g : Nat) (w w' : World) : Prop where
  os : w'.os = w.os
  tape : w'.tape = w.tape
  output : w'.output = w.output
  size : w'.heap.size = w.heap.size
  block : ∀ k, k ≠ g → w'.heap[k]? = w.heap[k]?
theorem froze_mk (w : World) (g n : Nat) : Froze g w (w.drew.freeze ⟨g, 0, none⟩ n) := by
  unfold World.freeze
  by_cases h : n = 0
  · rw [if_pos h]; exact ⟨rfl, rfl, rfl, rfl, fun _ _ => rfl⟩
  · rw [if_neg h]
    refine ⟨rfl, rfl, rfl, Array.size_modify, fun k hk => ?_⟩
    show (Array.modify w.heap g _)[k]? = _
    rw [Array.getElem?_modify, if_neg (by omega)]
theorem bld_string {T U : TypeId} {t : ByteArray} (hm : Mem g [.blk true T [.ptr 0 0, .row 1], .row true U [.int .u8] (strVals t)] w) (hv : areps g [.sv (.lf (.ptr 0 0))] vs) (ht : t.size ≠ 0) :
    ∃ b gg cap cur, vs.toArray = #[.pointer (some ⟨b, 0, none⟩)] ∧ w.heap[b]? = some (.cells #[.pointer (some ⟨b, 0, none⟩), .slice (some ⟨gg, 0, none⟩) t.size cap] T (0, 0)) ∧ w.shape? gg = some (U, cur) ∧ t.size ≤ cur ∧ t.size ≤ maxLen ∧ cap ≠ 0 ∧
      (∀ j x, t.data.toList[j]? = some x → w.cell? ((⟨gg, 0, none⟩ : Addr).add j) = some (.int .u8 x.toNat)) ∧ modsOf g [.blk true T [.ptr 0 0, .row 1], .row true U [.int .u8] (strVals t)] gg := by
  obtain ⟨v, rfl, b, hb, rfl⟩ := areps_one hv
  obtain ⟨b', cs, hb', hh, hr⟩ := hm.ok 0 _ rfl
  rw [hb'] at hb
  injection hb with hb; injection hb with hb; injection hb with hb
  subst hb
  obtain ⟨⟨A, c, hg1, h1, h2, h3, h4⟩, ho⟩ := hm.ok 1 _ rfl
  rw [strVals_len] at h1 hg1 h4
  have hc : c ≠ 0 := by omega
  obtain ⟨ad, rfl, hlt, hcell⟩ := h4 hc
  obtain ⟨gg, cur, f, e, hgg, hsz, hfz⟩ := ho rfl _ _ (by rw [strVals_len]; exact hg1) hc
  injection e with e
  subst e
  have hcs : cs = #[.pointer (some ⟨b', 0, none⟩), .slice (some ⟨gg, 0, none⟩) t.size c] := by
    apply Array.ext'
    have : reps g [.ptr 0 0, .row 1] cs.toList := hr
    match h : cs.toList, this with
    | [x, y], ⟨⟨b2, e1, e2⟩, ⟨e3, _⟩, _⟩ =>
      rw [hb'] at e1
      injection e1 with e1; injection e1 with e1; injection e1 with e1
      subst e1
      rw [e2, e3, hg1]
  subst hcs
  refine ⟨b', gg, c, cur.size, rfl, hh, by simp [World.shape?, hgg], by simp at hsz; omega, by omega, hc, fun j x hx => ?_, ⟨1, _, rfl, rfl, by rw [hg1]; simp [Res.at, hc]⟩⟩
  have hj : j < t.size := by have := (List.getElem?_eq_some_iff.1 hx).1; simpa using this
  have := hcell j 0 hj (by simp)
  simp only [List.length_cons, List.length_nil, Nat.zero_add, Nat.mul_one, Nat.add_zero] at this
  rw [this]
  unfold cellAt strVals
  simp [List.getD, hx]
theorem bld_done {T U : TypeId} {t : ByteArray} {gg : Nat} {w' : World} {xs : List (List Value)} (hm : Mem g [.blk true T [.ptr 0 0, .row 1], .row true U [.int .u8] xs] w) (hf : Froze gg w w') (hg : modsOf g [.blk true T [.ptr 0 0, .row 1], .row true U [.int .u8] xs] gg) :
    SpecPost g w [.blk true T [.ptr 0 0, .row 1], .row true U [.int .u8] xs] [.gone, .gone] (aS t) (.returned (.string t)) w' := by
  refine ⟨g, _, rfl, rfl, ⟨fun h r hr => ?_, fun h h' r r' b hne h1 h2 ho _ => ?_⟩, ⟨hf.os, hf.tape, hf.output, Nat.le_of_eq hf.size.symm, fun k _ hk => hf.block k fun e => hk (e ▸ hg)⟩, fun _ _ _ _ => rfl, fun j r b' h1 h2 h3 => ?_⟩
  · match h, hr with
    | 0, hr => obtain rfl := Option.some.inj hr; trivial
    | 1, hr => obtain rfl := Option.some.inj hr; trivial
    | h + 2, hr => simp at hr
  · match h, h1 with
    | 0, h1 => obtain rfl := Option.some.inj h1; cases ho
    | 1, h1 => obtain rfl := Option.some.inj h1; cases ho
    | h + 2, h1 => simp at h1
  · match j, h1 with
    | 0, h1 => obtain rfl := Option.some.inj h1; simp [Res.at] at h3
    | 1, h1 => obtain rfl := Option.some.inj h1; simp [Res.at] at h3
    | j + 2, h1 => simp at h1
end
end Go.Proofs.Ytjpcnknegdpnoaa.RS
