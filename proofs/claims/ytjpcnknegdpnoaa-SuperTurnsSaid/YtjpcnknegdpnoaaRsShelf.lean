/- From the kit's contracts of library functions to contracts over resources. -/
import Derived.Test.YtjpcnknegdpnoaaRsBitsM
import Derived.Lib.Join
import Derived.Lib.Repeat
set_option linter.unusedVariables false
set_option linter.unusedSimpArgs false
namespace Go.Proofs.Ytjpcnknegdpnoaa.RS
open Go Go.RowKit
section
variable {P : Program} {w : World} {g : Gam} {vs : List Value}
theorem post_lent {ins : List Res} {w' : World} (hm : Mem g ins w) (hl : ∀ r ∈ ins, r.own = false) (hb : Below w.heap.size w w') : PostG g ins ins g w w' := by
  refine ⟨⟨fun h r hr => ?_, hm.sep⟩, ⟨hb.os, hb.tape, hb.output, hb.size, fun k hk _ => hb.block k hk⟩, fun _ _ _ _ => rfl, fun j r b h1 h2 _ => ?_⟩
  · have hok := hm.ok h r hr
    exact Res.ok_frame hok hb.size fun b hb' => hb.block b (Res.ok_lt hok hb')
  · simp [lentAt, h1, hl r (List.mem_of_getElem? h1)] at h2
def rep1 (c : Nat) : ByteArray := ⟨(List.replicate c (0 : UInt8)).toArray⟩
theorem repeatL_one : ∀ c, Lib.repeatL [(0 : UInt8)] c = List.replicate c 0
  | 0 => rfl
  | c + 1 => by rw [Lib.repeatL, repeatL_one c]; rfl
theorem repeat_spec {f : FuncId} (hfn : FnOK P f) (h : ∀ (s : ByteArray) (c : Nat) (w : World), c ≤ 9223372036854775807 → s.size * c ≤ 140737488355328 → Calls P f #[.string s, .int .i64 c] w fun e w' => e = .returned (.string ⟨(Lib.repeatL s.data.toList c).toArray⟩) ∧ Below w.heap.size w w') (n : Int) (hn : 0 ≤ n ∧ n ≤ 1000000) :
    Spec P f [] [aS ⟨#[0]⟩, aI n] [] (aS (rep1 n.toNat)) := by
  refine ⟨hfn, fun g w vs hm hv => ?_⟩
  match vs, hv with
  | [a, b], ⟨h1, h2, _⟩ =>
    have h1 : a = .string ⟨#[0]⟩ := h1
    have h2 : b = .int .i64 n := h2
    subst h1 h2
    obtain ⟨c, rfl⟩ := Int.eq_ofNat_of_zero_le hn.1
    refine (h ⟨#[0]⟩ c w (by omega) (by show 1 * c ≤ _; omega)).mono ?_
    rintro e w' ⟨rfl, hb⟩
    refine ⟨g, _, rfl, ?_, post_lent hm (fun r hr => by simp at hr) hb⟩
    show Value.string _ = Value.string _
    congr 2
    rw [repeatL_one]
    rfl
/-! ### Texts in a row -/
def str (xs : List (List Value)) (k : Nat) : ByteArray := vS (cellAt xs k 0)
def joinN (xs : List (List Value)) : Nat → ByteArray
  | 0 => ByteArray.empty
  | k + 1 => joinN xs k ++ str xs k
theorem join_empty : ∀ l : List (List UInt8), Lib.join l [] = l.flatten
  | [] => rfl
  | x :: r => by rw [Lib.join_cons]; simp [Lib.joinTail]
def strs (xs : List (List Value)) : List ByteArray := (List.range xs.length).map (str xs)
theorem join_eq (xs : List (List Value)) : ∀ k, (⟨((List.range k).map (fun j => (str xs j).data.toList)).flatten.toArray⟩ : ByteArray) = joinN xs k
  | 0 => rfl
  | k + 1 => by
    rw [joinN, ← join_eq xs k]
    apply ByteArray.ext
    simp [List.range_succ, ByteArray.data_append]
theorem join_len (xs : List (List Value)) (k : Nat) : ((List.range k).map (fun j => (str xs j).data.toList)).flatten.length = (joinN xs k).size := by
  rw [← join_eq]; rfl
theorem join_spec {f : FuncId} (hfn : FnOK P f) {E : TypeId}
    (h : ∀ (bk o c : Nat) (xs : List ByteArray) (sep : ByteArray) (w : World), (∀ (j : Nat) x, xs[j]? = some x → w.cell? ⟨bk, o + j, none⟩ = some (.string x)) → bk < w.heap.size → xs.length ≤ 140737488355328 → xs.length ≤ c → (Lib.join (xs.map (·.data.toList)) sep.data.toList).length ≤ 140737488355328 →
      Calls P f #[.slice (some ⟨bk, o, none⟩) xs.length c, .string sep] w fun e w' => e = .returned (.string ⟨(Lib.join (xs.map (·.data.toList)) sep.data.toList).toArray⟩) ∧ Below w.heap.size w w')
    (h0 : ∀ (a : Option Addr) (c : Nat) (sep : ByteArray) (w : World), Calls P f #[.slice a 0 c, .string sep] w fun e w' => e = .returned (.string ⟨#[]⟩) ∧ w' = w)
    (xs : List (List Value)) (hx : ((joinN xs xs.length).size : Int) ≤ 140737488355328) (hl : (xs.length : Int) ≤ 140737488355328) :
    Spec P f [.row false E [.str] xs] [.sv (.lf (.row 0)), aS ByteArray.empty] [.row false E [.str] xs] (aS (joinN xs xs.length)) := by
  refine ⟨hfn, fun g w vs hm hv => ?_⟩
  match vs, hv with
  | [a, b], ⟨h1, h2, _⟩ =>
    have h2 : b = .string ByteArray.empty := h2
    obtain ⟨h1, _⟩ := h1
    subst h1 h2
    obtain ⟨⟨A, c, hg, k1, k2, k3, k4⟩, _⟩ := hm.ok 0 _ rfl
    rw [hg]
    have hown : ∀ r ∈ [Res.row false E [.str] xs], r.own = false := fun r hr => by simp at hr; subst hr; rfl
    by_cases hz : xs.length = 0
    · rw [hz]
      refine (h0 A c ByteArray.empty w).mono ?_
      rintro e w' ⟨rfl, rfl⟩
      exact ⟨g, _, rfl, rfl, post_lent hm hown (Below.refl _ _)⟩
    · obtain ⟨ad, rfl, hlt, hc⟩ := k4 (by omega)
      have hcell : ∀ j, j < xs.length → w.cell? (ad.add j) = some (.string (str xs j)) := fun j hj => by
        have e := hc j 0 hj (by simp)
        simp only [List.length_cons, List.length_nil, Nat.zero_add, Nat.mul_one, Nat.add_zero] at e
        rw [e]
        have hf := fitsAll_at 0 .str (k3 xs[j] (List.getElem_mem hj)) rfl
        obtain ⟨s, hs⟩ := hf
        have hca : cellAt xs j 0 = .string s := by
          unfold cellAt; rw [show xs.getD j [] = xs[j] by simp [List.getD, hj]]; exact hs
        unfold str
        rw [hca]; rfl
      have hspot : ad.spot = none := by
        have e := hcell 0 (by omega)
        cases hs : ad.spot with
        | none => rfl
        | some x =>
          have : ad.add 0 = ad := by simp [Addr.add]
          rw [this] at e
          unfold World.cell? at e
          split at e
          · simp [hs] at e
          · cases e
      have had : ∀ j, ad.add j = ⟨ad.block, ad.off + j, none⟩ := fun j => by
        obtain ⟨bk, o, sp⟩ := ad
        simp only at hspot
        subst hspot
        unfold Addr.add
        by_cases hj : j = 0
        · simp [hj]
        · simp [hj]
      have had0 : ad = ⟨ad.block, ad.off, none⟩ := by obtain ⟨bk, o, sp⟩ := ad; simp only at hspot; rw [hspot]
      have hlen : (strs xs).length = xs.length := by simp [strs]
      have hj : Lib.join ((strs xs).map (·.data.toList)) ByteArray.empty.data.toList = ((List.range xs.length).map (fun j => (str xs j).data.toList)).flatten := by
        rw [show ByteArray.empty.data.toList = [] from rfl, join_empty]
        simp [strs, Function.comp_def]
      have hc' := h ad.block ad.off c (strs xs) ByteArray.empty w (fun j x hx => by
        have hj : j < xs.length := by have := (List.getElem?_eq_some_iff.1 hx).1; omega
        rw [← had, hcell j hj]
        simp [strs, hj] at hx
        rw [hx]) hlt (by omega) (by omega) (by rw [hj, join_len]; omega)
      rw [hlen, ← had0] at hc'
      refine hc'.mono ?_
      rintro e w' ⟨rfl, hb⟩
      refine ⟨g, _, rfl, ?_, post_lent hm hown hb⟩
      show Value.string _ = Value.string _
      rw [hj, join_eq]
end
end Go.Proofs.Ytjpcnknegdpnoaa.RS
