/- RS, part Map: a map whose elements are rows of ints, each key's own. -/
import Derived.Test.YtgicfkgiecgjoaaRsHand
import Derived.WideKeyEntry
import Derived.Carry
set_option linter.unusedVariables false
set_option linter.unusedSimpArgs false
namespace Go.Proofs.Ytgicfkgiecgjoaa.RS
open Go Go.RowKit Go.MapKept Go.ChangeMaps
open Go.WideMaps (KeyLaw)
abbrev G0 : Gam := fun _ => undef
abbrev rowI (E : TypeId) (xs : List (List Value)) : Res := .row true E [.int .i64] xs
def blkOf : Value → Option Nat
  | .slice (some a) n c => if c = 0 then none else some a.block
  | _ => none
theorem blkOf_iff {E : TypeId} {xs : List (List Value)} {v : Value} {c : Nat} : (rowI E xs).at v c ↔ blkOf v = some c := by
  cases v with
  | slice A n k =>
    cases A with
    | none => exact ⟨fun h => False.elim h, fun h => by cases h⟩
    | some ad =>
      show (¬ k = 0 ∧ ad.block = c) ↔ (if k = 0 then none else some ad.block) = some c
      by_cases h : k = 0 <;> simp [h]
  | _ => exact ⟨fun h => False.elim h, fun h => by cases h⟩
/-- The entries: each key's row is its own. -/
structure EntOK (P : Program) (K E : TypeId) (b n : Nat) (G : Value → List (List Value)) (w : World) (es : Array MapEntry) (clock : Nat) : Prop where
  hb : w.heap[b]? = some (.map es clock)
  size : es.size ≤ n
  stamped : Stamped es clock
  keys : ∀ x ∈ es.toList, ∃ kl, keyOf P K x.key = some kl
  rows : ∀ x ∈ es.toList, (rowI E (G x.key)).ok G0 w x.val
  none : ∀ key, (∀ x ∈ es.toList, x.key ≠ key) → G key = []
  sep : ∀ x ∈ es.toList, ∀ y ∈ es.toList, x.key ≠ y.key → ∀ c, blkOf x.val = some c → blkOf y.val ≠ some c
  apart : ∀ x ∈ es.toList, blkOf x.val ≠ some b
def memV : Value → Nat → Prop
  | .tuple a, c => Value.int .i64 (c : Int) ∈ a.toList
  | _, _ => False
def encV (L : List Nat) : Value := .tuple (L.map fun (c : Nat) => Value.int .i64 (c : Int)).toArray
theorem memV_enc {L : List Nat} {c : Nat} : memV (encV L) c ↔ c ∈ L := by
  simp only [memV, encV, List.mem_map, Value.int.injEq, true_and]
  constructor
  · rintro ⟨x, hx, e⟩
    obtain rfl : x = c := by omega
    exact hx
  · intro h; exact ⟨c, h, rfl⟩
def blocksOf (b : Nat) (es : Array MapEntry) : List Nat := b :: es.toList.filterMap fun x => blkOf x.val
theorem blocksOf_mem {b : Nat} {es : Array MapEntry} {c : Nat} : c ∈ blocksOf b es ↔ c = b ∨ ∃ x ∈ es.toList, blkOf x.val = some c := by
  simp only [blocksOf, List.mem_cons, List.mem_filterMap]
/-- The map as a resource. -/
def GA (P : Program) (K E : TypeId) (b n : Nat) (G : Value → List (List Value)) : Abs where
  ok w v := ∃ es clock, EntOK P K E b n G w es clock ∧ v = encV (blocksOf b es)
  lies := memV
  lt := by
    rintro w v c ⟨es, clock, h, rfl⟩ hc
    rw [memV_enc, blocksOf_mem] at hc
    rcases hc with rfl | ⟨x, hx, hc⟩
    · exact heap_lt h.hb
    · exact Res.ok_lt (h.rows x hx) (blkOf_iff.2 hc)
  frame := by
    rintro w w' v ⟨es, clock, h, rfl⟩ hs hf
    have hf' : ∀ c, (c = b ∨ ∃ x ∈ es.toList, blkOf x.val = some c) → w'.heap[c]? = w.heap[c]? := fun c hc => hf c (memV_enc.2 (blocksOf_mem.2 hc))
    exact ⟨es, clock, ⟨(hf' b (.inl rfl)).trans h.hb, h.size, h.stamped, h.keys, fun x hx => Res.ok_frame (h.rows x hx) hs fun c hc => hf' c (.inr ⟨x, hx, blkOf_iff.1 hc⟩), h.none, h.sep, h.apart⟩, rfl⟩
section
variable {P : Program} {K E T M : TypeId} {b n : Nat} {G : Value → List (List Value)} {w : World} {es : Array MapEntry} {clock : Nat}
abbrev trivR : Value → Option (DataW Unit × List MemPlace) := fun _ => some (.nil, [])
theorem EntOK.fit (h : EntOK P K E b n G w es clock) (hn : n ≤ maxLen) : WideElems.Fit P K trivR es clock := ⟨Nat.le_trans h.size hn, h.stamped, fun x hx => by
  obtain ⟨kl, hk⟩ := h.keys x hx
  exact ⟨_, by unfold WideElems.rd; rw [hk]; rfl⟩⟩
theorem nil_ok (w : World) : (rowI E []).ok G0 w (.slice none 0 0) := ⟨⟨none, 0, rfl, Nat.le_refl _, Nat.zero_le _, by simp, fun h => absurd rfl h⟩, fun _ A c e hc => by injection e with _ _ e3; exact absurd e3.symm hc⟩
theorem look_run (KL : KeyLaw P K) (hT : P.underlying T = some (.map K M)) (hz : ∀ u : World, (zeroValue M).run P u = .ok (.slice none 0 0) u) (h : EntOK P K E b n G w es clock) {key : Value} {kl : Lit} (hkey : keyOf P K key = some kl) :
    ∃ v, (Instr.lookup T (.map (some b)) key false).run P w = .ok v w ∧ (rowI E (G key)).ok G0 w v ∧ ∀ c, blkOf v = some c → c ∈ blocksOf b es := by
  rcases KL.find w hkey es.toList h.keys with ⟨h1, h2⟩ | ⟨j, e0, h1, h2, h3⟩
  · refine ⟨.slice none 0 0, ?_, by rw [h.none key h2]; exact nil_ok w, fun c hc => by cases hc⟩
    simp [Instr.lookup, run_underlying hT, MapKept.run_getObj_map h.hb, KL.check w es.isEmpty hkey, h1, hz, Result.andThen]
  · have hm := List.mem_of_getElem? h2
    refine ⟨e0.val, ?_, by rw [← h3]; exact h.rows e0 hm, fun c hc => blocksOf_mem.2 (.inr ⟨e0, hm, hc⟩)⟩
    simp [Instr.lookup, run_underlying hT, MapKept.run_getObj_map h.hb, KL.check w es.isEmpty hkey, h1, Result.andThen]
theorem heap_setBlock {w : World} {b : Nat} {o : Obj} (hb : b < w.heap.size) : (setBlock w b o).heap[b]? = some o := by
  simp [setBlock, Array.getElem?_setIfInBounds, hb]
theorem heap_setBlock_ne {w : World} {b c : Nat} {o : Obj} (h : c ≠ b) : (setBlock w b o).heap[c]? = w.heap[c]? := by
  simp [setBlock, Array.getElem?_setIfInBounds, Ne.symm h]
theorem row_src {E : TypeId} {ys : List (List Value)} {u : Value} (h : (rowI E ys).ok G0 w u) : SrcRun P 1 u ys w ∧ ∀ y ∈ ys, fitsAll [.int .i64] y := by
  obtain ⟨⟨A, c, rfl, h1, h2, h3, h4⟩, _⟩ := h
  refine ⟨slice_src (by decide) (fun x hx => fitsAll_length (h3 x hx)) (fun hn => ?_), h3⟩
  obtain ⟨ad, e, _, hc⟩ := h4 (by omega)
  exact ⟨ad, e, hc⟩
/-- m[k] = append(m[k], x..): the three operations. -/
theorem add_run (KL : KeyLaw P K) (hT : P.underlying T = some (.map K M)) (hM : P.underlying M = some (.slice E)) {ei : TI} (hE : TypeFits P E ei) (e1 : ei.size = 1) (e2 : ei.zero.cells.size = 1) (e3 : ei.bytes = 8)
    (hz : ∀ u : World, (zeroValue M).run P u = .ok (.slice none 0 0) u) (h : EntOK P K E b n G w es clock) (hn : n ≤ 1000000) {key : Value} {kl : Lit} (hkey : keyOf P K key = some kl)
    {u : Value} {ys : List (List Value)} (hu : (rowI E ys).ok G0 w u) (hub : ∀ c, blkOf u = some c → c ∉ blocksOf b es) (hlen : (G key).length + ys.length ≤ 1000000) (hys : 0 < ys.length) {G' : Value → List (List Value)} (hG1 : G' key = G key ++ ys) (hG2 : ∀ k, k ≠ key → G' k = G k) (ty : TypeId) :
    ∃ v0 st w1 v2 w2 w3 es' clock', (Instr.mapEntry T (.map (some b)) key).run P w = .ok (.tuple #[v0, goInt st]) w1 ∧ (Builtin.append_ #[M, M] ty #[v0, u]).run P w1 = .ok v2 w2 ∧ (Instr.entryStore T (.map (some b)) (goInt st) v2).run P w2 = .ok () w3 ∧
      EntOK P K E b (n + 1) G' w3 es' clock' ∧ Chg (fun c => c ∈ blocksOf b es) w w3 ∧ ∀ c, c ∈ blocksOf b es' → c ∈ blocksOf b es ∨ w.heap.size ≤ c := by
  have hbl := heap_lt h.hb
  obtain ⟨v0, st, es1, clock1, r1, hv0, r2⟩ := WideElems.entry_then_store KL hT hz h.hb (h.fit (by unfold maxLen; omega)) hkey
  have hrow0 : (rowI E (G key)).ok G0 w v0 ∧ (∀ c, blkOf v0 = some c → ∃ x ∈ es.toList, x.key = key ∧ blkOf x.val = some c) := by
    rcases hv0 with ⟨e0, he, hk, rfl⟩ | ⟨hk, rfl⟩
    · exact ⟨by rw [← hk]; exact h.rows e0 he, fun c hc => ⟨e0, he, hk, hc⟩⟩
    · exact ⟨by rw [h.none key hk]; exact nil_ok w, fun c hc => by cases hc⟩
  obtain ⟨hrow0, hb0⟩ := hrow0
  have hv0b : blkOf v0 ≠ some b := fun e => by obtain ⟨x, hx, _, hc⟩ := hb0 b e; exact h.apart x hx hc
  have hubb : blkOf u ≠ some b := fun e => hub b e (blocksOf_mem.2 (.inl rfl))
  have hw1 : (setBlock w b (.map es1 clock1)).heap[b]? = some (.map es1 clock1) := heap_setBlock hbl
  have hs1 : (setBlock w b (.map es1 clock1)).heap.size = w.heap.size := by simp [setBlock]
  have hfr : ∀ {xs : List (List Value)} {v : Value}, (rowI E xs).ok G0 w v → blkOf v ≠ some b → (rowI E xs).ok G0 (setBlock w b (.map es1 clock1)) v := fun hr hne =>
    Res.ok_frame hr (by rw [hs1]; exact Nat.le_refl _) fun c hc => heap_setBlock_ne fun e => hne (by rw [← e]; exact blkOf_iff.1 hc)
  obtain ⟨hsrc, hfit⟩ := row_src (P := P) (hfr hu hubb)
  obtain ⟨v2, w2, r3, hrow2, hchg2, hat2⟩ := run_append (T := ty) hM hM (by rfl) hE (by omega) (by rw [e2, e1]) (by omega) (ks := [.int .i64]) (by rw [e1]; rfl) (hfr hrow0 hv0b) (by rw [e1]; exact hsrc) hfit (by rw [e3]; omega)
  have hb2 : w2.heap[b]? = some (.map es1 clock1) := by
    rw [hchg2.block b (by rw [hs1]; exact hbl) (fun hc => hv0b (blkOf_iff.1 hc))]; exact hw1
  obtain ⟨es', clock', r4, r5⟩ := r2 w2 v2 hb2
  -- the entries
  have hent : es'.size ≤ n + 1 ∧ Stamped es' clock' ∧ (∃ y ∈ es'.toList, y.key = key ∧ y.val = v2) ∧ (∀ y ∈ es'.toList, (y.key = key ∧ y.val = v2) ∨ (y ∈ es.toList ∧ y.key ≠ key)) ∧ (∀ y ∈ es.toList, y.key ≠ key → y ∈ es'.toList) := by
    rcases KL.find w hkey es.toList h.keys with ⟨k1, k2⟩ | ⟨j, e0, k1, k2, k3⟩
    · have hr : (Instr.mapUpdate T (.map (some b)) key v2).run P w = .ok () (setBlock w b (.map (es.push ⟨key, v2, clock⟩) (clock + 1))) := by
        simp [Instr.mapUpdate, run_underlying hT, MapKept.run_getObj_map h.hb, KL.check w false hkey, k1, MapKept.run_setObj_map _ h.hb, Result.andThen, setBlock]
      rw [hr] at r5
      have hw : (setBlock w b (.map (es.push ⟨key, v2, clock⟩) (clock + 1))).heap[b]? = (setBlock w b (.map es' clock')).heap[b]? := by injection r5 with _ e; rw [e]
      rw [heap_setBlock hbl, heap_setBlock hbl] at hw
      injection hw with hw
      injection hw with q1 q2
      subst q1 q2
      refine ⟨by simp; have := h.size; omega, stamped_push h.stamped k2, ⟨⟨key, v2, clock⟩, by simp, rfl, rfl⟩, fun y hy => ?_, fun y hy _ => by simp [hy]⟩
      simp only [Array.toList_push, List.mem_append, List.mem_singleton] at hy
      rcases hy with hy | rfl
      · exact .inr ⟨hy, k2 y hy⟩
      · exact .inl ⟨rfl, rfl⟩
    · have hj : es[j]? = some e0 := by simpa using k2
      have hr : (Instr.mapUpdate T (.map (some b)) key v2).run P w = .ok () (setBlock w b (.map (es.modify j (fun e' => { e' with key := key, val := v2 })) clock)) := by
        simp [Instr.mapUpdate, run_underlying hT, MapKept.run_getObj_map h.hb, KL.check w false hkey, k1, hj, k3, KL.stays w hkey, MapKept.run_setObj_map _ h.hb, Result.andThen, setBlock]
      rw [hr] at r5
      have hw : (setBlock w b (.map (es.modify j (fun e' => { e' with key := key, val := v2 })) clock)).heap[b]? = (setBlock w b (.map es' clock')).heap[b]? := by injection r5 with _ e; rw [e]
      rw [heap_setBlock hbl, heap_setBlock hbl] at hw
      injection hw with hw
      injection hw with q1 q2
      subst q1 q2
      have hnd := h.stamped.2.2
      have hset : (es.modify j (fun e' => { e' with key := key, val := v2 })).toList = es.toList.set j ⟨key, v2, e0.born⟩ := by
        rw [Array.toList_modify, modify_eq_set _ _ _ _ k2]
      have hjl := (List.getElem?_eq_some_iff.1 k2).1
      refine ⟨by simp; have := h.size; omega, ⟨?_, ?_, ?_⟩, ⟨⟨key, v2, e0.born⟩, by rw [hset]; exact List.mem_of_getElem? (List.getElem?_set_self hjl), rfl, rfl⟩, fun y hy => ?_, fun y hy hne => ?_⟩
      · intro x hx
        rw [hset] at hx
        rcases List.mem_or_eq_of_mem_set hx with hx | rfl
        · exact h.stamped.1 x hx
        · exact h.stamped.1 e0 (List.mem_of_getElem? k2)
      · rw [hset, List.map_set]
        have : (es.toList.map (·.born)).set j e0.born = es.toList.map (·.born) := WideElems.set_self _ _ _ (by simp [k2])
        rw [this]; exact h.stamped.2.1
      · rw [hset, List.map_set]
        have : (es.toList.map (·.key)).set j key = es.toList.map (·.key) := WideElems.set_self _ _ _ (by simp [k2, k3])
        rw [this]; exact hnd
      · rw [hset] at hy
        obtain ⟨i, hi⟩ := List.getElem?_of_mem hy
        by_cases e : j = i
        · subst e
          rw [List.getElem?_set_self hjl] at hi
          obtain rfl := Option.some.inj hi
          exact .inl ⟨rfl, rfl⟩
        · rw [List.getElem?_set_ne e] at hi
          refine .inr ⟨List.mem_of_getElem? hi, fun hk => e ?_⟩
          have e1 : (es.toList.map (·.key))[i]? = some key := by simp [hi, hk]
          have e2 : (es.toList.map (·.key))[j]? = some key := by simp [k2, k3]
          exact (List.getElem?_inj (i := j) (j := i) (by simpa using hjl) hnd).1 (by rw [e2, e1])
      · rw [hset]
        obtain ⟨i, hi⟩ := List.getElem?_of_mem hy
        have e : j ≠ i := fun e => by subst e; rw [k2] at hi; obtain rfl := Option.some.inj hi; exact hne k3
        exact List.mem_of_getElem? (by rw [List.getElem?_set_ne e]; exact hi)
  obtain ⟨d1, d2, ⟨yn, dm, dk, dv⟩, d4, d5⟩ := hent
  have hs2 := hchg2.size
  rw [hs1] at hs2
  have hbl2 : b < w2.heap.size := heap_lt hb2
  have hv2 : ∀ c, blkOf v2 = some c → (∃ x ∈ es.toList, x.key = key ∧ blkOf x.val = some c) ∨ w.heap.size ≤ c := fun c hc => by
    rcases hat2 c (blkOf_iff.2 hc) with h1 | h1
    · exact .inl (hb0 c (blkOf_iff.1 h1))
    · rw [hs1] at h1; exact .inr h1
  have hv2b : blkOf v2 ≠ some b := fun e => by
    rcases hv2 b e with ⟨x, hx, _, hc⟩ | h1
    · exact h.apart x hx hc
    · omega
  have hw3 : ∀ c, c ≠ b → (setBlock w2 b (.map es' clock')).heap[c]? = w2.heap[c]? := fun c hc => heap_setBlock_ne hc
  have hkeep : ∀ c, c < w.heap.size → c ≠ b → blkOf v0 ≠ some c → (setBlock w2 b (.map es' clock')).heap[c]? = w.heap[c]? := fun c hc hne hv => by
    rw [hw3 c hne, hchg2.block c (by rw [hs1]; exact hc) (fun h1 => hv (blkOf_iff.1 h1)), heap_setBlock_ne hne]
  have hold : ∀ x ∈ es.toList, x.key ≠ key → ∀ c, blkOf x.val = some c → (setBlock w2 b (.map es' clock')).heap[c]? = w.heap[c]? := fun x hx hne c hc => by
    refine hkeep c (Res.ok_lt (h.rows x hx) (blkOf_iff.2 hc)) (fun e => h.apart x hx (by rw [← e]; exact hc)) fun hv => ?_
    obtain ⟨y, hy, hk, hyc⟩ := hb0 c hv
    exact h.sep x hx y hy (by rw [hk]; exact hne) c hc hyc
  refine ⟨v0, st, _, v2, w2, _, es', clock', r1, r3, r4, ⟨heap_setBlock hbl2, d1, d2, fun y hy => ?_, fun y hy => ?_, fun k hk => ?_, fun x hx y hy hne c hc hyc => ?_, fun y hy => ?_⟩, ⟨?_, ?_, ?_, ?_, fun c hc hnc => ?_⟩, fun c hc => ?_⟩
  · rcases d4 y hy with ⟨k1, _⟩ | ⟨k1, _⟩
    · exact ⟨kl, by rw [k1]; exact hkey⟩
    · exact h.keys y k1
  · rcases d4 y hy with ⟨k1, k2⟩ | ⟨k1, k2⟩
    · rw [k1, k2, hG1]
      exact Res.ok_frame hrow2 (by simp [setBlock]) fun c hc => hw3 c fun e => hv2b (by rw [← e]; exact blkOf_iff.1 hc)
    · rw [hG2 _ k2]
      exact Res.ok_frame (h.rows y k1) (by simp [setBlock]; exact hs2) fun c hc => hold y k1 k2 c (blkOf_iff.1 hc)
  · have hne : k ≠ key := fun e => hk yn dm (by rw [dk, e])
    rw [hG2 k hne]
    exact h.none k fun x hx e => hk x (d5 x hx (by rw [e]; exact hne)) e
  · have hcase : ∀ z ∈ es.toList, z.key ≠ key → ∀ c, blkOf z.val = some c → blkOf v2 ≠ some c := fun z hz hzk c hc hv => by
      rcases hv2 c hv with ⟨x0, hx0, hk0, hc0⟩ | h1
      · exact h.sep z hz x0 hx0 (by rw [hk0]; exact hzk) c hc hc0
      · have := Res.ok_lt (h.rows z hz) (blkOf_iff.2 hc); omega
    rcases d4 x hx with ⟨k1, k2⟩ | ⟨k1, k2⟩ <;> rcases d4 y hy with ⟨l1, l2⟩ | ⟨l1, l2⟩
    · exact hne (by rw [k1, l1])
    · rw [k2] at hc; exact hcase y l1 l2 c hyc hc
    · rw [l2] at hyc; exact hcase x k1 k2 c hc hyc
    · exact h.sep x k1 y l1 hne c hc hyc
  · rcases d4 y hy with ⟨k1, k2⟩ | ⟨k1, k2⟩
    · rw [k2]; exact hv2b
    · exact h.apart y k1
  · show (setBlock w2 b _).os = w.os
    exact (show (setBlock w2 b _).os = w2.os from rfl).trans (hchg2.os.trans rfl)
  · exact (show (setBlock w2 b _).tape = w2.tape from rfl).trans (hchg2.tape.trans rfl)
  · exact (show (setBlock w2 b _).output = w2.output from rfl).trans (hchg2.output.trans rfl)
  · simp [setBlock]; exact hs2
  · refine hkeep c hc (fun e => hnc (blocksOf_mem.2 (.inl e))) fun hv => ?_
    obtain ⟨x, hx, _, hxc⟩ := hb0 c hv
    exact hnc (blocksOf_mem.2 (.inr ⟨x, hx, hxc⟩))
  · rcases blocksOf_mem.1 hc with rfl | ⟨y, hy, hyc⟩
    · exact .inl (blocksOf_mem.2 (.inl rfl))
    · rcases d4 y hy with ⟨k1, k2⟩ | ⟨k1, k2⟩
      · rw [k2] at hyc
        rcases hv2 c hyc with ⟨x, hx, _, hxc⟩ | h1
        · exact .inl (blocksOf_mem.2 (.inr ⟨x, hx, hxc⟩))
        · exact .inr h1
      · exact .inl (blocksOf_mem.2 (.inr ⟨y, k1, hyc⟩))
end
end Go.Proofs.Ytgicfkgiecgjoaa.RS
