/- RS, part A: abstract values, resources, what a state says of a call's slots and memory; how it is kept. -/
import Derived.WalkKit
import Derived.Orders
set_option linter.unusedVariables false
set_option linter.unusedSimpArgs false
namespace Go.Proofs.Ytgicfkgiecgjoaa.RS
open Go

/-! ### 1. Kinds of cells; reading out of rows of values -/
inductive CK where
  | int (k : IntKind)
  | bool
  | str
  | any
def CK.fits : CK → Value → Prop
  | .int k, v => ∃ n, v = .int k n
  | .bool, v => ∃ b, v = .bool b
  | .str, v => ∃ s, v = .string s
  | .any, v => v.oneCell' = true
def cellAt (xs : List (List Value)) (i o : Nat) : Value := (xs.getD i []).getD o undef
def vI : Value → Int | .int _ n => n | _ => 0
def vB : Value → Bool | .bool b => b | _ => false
def vS : Value → ByteArray | .string s => s | _ => ByteArray.empty
def CK.read (k : CK) (xs : List (List Value)) (i o : Nat) : Value :=
  match k with
  | .int k => .int k (vI (cellAt xs i o))
  | .bool => .bool (vB (cellAt xs i o))
  | .str => .string (vS (cellAt xs i o))
  | .any => cellAt xs i o
theorem CK.read_eq {k : CK} {xs : List (List Value)} {i o : Nat} (h : k.fits (cellAt xs i o)) : k.read xs i o = cellAt xs i o := by
  cases k <;> simp only [CK.fits] at h
  · obtain ⟨n, e⟩ := h; simp [CK.read, e, vI]
  · obtain ⟨n, e⟩ := h; simp [CK.read, e, vB]
  · obtain ⟨n, e⟩ := h; simp [CK.read, e, vS]
  · rfl
theorem CK.fits_one {k : CK} {v : Value} (h : k.fits v) : v.oneCell' = true := by
  cases k <;> simp only [CK.fits] at h
  · obtain ⟨n, rfl⟩ := h; rfl
  · obtain ⟨n, rfl⟩ := h; rfl
  · obtain ⟨n, rfl⟩ := h; rfl
  · exact h
/-- An element's cells fit the kinds. -/
def fitsAll : List CK → List Value → Prop
  | [], [] => True
  | k :: ks, v :: vs => k.fits v ∧ fitsAll ks vs
  | _, _ => False
theorem fitsAll_length : ∀ {ks : List CK} {vs : List Value}, fitsAll ks vs → vs.length = ks.length
  | [], [], _ => rfl
  | _ :: _, _ :: _, h => by simp [fitsAll_length h.2]
theorem fitsAll_at : ∀ {ks : List CK} {vs : List Value} (o : Nat) (k : CK), fitsAll ks vs → ks[o]? = some k → k.fits (vs.getD o undef)
  | k0 :: ks, v :: vs, 0, k, h, e => by simp at e; subst e; simpa using h.1
  | k0 :: ks, v :: vs, o + 1, k, h, e => by simp at e; simpa using fitsAll_at o k h.2 e

/-! ### 2. Abstract values -/
inductive LV where
  | val (v : Value)
  | ptr (h o : Nat)
  | pti (h o sz : Nat) (i : Int)
  | elt (h sz : Nat) (i : Int) (o : Nat)
  | row (h : Nat)
  | view (h sz : Nat) (lo hi : Int)
  | dead
inductive SV where
  | lf (l : LV)
  | agg (cs : List LV)
inductive AV where
  | sv (s : SV)
  | tup (vs : List SV)
abbrev Gam := Nat → Value
def rep (g : Gam) : LV → Value → Prop
  | .val v, u => u = v
  | .ptr h o, u => ∃ b, g h = .pointer (some ⟨b, 0, none⟩) ∧ u = .pointer (some ⟨b, o, none⟩)
  | .pti h o sz i, u => ∃ b, g h = .pointer (some ⟨b, 0, none⟩) ∧ u = .pointer (some ⟨b, o + i.toNat * sz, none⟩)
  | .elt h sz i o, u => ∃ ad n c, g h = .slice (some ad) n c ∧ u = .pointer (some (ad.add (i.toNat * sz + o)))
  | .row h, u => u = g h ∧ ∃ A n c, g h = .slice A n c
  | .view h sz lo hi, u => ∃ A n c, g h = .slice A n c ∧ 0 ≤ lo ∧ lo ≤ hi ∧ hi ≤ n ∧ n ≤ c ∧ u = .slice (if (c : Int) = lo then A else A.map (·.add (lo.toNat * sz))) (hi.toNat - lo.toNat) (c - lo.toNat)
  | .dead, u => u.oneCell' = true
def reps (g : Gam) : List LV → List Value → Prop
  | [], [] => True
  | l :: ls, v :: vs => rep g l v ∧ reps g ls vs
  | _, _ => False
def srep (g : Gam) : SV → Value → Prop
  | .lf l, u => rep g l u
  | .agg cs, u => ∃ vs, u = .agg vs ∧ reps g cs vs.toList
def sreps (g : Gam) : List SV → List Value → Prop
  | [], [] => True
  | l :: ls, v :: vs => srep g l v ∧ sreps g ls vs
  | _, _ => False
def arep (g : Gam) : AV → Value → Prop
  | .sv s, u => srep g s u
  | .tup vs, u => ∃ us, u = .tuple us ∧ sreps g vs us.toList
def areps (g : Gam) : List AV → List Value → Prop
  | [], [] => True
  | l :: ls, v :: vs => arep g l v ∧ areps g ls vs
  | _, _ => False

/-- The handles that a value speaks of lie below a bound or satisfy a test. -/
def LV.on (p : Nat → Bool) : LV → Bool
  | .val _ | .dead => true
  | .ptr h _ | .pti h _ _ _ | .elt h _ _ _ | .row h | .view h _ _ _ => p h
def SV.on (p : Nat → Bool) : SV → Bool
  | .lf l => l.on p
  | .agg cs => cs.all (LV.on p)
def AV.on (p : Nat → Bool) : AV → Bool
  | .sv s => s.on p
  | .tup vs => vs.all (SV.on p)
theorem rep_congr {g g' : Gam} {p : Nat → Bool} (hg : ∀ h, p h = true → g' h = g h) {l : LV} {v : Value} (hl : l.on p = true) (h : rep g l v) : rep g' l v := by
  cases l <;> simp only [rep, LV.on] at * <;> first | exact h | (rw [hg _ hl]; exact h)
theorem reps_congr {g g' : Gam} {p : Nat → Bool} (hg : ∀ h, p h = true → g' h = g h) : ∀ {ls : List LV} {vs : List Value}, ls.all (LV.on p) = true → reps g ls vs → reps g' ls vs
  | [], [], _, _ => trivial
  | l :: ls, v :: vs, hl, h => by
    simp only [List.all_cons, Bool.and_eq_true] at hl
    exact ⟨rep_congr hg hl.1 h.1, reps_congr hg hl.2 h.2⟩
  | [], _ :: _, _, h => h.elim
  | _ :: _, [], _, h => h.elim
theorem srep_congr {g g' : Gam} {p : Nat → Bool} (hg : ∀ h, p h = true → g' h = g h) {l : SV} {v : Value} (hl : l.on p = true) (h : srep g l v) : srep g' l v := by
  cases l with
  | lf l => exact rep_congr hg hl h
  | agg cs => obtain ⟨vs, e, h⟩ := h; exact ⟨vs, e, reps_congr hg hl h⟩
theorem sreps_congr {g g' : Gam} {p : Nat → Bool} (hg : ∀ h, p h = true → g' h = g h) : ∀ {ls : List SV} {vs : List Value}, ls.all (SV.on p) = true → sreps g ls vs → sreps g' ls vs
  | [], [], _, _ => trivial
  | l :: ls, v :: vs, hl, h => by
    simp only [List.all_cons, Bool.and_eq_true] at hl
    exact ⟨srep_congr hg hl.1 h.1, sreps_congr hg hl.2 h.2⟩
  | [], _ :: _, _, h => h.elim
  | _ :: _, [], _, h => h.elim
theorem arep_congr {g g' : Gam} {p : Nat → Bool} (hg : ∀ h, p h = true → g' h = g h) {l : AV} {v : Value} (hl : l.on p = true) (h : arep g l v) : arep g' l v := by
  cases l with
  | sv s => exact srep_congr hg hl h
  | tup vs => obtain ⟨us, e, h⟩ := h; exact ⟨us, e, sreps_congr hg hl h⟩
theorem reps_length {g : Gam} : ∀ {ls : List LV} {vs : List Value}, reps g ls vs → vs.length = ls.length
  | [], [], _ => rfl
  | _ :: _, _ :: _, h => by simp [reps_length h.2]
  | [], _ :: _, h => h.elim
  | _ :: _, [], h => h.elim
theorem reps_at {g : Gam} : ∀ {ls : List LV} {vs : List Value} {o : Nat} {l : LV}, reps g ls vs → ls[o]? = some l → ∃ v, vs[o]? = some v ∧ rep g l v
  | _ :: _, v :: _, 0, l, h, e => by simp at e; subst e; exact ⟨v, rfl, h.1⟩
  | _ :: _, _ :: _, o + 1, l, h, e => by simp at e; simpa using reps_at h.2 e
  | [], [], o, l, h, e => by simp at e
  | [], _ :: _, _, _, h, _ => h.elim
  | _ :: _, [], _, _, h, _ => h.elim
theorem reps_set {g : Gam} : ∀ {ls : List LV} {vs : List Value} {o : Nat} {l : LV} {v : Value}, reps g ls vs → rep g l v → reps g (ls.set o l) (vs.set o v)
  | [], [], _, _, _, _, _ => trivial
  | _ :: _, _ :: _, 0, l, v, h, e => ⟨e, h.2⟩
  | _ :: _, _ :: _, o + 1, l, v, h, e => ⟨h.1, reps_set h.2 e⟩
  | [], _ :: _, _, _, _, h, _ => h.elim
  | _ :: _, [], _, _, _, h, _ => h.elim
theorem reps_append {g : Gam} : ∀ {ls ls' : List LV} {vs vs' : List Value}, reps g ls vs → reps g ls' vs' → reps g (ls ++ ls') (vs ++ vs')
  | [], _, [], _, _, h => h
  | _ :: _, _, _ :: _, _, h, k => ⟨h.1, reps_append h.2 k⟩
  | [], _, _ :: _, _, h, _ => h.elim
  | _ :: _, _, [], _, h, _ => h.elim
theorem reps_take {g : Gam} : ∀ (n : Nat) {ls : List LV} {vs : List Value}, reps g ls vs → reps g (ls.take n) (vs.take n)
  | 0, _, _, _ => by simp [reps]
  | n + 1, [], [], _ => by simp [reps]
  | n + 1, _ :: _, _ :: _, h => ⟨h.1, reps_take n h.2⟩
  | _ + 1, [], _ :: _, h => h.elim
  | _ + 1, _ :: _, [], h => h.elim
theorem reps_drop {g : Gam} : ∀ (n : Nat) {ls : List LV} {vs : List Value}, reps g ls vs → reps g (ls.drop n) (vs.drop n)
  | 0, _, _, h => h
  | n + 1, [], [], _ => by simp [reps]
  | n + 1, _ :: _, _ :: _, h => reps_drop n h.2
  | _ + 1, [], _ :: _, h => h.elim
  | _ + 1, _ :: _, [], h => h.elim
theorem reps_vals (g : Gam) : ∀ (vs : List Value), reps g (vs.map .val) vs
  | [] => trivial
  | _ :: vs => ⟨rfl, reps_vals g vs⟩

/-! ### 3. Resources -/
/-- Whatever else lies in memory: what is said of it, and in which blocks it lies. The handle's value is a ghost: it may tell the blocks. -/
structure Abs where
  ok : World → Value → Prop
  lies : Value → Nat → Prop
  lt : ∀ (w : World) (v : Value) (b : Nat), ok w v → lies v b → b < w.heap.size
  frame : ∀ (w w' : World) (v : Value), ok w v → w.heap.size ≤ w'.heap.size → (∀ b, lies v b → w'.heap[b]? = w.heap[b]?) → ok w' v
inductive Res where
  | blk (own : Bool) (T : TypeId) (cs : List LV)
  | row (own : Bool) (E : TypeId) (ks : List CK) (xs : List (List Value))
  | arr (own : Bool) (T : TypeId) (ks : List CK) (xs : List (List Value))
  | abs (own : Bool) (A : Abs)
  | gone
def Res.own : Res → Bool
  | .blk o _ _ => o
  | .row o _ _ _ => o
  | .arr o _ _ _ => o
  | .abs o _ => o
  | .gone => false
def Res.lent : Res → Res
  | .blk _ T cs => .blk false T cs
  | .row _ E ks xs => .row false E ks xs
  | .arr _ T ks xs => .arr false T ks xs
  | .abs _ A => .abs false A
  | .gone => .gone
def Res.on (p : Nat → Bool) : Res → Bool
  | .blk _ _ cs => cs.all (LV.on p)
  | _ => true
/-- The blocks that a resource lies in. -/
def Res.at : Res → Value → Nat → Prop
  | .blk .., .pointer (some a), b => a.block = b
  | .arr .., .pointer (some a), b => a.block = b
  | .row .., .slice (some a) n c, b => ¬ c = 0 ∧ a.block = b
  | .abs _ A, v, b => A.lies v b
  | _, _, _ => False
/-- What is read of a row. -/
def RowRead (w : World) (v : Value) (ks : List CK) (xs : List (List Value)) : Prop :=
  ∃ A c, v = .slice A xs.length c ∧ xs.length ≤ c ∧ c ≤ maxLen ∧ (∀ x ∈ xs, fitsAll ks x) ∧
    (c ≠ 0 → ∃ ad, A = some ad ∧ ad.block < w.heap.size ∧ ∀ i o, i < xs.length → o < ks.length → w.cell? (ad.add (i * ks.length + o)) = some (cellAt xs i o))
/-- What may be written of a row. -/
def RowOwn (w : World) (v : Value) (E : TypeId) (sz : Nat) (n : Nat) : Prop :=
  ∀ A c, v = .slice A n c → c ≠ 0 → ∃ g cur f, A = some ⟨g, 0, none⟩ ∧ w.heap[g]? = some (.cells cur E f) ∧ cur.size = c * sz ∧ (f.2 = 0 ∨ cur.size ≤ f.1)
def Res.ok (g : Gam) (w : World) (v : Value) : Res → Prop
  | .gone => True
  | .abs own A => A.ok w v
  | .blk own T cs => ∃ b vs, v = .pointer (some ⟨b, 0, none⟩) ∧ w.heap[b]? = some (.cells vs T (0, 0)) ∧ reps g cs vs.toList
  | .row own E ks xs => RowRead w v ks xs ∧ (own = true → RowOwn w v E ks.length xs.length)
  | .arr own T ks xs => ∃ b vs, v = .pointer (some ⟨b, 0, none⟩) ∧ w.heap[b]? = some (.cells vs T (0, 0)) ∧ vs.size = xs.length * ks.length ∧ (∀ x ∈ xs, fitsAll ks x) ∧
      ∀ i o, i < xs.length → o < ks.length → vs[i * ks.length + o]? = some (cellAt xs i o)
structure Mem (g : Gam) (hp : List Res) (w : World) : Prop where
  ok : ∀ (h : Nat) (r : Res), hp[h]? = some r → r.ok g w (g h)
  sep : ∀ (h h' : Nat) (r r' : Res) (b : Nat), h ≠ h' → hp[h]? = some r → hp[h']? = some r' → r.own = true → r.at (g h) b → ¬ r'.at (g h') b
theorem heap_lt {w : World} {b : Nat} {o : Obj} (h : w.heap[b]? = some o) : b < w.heap.size := (Array.getElem?_eq_some_iff.1 h).1
theorem Res.ok_lt {g : Gam} {w : World} {v : Value} {r : Res} {b : Nat} (h : r.ok g w v) (hb : r.at v b) : b < w.heap.size := by
  cases r with
  | gone => simp [Res.at] at hb
  | abs own A => exact A.lt w v b h hb
  | blk own T cs =>
    obtain ⟨b', vs, rfl, hh, _⟩ := h
    simp [Res.at] at hb
    subst hb
    exact heap_lt hh
  | arr own T ks xs =>
    obtain ⟨b', vs, rfl, hh, _⟩ := h
    simp [Res.at] at hb
    subst hb
    exact heap_lt hh
  | row own E ks xs =>
    obtain ⟨⟨A, c, rfl, _, _, _, hr⟩, _⟩ := h
    cases A with
    | none => simp [Res.at] at hb
    | some ad =>
      obtain ⟨hc, hb⟩ := hb
      obtain ⟨ad', e, hlt, _⟩ := hr hc
      injection e with e
      subst e
      exact hb ▸ hlt
theorem cell_of_heap {w w' : World} {a : Addr} (h : w'.heap[a.block]? = w.heap[a.block]?) : w'.cell? a = w.cell? a := by
  unfold World.cell?
  rw [h]
theorem frozen_of_heap {w w' : World} {a : Addr} (h : w'.heap[a.block]? = w.heap[a.block]?) : w'.frozen? a = w.frozen? a := by
  unfold World.frozen?
  rw [h]
theorem add_block (a : Addr) (n : Nat) : (a.add n).block = a.block := by unfold Addr.add; split <;> rfl
theorem add_add (a : Addr) (m n : Nat) : (a.add m).add n = a.add (m + n) := by
  unfold Addr.add
  by_cases hm : m = 0
  · simp [hm]
  · by_cases hn : n = 0
    · simp [hn]
    · have : m + n ≠ 0 := by omega
      simp [hm, hn, this, Nat.add_assoc]
/-- A resource outlives what leaves its block alone. -/
theorem Res.ok_frame {g : Gam} {w w' : World} {v : Value} {r : Res} (h : r.ok g w v) (hs : w.heap.size ≤ w'.heap.size) (hb : ∀ b, r.at v b → w'.heap[b]? = w.heap[b]?) : r.ok g w' v := by
  cases r with
  | gone => trivial
  | abs own A => exact A.frame w w' v h hs hb
  | blk own T cs =>
    obtain ⟨b, vs, rfl, hh, hr⟩ := h
    exact ⟨b, vs, rfl, (hb b rfl).trans hh, hr⟩
  | arr own T ks xs =>
    obtain ⟨b, vs, rfl, hh, hr⟩ := h
    exact ⟨b, vs, rfl, (hb b rfl).trans hh, hr⟩
  | row own E ks xs =>
    obtain ⟨⟨A, c, rfl, h1, h2, h3, hr⟩, ho⟩ := h
    refine ⟨⟨A, c, rfl, h1, h2, h3, fun hc => ?_⟩, fun hown A' c' e hc' => ?_⟩
    · obtain ⟨ad, rfl, hlt, hcell⟩ := hr hc
      refine ⟨ad, rfl, Nat.lt_of_lt_of_le hlt hs, fun i o hi ho => ?_⟩
      rw [cell_of_heap (w := w)]
      · exact hcell i o hi ho
      · rw [add_block]; exact hb ad.block (by simp [Res.at, hc])
    · injection e with e1 e2 e3
      subst e1 e3
      obtain ⟨g', cur, f, rfl, hh, hsz⟩ := ho hown _ _ rfl hc'
      exact ⟨g', cur, f, rfl, (hb g' (by simp [Res.at, hc'])).trans hh, hsz⟩
theorem Res.ok_congr {g g' : Gam} {p : Nat → Bool} (hg : ∀ h, p h = true → g' h = g h) {w : World} {v : Value} {r : Res} (hr : r.on p = true) (h : r.ok g w v) : r.ok g' w v := by
  cases r with
  | gone => trivial
  | blk own T cs => obtain ⟨b, vs, e, hh, hr'⟩ := h; exact ⟨b, vs, e, hh, reps_congr hg hr hr'⟩
  | row own E ks xs => exact h
  | arr own T ks xs => exact h
  | abs own A => exact h
theorem Res.ok_lent {g : Gam} {w : World} {v : Value} {r : Res} (h : r.ok g w v) : r.lent.ok g w v := by
  cases r with
  | gone => trivial
  | blk own T cs => exact h
  | row own E ks xs => exact ⟨h.1, fun e => by cases e⟩
  | arr own T ks xs => exact h
  | abs own A => exact h
theorem Res.at_lent (r : Res) (v : Value) : r.lent.at v = r.at v := by
  cases r with
  | gone => rfl
  | abs own A => rfl
  | blk own T cs =>
    cases v with
    | pointer a => cases a <;> rfl
    | _ => rfl
  | arr own T ks xs =>
    cases v with
    | pointer a => cases a <;> rfl
    | _ => rfl
  | row own E ks xs =>
    cases v with
    | slice a n c => cases a <;> rfl
    | _ => rfl
theorem Res.own_lent (r : Res) : r.lent.own = false := by cases r <;> rfl

end Go.Proofs.Ytgicfkgiecgjoaa.RS
