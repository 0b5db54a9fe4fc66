/- RS, part XN: nil slices in the cells of a block, as empty rows. -/
import Derived.Test.YtgicfkgiecgjoaaRsY
set_option linter.unusedVariables false
set_option linter.unusedSimpArgs false
namespace Go.Proofs.Ytgicfkgiecgjoaa.RS
open Go Go.RowKit
def nilCell (st : St) (h pos : Nat) (E : TypeId) (ks : List CK) : Option St :=
  bif st.wf then match st.hp[h]? with
    | some (.blk own T cs) => match cs[pos]? with
      | some (.val (.slice none 0 0)) => some ⟨st.tm, (st.hp ++ [Res.row true E ks []]).set h (.blk own T (cs.set pos (.row st.hp.length))), st.og⟩
      | _ => none
    | _ => none
  else none
def nilCells (h : Nat) (E : TypeId) (ks : List CK) : List Nat → St → Option St
  | [], st => some st
  | p :: ps, st => match nilCell st h p E ks with
    | some st' => nilCells h E ks ps st'
    | none => none
section
variable {C : Ctx} {st st' : St} {g : Gam} {a : Act} {w : World} {Q : Exit → Act → World → Prop}
theorem reps_set_of {l l' : LV} (hl : ∀ v, rep g l v → rep g l' v) : ∀ {cs : List LV} {vs : List Value} {pos : Nat}, reps g cs vs → cs[pos]? = some l → reps g (cs.set pos l') vs
  | c :: cs, v :: vs, 0, h, hp => by
    simp at hp
    subst hp
    exact ⟨hl v h.1, h.2⟩
  | c :: cs, v :: vs, pos + 1, h, hp => ⟨h.1, reps_set_of hl h.2 (by simpa using hp)⟩
  | [], [], pos, h, hp => by simp at hp
  | [], _ :: _, _, h, _ => h.elim
  | _ :: _, [], _, h, _ => h.elim
/-- A block's cells told in other words. -/
theorem SatG.reblk (hs : SatG C st g a w) {h0 : Nat} {own : Bool} {T : TypeId} {cs cs' : List LV} (hh0 : st.hp[h0]? = some (.blk own T cs)) (hre : ∀ vs, reps g cs vs → reps g cs' vs) : SatG C ⟨st.tm, st.hp.set h0 (.blk own T cs'), st.og⟩ g a w := by
  have hlt0 : h0 < st.hp.length := (List.getElem?_eq_some_iff.1 hh0).1
  have hget : ∀ {h : Nat} {r' : Res}, (st.hp.set h0 (.blk own T cs'))[h]? = some r' → ∃ r, st.hp[h]? = some r ∧ r.own = r'.own ∧ (∀ v, r'.at v = r.at v) ∧ (r.ok g w (g h) → r'.ok g w (g h)) := by
    intro h r' hh
    by_cases e : h0 = h
    · subst e
      rw [List.getElem?_set_self hlt0] at hh
      obtain rfl := Option.some.inj hh
      refine ⟨_, hh0, rfl, fun v => by cases v <;> first | rfl | (rename_i p; cases p <;> rfl), ?_⟩
      rintro ⟨b, vs, h1, h2, h3⟩
      exact ⟨b, vs, h1, h2, hre _ h3⟩
    · rw [List.getElem?_set_ne e] at hh
      exact ⟨r', hh, rfl, fun _ => rfl, id⟩
  refine ⟨hs.defers, hs.size, hs.slots, ⟨fun h r' (hh : (st.hp.set h0 (.blk own T cs'))[h]? = some r') => ?_, fun h h' r1 r2 b hne (h1 : (st.hp.set h0 (.blk own T cs'))[h]? = some r1) (h2 : (st.hp.set h0 (.blk own T cs'))[h']? = some r2) ho hb => ?_⟩, hs.frm, fun h r' b (hh : (st.hp.set h0 (.blk own T cs'))[h]? = some r') ho hb => ?_, hs.og⟩
  · obtain ⟨r, k1, k2, k3, k4⟩ := hget hh
    exact k4 (hs.mem.ok h r k1)
  · obtain ⟨q1, k1, k2, k3, k4⟩ := hget h1
    obtain ⟨q2, l1, l2, l3, l4⟩ := hget h2
    rw [l3]
    exact hs.mem.sep h h' q1 q2 b hne k1 l1 (by rw [k2]; exact ho) (by rw [← k3]; exact hb)
  · obtain ⟨r, k1, k2, k3, k4⟩ := hget hh
    exact hs.own h r b k1 (by rw [k2]; exact ho) (by rw [← k3]; exact hb)
theorem SatG.nilcell (hs : SatG C st g a w) {h pos : Nat} {E : TypeId} {ks : List CK} (hc : nilCell st h pos E ks = some st') : ∃ g', SatG C st' g' a w := by
  unfold nilCell at hc
  simp only [cond_eq_ite] at hc
  split at hc
  case isFalse => cases hc
  rename_i hwf
  split at hc
  case h_2 => cases hc
  rename_i own T cs hh
  split at hc
  case h_2 => cases hc
  rename_i hp
  obtain rfl := Option.some.inj hc
  obtain ⟨h1, h2⟩ := hs.new hwf (new_nil g w st.hp.length E ks)
  have hlt : h < st.hp.length := (List.getElem?_eq_some_iff.1 hh).1
  refine ⟨_, h1.reblk (h0 := h) (own := own) (T := T) (cs := cs) (by show (st.hp ++ _)[h]? = _; rw [List.getElem?_append_left hlt]; exact hh) fun vs hv => reps_set_of (l := .val (.slice none 0 0)) (fun v hv => ?_) hv hp⟩
  have hv : v = .slice none 0 0 := hv
  subst hv
  exact h2
theorem SatG.nilcells {h : Nat} {E : TypeId} {ks : List CK} : ∀ {ps : List Nat} {st : St} {g : Gam}, SatG C st g a w → nilCells h E ks ps st = some st' → ∃ g', SatG C st' g' a w
  | [], st, g, hs, hc => by
    obtain rfl := Option.some.inj hc
    exact ⟨g, hs⟩
  | p :: ps, st, g, hs, hc => by
    simp only [nilCells] at hc
    split at hc
    case h_2 => cases hc
    rename_i st1 h1
    obtain ⟨g1, hs1⟩ := hs.nilcell h1
    exact SatG.nilcells hs1 hc
theorem W.nilcells {c : Code} (h : Nat) (E : TypeId) (ks : List CK) (ps : List Nat) (st' : St) (hc : nilCells h E ks ps st = some st') (hw : W C c Q st') : W C c Q st := fun a w ⟨g, hs⟩ => hw a w (hs.nilcells hc)
end
end Go.Proofs.Ytgicfkgiecgjoaa.RS
