/- RS, part N: what a call leaves of a state. -/
import Derived.Test.YtgicfkgiecgjoaaRsM
set_option linter.unusedVariables false
set_option linter.unusedSimpArgs false
namespace Go.Proofs.Ytgicfkgiecgjoaa.RS
open Go Go.RowKit
/-- The caller's handles behind a call. -/
def afterG (g g' : Gam) (hp : List Res) (ps : List Pass) : Gam := fun k =>
  if k < hp.length then (if moves hp ps k = true then g' ((pfind (Pass.isG k) ps).getD 0) else g k) else g' (ps.length + (k - hp.length))
/-- What is asked of whatever does as a call: what is new lies in new blocks, or in those given; or it is not owned, and lies apart from what is. -/
structure PostN (hp : List Res) (g : Gam) (ps : List Pass) (gc : Gam) (ins outs : List Res) (g' : Gam) (w w' : World) : Prop where
  mem : Mem g' outs w'
  frm : Frm (modsOf gc ins) w w'
  keep : ∀ (j : Nat) (r : Res), ins[j]? = some r → r.keeps = true → g' j = gc j
  own : ∀ (j : Nat) (r : Res) (b : Nat), outs[j]? = some r → lentAt ins j = false → r.at (g' j) b → (w.heap.size ≤ b ∨ modsOf gc ins b) ∨ (r.own = false ∧ b < w.heap.size ∧ ∀ (k : Nat) (x : Res), hp[k]? = some x → x.own = true → ¬ x.at (g k) b)
theorem PostG.toN {hp : List Res} {g : Gam} {ps : List Pass} {gc : Gam} {ins outs : List Res} {g' : Gam} {w w' : World} (h : PostG gc ins outs g' w w') : PostN hp g ps gc ins outs g' w w' := ⟨h.mem, h.frm, h.keep, fun j r b h1 h2 h3 => .inl (h.own j r b h1 h2 h3)⟩
section
variable {C : Ctx} {st : St} {g : Gam} {a : Act} {w : World}
/-- What a call, or a piece of code that does as one, leaves of a state. -/
theorem after_ok (hs : SatG C st g a w) {os : List AV} {ci : CallI} {vs : List Value} {ins : List Res} {hp' new : List Res} (hins : insOf st.hp os ci.ins ci.ins = some ins) (honce : once ci.ins ci.ins = true)
    (hset : setG ci.ins st.hp.length ci.outs ci.ins 0 (st.hp.map (deadR (stays st.hp ci.ins))) = some hp') (hnew : renR (bk ci.ins st.hp.length) (ci.outs.drop ci.ins.length) = some new)
    {g' : Gam} {w' : World} (hpost : PostN st.hp g ci.ins (calleeG g ci.ins vs) ins ci.outs g' w w') :
    SatG C ⟨dropH (stays st.hp ci.ins) st.tm, hp' ++ new, killO (stays st.hp ci.ins) 0 st.og⟩ (afterG g g' st.hp ci.ins) a w' ∧ ∀ j k, bk ci.ins st.hp.length j = some k → afterG g g' st.hp ci.ins k = g' j := by
  -- abbreviations
  have hilen : ∀ (j : Nat), ci.ins[j]? = none → ins[j]? = none := fun j hj => (insOf_get hins j).2 hj
  have hgive : ∀ {j k : Nat}, ci.ins[j]? = some (Pass.give k) → ∃ (x r : Res), st.hp[k]? = some x ∧ x.own = true ∧ ins[j]? = some r ∧ r.own = true ∧ r.keeps = x.keeps ∧ ∀ v, r.at v = x.at v := by
    intro j k hj
    obtain ⟨r, h1, h2⟩ := (insOf_get hins j).1 _ hj
    simp only [inOne, cond_eq_ite] at h2
    split at h2
    case h_2 => cases h2
    rename_i x hx
    split at h2
    case isFalse => cases h2
    rename_i hown
    obtain ⟨_, k2, k3⟩ := ok_ren (g' := calleeG g ci.ins vs) callee_ren h2 (hs.mem.ok k x hx)
    refine ⟨x, r, hx, hown, h1, by rw [k3]; exact hown, ?_, fun v => ?_⟩
    · cases x <;> simp only [Res.ren] at h2
      · split at h2 <;> cases h2; rfl
      all_goals cases h2; rfl
    · cases x <;> simp only [Res.ren] at h2
      · split at h2 <;> cases h2
        cases v <;> first | rfl | (rename_i q; cases q <;> rfl)
      all_goals cases h2; rfl
  have hgval : ∀ {j k : Nat}, ci.ins[j]? = some (.give k) → calleeG g ci.ins vs j = g k := fun hj => by simp [calleeG, hj]
  have hmods : ∀ {b : Nat}, modsOf (calleeG g ci.ins vs) ins b → ∃ (j k : Nat) (x : Res), ci.ins[j]? = some (Pass.give k) ∧ st.hp[k]? = some x ∧ x.own = true ∧ x.at (g k) b := by
    rintro b ⟨j, r, h1, h2, h3⟩
    cases hp : ci.ins[j]? with
    | none => rw [hilen j hp] at h1; cases h1
    | some p =>
      obtain ⟨r', h4, h5⟩ := (insOf_get hins j).1 p hp
      rw [h1] at h4
      obtain rfl := Option.some.inj h4
      cases p with
      | give k =>
        obtain ⟨x, r2, hx, hxo, hr2, _, _, hat⟩ := hgive hp
        rw [h1] at hr2
        obtain rfl := Option.some.inj hr2
        exact ⟨j, k, x, hp, hx, hxo, by rw [← hat, ← hgval hp]; exact h3⟩
      | lend k =>
        simp only [inOne] at h5
        split at h5
        case h_2 => cases h5
        rename_i x hx
        have := (ok_ren (g' := calleeG g ci.ins vs) callee_ren h5 (Res.ok_lent (hs.mem.ok k x hx))).2.2
        rw [this, Res.own_lent] at h2
        cases h2
      | sub i =>
        simp only [inOne, cond_eq_ite] at h5
        repeat' split at h5
        all_goals first | cases h5; done | (obtain rfl := Option.some.inj h5; cases h2)
      | nilr i E ks =>
        simp only [inOne] at h5
        repeat' split at h5
        all_goals first | cases h5; done | (obtain rfl := Option.some.inj h5; cases h2)
  have hgidx : ∀ {j k : Nat}, ci.ins[j]? = some (.give k) → pfind (Pass.isG k) ci.ins = some j := by
    intro j k hj
    have h1 := pfind_some (p := Pass.isG k) hj (by simp [Pass.isG])
    obtain ⟨j', hj'⟩ := Option.isSome_iff_exists.1 h1
    obtain ⟨x, hx, hxp⟩ := pfind_at hj'
    obtain rfl := isG_of hxp
    rw [hj', once_uniq honce hj hx (by simp [Pass.isH])]
  have hlt : ∀ {k : Nat} {x : Res}, st.hp[k]? = some x → k < st.hp.length := fun h => (List.getElem?_eq_some_iff.1 h).1
  have hnot : ∀ {k : Nat}, (∀ j : Nat, ci.ins[j]? ≠ some (.give k)) → moves st.hp ci.ins k = false := by
    intro k hk
    cases hm : moves st.hp ci.ins k with
    | false => rfl
    | true =>
      simp only [moves, Bool.and_eq_true] at hm
      obtain ⟨j, hj⟩ := Option.isSome_iff_exists.1 hm.1
      obtain ⟨x, hx, hxp⟩ := pfind_at hj
      obtain rfl := isG_of hxp
      exact absurd hx (hk j)
  -- the handles
  have hbk : ∀ j k, bk ci.ins st.hp.length j = some k → afterG g g' st.hp ci.ins k = g' j := by
    intro j k hj
    unfold bk at hj
    split at hj
    · rename_i h0 hp
      obtain rfl := Option.some.inj hj
      obtain ⟨r, h1, h2⟩ := (insOf_get hins j).1 _ hp
      simp only [inOne] at h2
      split at h2
      case h_2 => cases h2
      rename_i x hx
      have hno : moves st.hp ci.ins h0 = false := hnot fun j' hj' => by
        have := once_uniq honce hj' hp (by simp [Pass.isH])
        subst this
        rw [hp] at hj'
        cases hj'
      have hown := (ok_ren (g' := calleeG g ci.ins vs) callee_ren h2 (Res.ok_lent (hs.mem.ok h0 x hx))).2.2
      rw [Res.own_lent] at hown
      have hk : r.keeps = true := by cases r <;> simp [Res.keeps, Res.own] at hown ⊢ <;> exact hown
      rw [hpost.keep j r h1 hk]
      simp [afterG, hlt hx, hno, calleeG, hp]
    · rename_i h0 hp
      obtain rfl := Option.some.inj hj
      obtain ⟨x, r, hx, hxo, hr, hro, hke, _⟩ := hgive hp
      cases hm : moves st.hp ci.ins h0 with
      | true => simp [afterG, hlt hx, hm, hgidx hp]
      | false =>
        have : x.keeps = true := by
          simp only [moves, hgidx hp, hx, Option.isSome_some, Bool.true_and, Bool.not_eq_false'] at hm
          exact hm
        rw [hpost.keep j r hr (by rw [hke]; exact this), hgval hp]
        simp [afterG, hlt hx, hm]
    · cases hj
    · rename_i hp
      obtain rfl := Option.some.inj hj
      have hge : ci.ins.length ≤ j := by
        rcases Nat.lt_or_ge j ci.ins.length with h | h
        · rw [List.getElem?_eq_getElem h] at hp; cases hp
        · exact h
      have : ¬ (st.hp.length + (j - ci.ins.length) < st.hp.length) := by omega
      simp only [afterG, if_neg this]
      congr 1
      omega
  have hst : ∀ h, stays st.hp ci.ins h = true → afterG g g' st.hp ci.ins h = g h := by
    intro h hh
    simp only [stays, Bool.and_eq_true, Bool.not_eq_true'] at hh
    simp [afterG, blt_lt hh.1, hh.2]
  obtain ⟨hl', hget'⟩ := setG_get hset
  rw [List.length_map] at hl'
  -- what stands behind the call
  have hget : ∀ {k : Nat} {r : Res}, (hp' ++ new)[k]? = some r →
      (∃ (j : Nat) (x : Res), ci.outs[j]? = some x ∧ x.ren (bk ci.ins st.hp.length) = some r ∧ bk ci.ins st.hp.length j = some k ∧ lentAt ins j = false) ∨
      (∃ r0, st.hp[k]? = some r0 ∧ r = deadR (stays st.hp ci.ins) r0 ∧ ∀ j : Nat, ci.ins[j]? ≠ some (.give k)) := by
    intro k r hk
    rcases Nat.lt_or_ge k hp'.length with hkl | hkl
    · rw [List.getElem?_append_left hkl] at hk
      rcases hget' k r hk with ⟨j, x, h1, h2, h3⟩ | ⟨h1, h2⟩
      · left
        obtain ⟨x0, r0, hx0, hxo, hr0, hro, _, _⟩ := hgive h1
        exact ⟨j, x, by simpa using h2, h3, by simp [bk, h1], by simp [lentAt, hr0, hro]⟩
      · right
        rw [List.getElem?_map] at h2
        cases e : st.hp[k]? with
        | none => simp [e] at h2
        | some r0 => simp [e] at h2; exact ⟨r0, rfl, h2.symm, h1⟩
    · rw [List.getElem?_append_right hkl] at hk
      obtain ⟨x, h1, h2⟩ := renR_get hnew _ _ hk
      rw [List.getElem?_drop] at h1
      left
      have hn : ci.ins[ci.ins.length + (k - hp'.length)]? = none := List.getElem?_eq_none (by omega)
      refine ⟨_, x, h1, h2, ?_, by simp [lentAt, hilen _ hn]⟩
      have : st.hp.length + (ci.ins.length + (k - hp'.length) - ci.ins.length) = k := by rw [hl'] at hkl ⊢; omega
      simp only [bk, hn, this]
  have hold : ∀ (b : Nat), modsOf (calleeG g ci.ins vs) ins b → C.w0.heap.size ≤ b ∨ C.mods b := fun b hb => by
    obtain ⟨j, k, x, _, hx, hxo, hat⟩ := hmods hb
    exact hs.own k x b hx hxo hat
  -- a block of what stayed is none of what was handed over or made
  have hapart : ∀ {k : Nat} {r0 : Res} {b : Nat}, st.hp[k]? = some r0 → (∀ j : Nat, ci.ins[j]? ≠ some (.give k)) → r0.at (g k) b → ¬ (w.heap.size ≤ b ∨ modsOf (calleeG g ci.ins vs) ins b) := by
    intro k r0 b hk hng hb hor
    rcases hor with h1 | h1
    · have := Res.ok_lt (hs.mem.ok k r0 hk) hb; omega
    · obtain ⟨j, h0, x, hj, hx, hxo, hat⟩ := hmods h1
      have hne : h0 ≠ k := fun e => hng j (by rw [hj, e])
      exact hs.mem.sep h0 k x r0 b hne hx hk hxo hat hb
  refine ⟨⟨hs.defers, hs.size, fun e he => ?_, ⟨fun k r (hk : (hp' ++ new)[k]? = some r) => ?_, fun k k' r1 r2 b hne (h1 : (hp' ++ new)[k]? = some r1) (h2 : (hp' ++ new)[k']? = some r2) hown hb => ?_⟩, ?_, fun k r b (hk : (hp' ++ new)[k]? = some r) hown hb => ?_, fun k j (hk : (killO (stays st.hp ci.ins) 0 st.og)[k]? = some (some j)) => ?_⟩, hbk⟩
  · simp only [dropH, List.mem_filter] at he
    exact slot_congr hst he.2 (hs.slots e he.1)
  · rcases hget hk with ⟨j, x, k1, k2, k3, k4⟩ | ⟨r0, k1, rfl, k2⟩
    · rw [hbk j k k3]
      exact (ok_ren hbk k2 (hpost.mem.ok j x k1)).1
    · have hgk : afterG g g' st.hp ci.ins k = g k := by simp [afterG, hlt k1, hnot k2]
      rw [hgk]
      have hok := hs.mem.ok k r0 k1
      refine ok_deadR hst (Res.ok_frame hok hpost.frm.size fun b hb => ?_)
      exact hpost.frm.block b (Res.ok_lt hok hb) fun hm => hapart k1 k2 hb (.inr hm)
  · rcases hget h1 with ⟨j, x, k1, k2, k3, k4⟩ | ⟨r0, k1, rfl, k2⟩ <;> rcases hget h2 with ⟨j', x', k1', k2', k3', k4'⟩ | ⟨r0', k1', rfl, k2'⟩
    · rw [hbk j k k3] at hb
      rw [hbk j' k' k3']
      have e1 := ok_ren hbk k2 (hpost.mem.ok j x k1)
      have e2 := ok_ren hbk k2' (hpost.mem.ok j' x' k1')
      rw [e1.2.1] at hb
      rw [e2.2.1]
      rw [e1.2.2] at hown
      exact hpost.mem.sep j j' x x' b (fun e => hne (by subst e; rw [k3] at k3'; exact Option.some.inj k3')) k1 k1' hown hb
    · rw [hbk j k k3] at hb
      have e1 := ok_ren hbk k2 (hpost.mem.ok j x k1)
      rw [e1.2.1] at hb
      have hgk : afterG g g' st.hp ci.ins k' = g k' := by simp [afterG, hlt k1', hnot k2']
      rw [hgk, at_deadR]
      intro hb'
      rcases hpost.own j x b k1 k4 hb with h1 | ⟨h1, _⟩
      · exact hapart k1' k2' hb' h1
      · rw [e1.2.2, h1] at hown; cases hown
    · rw [hbk j' k' k3']
      have e2 := ok_ren hbk k2' (hpost.mem.ok j' x' k1')
      rw [e2.2.1]
      have hgk : afterG g g' st.hp ci.ins k = g k := by simp [afterG, hlt k1, hnot k2]
      rw [hgk, at_deadR] at hb
      intro hb'
      rcases hpost.own j' x' b k1' k4' hb' with h1 | ⟨_, _, h1⟩
      · exact hapart k1 k2 hb h1
      · exact h1 k r0 k1 (by rw [own_deadR] at hown; exact hown) hb
    · have hgk : afterG g g' st.hp ci.ins k = g k := by simp [afterG, hlt k1, hnot k2]
      have hgk' : afterG g g' st.hp ci.ins k' = g k' := by simp [afterG, hlt k1', hnot k2']
      rw [hgk, at_deadR] at hb
      rw [hgk', at_deadR]
      rw [own_deadR] at hown
      exact hs.mem.sep k k' r0 r0' b hne k1 k1' hown hb
  · refine ⟨hpost.frm.os.trans hs.frm.os, hpost.frm.tape.trans hs.frm.tape, hpost.frm.output.trans hs.frm.output, Nat.le_trans hs.frm.size hpost.frm.size, fun k hk hm => (hpost.frm.block k (Nat.lt_of_lt_of_le hk hs.frm.size) fun hmo => ?_).trans (hs.frm.block k hk hm)⟩
    rcases hold _ hmo with h1 | h1
    · omega
    · exact hm h1
  · rcases hget hk with ⟨j, x, k1, k2, k3, k4⟩ | ⟨r0, k1, rfl, k2⟩
    · rw [hbk j k k3] at hb
      rw [(ok_ren hbk k2 (hpost.mem.ok j x k1)).2.1] at hb
      rcases hpost.own j x b k1 k4 hb with (h1 | h1) | ⟨h1, _⟩
      · have := hs.frm.size; left; omega
      · exact hold _ h1
      · rw [(ok_ren hbk k2 (hpost.mem.ok j x k1)).2.2, h1] at hown; cases hown
    · have hgk : afterG g g' st.hp ci.ins k = g k := by simp [afterG, hlt k1, hnot k2]
      rw [hgk, at_deadR] at hb
      rw [own_deadR] at hown
      exact hs.own k r0 b k1 hown hb
  · obtain ⟨h1, h2⟩ := killO_get hk
    rw [Nat.zero_add] at h2
    rw [hst k h2]
    exact hs.og k j h1
theorem evalCall_ok (hs : SatG C st g a w) {f : FuncId} {os : List AV} {ci : CallI} {vs : List Value} {res : AV} {st' : St} {obs : List Prop} (h : evalCall C.P f st os ci = some (res, st', obs)) (ho : ∀ q ∈ obs, q) (hv : areps g os vs) :
    FnOK C.P f ∧ Calls C.P f vs.toArray w fun e w' => ∃ g' v, e = .returned v ∧ SatG C st' g' a w' ∧ arep g' res v := by
  unfold evalCall at h
  split at h
  case h_2 => cases h
  rename_i ins args hins hargs
  simp only [cond_eq_ite] at h
  split at h
  case isFalse => cases h
  rename_i honce
  split at h
  case h_2 => cases h
  rename_i hp' new res' hset hnew hres
  simp only [Option.some.injEq, Prod.mk.injEq] at h
  obtain ⟨rfl, rfl, rfl⟩ := h
  have hspec := ho _ (List.mem_singleton.2 rfl)
  have hmem := ins_mem hs.mem hins honce hv
  have hargs' := args_ok hins hv hargs hv (fun k => by rw [Nat.zero_add]) (fun k => by rw [Nat.zero_add])
  refine ⟨hspec.1, (hspec.2 _ w vs hmem hargs').mono ?_⟩
  rintro e w' ⟨g', v, rfl, hrv, hpost⟩
  obtain ⟨h1, h2⟩ := after_ok hs hins honce hset hnew hpost.toN
  exact ⟨_, v, rfl, h1, arep_ren h2 hres hrv⟩
end
/-! ### Whatever does as a call -/
/-- The block is of a resource that was lent. -/
def lentOf (g : Gam) (ins : List Res) (b : Nat) : Prop := ∃ (k : Nat) (r : Res), ins[k]? = some r ∧ r.own = false ∧ r.at (g k) b
/-- As a contract's end; but what is handed back may show what was lent. -/
structure PostA (g : Gam) (ins outs : List Res) (g' : Gam) (w w' : World) : Prop where
  mem : Mem g' outs w'
  frm : Frm (modsOf g ins) w w'
  keep : ∀ (j : Nat) (r : Res), ins[j]? = some r → r.keeps = true → g' j = g j
  own : ∀ (j : Nat) (r : Res) (b : Nat), outs[j]? = some r → lentAt ins j = false → r.at (g' j) b → (w.heap.size ≤ b ∨ modsOf g ins b) ∨ (r.own = false ∧ lentOf g ins b)
theorem PostG.toA {g g' : Gam} {ins outs : List Res} {w w' : World} (h : PostG g ins outs g' w w') : PostA g ins outs g' w w' := ⟨h.mem, h.frm, h.keep, fun j r b h1 h2 h3 => .inl (h.own j r b h1 h2 h3)⟩
def lendsB (hp : List Res) : List Pass → Bool
  | [] => true
  | .lend h :: r => (match hp[h]? with | some x => !x.own | none => false) && lendsB hp r
  | .give _ :: r => lendsB hp r
  | _ :: _ => false
def ownsB : List Pass → List Res → Bool
  | _, [] => true
  | [], r :: rs => r.own && ownsB [] rs
  | .give _ :: ps, r :: rs => r.own && ownsB ps rs
  | _ :: ps, _ :: rs => ownsB ps rs
def aliasB (hp : List Res) (ps : List Pass) (outs : List Res) : Bool := ownsB ps outs || lendsB hp ps
theorem lendsB_get {hp : List Res} : ∀ {ps : List Pass}, lendsB hp ps = true → ∀ (j : Nat) (p : Pass), ps[j]? = some p → (∃ h x, p = .lend h ∧ hp[h]? = some x ∧ x.own = false) ∨ ∃ h, p = .give h
  | [], _, j, p, h => by simp at h
  | q :: qs, hq, j, p, h => by
    cases q with
    | lend k =>
      simp only [lendsB, Bool.and_eq_true] at hq
      cases j with
      | zero =>
        simp at h
        subst h
        have := hq.1
        split at this
        · rename_i x hx; exact .inl ⟨k, x, rfl, hx, by simpa using this⟩
        · cases this
      | succ j => exact lendsB_get hq.2 j p (by simpa using h)
    | give k =>
      simp only [lendsB] at hq
      cases j with
      | zero => simp at h; subst h; exact .inr ⟨k, rfl⟩
      | succ j => exact lendsB_get hq j p (by simpa using h)
    | sub i => simp [lendsB] at hq
    | nilr i E ks => simp [lendsB] at hq
theorem ownsB_get : ∀ {ps : List Pass} {outs : List Res}, ownsB ps outs = true → ∀ (j : Nat) (r : Res), outs[j]? = some r → (∀ p, ps[j]? = some p → ∃ h, p = .give h) → r.own = true
  | ps, [], _, j, r, h, _ => by simp at h
  | [], x :: xs, ho, j, r, h, hp => by
    simp only [ownsB, Bool.and_eq_true] at ho
    cases j with
    | zero => simp at h; subst h; exact ho.1
    | succ j => exact ownsB_get ho.2 j r (by simpa using h) (fun p hp' => by simp at hp')
  | q :: ps, x :: xs, ho, 0, r, h, hp => by
    obtain ⟨k, rfl⟩ := hp q rfl
    simp only [ownsB, Bool.and_eq_true] at ho
    simp at h
    subst h
    exact ho.1
  | q :: ps, x :: xs, ho, j + 1, r, h, hp => by
    have hh : ownsB ps xs = true := by
      cases q <;> simp only [ownsB, Bool.and_eq_true] at ho <;> first | exact ho | exact ho.2
    exact ownsB_get hh j r (by simpa using h) (fun p hp' => hp p (by simpa using hp'))
theorem PostA.toN {hp : List Res} {g : Gam} {w w' : World} (hm : Mem g hp w) {os : List AV} {ps : List Pass} {vs : List Value} {ins outs : List Res} {g' : Gam} (hins : insOf hp os ps ps = some ins) (hal : aliasB hp ps outs = true) (h : PostA (calleeG g ps vs) ins outs g' w w') : PostN hp g ps (calleeG g ps vs) ins outs g' w w' := by
  refine ⟨h.mem, h.frm, h.keep, fun j r b h1 h2 h3 => ?_⟩
  rcases h.own j r b h1 h2 h3 with h4 | ⟨h4, k, r0, h5, h6, h7⟩
  · exact .inl h4
  · right
    refine ⟨h4, ?_⟩
    simp only [aliasB, Bool.or_eq_true] at hal
    rcases hal with hal | hal
    · have := ownsB_get hal j r h1 (fun p hp => by
        obtain ⟨r', e1, e2⟩ := (insOf_get hins j).1 p hp
        cases p with
        | give h => exact ⟨h, rfl⟩
        | lend h =>
          exfalso
          simp only [inOne] at e2
          split at e2
          case h_2 => cases e2
          have hl := own_ren e2
          rw [Res.own_lent] at hl
          simp [lentAt, e1, hl] at h2
        | sub i =>
          exfalso
          simp only [inOne, cond_eq_ite] at e2
          repeat' split at e2
          all_goals first | cases e2; done | (obtain rfl := Option.some.inj e2; simp [lentAt, e1, Res.own] at h2)
        | nilr i E ks =>
          exfalso
          simp only [inOne] at e2
          repeat' split at e2
          all_goals first | cases e2; done | (obtain rfl := Option.some.inj e2; simp [lentAt, e1, Res.own] at h2))
      rw [h4] at this
      cases this
    · cases hpk : ps[k]? with
      | none => rw [(insOf_get hins k).2 hpk] at h5; cases h5
      | some p =>
        obtain ⟨r', e1, e2⟩ := (insOf_get hins k).1 p hpk
        rw [h5] at e1
        obtain rfl := Option.some.inj e1
        rcases lendsB_get hal k p hpk with ⟨h0, x, rfl, hx, hxo⟩ | ⟨h0, rfl⟩
        · simp only [inOne, hx] at e2
          have hgv : calleeG g ps vs k = g h0 := by simp [calleeG, hpk]
          have hat : x.at (g h0) b := by
            have := (ok_ren (g' := calleeG g ps vs) callee_ren e2 (Res.ok_lent (hm.ok h0 x hx))).2.1
            rw [hgv, this, Res.at_lent] at h7
            exact h7
          refine ⟨Res.ok_lt (hm.ok h0 x hx) hat, fun k' x' hk' hxo' hb => ?_⟩
          have hne : k' ≠ h0 := fun e => by rw [e, hx] at hk'; obtain rfl := Option.some.inj hk'; rw [hxo] at hxo'; cases hxo'
          exact hm.sep k' h0 x' x b hne hk' hx hxo' hb hat
        · simp only [inOne, cond_eq_ite] at e2
          split at e2
          case h_2 => cases e2
          rename_i x hx
          split at e2
          case isFalse => cases e2
          rename_i hown
          have := own_ren e2
          rw [this, hown] at h6
          cases h6
/-- What an operation's run comes to, told as a call's end. -/
def OpRuns (P : Program) (a : Act) (o : Oper) (w : World) (Q : Ending → World → Prop) : Prop :=
  match (execOp a.eval o).run P w with
  | .ok (.value v) w' => Q (.returned v) w'
  | .ok .skip w' => Q (.returned undef) w'
  | .ok (.enter f args) w' => Calls P f args w' Q
  | _ => False
/-- The same; an operation that is no call leaves the very world. -/
def OpRunsQ (P : Program) (a : Act) (o : Oper) (w : World) (Q : Ending → World → Prop) : Prop :=
  match (execOp a.eval o).run P w with
  | .ok (.value v) w' => w' = w ∧ Q (.returned v) w'
  | .ok .skip w' => w' = w ∧ Q (.returned undef) w'
  | .ok (.enter f args) w' => w' = w ∧ Calls P f args w' Q
  | _ => False
theorem OpRunsQ.runs {P : Program} {a : Act} {o : Oper} {w : World} {Q : Ending → World → Prop} (h : OpRunsQ P a o w Q) : OpRuns P a o w Q := by
  unfold OpRunsQ at h
  unfold OpRuns
  split at h
  · exact h.2
  · exact h.2
  · exact h.2
  · exact h.elim
def PostO (g : Gam) (w : World) (ins outs : List Res) (res : AV) (e : Ending) (w' : World) : Prop := ∃ (g' : Gam) (v : Value), e = .returned v ∧ arep g' res v ∧ PostA g ins outs g' w w'
/-- A contract of an operation: its operands have these values; over these resources it gives this, and leaves those. -/
def OSpec (P : Program) (op : Op) (xs : List Operand) (ins : List Res) (args : List AV) (outs : List Res) (res : AV) : Prop :=
  ∀ (g : Gam) (w : World) (a : Act) (o : Oper), o.op = op → Mem g ins w → areps g args (xs.map a.eval) → OpRuns P a o w (PostO g w ins outs res)
def QSpec (P : Program) (op : Op) (xs : List Operand) (ins : List Res) (args : List AV) (outs : List Res) (res : AV) : Prop :=
  ∀ (g : Gam) (w : World) (a : Act) (o : Oper), o.op = op → Mem g ins w → areps g args (xs.map a.eval) → OpRunsQ P a o w (PostO g w ins outs res)
theorem QSpec.o {P : Program} {op : Op} {xs : List Operand} {ins : List Res} {args : List AV} {outs : List Res} {res : AV} (h : QSpec P op xs ins args outs res) : OSpec P op xs ins args outs res := fun g w a o e hm ha => (h g w a o e hm ha).runs
def evalHand (P : Program) (op : Op) (xs : List Operand) (st : St) (os : List AV) (ci : CallI) : Option (AV × St × List Prop) :=
  match insOf st.hp os ci.ins ci.ins, argsI ci.ins 0 os with
  | some ins, some args =>
    bif once ci.ins ci.ins && aliasB st.hp ci.ins ci.outs then
      match setG ci.ins st.hp.length ci.outs ci.ins 0 (st.hp.map (deadR (stays st.hp ci.ins))), renR (bk ci.ins st.hp.length) (ci.outs.drop ci.ins.length), ci.res.ren (bk ci.ins st.hp.length) with
      | some hp', some new, some res => some (res, ⟨dropH (stays st.hp ci.ins) st.tm, hp' ++ new, killO (stays st.hp ci.ins) 0 st.og⟩, [OSpec P op xs ins args ci.outs ci.res])
      | _, _, _ => none
    else none
  | _, _ => none
theorem evalHand_ok {C : Ctx} {st : St} {g : Gam} {a : Act} {w : World} (hs : SatG C st g a w) {o : Oper} {xs : List Operand} {os : List AV} {ci : CallI} {res : AV} {st' : St} {obs : List Prop} (h : evalHand C.P o.op xs st os ci = some (res, st', obs)) (ho : ∀ q ∈ obs, q) (hv : areps g os (xs.map a.eval)) :
    OpRuns C.P a o w fun e w' => ∃ g' v, e = .returned v ∧ SatG C st' g' a w' ∧ arep g' res v := by
  unfold evalHand at h
  split at h
  case h_2 => cases h
  rename_i ins args hins hargs
  simp only [cond_eq_ite] at h
  split at h
  case isFalse => cases h
  rename_i hb
  simp only [Bool.and_eq_true] at hb
  split at h
  case h_2 => cases h
  rename_i hp' new res' hset hnew hres
  simp only [Option.some.injEq, Prod.mk.injEq] at h
  obtain ⟨rfl, rfl, rfl⟩ := h
  have hspec := ho _ (List.mem_singleton.2 rfl)
  have hmem := ins_mem hs.mem hins hb.1 hv
  have hargs' := args_ok hins hv hargs hv (fun k => by rw [Nat.zero_add]) (fun k => by rw [Nat.zero_add])
  have hr := hspec _ w a o rfl hmem hargs'
  have key : ∀ e w', PostO (calleeG g ci.ins (xs.map a.eval)) w ins ci.outs ci.res e w' → ∃ g' v, e = .returned v ∧ SatG C ⟨dropH (stays st.hp ci.ins) st.tm, hp' ++ new, killO (stays st.hp ci.ins) 0 st.og⟩ g' a w' ∧ arep g' res' v := by
    rintro e w' ⟨g', v, rfl, hrv, hpost⟩
    obtain ⟨h1, h2⟩ := after_ok hs hins hb.1 hset hnew (PostA.toN hs.mem hins hb.2 hpost)
    exact ⟨_, v, rfl, h1, arep_ren h2 hres hrv⟩
  unfold OpRuns at hr ⊢
  split at hr
  · exact key _ _ hr
  · exact key _ _ hr
  · exact hr.mono fun e w' h => key e w' h
  · exact hr.elim
end Go.Proofs.Ytgicfkgiecgjoaa.RS
