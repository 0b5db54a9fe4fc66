/- RS, part M: a call in a state is right. -/
import Derived.Test.YtgicfkgiecgjoaaRsL
set_option linter.unusedVariables false
set_option linter.unusedSimpArgs false
namespace Go.Proofs.Ytgicfkgiecgjoaa.RS
open Go Go.RowKit
/-- The callee's handles. -/
def calleeG (g : Gam) (ps : List Pass) (vs : List Value) : Gam := fun j =>
  match ps[j]? with
  | some (.lend h) => g h
  | some (.give h) => g h
  | some (.sub i) => vs.getD i undef
  | some (.nilr i _ _) => vs.getD i undef
  | none => undef
theorem isH_of {p : Pass} {h : Nat} (hp : p.isH h = true) : p = .lend h ∨ p = .give h := by
  cases p <;> simp only [Pass.isH] at hp <;> first | cases hp; done | skip
  · left; rw [Nat.eq_of_beq_eq_true hp]
  · right; rw [Nat.eq_of_beq_eq_true hp]
theorem isG_of {p : Pass} {h : Nat} (hp : p.isG h = true) : p = .give h := by
  cases p <;> simp only [Pass.isG] at hp <;> first | cases hp; done | skip
  rw [Nat.eq_of_beq_eq_true hp]
theorem pfind_some {p : Pass → Bool} : ∀ {ps : List Pass} {j : Nat} {x : Pass}, ps[j]? = some x → p x = true → (pfind p ps).isSome = true
  | y :: ps, 0, x, hx, hp => by simp at hx; subst hx; simp [pfind, hp]
  | y :: ps, j + 1, x, hx, hp => by
    simp only [pfind, cond_eq_ite]
    split
    · rfl
    · have := pfind_some (by simpa using hx) hp
      obtain ⟨k, hk⟩ := Option.isSome_iff_exists.1 this
      rw [hk]; rfl
  | [], _, _, hx, _ => by simp at hx
theorem callee_ren {g : Gam} {ps : List Pass} {vs : List Value} : ∀ h k, pfind (Pass.isH h) ps = some k → calleeG g ps vs k = g h := by
  intro h k hk
  obtain ⟨x, hx, hp⟩ := pfind_at hk
  rcases isH_of hp with rfl | rfl <;> simp [calleeG, hx]
theorem at_row_cap {own : Bool} {E : TypeId} {ks : List CK} {xs : List (List Value)} {A : Option Addr} {n c b : Nat} (h : (Res.row own E ks xs).at (.slice A n c) b) : ¬ c = 0 := by
  intro e
  subst e
  cases A <;> simp [Res.at] at h
section
variable {g : Gam} {hp : List Res} {w : World} {os : List AV} {ps : List Pass} {vs : List Value} {ins : List Res}
theorem ins_mem (hm : Mem g hp w) (hi : insOf hp os ps ps = some ins) (ho : once ps ps = true) (hv : areps g os vs) : Mem (calleeG g ps vs) ins w := by
  have hget : ∀ {j : Nat} {r : Res}, ins[j]? = some r → ∃ p, ps[j]? = some p ∧ inOne hp os ps p = some r := by
    intro j r hr
    cases e : ps[j]? with
    | none => rw [(insOf_get hi j).2 e] at hr; cases hr
    | some p =>
      obtain ⟨r', h1, h2⟩ := (insOf_get hi j).1 p e
      rw [hr] at h1
      obtain rfl := Option.some.inj h1
      exact ⟨p, rfl, h2⟩
  -- what stands at a handle's place: the resource, and where it lies
  have hone : ∀ {j : Nat} {r : Res} {p : Pass}, ps[j]? = some p → inOne hp os ps p = some r → r.ok (calleeG g ps vs) w (calleeG g ps vs j) ∧
      (∀ b, r.at (calleeG g ps vs j) b → ∃ h x, hp[h]? = some x ∧ x.at (g h) b ∧ ((∃ h', p = .give h' ∧ h = h' ∧ x.own = true) ∨ (r.own = false ∧ ((p = .lend h) ∨ (pfind (Pass.isG h) ps).isNone = true)))) ∧
      (r.own = true → ∃ h, p = .give h) := by
    intro j r p hj h1
    cases p with
    | lend h =>
      simp only [inOne] at h1
      split at h1
      case h_2 => cases h1
      rename_i x hx
      have hok := Res.ok_lent (hm.ok h x hx)
      obtain ⟨k1, k2, k3⟩ := ok_ren (g' := calleeG g ps vs) callee_ren h1 hok
      have hg : calleeG g ps vs j = g h := by simp [calleeG, hj]
      rw [hg]
      refine ⟨k1, fun b hb => ⟨h, x, hx, by rw [k2, Res.at_lent] at hb; exact hb, .inr ⟨by rw [k3]; exact Res.own_lent x, .inl rfl⟩⟩, fun h2 => by rw [k3, Res.own_lent] at h2; cases h2⟩
    | give h =>
      simp only [inOne, cond_eq_ite] at h1
      split at h1
      case h_2 => cases h1
      rename_i x hx
      split at h1
      case isFalse => cases h1
      rename_i hown
      obtain ⟨k1, k2, k3⟩ := ok_ren (g' := calleeG g ps vs) callee_ren h1 (hm.ok h x hx)
      have hg : calleeG g ps vs j = g h := by simp [calleeG, hj]
      rw [hg]
      exact ⟨k1, fun b hb => ⟨h, x, hx, by rw [k2] at hb; exact hb, .inl ⟨h, rfl, rfl, hown⟩⟩, fun _ => ⟨h, rfl⟩⟩
    | sub i =>
      simp only [inOne, cond_eq_ite] at h1
      split at h1
      case h_2 => cases h1
      rename_i h sz lo hi' hos
      split at h1
      case h_2 => cases h1
      rename_i own E ks xs hx
      split at h1
      case isFalse => cases h1
      rename_i hb
      simp only [Bool.and_eq_true] at hb
      obtain rfl := Nat.eq_of_beq_eq_true hb.1
      obtain rfl := Option.some.inj h1
      obtain ⟨v, hv1, hv2⟩ := areps_get hv hos
      have hg : calleeG g ps vs j = v := by simp [calleeG, hj, hv1]
      rw [hg]
      obtain ⟨A', n', c', hv', h0, h1', h2, h3, rfl⟩ := (hv2 : rep g (.view h ks.length lo hi') v)
      obtain ⟨⟨A, c, hv3, hlc, hmx, hfit, hrd⟩, _⟩ := hm.ok h _ hx
      obtain ⟨rfl, rfl, rfl⟩ : A' = A ∧ n' = xs.length ∧ c' = c := by rw [hv3] at hv'; injection hv' with a b c; exact ⟨a.symm, b.symm, c.symm⟩
      have hlen : ((xs.take hi'.toNat).drop lo.toNat).length = hi'.toNat - lo.toNat := by simp; omega
      have hA : c' ≠ 0 → ∃ ad, A' = some ad ∧ ad.block < w.heap.size := fun hc => by obtain ⟨ad, e, h4, _⟩ := hrd hc; exact ⟨ad, e, h4⟩
      have hcell : ∀ i o, i < hi'.toNat - lo.toNat → o < ks.length → ∀ ad, A' = some ad → w.cell? ((ad.add (lo.toNat * ks.length)).add (i * ks.length + o)) = some (cellAt ((xs.take hi'.toNat).drop lo.toNat) i o) := by
        intro i o hi1 ho1 ad had
        have hc0 : c' ≠ 0 := by clear hA hrd; omega
        have hb1 : lo.toNat + i < xs.length := by clear hA hrd; omega
        have hb2 : lo.toNat + i < hi'.toNat := by clear hA hrd; omega
        obtain ⟨ad', e, _, hc⟩ := hrd hc0
        rw [had] at e
        injection e with e
        subst e
        rw [add_add, ← Nat.add_assoc, ← Nat.add_mul, hc (lo.toNat + i) o hb1 ho1]
        congr 1
        simp only [cellAt, List.getD_eq_getElem?_getD]
        rw [List.getElem?_drop, List.getElem?_take, if_pos hb2]
      refine ⟨⟨⟨_, c' - lo.toNat, by rw [hlen], by rw [hlen]; clear hA hrd hcell; omega, Nat.le_trans (Nat.sub_le _ _) hmx, fun x hx => hfit x (List.mem_of_mem_take (List.mem_of_mem_drop hx)), fun hc => ?_⟩, fun e => by cases e⟩, fun b hb' => ⟨h, _, hx, ?_, .inr ⟨rfl, .inr hb.2⟩⟩, fun e => by cases e⟩
      · have hne : ¬ (c' : Int) = lo := by clear hA hrd hcell; omega
        obtain ⟨ad, rfl, had⟩ := hA (by clear hA hrd hcell; omega)
        refine ⟨ad.add (lo.toNat * ks.length), by rw [if_neg hne]; rfl, by rw [add_block]; exact had, fun i o hi1 ho1 => ?_⟩
        rw [hlen] at hi1
        exact hcell i o hi1 ho1 ad rfl
      · have hc : ¬ (c' - lo.toNat = 0) := at_row_cap hb'
        have hne : ¬ (c' : Int) = lo := by clear hA hrd hcell; omega
        obtain ⟨ad, rfl, had⟩ := hA (by clear hA hrd hcell; omega)
        rw [if_neg hne] at hb'
        have hc' : ¬ c' = 0 := by clear hA hrd hcell; omega
        rw [hv3]
        exact ⟨hc', by have := hb'.2; rwa [add_block] at this⟩
    | nilr i E ks =>
      simp only [inOne] at h1
      split at h1
      case h_2 => cases h1
      rename_i hos
      obtain rfl := Option.some.inj h1
      obtain ⟨v, hv1, hv2⟩ := areps_get hv hos
      have hg : calleeG g ps vs j = v := by simp [calleeG, hj, hv1]
      rw [hg]
      obtain rfl := (hv2 : v = _)
      exact ⟨⟨⟨none, 0, rfl, Nat.le_refl _, Nat.zero_le _, by simp, fun h => absurd rfl h⟩, fun e => by cases e⟩, fun b hb => by simp [Res.at] at hb, fun e => by cases e⟩
  refine ⟨fun j r hr => ?_, fun j j' r r' b hne hr hr' hown hb hb' => ?_⟩
  · obtain ⟨p, h1, h2⟩ := hget hr
    exact (hone h1 h2).1
  · obtain ⟨p, h1, h2⟩ := hget hr
    obtain ⟨p', h1', h2'⟩ := hget hr'
    obtain ⟨_, k1, k2⟩ := hone h1 h2
    obtain ⟨_, k1', _⟩ := hone h1' h2'
    obtain ⟨h0, rfl⟩ := k2 hown
    obtain ⟨h, x, hx, hxb, hcase⟩ := k1 b hb
    obtain ⟨h', x', hx', hxb', hcase'⟩ := k1' b hb'
    rcases hcase with ⟨h'', e1, e2, hxo⟩ | ⟨e, _⟩
    · injection e1 with e1
      subst e1 e2
      have hneq : h ≠ h' := by
        intro e
        subst e
        rcases hcase' with ⟨h3, e1, e2, _⟩ | ⟨_, e1 | e1⟩
        · subst e1 e2
          exact hne (once_uniq ho h1 h1' (by simp [Pass.isH]))
        · subst e1
          exact hne (once_uniq ho h1 h1' (by simp [Pass.isH]))
        · have := pfind_some (p := Pass.isG h) h1 (by simp [Pass.isG])
          rw [Option.isNone_iff_eq_none] at e1
          rw [e1] at this
          cases this
      exact hm.sep h h' x x' b hneq hx hx' hxo hxb hxb'
    · rw [hown] at e; cases e
theorem args_ok (hi : insOf hp os ps ps = some ins) (hv : areps g os vs) : ∀ {os' : List AV} {vs' : List Value} {i : Nat} {args : List AV}, argsI ps i os' = some args → areps g os' vs' → (∀ k, os'[k]? = os[i + k]?) → (∀ k, vs'[k]? = vs[i + k]?) → areps (calleeG g ps vs) args vs'
  | [], vs', i, args, h, r, _, _ => by obtain rfl := Option.some.inj h; cases vs' <;> first | trivial | exact r.elim
  | x :: os', [], i, args, h, r, _, _ => r.elim
  | x :: os', v :: vs', i, args, h, r, ho, hvs => by
    simp only [argsI] at h
    split at h
    case h_2 => cases h
    rename_i y ys h1 h2
    obtain rfl := Option.some.inj h
    refine ⟨?_, args_ok hi hv h2 r.2 (fun k => by have := ho (k + 1); simpa [Nat.add_assoc, Nat.add_comm 1 k] using this) (fun k => by have := hvs (k + 1); simpa [Nat.add_assoc, Nat.add_comm 1 k] using this)⟩
    unfold argI at h1
    split at h1
    · rename_i j hj
      obtain rfl := Option.some.inj h1
      obtain ⟨p, hp1, hp2⟩ := pfind_at hj
      obtain ⟨r0, _, hin⟩ := (insOf_get hi j).1 p hp1
      have hv0 : vs[i]? = some v := by have := hvs 0; simpa using this.symm
      have ho0 : os[i]? = some x := by have := ho 0; simpa using this.symm
      cases p with
      | sub k =>
        obtain rfl : k = i := Nat.eq_of_beq_eq_true hp2
        simp only [inOne, ho0] at hin
        split at hin
        case h_2 => cases hin
        rename_i e
        injection e with e
        subst e
        have hg : calleeG g ps vs j = v := by simp [calleeG, hp1, hv0]
        obtain ⟨A', n', c', hv', h0, h1', h2', h3, rfl⟩ := (r.1 : rep g (.view _ _ _ _) v)
        exact ⟨hg.symm, _, _, _, hg⟩
      | nilr k E ks =>
        obtain rfl : k = i := Nat.eq_of_beq_eq_true hp2
        simp only [inOne, ho0] at hin
        split at hin
        case h_2 => cases hin
        rename_i e
        injection e with e
        subst e
        have hg : calleeG g ps vs j = v := by simp [calleeG, hp1, hv0]
        obtain rfl := (r.1 : v = _)
        exact ⟨hg.symm, _, _, _, hg⟩
      | lend h => simp [Pass.isS] at hp2
      | give h => simp [Pass.isS] at hp2
    · exact arep_ren callee_ren h1 r.1
end
end Go.Proofs.Ytgicfkgiecgjoaa.RS
