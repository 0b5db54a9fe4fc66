/- RS, part Y: slices that are nil: a comparison with nil; a nil slice as an empty row. -/
import Derived.Test.YtgicfkgiecgjoaaRsX
set_option linter.unusedVariables false
set_option linter.unusedSimpArgs false
namespace Go.Proofs.Ytgicfkgiecgjoaa.RS
open Go Go.RowKit
section
variable {C : Ctx} {st st' : St} {g : Gam} {a : Act} {w : World} {obs : List Prop} {Q : Exit → Act → World → Prop}
theorem runX_on (ht : C.tt.ok C.P) {ops : Array Oper} {rest : List Oper} (l : List Oper) : ∀ (ans : List An) (st : St) (obs : List Prop), runX C.P C.tt C.nt ops st ans l = some (st', obs) → (∀ q ∈ obs, q) → ∀ (a : Act) (w : World), Sat C st a w → (∀ a w, Sat C st' a w → wpList C.P ops Q rest a w) → wpList C.P ops Q (l ++ rest) a w := by
  induction l with
  | nil =>
    intro ans st obs h ho a w hs hk
    simp only [runX, Option.some.injEq, Prod.mk.injEq] at h
    obtain ⟨rfl, _⟩ := h
    exact hk a w hs
  | cons o l ih =>
    intro ans st obs h ho a w hs hk
    obtain ⟨g, hs⟩ := hs
    simp only [runX] at h
    split at h
    case h_2 => cases h
    rename_i st1 ob h1
    split at h
    case h_2 => cases h
    rename_i st2 obs2 h2
    simp only [Option.some.injEq, Prod.mk.injEq] at h
    obtain ⟨rfl, rfl⟩ := h
    exact stepX_ok ht hs h1 (fun q hq => ho q (List.mem_append_left _ hq)) fun a w hs' => ih _ _ _ h2 (fun q hq => ho q (List.mem_append_right _ hq)) a w hs' hk
end
/-- Is it a comparison of a row with nil? Then: is it '!='; how long the row is. -/
def nilOp (tt : TT) (st : St) (op : Op) : Option (Bool × Nat) :=
  match op with
  | .binOp o t x y _ => match y with
    | .const (.slice none 0 0) => match tt.get t with
      | some i => match i.d with
        | .sl _ => match lkE st.tm [] x with
          | some (.sv (.lf (.row h))) => match st.hp[h]? with
            | some (.row _ _ _ xs) => match o with
              | .eql => some (false, xs.length)
              | .neq => some (true, xs.length)
              | _ => none
            | _ => none
          | _ => none
        | _ => none
      | none => none
    | _ => none
  | _ => none
def notB (neg b : Bool) : Bool := match neg with | true => !b | false => b
def regionN (P : Program) (tt : TT) (nt : Nat) (st : St) (ops : Array Oper) (ans : List An) (slots hs : List Nat) (b : Bool) : Option (St × List Prop × Nat) :=
  match ops.toList.reverse with
  | o :: pre => match runX P tt nt ops st ans pre.reverse with
    | some (st1, obs) => match o.guard with
      | none => match o.dst with
        | some d => match nilOp tt st1 o.op with
          | some (neg, n) => bif Nat.blt d nt then match (⟨putE st1.tm d none (aB (notB neg b)), st1.hp, st1.og⟩ : St).keep slots hs with
            | some st2 => some (st2, obs, n)
            | none => none
            else none
          | none => none
        | none => none
      | some _ => none
    | none => none
  | [] => none
section
variable {C : Ctx} {st st' : St} {g : Gam} {a : Act} {w : World} {Q : Exit → Act → World → Prop}
theorem equalIn_nil {P : Program} (d : Nat) {t e : Nat} {A : Option Addr} {n c : Nat} (hu : P.underlying t = some (.slice e)) : (Op.equalIn (d + 1) t (.slice A n c) (.slice none 0 0)).run P w = .ok A.isNone w := by
  cases A <;> simp [Op.equalIn, hu]
theorem nilOp_ok (ht : C.tt.ok C.P) (hs : SatG C st g a w) {o : Oper} {neg : Bool} {n : Nat} (h : nilOp C.tt st o.op = some (neg, n)) :
    ∃ b : Bool, (b = true → n = 0) ∧ (execOp a.eval o).run C.P w = .ok (.value (.bool (notB neg b))) w := by
  unfold nilOp at h
  split at h
  case h_2 => cases h
  rename_i bo t x y yt hop
  split at h
  case h_2 => cases h
  split at h
  case h_2 => cases h
  rename_i i hi
  split at h
  case h_2 => cases h
  rename_i e hd
  split at h
  case h_2 => cases h
  rename_i hh hx
  split at h
  case h_2 => cases h
  rename_i own E ks xs hr
  obtain ⟨d, hu, hsd⟩ := (ht t i hi).und
  rw [hd] at hsd
  obtain rfl := shape_sl hsd
  have hrx := lkE_ok hs.slots (cx_nil a) x _ hx
  obtain ⟨hv, A, n0, c0, hg⟩ := hrx
  have hok := hs.mem.ok hh _ hr
  obtain ⟨⟨A', c, hg', h1, h2, h3, h4⟩, _⟩ := hok
  have hval : a.eval x = .slice A' xs.length c := by rw [hv, hg']
  have heq : (Op.equal t (.slice A' xs.length c) (.slice none 0 0)).run C.P w = .ok A'.isNone w := by
    rw [show Op.equal t (.slice A' xs.length c) (.slice none 0 0) = Op.equalIn (9999 + 1) t (.slice A' xs.length c) (.slice none 0 0) from rfl]
    exact equalIn_nil 9999 hu
  have hlen : A'.isNone = true → xs.length = 0 := by
    intro he
    cases A' with
    | some ad => cases he
    | none =>
      by_cases hc : c = 0
      · omega
      · obtain ⟨ad, e1, _⟩ := h4 hc; cases e1
  refine ⟨A'.isNone, ?_⟩
  split at h
  · simp only [Option.some.injEq, Prod.mk.injEq] at h
    obtain ⟨rfl, rfl⟩ := h
    refine ⟨hlen, ?_⟩
    simp [execOp, hop, hval, show a.eval (.const (.slice none 0 0)) = .slice none 0 0 from rfl, eqGuard, binOp, heq, notB]
  · simp only [Option.some.injEq, Prod.mk.injEq] at h
    obtain ⟨rfl, rfl⟩ := h
    refine ⟨hlen, ?_⟩
    simp [execOp, hop, hval, show a.eval (.const (.slice none 0 0)) = .slice none 0 0 from rfl, eqGuard, binOp, heq, notB]
  · cases h
/-- A region whose last operation asks whether a slice is nil. -/
theorem W.nilcmp {id : Nat} {ops : Array Oper} {y : Code} (ht : C.tt.ok C.P) (ans : List An) (slots hs : List Nat) (J : Bool → St) (obs : List Prop) (n : Nat) (h : ∀ b, Go.Proofs.Ytgicfkgiecgjoaa.RS.regionN C.P C.tt C.nt st ops ans slots hs b = some (J b, obs, n)) (ho : AllP obs)
    (hk : ∀ b, (b = true → n = 0) → W C y Q (J b)) : W C (.seq (.region id ops false) y) Q st := by
  refine W.seq ?_
  intro a w hsat
  have h0 := h true
  unfold Go.Proofs.Ytgicfkgiecgjoaa.RS.regionN at h0
  split at h0
  case h_2 => cases h0
  rename_i o pre hrev
  split at h0
  case h_2 => cases h0
  rename_i st1 obs1 h1
  split at h0
  case h_2 => cases h0
  rename_i hgd
  split at h0
  case h_2 => cases h0
  rename_i d hdst
  split at h0
  case h_2 => cases h0
  rename_i neg n' hnil
  have hl : ops.toList = pre.reverse ++ [o] := by rw [← List.reverse_reverse ops.toList, hrev]; simp
  have hob : obs1 = obs ∧ n' = n ∧ d < C.nt := by
    simp only [cond_eq_ite] at h0
    split at h0
    case isFalse => cases h0
    rename_i hd
    split at h0
    case h_2 => cases h0
    simp only [Option.some.injEq, Prod.mk.injEq] at h0
    exact ⟨h0.2.1, h0.2.2, blt_lt hd⟩
  obtain ⟨rfl, rfl, hd⟩ := hob
  refine wp_region_list ?_
  rw [hl]
  refine runX_on ht _ _ _ _ h1 (AllP.get ho) a w hsat ?_
  intro a w ⟨g, hs1⟩
  obtain ⟨b, hb, hrun⟩ := nilOp_ok ht hs1 hnil
  have hw : Region.wanted o (yielded ops a.tmps) = true := by simp [Region.wanted, hgd]
  simp only [wpList, hw, if_true]
  refine .inl ?_
  unfold Oper.wp
  rw [hrun]
  rw [Oper.upon_value, hdst]
  have hb' := h b
  unfold Go.Proofs.Ytgicfkgiecgjoaa.RS.regionN at hb'
  simp only [hrev, h1, hgd, hdst, hnil, cond_eq_ite] at hb'
  have hdb : Nat.blt d C.nt = true := by simpa [Nat.blt_eq] using hd
  simp only [hdb, if_true] at hb'
  split at hb'
  case h_2 => cases hb'
  rename_i st2 hk2
  simp only [Option.some.injEq, Prod.mk.injEq] at hb'
  obtain ⟨hJ, _, _⟩ := hb'
  have hsat2 : SatG C ⟨putE st1.tm d none (aB (notB neg b)), st1.hp, st1.og⟩ g (a.put (some d) (.bool (notB neg b))) w :=
    hs1.slots' (put_defers _ _ _) (put_size _ _ _) (slots_put hs1.slots (by rw [hs1.size]; exact hd) (fun gw e => by cases e) rfl)
  exact hk b hb _ _ (hJ ▸ ⟨_, hsat2.keep hk2⟩)
end
/-! ### A nil slice as an empty row -/
def nilRow (st : St) (s : Nat) (E : TypeId) (ks : List CK) : Option St :=
  bif st.wf then match look st.tm s with
    | some (none, .sv (.lf (.val (.slice none 0 0)))) => some ⟨putE st.tm s none (.sv (.lf (.row st.hp.length))), st.hp ++ [.row true E ks []], st.og⟩
    | _ => none
  else none
section
variable {C : Ctx} {st st' : St} {g : Gam} {a : Act} {w : World} {Q : Exit → Act → World → Prop}
theorem new_nil (g : Gam) (w : World) (nh : Nat) (E : TypeId) (ks : List CK) : NewOK g w w nh (.row true E ks []) (.sv (.lf (.row nh))) (.slice none 0 0) (.slice none 0 0) := by
  refine ⟨Below.refl _ _, ⟨(upd_self _ _ _).symm, none, 0, 0, upd_self _ _ _⟩, ⟨⟨none, 0, rfl, by simp, by simp [maxLen], by simp, fun h => absurd rfl h⟩, fun _ A c e hc => ?_⟩, fun b hb => by simp [Res.at] at hb⟩
  injection e with e1 e2 e3
  exact absurd e3.symm hc
theorem SatG.nilrow (hs : SatG C st g a w) {s : Nat} {E : TypeId} {ks : List CK} (h : nilRow st s E ks = some st') : ∃ g', SatG C st' g' a w := by
  unfold nilRow at h
  simp only [cond_eq_ite] at h
  split at h
  case isFalse => cases h
  rename_i hwf
  split at h
  case h_2 => cases h
  rename_i hl
  obtain rfl := Option.some.inj h
  obtain ⟨h1, h2⟩ := hs.new hwf (new_nil g w st.hp.length E ks)
  refine ⟨_, h1.slots' rfl rfl fun e he => ?_⟩
  rcases List.mem_cons.1 he with rfl | he
  · obtain ⟨v, hv, hr⟩ := hs.slots _ (look_mem hl)
    obtain rfl : v = .slice none 0 0 := hr
    exact ⟨_, hv, h2⟩
  · exact h1.slots e (delE_mem he).1
theorem W.nilrow {c : Code} (s : Nat) (E : TypeId) (ks : List CK) (st' : St) (h : nilRow st s E ks = some st') (hw : W C c Q st') : W C c Q st := fun a w ⟨g, hs⟩ => hw a w (hs.nilrow h)
/-- Where a handle came from may be forgotten. -/
def ogLe : List (Option Nat) → List (Option Nat) → Bool
  | [], _ => true
  | none :: r, _ :: s => ogLe r s
  | some j :: r, some k :: s => Nat.beq j k && ogLe r s
  | none :: r, [] => ogLe r []
  | some _ :: _, _ => false
theorem ogLe_get : ∀ {r s : List (Option Nat)} {h j : Nat}, ogLe r s = true → r[h]? = some (some j) → s[h]? = some (some j)
  | [], _, h, j, _, e => by simp at e
  | none :: r, x :: s, 0, j, _, e => by simp at e
  | none :: r, x :: s, h + 1, j, k, e => by simp at e ⊢; exact ogLe_get (by simpa [ogLe] using k) e
  | some a :: r, some b :: s, 0, j, k, e => by
    simp only [ogLe, Bool.and_eq_true] at k
    obtain rfl := Nat.eq_of_beq_eq_true k.1
    simpa using e
  | some a :: r, some b :: s, h + 1, j, k, e => by
    simp only [ogLe, Bool.and_eq_true] at k
    simp at e ⊢; exact ogLe_get k.2 e
  | none :: r, [], 0, j, _, e => by simp at e
  | none :: r, [], h + 1, j, k, e => by simp at e; have := ogLe_get (s := []) (by simpa [ogLe] using k) e; simp at this
  | some a :: r, none :: s, _, _, k, _ => by simp [ogLe] at k
  | some a :: r, [], _, _, k, _ => by simp [ogLe] at k
theorem W.og {c : Code} (og' : List (Option Nat)) (h : ogLe og' st.og = true) (hw : W C c Q ⟨st.tm, st.hp, og'⟩) : W C c Q st := fun a w ⟨g, hs⟩ =>
  hw a w ⟨g, hs.defers, hs.size, hs.slots, hs.mem, hs.frm, hs.own, fun h' j e => hs.og h' j (ogLe_get h e)⟩
end
end Go.Proofs.Ytgicfkgiecgjoaa.RS
