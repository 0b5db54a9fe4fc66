/- RS, part E: the evaluator of values is right. -/
import Derived.Test.YtgicfkgiecgjoaaRsD
set_option linter.unusedVariables false
set_option linter.unusedSimpArgs false
namespace Go.Proofs.Ytgicfkgiecgjoaa.RS
open Go
section
variable {P : Program} {tt : TT} {w : World} {g : Gam} {av : AV} {obs : List Prop}
theorem bytes_read {xs : List (List Value)} {ad : Addr} (hfit : ∀ x ∈ xs, fitsAll [.int .u8] x) (hc : ∀ i, i < xs.length → w.cell? (ad.add i) = some (cellAt xs i 0)) (s : Nat) :
    (Conv.bytesToString (.slice (some ad) xs.length s)).run P w = .ok (.string (bstr xs)) w := by
  have h1 := run_bytesToString (P := P) w ad xs.length s (xs.map fun c => vI (c.getD 0 undef)) (by
    have := run_loadCells_list (P := P) w ad ((xs.map fun c => vI (c.getD 0 undef)).map (Value.int .u8)) (fun j v hj => by
      rw [List.map_map, List.getElem?_map] at hj
      cases e : xs[j]? with
      | none => simp [e] at hj
      | some x =>
        simp [e] at hj
        have hlt := (List.getElem?_eq_some_iff.1 e).1
        have hx : x ∈ xs := List.mem_of_getElem? e
        rw [hc j hlt]
        have hf := hfit x hx
        have e2 : xs.getD j [] = x := by simp [List.getD, e]
        rw [cellAt, e2]
        have hf0 := fitsAll_at 0 (.int .u8) hf rfl
        obtain ⟨n, hn⟩ := hf0
        have hn' : (x[0]?).getD undef = .int .u8 n := by simpa [List.getD] using hn
        rw [← hj, hn, hn', vI])
    simpa using this)
  rw [h1]
  congr 2
  rw [foldl_push_bytes]
  simp [bstr, strOfNums]
theorem vConv_ok (ht : tt.ok P) {hp : List Res} (hm : Mem g hp w) {m s d : Nat} {x : Option AV} {u : Value} (h : vConv tt hp m s d x = some (av, obs)) (ho : ∀ q ∈ obs, q) (r : ∀ a, x = some a → arep g a u) :
    ∃ v, (convert s d u).run P w = .ok v w ∧ arep g av v := by
  unfold vConv at h
  split at h
  case h_2 => cases h
  rename_i si di hsi hdi
  obtain ⟨ds, hus, hss⟩ := (ht s si hsi).und
  obtain ⟨dd, hud, hsd⟩ := (ht d di hdi).und
  split at h
  · rename_i k hk
    rw [hk] at hsd
    obtain rfl := shape_int hsd
    split at h
    case h_2 => cases h
    rename_i k' n hn
    obtain ⟨_, e1, hn⟩ := bind_some hn
    obtain rfl := asI_rep hn (r _ e1)
    have hc : (convert s d (.int k' n)).run P w = .ok (.int k (k.wrap n)) w := by
      simp only [convert, Sem.run_bind, run_underlying hus, run_underlying hud, Result.andThen_ok]
      cases ds <;> rfl
    split at h <;> (simp only [Option.some.injEq, Prod.mk.injEq] at h; obtain ⟨rfl, rfl⟩ := h)
    · have := wrap_in (ho _ (List.mem_singleton.2 rfl))
      exact ⟨_, hc, by rw [this]; rfl⟩
    · exact ⟨_, hc, rfl⟩
  · rename_i hk
    rw [hk] at hsd
    obtain rfl := shape_str hsd
    split at h
    · split at h
      case h_2 => cases h
      rename_i b hb
      obtain ⟨_, e1, hb⟩ := bind_some hb
      obtain rfl := asS_rep hb (r _ e1)
      simp only [Option.some.injEq, Prod.mk.injEq] at h
      obtain ⟨rfl, rfl⟩ := h
      refine ⟨_, ?_, rfl⟩
      simp only [convert, Sem.run_bind, run_underlying hus, run_underlying hud, Result.andThen_ok]
      cases ds <;> rfl
    · rename_i e he
      rw [he] at hss
      obtain rfl := shape_sl hss
      split at h
      case h_2 => cases h
      rename_i ei hei
      obtain ⟨de, hue, hse⟩ := (ht e ei hei).und
      split at h
      case h_2 => cases h
      rename_i hu8
      rw [hu8] at hse
      obtain rfl := shape_int hse
      split at h
      case h_2 => cases h
      rename_i hh hx
      obtain ⟨_, e1, hx⟩ := bind_some hx
      obtain ⟨rfl, _⟩ := asL_rep hx (r _ e1)
      split at h
      case h_2 => cases h
      rename_i own E xs hr
      simp only [Option.some.injEq, Prod.mk.injEq] at h
      obtain ⟨rfl, rfl⟩ := h
      obtain ⟨⟨A, c, hv, hlc, hmx, hfit, hrd⟩, _⟩ := hm.ok hh _ hr
      refine ⟨_, ?_, rfl⟩
      rw [hv]
      simp only [convert, Sem.run_bind, run_underlying hus, run_underlying hud, run_underlying hue, Result.andThen_ok]
      cases A with
      | none =>
        have hc0 : c = 0 := by
          rcases Nat.eq_zero_or_pos c with h | h
          · exact h
          · obtain ⟨_, e, _⟩ := hrd (by omega); cases e
        have : xs = [] := List.eq_nil_of_length_eq_zero (by omega)
        subst this
        rfl
      | some ad =>
        refine bytes_read hfit (fun i hi => ?_) c
        obtain ⟨_, e, _, hc⟩ := hrd (by omega)
        injection e with e
        subst e
        have := hc i 0 hi (by simp)
        simpa using this
    · cases h
  · cases h
theorem run_sliceBound {y : Nat} {code : BoundsCode} {k : IntKind} {n : Int} (h0 : 0 ≤ n) (h1 : n ≤ (y : Int)) : (Instr.sliceBound (.int k n) y code).run P w = .ok n.toNat w := by
  simp [Instr.sliceBound, asIntOf, h0, h1]
theorem run_sliceBounds {isS : Bool} {len cap : Nat} {lo hi : Option Value} {a b : Int} (hlo : (lo = none ∧ a = 0) ∨ ∃ k, lo = some (.int k a)) (hhi : (hi = none ∧ b = (len : Int)) ∨ ∃ k, hi = some (.int k b)) (h0 : 0 ≤ a) (h1 : a ≤ b) (h2 : b ≤ (cap : Int)) :
    (Instr.sliceBounds isS len cap lo hi none).run P w = .ok (a.toNat, b.toNat, cap) w := by
  have hb : (b.toNat : Int) = b := by omega
  rcases hlo with ⟨rfl, rfl⟩ | ⟨k, rfl⟩ <;> rcases hhi with ⟨rfl, rfl⟩ | ⟨k', rfl⟩
  · simp [Instr.sliceBounds]
  · simp [Instr.sliceBounds, run_sliceBound (show 0 ≤ b by omega) h2]
  · simp [Instr.sliceBounds, run_sliceBound h0 h1]
  · simp [Instr.sliceBounds, run_sliceBound (show 0 ≤ b by omega) h2, run_sliceBound h0 (show a ≤ ((b.toNat : Nat) : Int) by omega)]
theorem bound_of {lo : Option (Option AV)} {lv : Option Value} {dflt a : Int} (r : ∀ (l : Option AV), lo = some l → ∃ v, lv = some v ∧ ∀ x, l = some x → arep g x v) (rn : lo = none → lv = none)
    (h : bndV dflt lo = some a) : (lv = none ∧ a = dflt) ∨ ∃ k, lv = some (.int k a) := by
  cases lo with
  | none => exact .inl ⟨rn rfl, (Option.some.inj h).symm⟩
  | some l =>
    right
    simp only [bndV, Option.map_eq_some_iff] at h
    obtain ⟨⟨k, n⟩, h1, rfl⟩ := h
    obtain ⟨x, e, h1⟩ := bind_some h1
    obtain ⟨v, ev, hr⟩ := r l rfl
    exact ⟨k, by rw [ev, asI_rep h1 (hr x e)]⟩
theorem vSlice_ok (ht : tt.ok P) {hp : List Res} (hm : Mem g hp w) {t : Nat} {x : Option AV} {lo hi : Option (Option AV)} {lov hiv : Option Value} {u : Value} (h : vSlice tt hp t x lo hi = some (av, obs)) (ho : ∀ q ∈ obs, q) (r : ∀ a, x = some a → arep g a u)
    (rl : ∀ (l : Option AV), lo = some l → ∃ v, lov = some v ∧ ∀ x, l = some x → arep g x v) (rln : lo = none → lov = none) (rh : ∀ (l : Option AV), hi = some l → ∃ v, hiv = some v ∧ ∀ x, l = some x → arep g x v) (rhn : hi = none → hiv = none) :
    ∃ v, (Instr.sliceAt t u lov hiv none).run P w = .ok v w ∧ arep g av v := by
  unfold vSlice at h
  split at h
  case h_2 => cases h
  rename_i i hi'
  obtain ⟨d, hu, hsd⟩ := (ht t i hi').und
  split at h
  · rename_i hd
    rw [hd] at hsd
    obtain rfl := shape_str hsd
    split at h
    case h_2 => cases h
    rename_i s hs
    obtain ⟨_, e1, hs⟩ := bind_some hs
    obtain rfl := asS_rep hs (r _ e1)
    split at h
    case h_2 => cases h
    rename_i a b ha hb
    simp only [Option.some.injEq, Prod.mk.injEq] at h
    obtain ⟨rfl, rfl⟩ := h
    obtain ⟨h0, h1, h2⟩ := ho _ (List.mem_singleton.2 rfl)
    refine ⟨_, ?_, rfl⟩
    have := run_sliceBounds (P := P) (w := w) (isS := false) (len := s.size) (cap := s.size) (bound_of rl rln ha) (bound_of rh rhn hb) h0 h1 h2
    simp [Instr.sliceAt, Instr.slice, run_underlying hu, this]
  · rename_i e hd
    rw [hd] at hsd
    obtain rfl := shape_sl hsd
    split at h
    case h_2 => cases h
    rename_i ei hh hei hx
    obtain ⟨_, e1, hx⟩ := bind_some hx
    obtain ⟨rfl, _⟩ := asL_rep hx (r _ e1)
    split at h
    case h_2 => cases h
    rename_i own E ks xs hr
    split at h
    case h_2 => cases h
    rename_i a b ha hb
    simp only [Option.some.injEq, Prod.mk.injEq] at h
    obtain ⟨rfl, rfl⟩ := h
    obtain ⟨h0, h1, h2⟩ := ho _ (List.mem_singleton.2 rfl)
    obtain ⟨⟨A, c, hv, hlc, hmx, hfit, hrd⟩, _⟩ := hm.ok hh _ hr
    have := run_sliceBounds (P := P) (w := w) (isS := true) (len := xs.length) (cap := c) (bound_of rl rln ha) (bound_of rh rhn hb) h0 h1 (by omega)
    refine ⟨.slice (if c = a.toNat then A else A.map (·.add (a.toNat * ei.size))) (b.toNat - a.toNat) (c - a.toNat), ?_, A, xs.length, c, hv, h0, h1, h2, hlc, ?_⟩
    · rw [hv]
      simp [Instr.sliceAt, Instr.slice, run_underlying hu, this, run_sizeOf (ht e ei hei)]
    · congr 1
      by_cases hc : c = a.toNat
      · rw [if_pos hc, if_pos (by omega)]
      · rw [if_neg hc, if_neg (by omega)]
  · cases h
theorem vUn_ok {op : UnOp} {m : Nat} {x : Option AV} {u : Value} (h : vUn op m x = some (av, obs)) (ho : ∀ q ∈ obs, q) (r : ∀ a, x = some a → arep g a u) :
    ∃ v, (Op.unary op u).run P w = .ok v w ∧ arep g av v := by
  cases op <;> simp only [vUn] at h
  case not =>
    split at h
    case h_2 => cases h
    rename_i b hb
    obtain ⟨_, e1, hb⟩ := bind_some hb
    obtain rfl := asB_rep hb (r _ e1)
    simp only [Option.some.injEq, Prod.mk.injEq] at h
    obtain ⟨rfl, rfl⟩ := h
    exact ⟨_, rfl, rfl⟩
  case neg =>
    split at h
    case h_2 => cases h
    rename_i k n hb
    obtain ⟨_, e1, hb⟩ := bind_some hb
    obtain rfl := asI_rep hb (r _ e1)
    obtain ⟨v, h1, h2⟩ := intBin_ok (P := P) (w := w) (g := g) (by decide) h ho 0
    refine ⟨v, ?_, h2⟩
    simpa [Op.unary, binOp] using h1
  case xor =>
    split at h
    case h_2 => cases h
    rename_i k n hb
    obtain ⟨_, e1, hb⟩ := bind_some hb
    obtain rfl := asI_rep hb (r _ e1)
    obtain ⟨v, h1, h2⟩ := intBin_ok (P := P) (w := w) (g := g) (by decide) h ho 0
    refine ⟨v, ?_, h2⟩
    simpa [Op.unary, binOp] using h1
  all_goals cases h
theorem vals_of_fitLV : ∀ {ks : List CK} {ls : List LV}, fitLV ks ls = true → ∃ vs : List Value, ls = vs.map .val ∧ fitsAll ks vs
  | [], [], _ => ⟨[], rfl, trivial⟩
  | k :: ks, l :: ls, h => by
    cases l <;> simp only [fitLV] at h <;> first | cases h; done | skip
    rename_i v
    simp only [Bool.and_eq_true] at h
    obtain ⟨vs, rfl, hf⟩ := vals_of_fitLV h.2
    refine ⟨v :: vs, rfl, ?_, hf⟩
    have h1 := h.1
    cases k <;> cases v <;> simp only [fitB] at h1 <;> first | cases h1; done | skip
    · obtain rfl := IntKind.eqb_eq h1; exact ⟨_, rfl⟩
    · exact ⟨_, rfl⟩
    · exact ⟨_, rfl⟩
  | [], _ :: _, h => by cases h
  | _ :: _, [], h => by cases h
theorem eqLV_vals : ∀ (as bs : List Value), eqLV (as.map .val) (bs.map .val) = eqL as bs
  | [], [] => rfl
  | [], _ :: _ => rfl
  | _ :: _, [] => rfl
  | a :: as, b :: bs => by simp [eqLV, eqL, eqLV_vals as bs]
theorem reps_of_vals : ∀ {vs us : List Value}, reps g (vs.map .val) us → us = vs
  | [], [], _ => rfl
  | v :: vs, u :: us, h => by rw [show u = v from h.1, reps_of_vals h.2]
  | [], _ :: _, h => h.elim
  | _ :: _, [], h => h.elim
theorem guard_int {op : BinOp} {t : Nat} {x y : Operand} {k : IntKind} {n : Int} {v : Value} : (eqGuard op t x y (.int k n) v) = pure () := by cases op <;> rfl
theorem equalIn_bool (d : Nat) {t : Nat} {a b : Bool} (hu : P.underlying t = some .bool) : (Op.equalIn (d + 1) t (.bool a) (.bool b)).run P w = .ok (a == b) w := by
  simp only [Op.equalIn, Sem.run_bind, run_underlying hu, Result.andThen_ok]
  rfl
theorem vBin_ok (ht : tt.ok P) {m t : Nat} {op : BinOp} {x y : Option AV} {ox oy : Operand} {u v : Value} (h : vBin tt m op t x y = some (av, obs)) (ho : ∀ q ∈ obs, q) (r : ∀ a, x = some a → arep g a u) (r' : ∀ a, y = some a → arep g a v) :
    ∃ z, (do eqGuard op t ox oy u v; binOp op t u v : Sem Value).run P w = .ok z w ∧ arep g av z := by
  unfold vBin at h
  split at h
  · rename_i k a k' b
    obtain rfl := r _ rfl
    obtain rfl := r' _ rfl
    rw [eqGuard_at_int]
    simp only [pure_bind]
    split at h
    · exact intSh_ok h ho t
    · exact intSh_ok h ho t
    · rename_i hl hr
      simp only [cond_eq_ite] at h
      split at h
      case isFalse => cases h
      rename_i hk
      obtain rfl := IntKind.eqb_eq hk
      exact intBin_ok ⟨hl, hr⟩ h ho t
  · rename_i a b
    obtain rfl := r _ rfl
    obtain rfl := r' _ rfl
    rw [eqGuard_at_string]
    simp only [pure_bind]
    exact strBin_ok h ho t
  · rename_i a b
    obtain rfl := r _ rfl
    obtain rfl := r' _ rfl
    rw [eqGuard_at_bool]
    simp only [pure_bind]
    split at h
    case h_2 => cases h
    rename_i i hi
    split at h
    case h_2 => cases h
    rename_i hd
    obtain ⟨d, hu, hsd⟩ := (ht t i hi).und
    rw [hd] at hsd
    obtain rfl := shape_bool hsd
    have he : (Op.equal t (.bool a) (.bool b)).run P w = .ok (a == b) w := by
      exact equalIn_bool 9999 hu
    cases op <;> simp only [boolBin] at h <;> try cases h
    · refine ⟨.bool (decide (a = b)), ?_, cmpV_ok h ho g⟩
      have : (binOp .eql t (.bool a) (.bool b)) = (do pure (.bool (← Op.equal t (.bool a) (.bool b)))) := rfl
      rw [this]
      simp [he]
      cases a <;> cases b <;> rfl
    · refine ⟨.bool (decide (¬ a = b)), ?_, cmpV_ok h ho g⟩
      have : (binOp .neq t (.bool a) (.bool b)) = (do pure (.bool (!(← Op.equal t (.bool a) (.bool b))))) := rfl
      rw [this]
      simp [he]
      cases a <;> cases b <;> rfl
  · rename_i as bs
    split at h
    case h_2 => cases h
    rename_i i hi
    split at h
    · cases h
    rename_i k ks hk
    simp only [cond_eq_ite] at h
    split at h
    case isFalse => cases h
    rename_i hfit
    simp only [Bool.and_eq_true] at hfit
    obtain ⟨as, rfl, ha⟩ := vals_of_fitLV hfit.1
    obtain ⟨bs, rfl, hb⟩ := vals_of_fitLV hfit.2
    obtain ⟨us, rfl, hu⟩ := r _ rfl
    obtain ⟨vs, rfl, hv⟩ := r' _ rfl
    have hu := reps_of_vals hu
    have hv := reps_of_vals hv
    obtain ⟨he, hg⟩ := (ht t i hi).2.2 (by rw [hk]; simp) w as bs (by rw [hk]; exact ha) (by rw [hk]; exact hb)
    have hus : us = as.toArray := by rw [← hu]
    have hvs : vs = bs.toArray := by rw [← hv]
    subst hus hvs
    rw [eqLV_vals] at h
    simp only [Sem.run_bind, hg, Result.andThen_ok]
    cases op <;> simp only at h <;> try cases h
    · refine ⟨.bool (decide (eqL as bs = true)), ?_, cmpV_ok h ho g⟩
      have : (binOp .eql t (.agg as.toArray) (.agg bs.toArray)) = (do pure (.bool (← Op.equal t (.agg as.toArray) (.agg bs.toArray)))) := rfl
      rw [this]
      simp [he]
    · refine ⟨.bool (decide (¬ eqL as bs = true)), ?_, cmpV_ok h ho g⟩
      have : (binOp .neq t (.agg as.toArray) (.agg bs.toArray)) = (do pure (.bool (!(← Op.equal t (.agg as.toArray) (.agg bs.toArray))))) := rfl
      rw [this]
      simp [he]
  · cases h
theorem vLen_ok (ht : tt.ok P) {hp : List Res} (hm : Mem g hp w) {t T : Nat} {x : Option AV} {u : Value} (h : vLen tt hp t x = some (av, obs)) (r : ∀ a, x = some a → arep g a u) :
    ∃ z, (Builtin.len_ #[t] T #[u]).run P w = .ok z w ∧ arep g av z := by
  unfold vLen at h
  split at h
  case h_2 => cases h
  rename_i i l hi hl
  obtain ⟨_, e1, hl⟩ := bind_some hl
  have hr := asL_rep hl (r _ e1)
  obtain ⟨d, hu, hsd⟩ := (ht t i hi).und
  split at h
  · rename_i hd
    rw [hd] at hsd
    obtain rfl := shape_str hsd
    split at h
    case h_2 => cases h
    simp only [Option.some.injEq, Prod.mk.injEq] at h
    obtain ⟨rfl, rfl⟩ := h
    obtain rfl := hr
    exact ⟨_, by simp only [Builtin.len_, List.getElem?_toArray, List.getElem?_cons_zero, Sem.run_bind, run_underlying hu, Result.andThen_ok, goInt]; rfl, rfl⟩
  · rename_i e hd
    rw [hd] at hsd
    obtain rfl := shape_sl hsd
    split at h
    · simp only [Option.some.injEq, Prod.mk.injEq] at h
      obtain ⟨rfl, rfl⟩ := h
      obtain rfl := hr
      exact ⟨_, by simp only [Builtin.len_, List.getElem?_toArray, List.getElem?_cons_zero, Sem.run_bind, run_underlying hu, Result.andThen_ok, goInt]; rfl, rfl⟩
    · rename_i hh _
      split at h
      case h_2 => cases h
      rename_i own E ks xs hres
      simp only [Option.some.injEq, Prod.mk.injEq] at h
      obtain ⟨rfl, rfl⟩ := h
      obtain ⟨⟨A, c, hv, _⟩, _⟩ := hm.ok hh _ hres
      obtain ⟨rfl, _⟩ := hr
      rw [hv]
      exact ⟨_, by simp only [Builtin.len_, List.getElem?_toArray, List.getElem?_cons_zero, Sem.run_bind, run_underlying hu, Result.andThen_ok, goInt]; rfl, rfl⟩
    · simp only [Option.some.injEq, Prod.mk.injEq] at h
      obtain ⟨rfl, rfl⟩ := h
      obtain ⟨A, n, c, _, h0, h1, h2, h3, rfl⟩ := hr
      refine ⟨_, by simp only [Builtin.len_, List.getElem?_toArray, List.getElem?_cons_zero, Sem.run_bind, run_underlying hu, Result.andThen_ok, goInt]; rfl, ?_⟩
      simp [arep, srep, rep]
      omega
    · cases h
  · cases h
theorem vMin_ok {ts : Array TypeId} {T : Nat} {x y : Option AV} {u v : Value} (h : vMin x y = some (av, obs)) (r : ∀ a, x = some a → arep g a u) (r' : ∀ a, y = some a → arep g a v) :
    ∃ z, (Builtin.min_ ts T #[u, v]).run P w = .ok z w ∧ arep g av z := by
  unfold vMin at h
  split at h
  case h_2 => cases h
  rename_i k a k' b hx hy
  obtain ⟨_, e1, hx⟩ := bind_some hx
  obtain ⟨_, e2, hy⟩ := bind_some hy
  obtain rfl := asI_rep hx (r _ e1)
  obtain rfl := asI_rep hy (r' _ e2)
  simp only [cond_eq_ite] at h
  split at h
  case isFalse => cases h
  rename_i hk
  obtain rfl := IntKind.eqb_eq hk
  simp only [Option.some.injEq, Prod.mk.injEq] at h
  obtain ⟨rfl, rfl⟩ := h
  refine ⟨_, by simp [Builtin.min_, Builtin.min2]; rfl, ?_⟩
  simp [arep, srep, rep]
  omega
theorem vMax_ok {ts : Array TypeId} {T : Nat} {x y : Option AV} {u v : Value} (h : vMax x y = some (av, obs)) (r : ∀ a, x = some a → arep g a u) (r' : ∀ a, y = some a → arep g a v) :
    ∃ z, (Builtin.max_ ts T #[u, v]).run P w = .ok z w ∧ arep g av z := by
  unfold vMax at h
  split at h
  case h_2 => cases h
  rename_i k a k' b hx hy
  obtain ⟨_, e1, hx⟩ := bind_some hx
  obtain ⟨_, e2, hy⟩ := bind_some hy
  obtain rfl := asI_rep hx (r _ e1)
  obtain rfl := asI_rep hy (r' _ e2)
  simp only [cond_eq_ite] at h
  split at h
  case isFalse => cases h
  rename_i hk
  obtain rfl := IntKind.eqb_eq hk
  simp only [Option.some.injEq, Prod.mk.injEq] at h
  obtain ⟨rfl, rfl⟩ := h
  refine ⟨_, by simp [Builtin.max_, Builtin.max2]; rfl, ?_⟩
  simp [arep, srep, rep]
  omega
end
end Go.Proofs.Ytgicfkgiecgjoaa.RS
