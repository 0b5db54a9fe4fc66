/- RS, part J: append. -/
import Derived.Test.YtgicfkgiecgjoaaRsI
import Derived.Lib.Strings
set_option linter.unusedVariables false
set_option linter.unusedSimpArgs false
namespace Go.Proofs.Ytgicfkgiecgjoaa.RS
open Go Go.RowKit
def ckEq : List CK → List CK → Bool
  | [], [] => true
  | .int k :: r, .int k' :: r' => IntKind.eqb k k' && ckEq r r'
  | .bool :: r, .bool :: r' => ckEq r r'
  | .str :: r, .str :: r' => ckEq r r'
  | .any :: r, .any :: r' => ckEq r r'
  | _, _ => false
theorem ckEq_eq : ∀ {a b : List CK}, ckEq a b = true → a = b
  | [], [], _ => rfl
  | x :: a, y :: b, h => by
    cases x <;> cases y <;> simp only [ckEq, Bool.and_eq_true] at h <;> first | cases h; done | skip
    · rw [IntKind.eqb_eq h.1, ckEq_eq h.2]
    · rw [ckEq_eq h]
    · rw [ckEq_eq h]
    · rw [ckEq_eq h]
  | [], _ :: _, h => by cases h
  | x :: _, [], h => by cases x <;> cases h
/-- The elements of what is appended, or copied. -/
def srcOf (hp : List Res) (ks : List CK) (x : AV) : Option (List (List Value) × List Prop) :=
  match x with
  | .sv (.lf (.row h)) => match hp[h]? with
    | some (.row _ _ ks' xs) => bif ckEq ks' ks then some (xs, []) else none
    | _ => none
  | .sv (.lf (.view h sz lo hi)) => match hp[h]? with
    | some (.row _ _ ks' xs) => bif ckEq ks' ks && Nat.beq sz ks.length then some ((xs.take hi.toNat).drop lo.toNat, [hi ≤ (xs.length : Int)]) else none
    | _ => none
  | .sv (.lf (.val (.slice none 0 0))) => some ([], [])
  | .sv (.lf (.val (.string s))) => bif ckEq ks [.int .u8] then some (strVals s, []) else none
  | _ => none
def usesH (h : Nat) (x : AV) : Bool := !(x.on (isNot h))
def tdApp : TD → Bool
  | .sl _ => true
  | .str => true
  | _ => false
def evalAppend (tt : TT) (hp : List Res) (nh : Nat) (t tx : TypeId) (s x : Option AV) : Option (Nat × Res × List Prop) :=
  match tt.get t, tt.get tx, s.bind asL, x with
  | some i, some ix, some l, some xa => match i.d with
    | .sl e => match tt.get e with
      | some ei => bif tdApp ix.d && Nat.blt 0 ei.size && Nat.beq ei.zero.cells.size ei.size && Nat.blt 0 ei.bytes then
        match l with
        | .row h => match hp[h]? with
          | some (.row true E ks xs) => bif Nat.beq E e && Nat.beq ks.length ei.size && !(usesH h xa) then
            match srcOf hp ks xa with
            | some (ys, ob) => some (h, .row true e ks (xs ++ ys), ob ++ [(xs.length + ys.length) * ei.bytes ≤ 140737488355328])
            | none => none
            else none
          | _ => none
        | .val (.slice none 0 0) => bif Nat.beq (cksOf tt e).length ei.size then
          match srcOf hp (cksOf tt e) xa with
          | some (ys, ob) => some (nh, .row true e (cksOf tt e) ys, ob ++ [ys.length * ei.bytes ≤ 140737488355328])
          | none => none
          else none
        | _ => none
        else none
      | none => none
    | _ => none
  | _, _, _, _ => none
section
variable {P : Program} {tt : TT} {w : World} {g : Gam} {obs : List Prop}
theorem flat_get {sz : Nat} (hsz : 0 < sz) {xs : List (List Value)} (h : ∀ x ∈ xs, x.length = sz) {j : Nat} {v : Value} (hj : xs.flatten[j]? = some v) : j / sz < xs.length ∧ j % sz < sz ∧ v = cellAt xs (j / sz) (j % sz) := by
  have hl : j < xs.length * sz := by
    rw [← flat_length h]
    exact (List.getElem?_eq_some_iff.1 hj).1
  have h1 : j / sz < xs.length := Nat.div_lt_of_lt_mul (by rw [Nat.mul_comm]; exact hl)
  have h2 : j % sz < sz := Nat.mod_lt _ hsz
  have := flat_cell h h1 h2
  rw [show j / sz * sz + j % sz = j by rw [Nat.mul_comm]; exact Nat.div_add_mod j sz, hj] at this
  exact ⟨h1, h2, Option.some.inj this⟩
theorem load_flat {sz : Nat} (hsz : 0 < sz) {xs : List (List Value)} (h : ∀ x ∈ xs, x.length = sz) {ad : Addr} (hc : ∀ i o, i < xs.length → o < sz → w.cell? (ad.add (i * sz + o)) = some (cellAt xs i o)) :
    (loadCells ad (xs.length * sz)).run P w = .ok xs.flatten.toArray w := by
  rw [← flat_length h]
  refine run_loadCells_list w ad xs.flatten fun j v hj => ?_
  obtain ⟨h1, h2, rfl⟩ := flat_get hsz h hj
  have := hc _ _ h1 h2
  rwa [show j / sz * sz + j % sz = j by rw [Nat.mul_comm]; exact Nat.div_add_mod j sz] at this
/-- What a source gives to append and copy. -/
structure SrcRun (P : Program) (sz : Nat) (u : Value) (ys : List (List Value)) (w : World) : Prop where
  len : ∀ w2, (Builtin.lenOf u).run P w2 = .ok ys.length w2
  cells : ∀ w2, w2.heap = w.heap → (Builtin.firstCells sz ys.length u).run P w2 = .ok ys.flatten.toArray w2
theorem slice_src {sz : Nat} (hsz : 0 < sz) {A : Option Addr} {ys : List (List Value)} {c : Nat} (hl : ∀ x ∈ ys, x.length = sz) (hA : ys.length ≠ 0 → ∃ ad, A = some ad ∧ ∀ i o, i < ys.length → o < sz → w.cell? (ad.add (i * sz + o)) = some (cellAt ys i o)) :
    SrcRun P sz (.slice A ys.length c) ys w := by
  refine ⟨fun w2 => rfl, fun w2 hw => ?_⟩
  cases A with
  | none =>
    have : ys.length = 0 := by
      rcases Nat.eq_zero_or_pos ys.length with h | h
      · exact h
      · obtain ⟨_, e, _⟩ := hA (by omega); cases e
    obtain rfl := List.eq_nil_of_length_eq_zero this
    rfl
  | some ad =>
    show (loadCells ad (ys.length * sz)).run P w2 = _
    refine load_flat hsz hl fun i o hi ho => ?_
    obtain ⟨_, e, hc⟩ := hA (by omega)
    injection e with e
    subst e
    rw [cell_of_heap (w := w) (by rw [hw])]
    exact hc i o hi ho
theorem srcOf_ok {hp : List Res} (hm : Mem g hp w) {ks : List CK} (hpos : 0 < ks.length) {x : AV} {u : Value} {ys : List (List Value)} (h : srcOf hp ks x = some (ys, obs)) (ho : ∀ q ∈ obs, q) (r : arep g x u) :
    SrcRun P ks.length u ys w ∧ ∀ y ∈ ys, fitsAll ks y := by
  unfold srcOf at h
  split at h
  · rename_i hh
    split at h
    case h_2 => cases h
    rename_i own E ks' xs hr
    simp only [cond_eq_ite] at h
    split at h
    case isFalse => cases h
    rename_i hk
    obtain rfl := ckEq_eq hk
    simp only [Option.some.injEq, Prod.mk.injEq] at h
    obtain ⟨rfl, rfl⟩ := h
    obtain ⟨rfl, _⟩ := (r : rep g (.row hh) u)
    obtain ⟨⟨A, c, hv, hlc, hmx, hfit, hrd⟩, _⟩ := hm.ok hh _ hr
    rw [hv]
    refine ⟨slice_src hpos (fun x hx => fitsAll_length (hfit x hx)) fun hn => ?_, hfit⟩
    obtain ⟨ad, e, _, hc⟩ := hrd (by omega)
    exact ⟨ad, e, hc⟩
  · rename_i hh sz lo hi
    split at h
    case h_2 => cases h
    rename_i own E ks' xs hr
    simp only [cond_eq_ite] at h
    split at h
    case isFalse => cases h
    rename_i hk
    simp only [Bool.and_eq_true] at hk
    obtain rfl := ckEq_eq hk.1
    obtain rfl := Nat.eq_of_beq_eq_true hk.2
    simp only [Option.some.injEq, Prod.mk.injEq] at h
    obtain ⟨rfl, rfl⟩ := h
    have hhi := ho _ (List.mem_singleton.2 rfl)
    obtain ⟨A', n', c', hv', h0, h1, h2, h3, rfl⟩ := (r : rep g (.view hh ks'.length lo hi) u)
    obtain ⟨⟨A, c, hv, hlc, hmx, hfit, hrd⟩, _⟩ := hm.ok hh _ hr
    obtain ⟨rfl, rfl, rfl⟩ : A' = A ∧ n' = xs.length ∧ c' = c := by rw [hv] at hv'; injection hv' with a b c; exact ⟨a.symm, b.symm, c.symm⟩
    have hlen : ((xs.take hi.toNat).drop lo.toNat).length = hi.toNat - lo.toNat := by simp; omega
    have hsub : ∀ y ∈ (xs.take hi.toNat).drop lo.toNat, fitsAll ks' y := fun y hy => hfit y (List.mem_of_mem_take (List.mem_of_mem_drop hy))
    refine ⟨?_, hsub⟩
    rw [← hlen]
    refine slice_src hpos (fun x hx => fitsAll_length (hsub x hx)) fun hn => ?_
    have hne : ¬ (c' : Int) = lo := by omega
    rw [if_neg hne]
    obtain ⟨ad, rfl, _, hc⟩ := hrd (by omega)
    refine ⟨ad.add (lo.toNat * ks'.length), rfl, fun i o hi' ho' => ?_⟩
    rw [hlen] at hi'
    have hb1 : lo.toNat + i < xs.length := by clear hc hrd hm; omega
    have hb2 : lo.toNat + i < hi.toNat := by clear hc hrd hm; omega
    rw [add_add, ← Nat.add_assoc, ← Nat.add_mul, hc (lo.toNat + i) o hb1 ho']
    congr 1
    simp only [cellAt, List.getD_eq_getElem?_getD]
    rw [List.getElem?_drop, List.getElem?_take, if_pos hb2]
  · simp only [Option.some.injEq, Prod.mk.injEq] at h
    obtain ⟨rfl, rfl⟩ := h
    obtain rfl := (r : u = _)
    exact ⟨⟨fun _ => rfl, fun _ _ => rfl⟩, by simp⟩
  · rename_i s
    simp only [cond_eq_ite] at h
    split at h
    case isFalse => cases h
    rename_i hk
    obtain rfl := ckEq_eq hk
    simp only [Option.some.injEq, Prod.mk.injEq] at h
    obtain ⟨rfl, rfl⟩ := h
    obtain rfl := (r : u = _)
    refine ⟨⟨fun w2 => ?_, fun w2 _ => ?_⟩, fun y hy => ?_⟩
    · simp [Builtin.lenOf, strVals]
    · have e : s.data.size = s.size := rfl
      have : (s.extract 0 (strVals s).length).data.map (fun b => Value.int .u8 b.toNat) = (strVals s).flatten.toArray := by
        apply Array.ext'
        have e2 : (s.extract 0 s.size).data.toList = s.data.toList := by rw [Lib.extract_data, List.drop_zero, Nat.sub_zero, List.take_of_length_le (by simp [e])]
        simp only [strVals, List.length_map, Array.length_toList, e, Array.toList_map, e2]
        induction s.data.toList with
        | nil => rfl
        | cons a l ih => simp only [List.map_cons, List.flatten_cons, List.singleton_append, ih]
      show Sem.run P (pure _) w2 = _
      rw [Sem.run_pure, this]
    · obtain ⟨b, _, rfl⟩ := List.mem_map.1 hy
      exact ⟨⟨_, rfl⟩, trivial⟩
  · cases h
theorem nextcap_fits {need old bytes : Nat} (h : need * bytes ≤ 140737488355328) (hlt : old < need) : Builtin.nextslicecap need old * bytes ≤ 281474976710656 := growslice_fits hlt h
theorem tdApp_two {d : TypeDesc} (h : tdApp (shapeOf d) = true) : (∃ e, d = .slice e) ∨ d = .string := by
  cases d <;> simp [shapeOf, tdApp] at h ⊢
theorem append_room_eq {t tx T e : Nat} {ei : TI} {dx : TypeDesc} (hT : P.underlying t = some (.slice e)) (hX : P.underlying tx = some dx) (hdx : tdApp (shapeOf dx) = true) (hE : TypeFits P e ei)
    {A : Option Addr} {n c m : Nat} {u : Value} (hu : (Builtin.lenOf u).run P w = .ok m w) (hroom : n + m ≤ c) :
    (Builtin.append_ #[t, tx] T #[.slice A n c, u]).run P w = ((Builtin.firstCells ei.size m u).run P w).andThen fun new w1 =>
      ((match A with | some a => storeCells (a.add (n * ei.size)) new.toList | none => pure () : Sem Unit).run P w1).andThen fun _ w2 => .ok (.slice A (n + m) c) w2 := by
  have hsz := fun w => run_sizeOf hE w
  rcases tdApp_two hdx with ⟨e', rfl⟩ | rfl <;> cases A <;>
    simp [Builtin.append_, run_underlying hT, run_underlying hX, hsz, hu, hroom]
theorem append_grow_eq {t tx T e : Nat} {ei : TI} {dx : TypeDesc} (hT : P.underlying t = some (.slice e)) (hX : P.underlying tx = some dx) (hdx : tdApp (shapeOf dx) = true) (hE : TypeFits P e ei)
    {A : Option Addr} {n c m : Nat} {u : Value} (hu : (Builtin.lenOf u).run P w = .ok m w) (hroom : ¬ n + m ≤ c) (h1 : n + m ≤ 9223372036854775807) (h2 : Builtin.nextslicecap (n + m) c * ei.bytes ≤ 281474976710656)
    {old new : List Value} (ho : (Builtin.firstCells ei.size n (.slice A n c)).run P w.drew = .ok old.toArray w.drew) (hn : (Builtin.firstCells ei.size m u).run P w.drew = .ok new.toArray w.drew) :
    (Builtin.append_ #[t, tx] T #[.slice A n c, u]).run P w = .ok (.slice (some ⟨w.heap.size, 0, none⟩) (n + m) (grownCap w (n + m) c e))
      (w.drew.alloc (.cells (old.toArray ++ new.toArray ++ Builtin.zeroCells ei.zero.cells (grownCap w (n + m) c e - (n + m))) e)) := by
  have hsz := fun w => run_sizeOf hE w
  have hzero := fun w => run_zero hE w
  obtain ⟨j, hj, hjs, hjb, hjz⟩ := hE.info
  have c1 : ¬ (9223372036854775807 < ((n : Int) + (m : Int))) := by omega
  have c2 : ¬ (281474976710656 < Builtin.nextslicecap (n + m) c * ei.bytes) := by omega
  rcases tdApp_two hdx with ⟨e', rfl⟩ | rfl <;>
    simp [Builtin.append_, run_underlying hT, run_underlying hX, hsz, hu, hroom, c1, c2, typeInfo, hj, hjb, Question.forced, ho, hn, hzero, newRow, grownCap] <;>
    (congr 2; apply Array.ext'; simp [List.append_assoc])
/-- One append to a row of one's own (or to nil). -/
theorem run_append {t tx T e : Nat} {ei : TI} {dx : TypeDesc} (hT : P.underlying t = some (.slice e)) (hX : P.underlying tx = some dx) (hdx : tdApp (shapeOf dx) = true) (hE : TypeFits P e ei) (hpos : 0 < ei.size) (hz : ei.zero.cells.size = ei.size) (hby : 0 < ei.bytes)
    {ks : List CK} (hks : ks.length = ei.size) {xs ys : List (List Value)} {v u : Value} (hrow : (Res.row true e ks xs).ok g w v) (hsrc : SrcRun P ei.size u ys w) (hfy : ∀ y ∈ ys, fitsAll ks y)
    (hb : (xs.length + ys.length) * ei.bytes ≤ 140737488355328) :
    ∃ v' w', (Builtin.append_ #[t, tx] T #[v, u]).run P w = .ok v' w' ∧ (Res.row true e ks (xs ++ ys)).ok g w' v' ∧ Chg ((Res.row true e ks xs).at v) w w' ∧
      ∀ b, (Res.row true e ks (xs ++ ys)).at v' b → (Res.row true e ks xs).at v b ∨ w.heap.size ≤ b := by
  obtain ⟨⟨A, c, rfl, hlc, hmx, hfit, hrd⟩, hown⟩ := hrow
  have hown := hown rfl
  have hsmall : xs.length + ys.length ≤ 140737488355328 := Nat.le_trans (Nat.le_mul_of_pos_right _ hby) hb
  have hfits : ∀ x ∈ xs ++ ys, fitsAll ks x := fun x hx => (List.mem_append.1 hx).elim (hfit x) (hfy x)
  have hlx : ∀ x ∈ xs, x.length = ei.size := fun x hx => by rw [fitsAll_length (hfit x hx), hks]
  have hly : ∀ x ∈ ys, x.length = ei.size := fun x hx => by rw [fitsAll_length (hfy x hx), hks]
  have hlxy : ∀ x ∈ xs ++ ys, x.length = ei.size := fun x hx => (List.mem_append.1 hx).elim (hlx x) (hly x)
  have hflat : (xs ++ ys).flatten = xs.flatten ++ ys.flatten := by simp
  obtain ⟨j, hj, hjs, hjb, hjz⟩ := hE.info
  by_cases hroom : xs.length + ys.length ≤ c
  · -- in place
    by_cases hc0 : c = 0
    · subst hc0
      have hx0 : xs = [] := List.eq_nil_of_length_eq_zero (by omega)
      have hy0 : ys = [] := List.eq_nil_of_length_eq_zero (by omega)
      subst hx0 hy0
      refine ⟨.slice A 0 0, w, ?_, ⟨⟨A, 0, rfl, Nat.le_refl _, hmx, by simp, fun h => absurd rfl h⟩, fun _ => hown⟩, Chg.refl _ _, fun b hb => ?_⟩
      · have h1 := hsrc.len
        have h2 := hsrc.cells w rfl
        simp only [List.length_nil] at h1 h2
        show (Builtin.append_ #[t, tx] T #[.slice A 0 0, u]).run P w = _
        rw [append_room_eq (n := 0) (m := 0) hT hX hdx hE (h1 w) (Nat.le_refl 0), h2]
        cases A <;> rfl
      · cases A <;> simp [Res.at] at hb
    · obtain ⟨b, cur, f, rfl, hh, hcs, hf⟩ := hown A c rfl hc0
      obtain ⟨ad, e1, _, hcell⟩ := hrd hc0
      injection e1 with e1
      subst e1
      have hle : xs.length * ei.size + 0 + ys.flatten.length ≤ cur.size := by
        rw [flat_length hly, hcs, hks, Nat.add_zero, ← Nat.add_mul]
        exact Nat.mul_le_mul_right _ hroom
      obtain ⟨w', cur', h1, h2, h3, h4, h5⟩ := run_storeCells_own (P := P) b (xs.length * ei.size) e f ys.flatten 0 cur w hh hf hle (fun v hv => by
        obtain ⟨y, hy, hv⟩ := List.mem_flatten.1 hv
        exact fitsAll_one (hfy y hy) v hv)
      have hcs' : cur'.size = cur.size := by
        rw [← Array.length_toList, h3]
        simp only [sp, List.length_append, List.length_take, List.length_drop, Array.length_toList]
        omega
      refine ⟨.slice (some ⟨b, 0, none⟩) (xs.length + ys.length) c, w', ?_, ?_, ?_, ?_⟩
      · have h6 := hsrc.len
        have h7 := hsrc.cells w rfl
        rw [append_room_eq hT hX hdx hE (h6 w) hroom, h7]
        simp only [Result.andThen_ok, plain_add, Nat.zero_add, h1]
      · have := row_new (w' := w') (e := e) (ks := ks) (xs := xs ++ ys) (c := c) h2 hfits (fun i' o' hi' ho' => by
          rw [hks] at ho' ⊢
          rw [← Array.getElem?_toList, h3, Nat.add_zero, sp_get (by simpa using hle), flat_length hly]
          rw [List.length_append] at hi'
          have h8 := flat_cell hlxy (i := i') (o := o') (by simpa using hi') ho'
          rw [hflat] at h8
          by_cases hix : i' < xs.length
          · have : (i' + 1) * ei.size ≤ xs.length * ei.size := Nat.mul_le_mul_right _ hix
            rw [Nat.add_mul, Nat.one_mul] at this
            rw [if_pos (by omega), ← h8, List.getElem?_append_left (by rw [flat_length hlx]; omega)]
            have h9 := hcell i' o' hix (by omega)
            rw [plain_add, Nat.zero_add, cell_blk hh, hks] at h9
            rw [Array.getElem?_toList, h9]
            exact (flat_cell hlx hix ho').symm
          · have h10 : xs.length * ei.size ≤ i' * ei.size := Nat.mul_le_mul_right _ (by omega)
            have h11 : (i' + 1) * ei.size ≤ (xs.length + ys.length) * ei.size := Nat.mul_le_mul_right _ hi'
            rw [Nat.add_mul, Nat.one_mul, Nat.add_mul] at h11
            rw [if_neg (by omega), if_pos (by omega), ← h8, List.getElem?_append_right (by rw [flat_length hlx]; omega), flat_length hlx]) (by simpa using hroom) hmx (by rw [hcs']; exact hcs) (by rw [hcs']; exact hf) true g
        rw [List.length_append] at this
        exact this
      · exact h4.mono fun k hk => ⟨hc0, hk⟩
      · intro b' hb'
        exact .inl hb'
  · -- a new block
    have hgt : c < xs.length + ys.length := by omega
    have hcap := nextcap_fits hb hgt
    have hneed : ¬ (((xs.length + ys.length : Nat) : Int) > 9223372036854775807) := by omega
    have holdrun : ∀ w2 : World, w2.heap = w.heap → (Builtin.firstCells ei.size xs.length (.slice A xs.length c)).run P w2 = .ok xs.flatten.toArray w2 :=
      (slice_src (P := P) (w := w) (c := c) hpos hlx (fun hn => by
        obtain ⟨ad, e1, _, hc⟩ := hrd (by omega)
        exact ⟨ad, e1, by rw [← hks]; exact hc⟩)).cells
    have hge := grownCap_ge w (xs.length + ys.length) c e
    have hcm := grownCap_le_maxLen w (xs.length + ys.length) c e (by unfold maxLen; omega)
    refine ⟨.slice (some ⟨w.heap.size, 0, none⟩) (xs.length + ys.length) (grownCap w (xs.length + ys.length) c e), w.drew.alloc (.cells (xs.flatten.toArray ++ ys.flatten.toArray ++ Builtin.zeroCells ei.zero.cells (grownCap w (xs.length + ys.length) c e - (xs.length + ys.length))) e), ?_, ?_, ?_, ?_⟩
    · have h6 := hsrc.len
      have h7 := hsrc.cells w.drew rfl
      have h8 := holdrun w.drew rfl
      exact append_grow_eq hT hX hdx hE (h6 w) hroom (by omega) hcap h8 h7
    · have hxf := flat_length hlx
      have hyf := flat_length hly
      have := row_new (w' := w.drew.alloc (.cells (xs.flatten.toArray ++ ys.flatten.toArray ++ Builtin.zeroCells ei.zero.cells (grownCap w (xs.length + ys.length) c e - (xs.length + ys.length))) e)) (e := e) (ks := ks) (xs := xs ++ ys) (c := grownCap w (xs.length + ys.length) c e) (heap_alloc_new w.drew _) hfits (fun i' o' hi' ho' => by
        rw [hks] at ho' ⊢
        have h8 := flat_cell hlxy hi' ho'
        have hlt : i' * ei.size + o' < xs.flatten.length + ys.flatten.length := by
          rw [hxf, hyf, ← Nat.add_mul]
          rw [List.length_append] at hi'
          have h11 : (i' + 1) * ei.size ≤ (xs.length + ys.length) * ei.size := Nat.mul_le_mul_right _ hi'
          rw [Nat.add_mul, Nat.one_mul] at h11
          omega
        rw [Array.getElem?_append_left (by simpa using hlt), ← h8, hflat]
        simp [← Array.getElem?_toList]) (by simpa using hge) hcm (by
          simp only [Array.size_append, List.size_toArray, size_zeroCells, hz, hxf, hyf, hks, ← Nat.add_mul]
          congr 1
          omega) (.inl rfl) true g
      rw [List.length_append] at this
      exact this
    · refine ⟨rfl, rfl, rfl, by simp, fun k hk _ => ?_⟩
      exact Below.heap_alloc w.drew _ k hk
    · intro b' hb'
      rw [row_at hb']
      exact .inr (Nat.le_refl _)
end
end Go.Proofs.Ytgicfkgiecgjoaa.RS
