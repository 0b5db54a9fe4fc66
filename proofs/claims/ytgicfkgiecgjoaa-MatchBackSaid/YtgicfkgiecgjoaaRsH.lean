/- RS, part H: operations that make memory are right. -/
import Derived.Test.YtgicfkgiecgjoaaRsG
set_option linter.unusedVariables false
set_option linter.unusedSimpArgs false
namespace Go.Proofs.Ytgicfkgiecgjoaa.RS
open Go Go.RowKit
section
variable {P : Program} {tt : TT} {w : World} {g : Gam} {av : AV} {r : Res} {obs : List Prop}
theorem run_newVar (T : TypeId) (v : Value) : (newVar T v).run P w = .ok ⟨w.heap.size, 0, none⟩ (w.alloc (.cells v.cells T)) := by
  simp [newVar, newRow]
theorem on_all {n : Nat} {cs : List LV} (h : cs.all (LV.on (isNot n)) = true) {vs : List Value} (v : Value) (hr : reps g cs vs) : reps (upd g n v) cs vs := reps_congr (upd_on g n v) h hr
theorem blk_new {T : TypeId} {cs : List LV} {vs : Array Value} {nh : Nat} (hr : reps (upd g nh (.pointer (some ⟨w.heap.size, 0, none⟩))) cs vs.toList) :
    NewOK g w (w.alloc (.cells vs T)) nh (.blk true T cs) (.sv (.lf (.ptr nh 0))) (.pointer (some ⟨w.heap.size, 0, none⟩)) (.pointer (some ⟨w.heap.size, 0, none⟩)) :=
  ⟨below_alloc _ _, ⟨w.heap.size, upd_self _ _ _, rfl⟩, ⟨w.heap.size, vs, rfl, heap_alloc_new _ _, hr⟩, fun b hb => by simp [Res.at] at hb; omega⟩
theorem row_at {own : Bool} {e : TypeId} {ks : List CK} {xs : List (List Value)} {b n c k : Nat} (h : (Res.row own e ks xs).at (.slice (some ⟨b, 0, none⟩) n c) k) : k = b := by
  exact h.2.symm
theorem rangeMap_cell {zero : Array Value} {N j : Nat} (hj : j < N) : ((Array.range N).map (fun i => zero[i % zero.size]!))[j]? = some zero[j % zero.size]! := by
  simp [hj]
theorem evalN_ok (ht : tt.ok P) {hp : List Res} (hm : Mem g hp w) {lk : Operand → Option AV} {a : Act} (hl : LkOK g lk a) {m nh : Nat} {o : Oper} (h : evalN tt hp lk m nh o.op = some (av, r, obs)) (ho : ∀ q ∈ obs, q) :
    ∃ v w' gv, (execOp a.eval o).run P w = .ok (.value v) w' ∧ NewOK g w w' nh r av v gv := by
  have lift : ∀ {s : Sem Value} {v : Value} {w' : World}, s.run P w = .ok v w' → (do pure (.value (← s)) : Sem Next).run P w = .ok (.value v) w' := fun h => by simp [h]
  unfold evalN at h
  split at h
  · rename_i T e
    split at h
    case h_2 => cases h
    rename_i i hi
    have hrun : (Instr.alloc T true (.tuple #[])).run P w = .ok (.pointer (some ⟨w.heap.size, 0, none⟩)) (w.alloc (.cells i.zero.cells T)) := by
      simp only [Instr.alloc, Sem.run_bind, run_zero (ht T i hi), Result.andThen_ok, run_newVar, Sem.run_pure]
    split at h
    · simp only [Option.some.injEq, Prod.mk.injEq] at h
      obtain ⟨rfl, rfl, rfl⟩ := h
      exact ⟨_, _, _, by simp only [execOp, e]; exact lift hrun, blk_new (reps_vals _ _)⟩
    · split at h
      case h_2 => cases h
      rename_i n el hd
      split at h
      case h_2 => cases h
      rename_i ei hei
      simp only [cond_eq_ite] at h
      split at h
      case isFalse => cases h
      rename_i hb
      simp only [Bool.and_eq_true] at hb
      obtain ⟨⟨hb1, hb2⟩, hb3⟩ := hb
      have hks := Nat.eq_of_beq_eq_true hb1
      have hsz := Nat.eq_of_beq_eq_true hb3
      simp only [Option.some.injEq, Prod.mk.injEq] at h
      obtain ⟨rfl, rfl, rfl⟩ := h
      refine ⟨_, _, _, by simp only [execOp, e]; exact lift hrun, below_alloc _ _, ⟨w.heap.size, upd_self _ _ _, rfl⟩, ⟨w.heap.size, _, rfl, heap_alloc_new _ _, ?_, ?_, ?_⟩, fun b hb => by simp [Res.at] at hb; omega⟩
      · rw [hks]; simpa [chunks] using hsz
      · intro x hx
        exact fitsB_fits (List.all_eq_true.1 hb2 x hx)
      · intro i' o' hi' ho'
        rw [hks] at ho' ⊢
        have := chunk_cell (cs := i.zero.cells.toList) (by simpa using hsz) (by simpa [chunks] using hi') ho'
        rwa [Array.getElem?_toList] at this
  · rename_i T x e
    split at h
    case h_2 => cases h
    rename_i cs hcs
    obtain ⟨xv, hx, hcs⟩ := bind_some hcs
    simp only [cond_eq_ite] at h
    split at h
    case isFalse => cases h
    rename_i hon
    simp only [Option.some.injEq, Prod.mk.injEq] at h
    obtain ⟨rfl, rfl, rfl⟩ := h
    have hr := cellsOf_rep hcs (hl x xv hx)
    refine ⟨_, _, _, ?_, blk_new (T := T) (on_all hon _ hr)⟩
    simp only [execOp, e]
    exact lift (by simp only [Instr.box, Sem.run_bind, run_newVar, Result.andThen_ok, Sem.run_pure])
  · rename_i t n parts e
    split at h
    case h_2 => cases h
    rename_i i hi
    obtain ⟨d, hu, hsd⟩ := (ht t i hi).und
    split at h
    case h_2 => cases h
    rename_i el hd
    rw [hd] at hsd
    obtain rfl := shape_sl hsd
    split at h
    case h_2 => cases h
    rename_i ei hei
    split at h
    case h_2 => cases h
    rename_i xs hxs
    simp only [cond_eq_ite] at h
    split at h
    case isFalse => cases h
    rename_i hb
    simp only [Bool.and_eq_true] at hb
    obtain ⟨⟨⟨⟨hb1, hb2⟩, hb3⟩, hb4⟩, hb5⟩ := hb
    have hks := Nat.eq_of_beq_eq_true hb1
    obtain rfl := Nat.eq_of_beq_eq_true hb2
    have hle := Nat.le_of_ble_eq_true hb3
    have hz := Nat.eq_of_beq_eq_true hb4
    have hpos : 0 < ei.size := Nat.le_of_ble_eq_true hb5
    simp only [Option.some.injEq, Prod.mk.injEq] at h
    obtain ⟨rfl, rfl, rfl⟩ := h
    obtain ⟨cur', h1, h2, h3⟩ := partsL_ok hl hks parts.toList 0 xs ((Array.range (xs.length * ei.size)).map (fun i => (if xs.length * ei.size = 0 then #[] else ei.zero.cells)[i % (if xs.length * ei.size = 0 then (#[] : Array Value) else ei.zero.cells).size]!)) hxs (by simp)
    simp only [Nat.zero_mul, List.take_zero, List.nil_append] at h2
    have hlen : ∀ x ∈ xs, x.length = ei.size := fun x hx => by rw [fitsAll_length (h3 x hx), hks]
    have hcs : cur'.size = xs.length * ei.size := by rw [← Array.length_toList, h2, flat_length hlen]
    refine ⟨.slice (some ⟨w.heap.size, 0, none⟩) xs.length xs.length, w.alloc (.cells cur' el), .slice (some ⟨w.heap.size, 0, none⟩) xs.length xs.length, ?_, below_alloc _ _, ⟨(upd_self _ _ _).symm, _, _, _, upd_self _ _ _⟩, ?_, fun b hb => by rw [row_at hb]; exact Nat.le_refl _⟩
    · simp only [execOp, e]
      refine lift ?_
      have hn : ¬ (xs.length * ei.size > 2 ^ 24) := by omega
      have hn0 : xs.length = 0 ∨ 0 < xs.length := by omega
      rcases hn0 with hn0 | hn0
      · obtain rfl := List.eq_nil_of_length_eq_zero hn0
        have hp0 : parts = #[] := by
          apply Array.ext'
          cases hpl : parts.toList with
          | nil => rfl
          | cons y ys =>
            rw [hpl] at hxs
            obtain ⟨j, x⟩ := y
            simp only [partsL] at hxs
            split at hxs
            case h_2 => cases hxs
            split at hxs
            case h_2 => cases hxs
            simp only [cond_eq_ite] at hxs
            split at hxs
            case isFalse => cases hxs
            split at hxs
            case h_2 => cases hxs
            cases hxs
        subst hp0
        have hc0 : cur' = #[] := Array.ext' h2
        subst hc0
        simp [Instr.buildSlice, run_underlying hu, run_sizeOf (ht el ei hei), Instr.fill, newRow]
        rw [show Array.range 0 = #[] from rfl, Array.map_empty]
      · have h0 : ¬ xs.length * ei.size = 0 := by
          have := Nat.mul_pos hn0 hpos
          omega
        simp only [h0, if_false] at h1
        have h1' : Instr.fill (fun i => some (i * ei.size, ei.size)) ((Array.range (xs.length * ei.size)).map (fun i => ei.zero.cells[i % ei.zero.cells.size]!)) (parts.map fun (x : Nat × Operand) => (x.1, a.eval x.2)).toList = some cur' := by
          rw [Array.toList_map]; exact h1
        simp only [Instr.buildSlice, Sem.run_bind, run_underlying hu, Result.andThen_ok, run_sizeOf (ht el ei hei), hn, h0, if_false, Sem.run_ite, Sem.run_pure, run_zero (ht el ei hei), h1', newRow, run_newObj, World.alloc_eq]
    · refine row_new (heap_alloc_new _ _) h3 (fun i' o' hi' ho' => ?_) (Nat.le_refl _) ?_ (by rw [hks]; exact hcs) (.inl rfl) true _
      · rw [hks] at ho' ⊢
        rw [← Array.getElem?_toList, h2]
        exact flat_cell hlen hi' ho'
      · unfold maxLen
        have : xs.length ≤ xs.length * ei.size := Nat.le_mul_of_pos_right _ hpos
        omega
  · rename_i t l c e
    split at h
    case h_2 => cases h
    rename_i i k1 n k2 k hi hln hck
    obtain ⟨d, hu, hsd⟩ := (ht t i hi).und
    obtain ⟨_, e1, hln⟩ := bind_some hln
    obtain ⟨_, e2, hck⟩ := bind_some hck
    have el := asI_rep hln (hl l _ e1)
    have ec := asI_rep hck (hl c _ e2)
    split at h
    case h_2 => cases h
    rename_i el' hd
    rw [hd] at hsd
    obtain rfl := shape_sl hsd
    split at h
    case h_2 => cases h
    rename_i ei hei
    simp only [cond_eq_ite] at h
    split at h
    case isFalse => cases h
    rename_i hb
    simp only [Bool.and_eq_true] at hb
    obtain ⟨⟨hb1, hb2⟩, hb3⟩ := hb
    have hks := Nat.eq_of_beq_eq_true hb2
    have hpos : 0 < ei.size := Nat.le_of_ble_eq_true hb3
    have hfz := fitsB_fits hb1
    have hzl : ei.zero.cells.size = ei.size := by rw [← Array.length_toList, fitsAll_length hfz, hks]
    simp only [Option.some.injEq, Prod.mk.injEq] at h
    obtain ⟨rfl, rfl, rfl⟩ := h
    obtain ⟨h0, h1, h2, h3⟩ := ho _ (List.mem_singleton.2 rfl)
    obtain ⟨j, hj, hjs, hjb, hjz⟩ := (ht el' ei hei).info
    have hwn : IntKind.i64.wrap n = n := wrap_in (k := .i64) ⟨by omega, by omega⟩
    have hwk : IntKind.i64.wrap k = k := wrap_in (k := .i64) ⟨by omega, by omega⟩
    refine ⟨.slice (some ⟨w.heap.size, 0, none⟩) n.toNat k.toNat, w.alloc (.cells ((Array.range (k.toNat * ei.size)).map (fun i => (if k.toNat * ei.size = 0 then (#[] : Array Value) else ei.zero.cells)[i % (if k.toNat * ei.size = 0 then (#[] : Array Value) else ei.zero.cells).size]!)) el'), .slice (some ⟨w.heap.size, 0, none⟩) n.toNat k.toNat, ?_, below_alloc _ _, ⟨(upd_self _ _ _).symm, _, _, _, upd_self _ _ _⟩, ?_, fun b hb => by rw [row_at hb]; exact Nat.le_refl _⟩
    · simp only [execOp, e]
      refine lift ?_
      have c1 : ¬ (k < 0) := by omega
      have c2 : ¬ ((ei.bytes : Int) * k > 2 ^ 48) := by rw [Int.mul_comm]; omega
      have c3 : ¬ (n < 0) := by omega
      have c4 : ¬ (n > k) := by omega
      by_cases hz : k.toNat * ei.size = 0
      · simp [Instr.makeSlice, run_underlying hu, el, ec, asInt, asIntOf, typeInfo, hj, hjb, hwn, hwk, c1, c2, c3, c4, run_sizeOf (ht el' ei hei), hz, newRow]
        omega
      · simp [Instr.makeSlice, run_underlying hu, el, ec, asInt, asIntOf, typeInfo, hj, hjb, hwn, hwk, c1, c2, c3, c4, run_sizeOf (ht el' ei hei), hz, run_zero (ht el' ei hei), newRow]
        omega
    · have hlr : (List.replicate n.toNat ei.zero.cells.toList).length = n.toNat := by simp
      have := row_new (w' := w.alloc (.cells ((Array.range (k.toNat * ei.size)).map (fun i => (if k.toNat * ei.size = 0 then (#[] : Array Value) else ei.zero.cells)[i % (if k.toNat * ei.size = 0 then (#[] : Array Value) else ei.zero.cells).size]!)) el')) (xs := List.replicate n.toNat ei.zero.cells.toList) (ks := cksOf tt el') (c := k.toNat) (heap_alloc_new _ _) (fun x hx => by rw [List.eq_of_mem_replicate hx]; exact hfz) (fun i' o' hi' ho' => ?_) (by rw [hlr]; omega) (by unfold maxLen; omega) (by simp [hks]) (.inl rfl) true (upd g nh (.slice (some ⟨w.heap.size, 0, none⟩) n.toNat k.toNat))
      · rw [hlr] at this; exact this
      · rw [hlr] at hi'
        rw [hks] at ho' ⊢
        have hlt : i' * ei.size + o' < k.toNat * ei.size := by
          calc i' * ei.size + o' < i' * ei.size + ei.size := by omega
            _ = (i' + 1) * ei.size := by rw [Nat.add_mul, Nat.one_mul]
            _ ≤ k.toNat * ei.size := Nat.mul_le_mul_right _ (by omega)
        have hz : ¬ k.toNat * ei.size = 0 := by omega
        rw [rangeMap_cell hlt]
        simp only [hz, if_false]
        rw [hzl, Nat.mul_comm, Nat.mul_add_mod, Nat.mod_eq_of_lt ho']
        have e5 : (List.replicate n.toNat ei.zero.cells.toList).getD i' [] = ei.zero.cells.toList := by simp [List.getD, hi']
        rw [cellAt, e5, getElem!_pos ei.zero.cells o' (by omega), List.getD, Array.getElem?_toList, Array.getElem?_eq_getElem (by omega)]
        rfl
  · rename_i s d x e
    split at h
    case h_2 => cases h
    rename_i si di hsi hdi
    obtain ⟨ds, hus, hss⟩ := (ht s si hsi).und
    obtain ⟨dd, hud, hsd⟩ := (ht d di hdi).und
    split at h
    case h_2 => cases h
    rename_i el hk
    rw [hk] at hsd
    obtain rfl := shape_sl hsd
    split at h
    case h_2 => cases h
    rename_i ei b hei hb
    obtain ⟨de, hue, hse⟩ := (ht el ei hei).und
    obtain ⟨_, e1, hb⟩ := bind_some hb
    have ex := asS_rep hb (hl x _ e1)
    split at h
    case h_2 => cases h
    rename_i hu8
    rw [hu8] at hse
    obtain rfl := shape_int hse
    simp only [Option.some.injEq, Prod.mk.injEq] at h
    obtain ⟨rfl, rfl, rfl⟩ := h
    have hlen := ho _ (List.mem_singleton.2 rfl)
    have hsl : (strVals b).length = b.size := by simp [strVals]
    have hcap : b.size ≤ grownCap w b.size 0 el := by simp [grownCap, Question.cut]
    have hcap2 : grownCap w b.size 0 el ≤ maxLen := by
      unfold maxLen
      have : w.tape w.drawn (.appendCap b.size 0 el) % (2 ^ 63 - b.size) < 2 ^ 63 - b.size := Nat.mod_lt _ (by omega)
      simp only [grownCap, Question.cut]
      omega
    have hcsz : (Lib.bytesCells w el b).size = grownCap w b.size 0 el := by
      have : b.data.size = b.size := rfl
      simp [Lib.bytesCells, this]; omega
    refine ⟨_, Lib.bytesWorld w el b, .slice (some ⟨w.heap.size, 0, none⟩) b.size (grownCap w b.size 0 el), ?_, ⟨rfl, ?_, rfl, ?_, ?_⟩, ⟨(upd_self _ _ _).symm, _, _, _, upd_self _ _ _⟩, ?_, fun k hb => by rw [row_at hb]; exact Nat.le_refl _⟩
    · simp only [execOp, e]
      refine lift ?_
      rw [ex]
      exact Lib.run_convert_string_bytes w s d el b hus hud hue
    · rfl
    · rw [Lib.bytesWorld_size]; omega
    · intro k hk; exact Lib.bytesWorld_at_old w el b k hk
    · have := row_new (w' := Lib.bytesWorld w el b) (xs := strVals b) (ks := [.int .u8]) (c := grownCap w b.size 0 el) (Lib.bytesWorld_at_new w el b) (fun x hx => by
        obtain ⟨y, _, rfl⟩ := List.mem_map.1 hx
        exact ⟨⟨_, rfl⟩, trivial⟩) (fun i' o' hi' ho' => ?_) (by rw [hsl]; exact hcap) hcap2 (by simpa using hcsz) (.inr (Nat.le_refl _)) true (upd g nh (.slice (some ⟨w.heap.size, 0, none⟩) b.size (grownCap w b.size 0 el)))
      · rw [hsl] at this; exact this
      · obtain rfl : o' = 0 := by simpa using ho'
        rw [hsl] at hi'
        have hlt : i' < b.data.toList.length := by rw [Array.length_toList]; exact hi'
        have h1 : (Lib.bytesCells w el b)[i']? = some (.int .u8 (b.data[i']'(by simpa using hlt)).toNat) := by
          have : i' < (b.data.map fun b => Value.int .u8 b.toNat).size := by simpa using hlt
          simp only [Lib.bytesCells]
          rw [Array.getElem?_append_left this, Array.getElem?_map, Array.getElem?_eq_getElem (by simpa using hlt)]
          rfl
        simp only [List.length_cons, List.length_nil, Nat.zero_add, Nat.mul_one, Nat.add_zero]
        rw [h1]
        have h2 : (strVals b).getD i' [] = [.int .u8 (b.data[i']'(by simpa using hlt)).toNat] := by
          rw [strVals, List.getD, List.getElem?_map, Array.getElem?_toList, Array.getElem?_eq_getElem (by simpa using hlt)]
          rfl
        rw [cellAt, h2]
        rfl
  · cases h
end
end Go.Proofs.Ytgicfkgiecgjoaa.RS
