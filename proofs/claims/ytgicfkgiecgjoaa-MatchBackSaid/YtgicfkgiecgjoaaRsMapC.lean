/- RS, part MapC: a map is made; a slice's first bytes as an array; arrays of bytes as keys. -/
import Derived.Test.YtgicfkgiecgjoaaRsMapB
import Derived.WideKeyPair
import Derived.WalkArith
set_option linter.unusedVariables false
set_option linter.unusedSimpArgs false
namespace Go.Proofs.Ytgicfkgiecgjoaa.RS
open Go Go.RowKit Go.MapKept Go.ChangeMaps
open Go.WideMaps (KeyLaw ArrKey)
section
variable {P : Program} {K E T M : TypeId} {b n : Nat} {G : Value → List (List Value)}
theorem make_hs {id nt s0 s1 : Nat} {o0 o1 : Oper} (g0 : o0.guard = none) (g1 : o1.guard = none) (p0 : o0.op = .makeMap T none) (d0 : o0.dst = some s0) (p1 : o1.op = .assign (.tmp s0)) (d1 : o1.dst = some s1) (hlt : s0 < nt ∧ s1 < nt) (hG : ∀ k, G k = []) :
    HSpec (fun Q a w => (Code.region id #[o0, o1] false).wp P Q a w) nt (fun _ : Nat => True) [] [] [] (fun b => [.abs true (GA P K E b 0 G)]) [s1] (fun b => [aV (.map (some b))]) [s0, s1] := by
  intro g a w Q hd hsz hm hh hK
  refine wp_region_list ?_
  refine wpl_value (v := .map (some w.heap.size)) (w' := w.alloc (.map #[] 0)) g0 (by simp only [execOp, p0, Option.map_none]; simp [run_makeMap]) ?_
  rw [d0]
  have A1 : (a.put (some s0) (.map (some w.heap.size))).tmps[s0]? = some (.map (some w.heap.size)) := put_same (by omega)
  have Z1 : (a.put (some s0) (.map (some w.heap.size))).tmps.size = nt := by rw [put_size]; exact hsz
  have O1 : ∀ s, s ≠ s0 → (a.put (some s0) (.map (some w.heap.size))).tmps[s]? = a.tmps[s]? := fun s hs => put_other hs
  have D1 : (a.put (some s0) (.map (some w.heap.size))).defers = [] := by rw [put_defers]; exact hd
  generalize a.put (some s0) (.map (some w.heap.size)) = a1 at A1 Z1 O1 D1 ⊢
  refine wpl_value (v := .map (some w.heap.size)) (w' := w.alloc (.map #[] 0)) g1 (by simp only [execOp, p1, eval_tmp A1]; rfl) ?_
  rw [d1]
  have A2 : (a1.put (some s1) (.map (some w.heap.size))).tmps[s1]? = some (.map (some w.heap.size)) := put_same (by omega)
  have Z2 : (a1.put (some s1) (.map (some w.heap.size))).tmps.size = nt := by rw [put_size]; exact Z1
  have O2 : ∀ s, s ≠ s1 → (a1.put (some s1) (.map (some w.heap.size))).tmps[s]? = a1.tmps[s]? := fun s hs => put_other hs
  have D2 : (a1.put (some s1) (.map (some w.heap.size))).defers = [] := by rw [put_defers]; exact D1
  generalize a1.put (some s1) (.map (some w.heap.size)) = a2 at A2 Z2 O2 D2 ⊢
  have hbl := below_alloc w (.map #[] 0)
  have hent : EntOK P K E w.heap.size 0 G (w.alloc (.map #[] 0)) #[] 0 := ⟨heap_alloc_new _ _, Nat.le_refl _, stamped_empty 0, by simp, by simp, fun k _ => hG k, by simp, by simp⟩
  refine hK w.heap.size (upd g 0 (encV (blocksOf w.heap.size #[]))) a2 _ trivial D2 Z2 (fun s hs => ?_) ⟨⟨_, A2, rfl⟩, trivial⟩ ⟨⟨fun h r hh => ?_, fun h h' r r' c hne hh hh' ho hc => ?_⟩, ⟨hbl.os, hbl.tape, hbl.output, hbl.size, fun k hk _ => hbl.block k hk⟩, fun j r hj _ => absurd hj (by simp), fun j r c hj hl hc => ?_⟩
  · simp only [HSpec.natIn, Bool.or_eq_false_iff] at hs
    have ne : ∀ {x y : Nat}, Nat.beq x y = false → y ≠ x := fun hb e => by subst e; simp at hb
    rw [O2 s (ne hs.2.1), O1 s (ne hs.1)]
  · match h, hh with
    | 0, hh => obtain rfl := Option.some.inj hh; rw [upd_self]; exact ⟨#[], 0, hent, rfl⟩
    | h + 1, hh => exact absurd hh (by simp)
  · match h, h', hh, hh' with
    | 0, 0, _, _ => exact absurd rfl hne
    | h + 1, _, hh, _ => exact absurd hh (by simp)
    | _, h' + 1, _, hh' => exact absurd hh' (by simp)
  · match j, hj with
    | 0, hj =>
      obtain rfl := Option.some.inj hj
      rw [upd_self] at hc
      rcases blocksOf_mem.1 (memV_enc.1 hc) with rfl | ⟨x, hx, _⟩
      · exact .inl (.inl (Nat.le_refl _))
      · simp at hx
    | j + 1, hj => exact absurd hj (by simp)
/-- A contract of an operation that only reads what is lent. -/
theorem QSpec.read {op : Op} {xs : List Operand} {ins : List Res} {args : List AV} {res : AV} (hl : ∀ r ∈ ins, r.own = false)
    (h : ∀ (g : Gam) (w : World) (a : Act) (o : Oper), o.op = op → Mem g ins w → areps g args (xs.map a.eval) → ∃ v, (execOp a.eval o).run P w = .ok (.value v) w ∧ arep g res v) : QSpec P op xs ins args ins res := by
  intro g w a o he hm ha
  obtain ⟨v, h1, h2⟩ := h g w a o he hm ha
  unfold OpRunsQ
  rw [h1]
  refine ⟨rfl, g, v, rfl, h2, hm, Frm.refl _ _, fun _ _ _ _ => rfl, fun j r b hj hlt _ => ?_⟩
  exfalso
  have := hl r (List.mem_of_getElem? hj)
  simp [lentAt, hj, this] at hlt
theorem arrp_os {A e B : TypeId} {N : Nat} {x : Operand} {own : Bool} {ys : List (List Value)} (hA : P.underlying A = some (.array N e)) (hl : N ≤ ys.length) (hN : 0 < N) : QSpec P (.sliceToArrayPointer A x) [x] [.row false B [.int .u8] ys] [.sv (.lf (.row 0))] [.row false B [.int .u8] ys] (.sv (.lf (.elt 0 1 0 0))) := by
  refine QSpec.read (by simp [Res.own]) fun g w a o he hm ha => ?_
  obtain ⟨⟨h1, _⟩, _⟩ := ha
  obtain ⟨⟨A', c, hv, hc1, _, _, hrd⟩, _⟩ := hm.ok 0 _ rfl
  obtain ⟨ad, rfl, _, _⟩ := hrd (by omega)
  refine ⟨.pointer (some ad), ?_, ad, _, _, hv, by simp [Addr.add]⟩
  simp only [execOp, he, h1, hv]
  have : ¬ ys.length < N := by omega
  simp [Instr.arrayAt, run_underlying hA, this]
theorem loadarr_os {A B : TypeId} {ai : TI} {x : Operand} {ys : List (List Value)} (hA : TypeFits P A ai) (hag : ai.d.agg = true) (hsz : ai.size = 3) (hl : 3 ≤ ys.length) :
    QSpec P (.load A x) [x] [.row false B [.int .u8] ys] [.sv (.lf (.elt 0 1 0 0))] [.row false B [.int .u8] ys] (.sv (.agg [.val (.int .u8 (vI (cellAt ys 0 0))), .val (.int .u8 (vI (cellAt ys 1 0))), .val (.int .u8 (vI (cellAt ys 2 0)))])) := by
  refine QSpec.read (by simp [Res.own]) fun g w a o he hm ha => ?_
  obtain ⟨⟨ad, n', c', hv', h1⟩, _⟩ := ha
  obtain ⟨⟨A', c, hv, hc1, _, hfit, hrd⟩, _⟩ := hm.ok 0 _ rfl
  obtain ⟨rfl, rfl, rfl⟩ : A' = some ad ∧ n' = ys.length ∧ c' = c := by rw [hv] at hv'; injection hv' with a b c; exact ⟨a, b.symm, c.symm⟩
  obtain ⟨ad', e, _, hcell⟩ := hrd (by omega)
  injection e with e
  subst e
  have hc : ∀ i, i < 3 → w.cell? (ad.add i) = some (.int .u8 (vI (cellAt ys i 0))) := fun i hi => by
    have h2 := hcell i 0 (by omega) (by decide)
    simp only [List.length_cons, List.length_nil, Nat.zero_add, Nat.mul_one, Nat.add_zero] at h2
    rw [h2]
    have hx : ys.getD i [] ∈ ys := by simp [List.getD, List.getElem?_eq_getElem (show i < ys.length by omega)]
    have h3 := fitsAll_at 0 (.int .u8) (hfit _ hx) rfl
    have := CK.read_eq (k := .int .u8) (xs := ys) (i := i) (o := 0) h3
    rw [← this]; rfl
  have hload := run_loadCells (P := P) w ad 3 (fun i => .int .u8 (vI (cellAt ys i 0))) (fun j hj => hc j hj)
  simp only [Int.toNat_zero, Nat.zero_mul, Nat.zero_add] at h1
  have had : ad.add 0 = ad := by simp [Addr.add]
  rw [had] at h1
  refine ⟨.agg #[.int .u8 (vI (cellAt ys 0 0)), .int .u8 (vI (cellAt ys 1 0)), .int .u8 (vI (cellAt ys 2 0))], ?_, _, rfl, rfl, rfl, rfl, trivial⟩
  simp only [execOp, he, h1]
  simp only [Instr.loadAt, Instr.sureAddr, Sem.run_bind, Sem.run_pure, Result.andThen_ok, run_loadVar hA, hag, hsz, if_true, hload]
  rfl
theorem key3 {k e : TypeId} (A : ArrKey P k e 3) (he : P.underlying e = some (.int .u8)) (hsz : ∃ m, P.types.size = m + 1) {a b c : Int} (ha : 0 ≤ a ∧ a ≤ 255) (hb : 0 ≤ b ∧ b ≤ 255) (hc : 0 ≤ c ∧ c ≤ 255) :
    ∃ kl, keyOf P k (.agg #[.int .u8 a, .int .u8 b, .int .u8 c]) = some kl := by
  have wf : ∀ {n : Int}, 0 ≤ n ∧ n ≤ 255 → (Lit.int .u8 n).wf = true := fun h => WalkArith.wf_u8 h
  have hkt := A.keyType hsz
  obtain ⟨m, hm⟩ := hsz
  unfold keyOf
  simp only [A.hu]
  rw [if_pos (by simp [hkt, Value.formed, A.hu, A.size]), hm]
  unfold Program.keyLits
  simp only [A.hu, Value.cells]
  rw [if_pos (by rw [A.size]; rfl), show List.range 3 = [0, 1, 2] from rfl, List.mapM_cons, List.mapM_cons, List.mapM_cons, List.mapM_nil]
  simp [A.one, Program.keyLits, he, wf ha, wf hb, wf hc]
end
end Go.Proofs.Ytgicfkgiecgjoaa.RS
