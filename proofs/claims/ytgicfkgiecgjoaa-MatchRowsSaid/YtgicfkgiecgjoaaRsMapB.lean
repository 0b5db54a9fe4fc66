/- RS, part MapB: contracts of the operations on such a map; a slice as an array. -/
import Derived.Test.YtgicfkgiecgjoaaRsMap
set_option linter.unusedVariables false
set_option linter.unusedSimpArgs false
namespace Go.Proofs.Ytgicfkgiecgjoaa.RS
open Go Go.RowKit Go.MapKept Go.ChangeMaps
open Go.WideMaps (KeyLaw)
section
variable {P : Program} {K E T M : TypeId} {b n : Nat} {G : Value → List (List Value)}
theorem look_os (KL : KeyLaw P K) (hT : P.underlying T = some (.map K M)) (hz : ∀ u : World, (zeroValue M).run P u = .ok (.slice none 0 0) u) {m k : Operand} {cs : List Value} {kl : Lit} (hkey : keyOf P K (.agg cs.toArray) = some kl) :
    OSpec P (.lookup T m k false) [m, k] [.abs false (GA P K E b n G)] [aV (.map (some b)), .sv (.agg (cs.map .val))] [.abs false (GA P K E b n G), .row false E [.int .i64] (G (.agg cs.toArray))] (.sv (.lf (.row 1))) := by
  intro g w a o he hm ha
  simp only [List.map_cons, List.map_nil] at ha
  obtain ⟨h1, ⟨vs, h2, h3⟩, _⟩ := ha
  have h1 : a.eval m = .map (some b) := h1
  have hvs : vs = cs.toArray := by
    have := reps_of_vals (g := g) (vs := cs) (us := vs.toList) h3
    rw [← this]
  obtain ⟨es, clock, hent, henc⟩ := hm.ok 0 _ rfl
  obtain ⟨v, hr, hok, hbl⟩ := look_run KL hT hz hent hkey
  have hrun : (execOp a.eval o).run P w = .ok (.value v) w := by
    simp only [execOp, he, h1, h2, hvs]
    simp [hr]
  unfold OpRuns
  rw [hrun]
  refine ⟨upd g 1 v, v, rfl, ?_, ⟨fun h r hh => ?_, fun h h' r r' c hne hh hh' ho => ?_⟩, Frm.refl _ _, fun j r hj hk => ?_, fun j r c hj hl hc => ?_⟩
  · obtain ⟨⟨A, c, e, _⟩, _⟩ := hok
    exact ⟨(upd_self _ _ _).symm, A, _, c, by rw [upd_self]; exact e⟩
  · match h, hh with
    | 0, hh => obtain rfl := Option.some.inj hh; rw [upd_ne g v (by decide)]; exact ⟨es, clock, hent, henc⟩
    | 1, hh => obtain rfl := Option.some.inj hh; rw [upd_self]; exact ⟨hok.1, fun e => by cases e⟩
    | h + 2, hh => exact absurd hh (by simp)
  · match h, hh with
    | 0, hh => obtain rfl := Option.some.inj hh; cases ho
    | 1, hh => obtain rfl := Option.some.inj hh; cases ho
    | h + 2, hh => exact absurd hh (by simp)
  · match j, hj with
    | 0, hj => exact upd_ne g v (by decide)
    | j + 1, hj => exact absurd hj (by simp)
  · match j, hj with
    | 0, hj => exact absurd hl (by simp [lentAt, Res.own])
    | 1, hj =>
      obtain rfl := Option.some.inj hj
      rw [upd_self] at hc
      have hc' : (rowI E (G (.agg cs.toArray))).at v c := by
        cases v with
        | slice A n k => cases A <;> exact hc
        | _ => exact hc
      exact .inr ⟨rfl, 0, _, rfl, rfl, by show memV (g 0) c; rw [henc]; exact memV_enc.2 (hbl c (blkOf_iff.1 hc'))⟩
    | j + 2, hj => exact absurd hj (by simp)
/-! ### Steps by hand -/
theorem wpl_value {ops : Array Oper} {Q : Exit → Act → World → Prop} {a : Act} {w w' : World} {o : Oper} {rest : List Oper} {v : Value} (hg : o.guard = none) (h : (execOp a.eval o).run P w = .ok (.value v) w') (hk : wpList P ops Q rest (a.put o.dst v) w') : wpList P ops Q (o :: rest) a w :=
  wpList_plain hg fun K hK => by unfold Oper.wp; rw [h]; exact hK _ _ hk
theorem wpl_skip {ops : Array Oper} {Q : Exit → Act → World → Prop} {a : Act} {w w' : World} {o : Oper} {rest : List Oper} (hg : o.guard = none) (h : (execOp a.eval o).run P w = .ok .skip w') (hk : wpList P ops Q rest (a.put o.dst undef) w') : wpList P ops Q (o :: rest) a w :=
  wpList_plain hg fun K hK => by unfold Oper.wp; rw [h]; exact hK _ _ hk
theorem eval_tmp {a : Act} {s : Nat} {v : Value} (h : a.tmps[s]? = some v) : a.eval (.tmp s) = v := by simp [Act.eval, h]
theorem put_none_tmps (a : Act) (v : Value) : (a.put none v).tmps = a.tmps := rfl
/-- The tail of 'm[k] = append(m[k], x)'. -/
theorem add_tail (KL : KeyLaw P K) (hT : P.underlying T = some (.map K M)) (hM : P.underlying M = some (.slice E)) {ei : TI} (hE : TypeFits P E ei) (e1 : ei.size = 1) (e2 : ei.zero.cells.size = 1) (e3 : ei.bytes = 8)
    (hz : ∀ u : World, (zeroValue M).run P u = .ok (.slice none 0 0) u) {nt s1 s2 s3 s4 s5 s6 s7 : Nat} {ops : Array Oper} {q : Nat} {o1 o2 o3 o4 o5 : Oper} (hops : ops.toList.drop q = [o1, o2, o3, o4, o5])
    (g1 : o1.guard = none) (g2 : o2.guard = none) (g3 : o3.guard = none) (g4 : o4.guard = none) (g5 : o5.guard = none)
    (p1 : o1.op = .mapEntry T (.tmp s1) (.tmp s2)) (d1 : o1.dst = some s4) (p2 : o2.op = .extract (.tmp s4) 0) (d2 : o2.dst = some s5)
    (p3 : o3.op = .call ⟨.builtin .append, #[.tmp s5, .tmp s3], #[M, M]⟩) (d3 : o3.dst = some s6) (p4 : o4.op = .extract (.tmp s4) 1) (d4 : o4.dst = some s7) (p5 : o5.op = .entryStore T (.tmp s1) (.tmp s7) (.tmp s6)) (d5 : o5.dst = none)
    (hlt : s4 < nt ∧ s5 < nt ∧ s6 < nt ∧ s7 < nt) (hne : s1 ≠ s4 ∧ s1 ≠ s5 ∧ s1 ≠ s6 ∧ s1 ≠ s7 ∧ s3 ≠ s4 ∧ s3 ≠ s5 ∧ s4 ≠ s5 ∧ s4 ≠ s6 ∧ s6 ≠ s7)
    {cs : List Value} {kl : Lit} (hkey : keyOf P K (.agg cs.toArray) = some kl) {ys : List (List Value)} (hn : n ≤ 1000000) (hlen : (G (.agg cs.toArray)).length + ys.length ≤ 1000000) (hys : 0 < ys.length) {G' : Value → List (List Value)} (hG1 : G' (.agg cs.toArray) = G (.agg cs.toArray) ++ ys) (hG2 : ∀ k, k ≠ .agg cs.toArray → G' k = G k) {n' : Nat} (hn' : n' = n + 1) :
    HSpec (fun Q a w => wpList P ops Q (ops.toList.drop q) a w) nt (fun _ : Unit => True) [.abs true (GA P K E b n G), .row true E [.int .i64] ys] [s1, s2, s3] [aV (.map (some b)), .sv (.agg (cs.map .val)), .sv (.lf (.row 1))]
      (fun _ => [.abs true (GA P K E b n' G'), .row true E [.int .i64] ys]) [] (fun _ => []) [s4, s5, s6, s7] := by
  subst hn'
  intro g a w Q hd hsz hm hh hK
  obtain ⟨⟨x1, k1, r1⟩, ⟨x2, k2, r2⟩, ⟨x3, k3, r3⟩, _⟩ := hh
  have r1 : x1 = .map (some b) := r1
  obtain ⟨vs, r2, r2'⟩ := r2
  have hvs : vs = cs.toArray := by
    have := reps_of_vals (g := g) (vs := cs) (us := vs.toList) r2'
    rw [← this]
  subst hvs
  have r3 : x3 = g 1 := r3.1
  obtain ⟨es, clock, hent, henc⟩ := hm.ok 0 _ rfl
  have hu : (rowI E ys).ok G0 w x3 := by rw [r3]; exact hm.ok 1 _ rfl
  have hub : ∀ c, blkOf x3 = some c → c ∉ blocksOf b es := fun c hc hc2 => hm.sep 1 0 _ _ c (by decide) rfl rfl rfl (by rw [← r3]; exact blkOf_iff.2 hc) (by show memV (g 0) c; rw [henc]; exact memV_enc.2 hc2)
  obtain ⟨v0, st, w1, v2, w2, w3, es', clock', q1, q2, q3, hent', hchg, hsub⟩ := add_run KL hT hM hE e1 e2 e3 hz hent hn hkey hu hub hlen hys hG1 hG2 o3.type
  obtain ⟨l4, l5, l6, l7⟩ := hlt
  obtain ⟨n1, n2, n3, n4, n5, n6, n7, n8, n9⟩ := hne
  show wpList P ops Q (ops.toList.drop q) a w
  rw [hops]
  subst r1 r2
  -- the entry
  refine wpl_value (v := .tuple #[v0, goInt st]) (w' := w1) g1 (by simp only [execOp, p1, eval_tmp k1, eval_tmp k2]; simp [q1]) ?_
  rw [d1]
  have A1 : (a.put (some s4) (.tuple #[v0, goInt st])).tmps[s4]? = some (.tuple #[v0, goInt st]) := put_same (by omega)
  have Z1 : (a.put (some s4) (.tuple #[v0, goInt st])).tmps.size = nt := by rw [put_size]; exact hsz
  have O1 : ∀ s, s ≠ s4 → (a.put (some s4) (.tuple #[v0, goInt st])).tmps[s]? = a.tmps[s]? := fun s hs => put_other hs
  have D1 : (a.put (some s4) (.tuple #[v0, goInt st])).defers = [] := by rw [put_defers]; exact hd
  generalize a.put (some s4) (.tuple #[v0, goInt st]) = a1 at A1 Z1 O1 D1 ⊢
  refine wpl_value (v := v0) (w' := w1) g2 (by simp only [execOp, p2, eval_tmp A1]; simp [Instr.extract]) ?_
  rw [d2]
  have A2 : (a1.put (some s5) v0).tmps[s5]? = some v0 := put_same (by omega)
  have Z2 : (a1.put (some s5) v0).tmps.size = nt := by rw [put_size]; exact Z1
  have O2 : ∀ s, s ≠ s5 → (a1.put (some s5) v0).tmps[s]? = a1.tmps[s]? := fun s hs => put_other hs
  have D2 : (a1.put (some s5) v0).defers = [] := by rw [put_defers]; exact D1
  generalize a1.put (some s5) v0 = a2 at A2 Z2 O2 D2 ⊢
  have X3 : a2.tmps[s3]? = some x3 := by rw [O2 s3 n6, O1 s3 n5]; exact k3
  refine wpl_value (v := v2) (w' := w2) g3 (by simp only [execOp, p3, resolve, invoke, builtin, List.map_toArray, List.map_cons, List.map_nil, pure_bind, eval_tmp A2, eval_tmp X3]; simp [q2]) ?_
  rw [d3]
  have A3 : (a2.put (some s6) v2).tmps[s6]? = some v2 := put_same (by omega)
  have Z3 : (a2.put (some s6) v2).tmps.size = nt := by rw [put_size]; exact Z2
  have O3 : ∀ s, s ≠ s6 → (a2.put (some s6) v2).tmps[s]? = a2.tmps[s]? := fun s hs => put_other hs
  have D3 : (a2.put (some s6) v2).defers = [] := by rw [put_defers]; exact D2
  generalize a2.put (some s6) v2 = a3 at A3 Z3 O3 D3 ⊢
  have X4 : a3.tmps[s4]? = some (.tuple #[v0, goInt st]) := by rw [O3 s4 n8, O2 s4 n7]; exact A1
  refine wpl_value (v := goInt st) (w' := w2) g4 (by simp only [execOp, p4, eval_tmp X4]; simp [Instr.extract]) ?_
  rw [d4]
  have A4 : (a3.put (some s7) (goInt st)).tmps[s7]? = some (goInt st) := put_same (by omega)
  have Z4 : (a3.put (some s7) (goInt st)).tmps.size = nt := by rw [put_size]; exact Z3
  have O4 : ∀ s, s ≠ s7 → (a3.put (some s7) (goInt st)).tmps[s]? = a3.tmps[s]? := fun s hs => put_other hs
  have D4 : (a3.put (some s7) (goInt st)).defers = [] := by rw [put_defers]; exact D3
  generalize a3.put (some s7) (goInt st) = a4 at A4 Z4 O4 D4 ⊢
  have X1 : a4.tmps[s1]? = some (.map (some b)) := by rw [O4 s1 n4, O3 s1 n3, O2 s1 n2, O1 s1 n1]; exact k1
  have X6 : a4.tmps[s6]? = some v2 := by rw [O4 s6 n9]; exact A3
  refine wpl_skip (w' := w3) g5 (by simp only [execOp, p5, eval_tmp X1, eval_tmp A4, eval_tmp X6]; simp [q3]) ?_
  rw [d5]
  refine hK () (upd g 0 (encV (blocksOf b es'))) a4 w3 trivial D4 Z4 (fun s hs => ?_) trivial ⟨⟨fun h r hh => ?_, fun h h' r r' c hne hh hh' ho hc => ?_⟩, ⟨hchg.os, hchg.tape, hchg.output, hchg.size, fun c hc hm' => hchg.block c hc fun hc2 => hm' ⟨0, _, rfl, rfl, by show memV (g 0) c; rw [henc]; exact memV_enc.2 hc2⟩⟩, fun j r hj hk => ?_, fun j r c hj hl hc => ?_⟩
  · simp only [HSpec.natIn, Bool.or_eq_false_iff] at hs
    have ne : ∀ {x y : Nat}, Nat.beq x y = false → y ≠ x := fun hb e => by subst e; simp at hb
    rw [O4 s (ne hs.2.2.2.1), O3 s (ne hs.2.2.1), O2 s (ne hs.2.1), O1 s (ne hs.1)]
  · match h, hh with
    | 0, hh => obtain rfl := Option.some.inj hh; rw [upd_self]; exact ⟨es', clock', hent', rfl⟩
    | 1, hh =>
      obtain rfl := Option.some.inj hh
      rw [upd_ne g _ (by decide)]
      refine Res.ok_frame (by rw [← r3]; exact hu) hchg.size fun c hc => ?_
      exact hchg.block c (Res.ok_lt (hm.ok 1 _ rfl) hc) (hub c (by rw [r3]; exact blkOf_iff.1 hc))
    | h + 2, hh => exact absurd hh (by simp)
  · have hx : ∀ c, (rowI E ys).at (g 1) c → ¬ (Res.abs true (GA P K E b (n + 1) G')).at (encV (blocksOf b es')) c := fun c hc1 hc2 => by
      rcases hsub c (memV_enc.1 hc2) with h1 | h1
      · exact hub c (by rw [r3]; exact blkOf_iff.1 hc1) h1
      · have := Res.ok_lt (hm.ok 1 _ rfl) hc1; omega
    match h, h', hh, hh' with
    | 0, 0, _, _ => exact absurd rfl hne
    | 1, 1, _, _ => exact absurd rfl hne
    | 0, 1, hh, hh' =>
      obtain rfl := Option.some.inj hh; obtain rfl := Option.some.inj hh'
      rw [upd_self] at hc; rw [upd_ne g _ (by decide)]
      exact fun h1 => hx c h1 hc
    | 1, 0, hh, hh' =>
      obtain rfl := Option.some.inj hh; obtain rfl := Option.some.inj hh'
      rw [upd_self]; rw [upd_ne g _ (by decide)] at hc
      exact hx c hc
    | h + 2, _, hh, _ => exact absurd hh (by simp)
    | _, h' + 2, _, hh' => exact absurd hh' (by simp)
  · match j, hj with
    | 0, hj => obtain rfl := Option.some.inj hj; cases hk
    | 1, hj => obtain rfl := Option.some.inj hj; cases hk
    | j + 2, hj => exact absurd hj (by simp)
  · match j, hj with
    | 0, hj =>
      obtain rfl := Option.some.inj hj
      rw [upd_self] at hc
      left
      rcases hsub c (memV_enc.1 hc) with h1 | h1
      · exact .inr ⟨0, _, rfl, rfl, by show memV (g 0) c; rw [henc]; exact memV_enc.2 h1⟩
      · exact .inl h1
    | 1, hj =>
      obtain rfl := Option.some.inj hj
      rw [upd_ne g _ (by decide)] at hc
      exact .inl (.inr ⟨1, _, rfl, rfl, hc⟩)
    | j + 2, hj => exact absurd hj (by simp)
end
end Go.Proofs.Ytgicfkgiecgjoaa.RS
