/- RS: arguments that are arrays. -/
import Derived.Test.YtpjiobflmcmlmaaRsV
set_option linter.unusedVariables false
namespace Go.Proofs.Ytpjiobflmcmlmaa.RS
open Go Go.RowKit Go.ChangeShapes Go.WideShapes
theorem open_arr {P : Program} {w : World} {r : Reach} {base : Nat} {t e : TypeId} {n : Nat} {ts : List TypeId} {v : Value} (hu : P.underlying t = some (.array n e)) (hct : P.cellTypes P.depth t = some ts) (hp : 0 < ts.length) (hsz : P.cellsOf t = n) (hk : ∀ i, i < n → ts[i % ts.length]? = some e) (h : Value.okWide P w r base t v) : ∃ cs : List Value, v = .agg cs.toArray ∧ CellsOK P w r base (List.replicate n e) cs := by
  simp only [Value.okWide, hu] at h
  obtain ⟨cs, rfl, h2, ts', h3, _, h5⟩ := h
  rw [hct] at h3
  obtain rfl := Option.some.inj h3
  refine ⟨cs.toList, by simp, cellsOK_of (by simpa using h2.trans hsz) fun i v hv => ?_⟩
  have hv' : cs[i]? = some v := by simpa using hv
  obtain ⟨u, h6, h7⟩ := h5 i v hv'
  have hlt : i < n := by
    have := (Array.getElem?_eq_some_iff.1 hv').1
    omega
  rw [hk i hlt] at h6
  obtain rfl := Option.some.inj h6
  exact ⟨e, by simp [hlt], h7⟩
end Go.Proofs.Ytpjiobflmcmlmaa.RS
