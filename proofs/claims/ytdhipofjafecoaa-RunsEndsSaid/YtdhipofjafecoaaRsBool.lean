/- A lent row of marks, as the world has it. -/
import Derived.Test.YtdhipofjafecoaaRsShelf
set_option linter.unusedVariables false
set_option linter.unusedSimpArgs false
namespace Go.Proofs.Ytdhipofjafecoaa.RS
open Go Go.RowKit
theorem row_bool {g : Gam} {w : World} {E : TypeId} {xs : List (List Value)} (hm : Mem g [.row false E [.bool] xs] w) : ∃ (A : Option Addr) (c b off : Nat), g 0 = .slice A xs.length c ∧ (0 < xs.length → A = some ⟨b, off, none⟩) ∧ (0 < xs.length → b < w.heap.size) ∧ ∀ j, j < xs.length → w.cell? ⟨b, off + j, none⟩ = some (.bool (bt xs j)) := by
  obtain ⟨⟨A, c, hg, k1, k2, k3, k4⟩, _⟩ := hm.ok 0 _ rfl
  by_cases hz : xs.length = 0
  · exact ⟨A, c, 0, 0, hg, fun h => by omega, fun h => by omega, fun j hj => by omega⟩
  · obtain ⟨ad, rfl, hlt, hc⟩ := k4 (by omega)
    have hcell : ∀ j, j < xs.length → w.cell? (ad.add j) = some (.bool (bt xs j)) := fun j hj => by
      have e := hc j 0 hj (by simp)
      simp only [List.length_cons, List.length_nil, Nat.zero_add, Nat.mul_one, Nat.add_zero] at e
      rw [e]
      have hf := fitsAll_at 0 .bool (k3 xs[j] (List.getElem_mem hj)) rfl
      obtain ⟨s, hs⟩ := hf
      have hca : cellAt xs j 0 = .bool s := by
        unfold cellAt; rw [show xs.getD j [] = xs[j] by simp [List.getD, hj]]; exact hs
      unfold bt
      rw [hca]; rfl
    have hspot : ad.spot = none := by
      have e := hcell 0 (by omega)
      cases hs : ad.spot with
      | none => rfl
      | some x =>
        have : ad.add 0 = ad := by simp [Addr.add]
        rw [this] at e
        unfold World.cell? at e
        split at e
        · simp [hs] at e
        · cases e
    have had : ∀ j, ad.add j = ⟨ad.block, ad.off + j, none⟩ := fun j => by
      obtain ⟨bk, o, sp⟩ := ad
      simp only at hspot
      subst hspot
      unfold Addr.add
      by_cases hj : j = 0
      · simp [hj]
      · simp [hj]
    refine ⟨_, c, ad.block, ad.off, hg, fun _ => ?_, fun _ => hlt, fun j hj => by rw [← had, hcell j hj]⟩
    obtain ⟨bk, o, sp⟩ := ad
    simp only at hspot
    rw [hspot]
end Go.Proofs.Ytdhipofjafecoaa.RS
