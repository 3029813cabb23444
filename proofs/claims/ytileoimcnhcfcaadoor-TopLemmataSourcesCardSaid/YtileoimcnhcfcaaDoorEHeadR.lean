/- The errors of a section, sigla and tokens: the reference. -/
import Derived.Test.YtileoimcnhcfcaaDoorEChkC
set_option linter.unusedVariables false
set_option linter.unusedSimpArgs false
namespace Go.Proofs.YtileoimcnhcfcaaDoor
open Go.RowKit

theorem hasS_take {l : List ByteArray} {i : Nat} {s : ByteArray} (hi : i ≤ l.length) : hasS (l.take i) s = false ↔ ∀ q, q < i → l[q]?.getD ⟨#[]⟩ ≠ s := by
  have : hasS (l.take i) s = true ↔ ∃ q, q < i ∧ l[q]?.getD ⟨#[]⟩ = s := by
    rw [hasS_iff, List.mem_iff_getElem?]
    constructor
    · rintro ⟨q, hq⟩
      rw [List.getElem?_take] at hq
      split at hq
      · exact ⟨q, by assumption, by rw [hq]; rfl⟩
      · cases hq
    · rintro ⟨q, h1, h2⟩
      refine ⟨q, ?_⟩
      rw [List.getElem?_take, if_pos h1, List.getElem?_eq_getElem (by omega)]
      rw [List.getElem?_eq_getElem (by omega)] at h2
      exact congrArg some h2
  constructor
  · intro h q hq e
    rw [this.2 ⟨q, hq, e⟩] at h; cases h
  · intro h
    cases e : hasS (l.take i) s with
    | false => rfl
    | true => obtain ⟨q, h1, h2⟩ := this.1 e; exact absurd h2 (h q h1)
end Go.Proofs.YtileoimcnhcfcaaDoor
