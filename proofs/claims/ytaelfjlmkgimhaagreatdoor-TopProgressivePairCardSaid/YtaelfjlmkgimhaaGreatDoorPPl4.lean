/- What comes next in columns; the rows of the edit distance. No program here. -/
import Derived.Test.YtaelfjlmkgimhaaGreatDoorPPl3
set_option linter.unusedVariables false
set_option linter.unusedSimpArgs false
namespace Go.Proofs.YtaelfjlmkgimhaaGreatDoor

/-- In a list whose entries are 0, 1, .. in order: an entry is how many came before. -/
theorem nxt_ent {α : Type} {e : α → Option Nat} {pre post : List α} {c : α} {n k : Nat} (h : (pre ++ c :: post).filterMap e = List.range n) (hc : e c = some k) : k = (pre.filterMap e).length ∧ k < n := by
  rw [List.filterMap_append, List.filterMap_cons_some hc] at h
  have h1 : (List.range n)[(pre.filterMap e).length]? = some k := by rw [← h, List.getElem?_append_right (Nat.le_refl _)]; simp
  obtain ⟨hl, e1⟩ := List.getElem?_eq_some_iff.1 h1
  rw [List.getElem_range] at e1
  rw [List.length_range] at hl
  exact ⟨e1.symm, by omega⟩
theorem all_ent {α : Type} {e : α → Option Nat} {l : List α} {n : Nat} (h : l.filterMap e = List.range n) : (l.filterMap e).length = n := by rw [h, List.length_range]

section
variable (eq : Nat → Nat → Bool)
/-- The next row of the table of distances. -/
def nrow (bf : Nat → Nat) (i : Nat) : Nat → Nat
  | 0 => i + 1
  | k + 1 => min (bf k + (if eq i k then 0 else 1)) (min (bf (k + 1) + 1) (nrow bf i k + 1))
def rowF : Nat → Nat → Nat
  | 0 => fun k => k
  | i + 1 => nrow eq (rowF i) i
theorem nrow_le (bf : Nat → Nat) (i : Nat) : ∀ k, nrow eq bf i k ≤ i + 1 + k
  | 0 => Nat.le_refl _
  | k + 1 => by have := nrow_le bf i k; rw [nrow]; omega
theorem rowF_le : ∀ i k, rowF eq i k ≤ i + k
  | 0, k => by show k ≤ 0 + k; omega
  | i + 1, k => nrow_le eq _ i k
end
def dstB (a b : ByteArray) : Nat := rowF (fun i k => decide (a.data.toList[i]? = b.data.toList[k]?)) a.size b.size
theorem dstB_le (a b : ByteArray) : dstB a b ≤ a.size + b.size := rowF_le _ _ _
end Go.Proofs.YtaelfjlmkgimhaaGreatDoor
