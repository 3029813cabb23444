/- Can an operation be applied at its place? Join, split, shift. -/
import Derived.Test.YtileoimcnhcfcaaDoorEChkR
set_option linter.unusedVariables false
set_option linter.unusedSimpArgs false
namespace Go.Proofs.YtileoimcnhcfcaaDoor
open Go.RowKit

/-- Three boxes, one behind the other. -/
theorem box3 (w : World) (C O P : Array Value) (tc to tp : TypeId) : Below w.heap.size w (((w.alloc (.cells C tc)).alloc (.cells O to)).alloc (.cells P tp)) ∧ w.heap.size + 2 < (((w.alloc (.cells C tc)).alloc (.cells O to)).alloc (.cells P tp)).heap.size ∧
    (∀ (i : Nat) (u : Value), C[i]? = some u → (((w.alloc (.cells C tc)).alloc (.cells O to)).alloc (.cells P tp)).cell? ⟨w.heap.size, i, none⟩ = some u) ∧
    (∀ (i : Nat) (u : Value), O[i]? = some u → (((w.alloc (.cells C tc)).alloc (.cells O to)).alloc (.cells P tp)).cell? ⟨w.heap.size + 1, i, none⟩ = some u) ∧
    (∀ (i : Nat) (u : Value), P[i]? = some u → (((w.alloc (.cells C tc)).alloc (.cells O to)).alloc (.cells P tp)).cell? ⟨w.heap.size + 1 + 1, i, none⟩ = some u) := by
  have s1 : (w.alloc (.cells C tc)).heap.size = w.heap.size + 1 := by simp
  have s2 : ((w.alloc (.cells C tc)).alloc (.cells O to)).heap.size = w.heap.size + 1 + 1 := by simp
  have b2 : Below ((w.alloc (.cells C tc)).alloc (.cells O to)).heap.size ((w.alloc (.cells C tc)).alloc (.cells O to)) (((w.alloc (.cells C tc)).alloc (.cells O to)).alloc (.cells P tp)) := (Below.refl _ _).alloc (Nat.le_refl _) _
  have b1 : Below (w.alloc (.cells C tc)).heap.size (w.alloc (.cells C tc)) ((w.alloc (.cells C tc)).alloc (.cells O to)) := (Below.refl _ _).alloc (Nat.le_refl _) _
  refine ⟨(((Below.refl _ w).alloc (Nat.le_refl _) _).alloc (by simp) _).alloc (by simp; omega) _, by simp, fun i u h => ?_, fun i u h => ?_, fun i u h => ?_⟩
  · exact cell_later b2 (cell_later b1 (by rw [World.cell?_alloc_at _ _ _ _ rfl]; exact h))
  · exact cell_later b2 (by rw [World.cell?_alloc_at _ _ _ _ (by rw [s1])]; exact h)
  · rw [World.cell?_alloc_at _ _ _ _ (by rw [s2])]; exact h
theorem row_of {x : Col} {c : Nat} {r : List Int} (h : x.cols[c]? = some r) : x.row c = r := by unfold Col.row; rw [h]; rfl
theorem ent_of {r : List Int} {i : Nat} {u : Int} (h : r[i]? = some u) : ent r i = u := by unfold ent; rw [h]; rfl
end Go.Proofs.YtileoimcnhcfcaaDoor

/- Can an operation be applied at its place? Shift, regularize. -/
namespace Go.Proofs.YtileoimcnhcfcaaDoor
open Go.RowKit

end Go.Proofs.YtileoimcnhcfcaaDoor
