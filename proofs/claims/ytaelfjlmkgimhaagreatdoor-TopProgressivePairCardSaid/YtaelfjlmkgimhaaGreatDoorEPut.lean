/- A struct of three, or of four, cells is stored. -/
import Derived.Test.YtaelfjlmkgimhaaGreatDoorEDat
namespace Go.Proofs.YtaelfjlmkgimhaaGreatDoor
open Go.RowKit

theorem heap_set_at {W : World} {b j : Nat} {cs : Array Value} {t : TypeId} {fr : Nat × Nat} (h : W.heap[b]? = some (.cells cs t fr)) (v : Value) : (W.setCell ⟨b, j, none⟩ v).heap[b]? = some (.cells (cs.setIfInBounds j v) t fr) := by
  simp [World.setCell, Array.getElem?_modify, h]
abbrev put3 (W : World) (b : Nat) (d0 d1 d2 : Value) : World := ((W.setCell ⟨b, 0, none⟩ d0).setCell ⟨b, 1, none⟩ d1).setCell ⟨b, 2, none⟩ d2
theorem put3_at {W : World} {b : Nat} {c0 c1 c2 : Value} {t : TypeId} {fr : Nat × Nat} (h : W.heap[b]? = some (.cells #[c0, c1, c2] t fr)) (d0 d1 d2 : Value) : (put3 W b d0 d1 d2).heap[b]? = some (.cells #[d0, d1, d2] t fr) := by
  have h0 := heap_set_at (j := 0) h d0
  have h1 := heap_set_at (j := 1) h0 d1
  have h2 := heap_set_at (j := 2) h1 d2
  rw [h2]; rfl
theorem put3_below {n : Nat} {A W : World} (h : Below n A W) {b : Nat} (hb : n ≤ b) (d0 d1 d2 : Value) : Below n A (put3 W b d0 d1 d2) :=
  ((h.setCell (p := ⟨b, 0, none⟩) hb _).setCell (p := ⟨b, 1, none⟩) hb _).setCell (p := ⟨b, 2, none⟩) hb _
theorem box_cells3 {W : World} {b : Nat} {c0 c1 c2 : Value} {t : TypeId} (h : W.heap[b]? = some (.cells #[c0, c1, c2] t (0, 0))) :
    W.cell? ⟨b, 0, none⟩ = some c0 ∧ W.cell? ⟨b, 1, none⟩ = some c1 ∧ W.cell? ⟨b, 2, none⟩ = some c2 ∧ ∀ j, W.frozen? ⟨b, j, none⟩ = false :=
  ⟨by rw [Lib.cell_of_heap h]; rfl, by rw [Lib.cell_of_heap h]; rfl, by rw [Lib.cell_of_heap h]; rfl, fun j => Lib.frozen_of_heap h j⟩
abbrev put4 (W : World) (b : Nat) (d0 d1 d2 d3 : Value) : World := (((W.setCell ⟨b, 0, none⟩ d0).setCell ⟨b, 1, none⟩ d1).setCell ⟨b, 2, none⟩ d2).setCell ⟨b, 3, none⟩ d3
theorem put4_at {W : World} {b : Nat} {c0 c1 c2 c3 : Value} {t : TypeId} {fr : Nat × Nat} (h : W.heap[b]? = some (.cells #[c0, c1, c2, c3] t fr)) (d0 d1 d2 d3 : Value) : (put4 W b d0 d1 d2 d3).heap[b]? = some (.cells #[d0, d1, d2, d3] t fr) := by
  have h0 := heap_set_at (j := 0) h d0
  have h1 := heap_set_at (j := 1) h0 d1
  have h2 := heap_set_at (j := 2) h1 d2
  have h3 := heap_set_at (j := 3) h2 d3
  rw [h3]; rfl
theorem put4_other {W : World} {b b' : Nat} (hb : b' ≠ b) (d0 d1 d2 d3 : Value) : (put4 W b d0 d1 d2 d3).heap[b']? = W.heap[b']? := by
  have hh : ∀ (W : World) (j : Nat) (v : Value), (W.setCell ⟨b, j, none⟩ v).heap[b']? = W.heap[b']? := fun W j v => Below.heap_setCell _ _ _ _ (by simpa using hb)
  rw [hh, hh, hh, hh]
theorem put4_size (W : World) (b : Nat) (d0 d1 d2 d3 : Value) : (put4 W b d0 d1 d2 d3).heap.size = W.heap.size := by simp [World.setCell]
theorem put4_below {n : Nat} {A W : World} (h : Below n A W) {b : Nat} (hb : n ≤ b) (d0 d1 d2 d3 : Value) : Below n A (put4 W b d0 d1 d2 d3) :=
  (((h.setCell (p := ⟨b, 0, none⟩) hb _).setCell (p := ⟨b, 1, none⟩) hb _).setCell (p := ⟨b, 2, none⟩) hb _).setCell (p := ⟨b, 3, none⟩) hb _
theorem put4_keep {S : Nat → Prop} {W : World} {b : Nat} (hb : ¬ S b) (d0 d1 d2 d3 : Value) : KeepS S W (put4 W b d0 d1 d2 d3) :=
  (((KeepS.setCell W hb d0).trans (KeepS.setCell _ hb d1)).trans (KeepS.setCell _ hb d2)).trans (KeepS.setCell _ hb d3)
theorem box_cells4 {W : World} {b : Nat} {c0 c1 c2 c3 : Value} {t : TypeId} (h : W.heap[b]? = some (.cells #[c0, c1, c2, c3] t (0, 0))) :
    W.cell? ⟨b, 0, none⟩ = some c0 ∧ W.cell? ⟨b, 1, none⟩ = some c1 ∧ W.cell? ⟨b, 2, none⟩ = some c2 ∧ W.cell? ⟨b, 3, none⟩ = some c3 ∧ ∀ j, W.frozen? ⟨b, j, none⟩ = false :=
  ⟨by rw [Lib.cell_of_heap h]; rfl, by rw [Lib.cell_of_heap h]; rfl, by rw [Lib.cell_of_heap h]; rfl, by rw [Lib.cell_of_heap h]; rfl, fun j => Lib.frozen_of_heap h j⟩
end Go.Proofs.YtaelfjlmkgimhaaGreatDoor
