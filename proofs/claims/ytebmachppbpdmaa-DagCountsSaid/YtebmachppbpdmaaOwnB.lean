/- A slice of bools of the call's own. -/
import Derived.Test.YtebmachppbpdmaaBase
namespace Go.Proofs.Ytebmachppbpdmaa
open Go.RowKit

theorem Try.infoBool : (Try.prog.info? 4).map (fun i => (i.zero, i.size, i.bytes)) = some (some (.bool false), 1, 1) := by kernel_rfl

/-- A slice of bools of the call's own. -/
def OwnB (w : World) (g n : Nat) (bs : List Bool) : Prop := w.ownsRow g 4 1 (.slice (some ⟨g, 0, none⟩) n n) n (bs.map Value.bool)
namespace OwnB
variable {w : World} {g n : Nat} {bs : List Bool}
theorem made (h : w.ownsRow g 4 1 (.slice (some ⟨g, 0, none⟩) n n) n (madeCells (Value.bool false).cells (n * 1)).toList) : OwnB w g n (List.replicate n false) := by
  unfold OwnB
  rw [List.map_replicate]
  have e : (madeCells (Value.bool false).cells (n * 1)).toList = List.replicate n (Value.bool false) := by
    rw [Nat.mul_one]; exact toList_madeCells_one _ _
  rw [← e]; exact h
theorem cell (h : OwnB w g n bs) : ∀ j, j < n → w.cell? ⟨g, j, none⟩ = some (.bool (bs[j]?.getD false)) := by
  intro j hj
  have hlen : bs.length = n := by have := h.1; simpa using this
  have := h.cellAt j (by omega)
  rw [this]
  simp [hlen, hj]
theorem free (h : OwnB w g n bs) (j : Nat) : w.frozen? ⟨g, j, none⟩ = false := h.frozenAt j
theorem stored (h : OwnB w g n bs) (j : Nat) (b : Bool) : OwnB (w.setCell ⟨g, j, none⟩ (.bool b)) g n (bs.set j b) := by
  unfold OwnB; rw [List.map_set]; exact (World.ownsRow.stored h j _).1
theorem drewN (h : OwnB w g n bs) (q : Nat) : OwnB (w.drewN q) g n bs := h
end OwnB

end Go.Proofs.Ytebmachppbpdmaa
