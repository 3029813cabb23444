/- A slice of its own that holds a row of numbers. -/
import Derived.Test.YtaelfjlmkgimhaaGreatDoorEPut
import Derived.Test.YtaelfjlmkgimhaaGreatDoorEIter
import Derived.Test.YtaelfjlmkgimhaaGreatDoorPPl4
set_option linter.unusedVariables false
set_option linter.unusedSimpArgs false
namespace Go.Proofs.YtaelfjlmkgimhaaGreatDoor
open Go.RowKit

def rowL (r : Nat → Nat) (m : Nat) : List Int := (List.range (m + 1)).map fun k => (r k : Int)
theorem rowL_len (r : Nat → Nat) (m : Nat) : (rowL r m).length = m + 1 := by simp [rowL]
theorem rowL_at {r : Nat → Nat} {m k : Nat} (h : k ≤ m) : (rowL r m)[k]?.getD 0 = (r k : Int) := by
  rw [rowL, List.getElem?_map, List.getElem?_range (by omega)]; rfl
theorem rowL_set (r : Nat → Nat) (m k v : Nat) : (rowL r m).set k (v : Int) = rowL (fun j => if j = k then v else r j) m := by
  apply List.ext_getElem?
  intro j
  rw [List.getElem?_set]
  by_cases hj : j < m + 1
  · rw [rowL, rowL, List.getElem?_map, List.getElem?_map, List.getElem?_range hj]
    by_cases hk : k = j
    · subst hk; rw [if_pos rfl, if_pos (by simp; omega)]; simp
    · rw [if_neg hk]; simp [Ne.symm hk]
  · rw [List.getElem?_eq_none (by rw [rowL_len]; omega : (rowL (fun j => if j = k then v else r j) m).length ≤ j), List.getElem?_eq_none (by rw [rowL_len]; omega : (rowL r m).length ≤ j)]
    split
    · rw [if_neg (by rw [rowL_len]; omega)]
    · rfl
theorem rowL_congr {r s : Nat → Nat} {m : Nat} (h : ∀ k, k ≤ m → r k = s k) : rowL r m = rowL s m := by
  unfold rowL
  refine List.map_congr_left fun k hk => ?_
  rw [h k (by have := List.mem_range.1 hk; omega)]
theorem rowL_zero (m : Nat) : List.replicate (m + 1) (0 : Int) = rowL (fun _ => 0) m := by
  apply List.ext_getElem?
  intro j
  rw [List.getElem?_replicate, rowL, List.getElem?_map]
  by_cases hj : j < m + 1
  · rw [if_pos hj, List.getElem?_range hj]; rfl
  · rw [if_neg hj, List.getElem?_eq_none (by simpa using hj)]; rfl
theorem OwnI.other {W : World} {B g b j n cap : Nat} {l : List Int} (h : OwnI W B (some ⟨g, 0, none⟩) n cap l) (hne : g ≠ b) (v : Value) : OwnI (W.setCell ⟨b, j, none⟩ v) B (some ⟨g, 0, none⟩) n cap l :=
  h.kept (row := some b) ⟨rfl, rfl, rfl, by simp [World.setCell], fun k hk hb => by rw [heap_setCell_other (fun e => hb (by rw [e])) v]⟩ (fun x hx e => by cases hx; exact hne (Option.some.inj e))
end Go.Proofs.YtaelfjlmkgimhaaGreatDoor
