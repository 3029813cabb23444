/- From the reading of an argument as a row of integers to Ints. -/
import Derived.Test.YtebmachppbpdmaaBase
namespace Go.Proofs.Ytebmachppbpdmaa
open Go.RowKit

/-- What is told of a slice of integers that came in: it is nil; or it leads to a row of 'cap' cells, the numbers 'zs' (the first 'len' are its elements), each fitting its kind. -/
def IsRow (k : IntKind) (w : World) (a : Option Addr) (len cap : Nat) (zs : List Int) : Prop :=
  (a = none ∧ len = 0 ∧ cap = 0 ∧ zs = []) ∨
  ∃ x, a = some x ∧ len ≤ cap ∧ cap ≤ maxLen ∧ zs.length = cap ∧ (∀ i, i < zs.length → w.cell? (x.add i) = some (.int k (zs.getD i 0))) ∧ ∀ n ∈ zs, (Lit.int k n).wf = true

theorem addr_plain {w : World} {x : Addr} {v : Value} (h : w.cell? (x.add 0) = some v) : ∃ b off, x = ⟨b, off, none⟩ := by
  obtain ⟨b, off, spot⟩ := x
  have hspot : spot = none := by simpa [Addr.add] using World.cell?_spot h
  exact ⟨b, off, by rw [hspot]⟩

theorem IsRow.ints {w : World} {a : Option Addr} {n cap : Nat} {zs : List Int} (h : IsRow .i64 w a n cap zs) (hn : n * 8 ≤ 140737488355328) : Ints w a n cap (zs.take n) := by
  rcases h with ⟨rfl, rfl, rfl, rfl⟩ | ⟨x, rfl, hl, hm, hz, hc, hw⟩
  · exact Ints.nil w
  · refine ⟨by simp [hz]; omega, hl, hn, fun y hy => I64.of_wf (hw y (List.mem_of_mem_take hy)), fun j hj => ?_⟩
    obtain ⟨b, off, rfl⟩ := addr_plain (hc 0 (by omega))
    refine ⟨b, off, rfl, ?_⟩
    have := hc j (by omega)
    rw [Addr.add_lit] at this
    rw [this, List.getElem?_take, if_pos hj]
    rfl
end Go.Proofs.Ytebmachppbpdmaa
