/- A table: rows of numbers, each in a block of its own. -/
import Derived.Test.YtaelfjlmkgimhaaGreatDoorPMov
import Derived.Test.YtaelfjlmkgimhaaGreatDoorPPl5
import Derived.Test.YtaelfjlmkgimhaaGreatDoorPTrA
set_option linter.unusedVariables false
set_option linter.unusedSimpArgs false
namespace Go.Proofs.YtaelfjlmkgimhaaGreatDoor
open Go.RowKit

/-- One end for several orders. -/
theorem treA_key {P : Program} {X : Type} {Wf : X → World} {Q : Exit → Act → World → Prop} {l : List Oper} {T : Act → World → Prop} {t : TreA} {a : Act} {w : World} (R : Act → Act → World → Prop) (h2 : ∀ a' w', R a a' w' → T a' w') (h1 : (∀ a' w', R a a' w' → T a' w') → wpTreA P l Q Wf T t a w) : wpTreA P l Q Wf T t a w := h1 h2
/-- A block that is full. -/
theorem full_block {w : World} {B : Nat} {e : TypeId} {g n : Nat} {xs : List Value} (h : w.ownsRow B e 1 (.slice (some ⟨g, 0, none⟩) n n) n xs) : w.heap[g]? = some (.cells xs.toArray e (0, 0)) ∧ B ≤ g := by
  rcases h.2 with ⟨hv, -⟩ | ⟨g', cap, cur, hv, hb, hg, h1, h2, h3, h4⟩
  · cases hv
  · cases hv
    rw [Nat.mul_one] at h3 h4
    have e1 : cur.toList = xs := by rw [← h4, List.take_of_length_le (by rw [Array.length_toList, h3]; exact Nat.le_refl _)]
    rw [← e1]
    exact ⟨hg, hb⟩
def rowA (T : Nat → Int) (M : Nat) : Array Value := ((List.range M).map fun k => Value.int .i64 (T k)).toArray
theorem rowA_get {T : Nat → Int} {M k : Nat} (h : k < M) : (rowA T M)[k]? = some (.int .i64 (T k)) := by
  simp [rowA, h]
theorem rowA_set (T : Nat → Int) (M k : Nat) (v : Int) : (rowA T M).setIfInBounds k (.int .i64 v) = rowA (fun j => if j = k then v else T j) M := by
  apply Array.ext_getElem?
  intro j
  rw [Array.getElem?_setIfInBounds]
  by_cases hj : j < M
  · rw [rowA_get hj]
    by_cases hk : k = j
    · subst hk; simp [rowA, hj]
    · rw [if_neg hk, rowA_get hj, if_neg (Ne.symm hk)]
  · have h1 : (rowA T M)[j]? = none := by simp [rowA]; omega
    have h2 : (rowA (fun j => if j = k then v else T j) M)[j]? = none := by simp [rowA]; omega
    rw [h1, h2]
    split
    · rw [if_neg (by simp [rowA]; omega)]
    · rfl
theorem rowA_congr {T U : Nat → Int} {M : Nat} (h : ∀ k, k < M → T k = U k) : rowA T M = rowA U M := by
  unfold rowA
  congr 1
  refine List.map_congr_left fun k hk => ?_
  rw [h k (List.mem_range.1 hk)]
theorem rowA_zero (M : Nat) : (List.replicate M (Value.int .i64 0)).toArray = rowA (fun _ => 0) M := by
  unfold rowA
  congr 1
  rw [List.map_const', List.length_range]
/-- The outer slice, of whose rows j are there. -/
def outA (rows : Nat → Nat) (M N j : Nat) : Array Value := ((List.range N).map fun i => if i < j then Value.slice (some ⟨rows i, 0, none⟩) M M else .slice none 0 0).toArray
theorem outA_get {rows : Nat → Nat} {M N j i : Nat} (h : i < j) (hN : i < N) : (outA rows M N j)[i]? = some (.slice (some ⟨rows i, 0, none⟩) M M) := by
  simp [outA, h, hN]
theorem outA_none {rows : Nat → Nat} {M N j i : Nat} (h : ¬ i < j) (hN : i < N) : (outA rows M N j)[i]? = some (.slice none 0 0) := by
  simp [outA, h, hN]
theorem outA_zero (rows : Nat → Nat) (M N : Nat) : (List.replicate N (Value.slice none 0 0)).toArray = outA rows M N 0 := by
  unfold outA
  congr 1
  simp only [Nat.not_lt_zero, if_false]
  rw [List.map_const', List.length_range]
theorem outA_set (rows : Nat → Nat) (M N j b : Nat) : (outA rows M N j).setIfInBounds j (.slice (some ⟨b, 0, none⟩) M M) = outA (fun i => if i = j then b else rows i) M N (j + 1) := by
  apply Array.ext_getElem?
  intro i
  rw [Array.getElem?_setIfInBounds]
  by_cases hi : i < N
  · by_cases hk : j = i
    · subst hk
      rw [if_pos rfl, outA_get (by omega) hi, if_pos (by simp [outA]; omega)]; simp
    · rw [if_neg hk]
      by_cases hij : i < j
      · rw [outA_get hij hi, outA_get (by omega) hi, if_neg (Ne.symm hk)]
      · rw [outA_none hij hi, outA_none (by omega) hi]
  · have h1 : (outA rows M N j)[i]? = none := by simp [outA]; omega
    have h2 : (outA (fun i => if i = j then b else rows i) M N (j + 1))[i]? = none := by simp [outA]; omega
    rw [h1, h2]
    split
    · rw [if_neg (by simp [outA]; omega)]
    · rfl
/-- A table of N rows of M numbers, of which j rows are there. -/
structure Tbl (w : World) (B g N M j : Nat) (rows : Nat → Nat) (T : Nat → Nat → Int) : Prop where
  outer : w.heap[g]? = some (.cells (outA rows M N j) 27 (0, 0))
  inner : ∀ i, i < j → w.heap[rows i]? = some (.cells (rowA (T i) M) 3 (0, 0))
  lo : B ≤ g
  lor : ∀ i, i < j → B ≤ rows i
  ne : ∀ i, i < j → rows i ≠ g
  inj : ∀ i k, i < j → k < j → rows i = rows k → i = k
namespace Tbl
variable {w w' : World} {B g N M j : Nat} {rows : Nat → Nat} {T : Nat → Nat → Int}
theorem glt (h : Tbl w B g N M j rows T) : g < w.heap.size := (Array.getElem?_eq_some_iff.1 h.outer).1
theorem rlt (h : Tbl w B g N M j rows T) {i : Nat} (hi : i < j) : rows i < w.heap.size := (Array.getElem?_eq_some_iff.1 (h.inner i hi)).1
/-- What leaves the blocks as they are. -/
theorem same (h : Tbl w B g N M j rows T) (hg : w'.heap[g]? = w.heap[g]?) (hr : ∀ i, i < j → w'.heap[rows i]? = w.heap[rows i]?) : Tbl w' B g N M j rows T :=
  ⟨hg.trans h.outer, fun i hi => (hr i hi).trans (h.inner i hi), h.lo, h.lor, h.ne, h.inj⟩
theorem below (h : Tbl w B g N M j rows T) (hb : Below w.heap.size w w') : Tbl w' B g N M j rows T := h.same (hb.block _ h.glt) fun i hi => hb.block _ (h.rlt hi)
theorem mono (h : Tbl w B g N M j rows T) {B' : Nat} (hB : B' ≤ B) : Tbl w B' g N M j rows T := ⟨h.outer, h.inner, Nat.le_trans hB h.lo, fun i hi => Nat.le_trans hB (h.lor i hi), h.ne, h.inj⟩
theorem setOther (h : Tbl w B g N M j rows T) {b k : Nat} (hg : b ≠ g) (hr : ∀ i, i < j → b ≠ rows i) (v : Value) : Tbl (w.setCell ⟨b, k, none⟩ v) B g N M j rows T :=
  h.same (heap_setCell_other (Ne.symm hg) v) fun i hi => heap_setCell_other (Ne.symm (hr i hi)) v
theorem cellO (h : Tbl w B g N M j rows T) {i : Nat} (hi : i < j) (hN : i < N) : w.cell? ⟨g, i, none⟩ = some (.slice (some ⟨rows i, 0, none⟩) M M) := by
  rw [cell_row h.outer, outA_get hi hN]
theorem cellN (h : Tbl w B g N M j rows T) {i : Nat} (hi : ¬ i < j) (hN : i < N) : w.cell? ⟨g, i, none⟩ = some (.slice none 0 0) := by
  rw [cell_row h.outer, outA_none hi hN]
theorem freeO (h : Tbl w B g N M j rows T) (i : Nat) : w.frozen? ⟨g, i, none⟩ = false := by simp [World.frozen?, h.outer]
theorem cellI (h : Tbl w B g N M j rows T) {i k : Nat} (hi : i < j) (hk : k < M) : w.cell? ⟨rows i, k, none⟩ = some (.int .i64 (T i k)) := by
  rw [cell_row (h.inner i hi), rowA_get hk]
theorem freeI (h : Tbl w B g N M j rows T) {i : Nat} (hi : i < j) (k : Nat) : w.frozen? ⟨rows i, k, none⟩ = false := by simp [World.frozen?, h.inner i hi]
/-- A row more. -/
theorem addRow (h : Tbl w B g N M j rows T) {b : Nat} (hb : w.heap[b]? = some (.cells (rowA (T j) M) 3 (0, 0))) (hB : B ≤ b) (hg : b ≠ g) (hr : ∀ i, i < j → b ≠ rows i) :
    Tbl (w.setCell ⟨g, j, none⟩ (.slice (some ⟨b, 0, none⟩) M M)) B g N M (j + 1) (fun i => if i = j then b else rows i) T := by
  refine ⟨by rw [heap_setCell_self h.outer, outA_set], fun i hi => ?_, h.lo, fun i hi => ?_, fun i hi => ?_, fun i k hi hk => ?_⟩
  · split
    · rename_i e; subst e; exact (heap_setCell_other hg _).trans hb
    · exact (heap_setCell_other (h.ne i (by omega)) _).trans (h.inner i (by omega))
  · split
    · exact hB
    · exact h.lor i (by omega)
  · split
    · exact hg
    · exact h.ne i (by omega)
  · split <;> split
    · intro _; omega
    · intro e; exact absurd e (hr k (by omega))
    · intro e; exact absurd e.symm (hr i (by omega))
    · exact h.inj i k (by omega) (by omega)
/-- A number is stored. -/
theorem put (h : Tbl w B g N M j rows T) {i : Nat} (hi : i < j) (k : Nat) (v : Int) : Tbl (w.setCell ⟨rows i, k, none⟩ (.int .i64 v)) B g N M j rows (fun i' k' => if i' = i ∧ k' = k then v else T i' k') := by
  refine ⟨(heap_setCell_other (Ne.symm (h.ne i hi)) _).trans h.outer, fun q hq => ?_, h.lo, h.lor, h.ne, h.inj⟩
  by_cases e : q = i
  · subst e
    rw [heap_setCell_self (h.inner q hq), rowA_set]
    congr 2
    refine rowA_congr fun k' _ => ?_
    simp
  · rw [heap_setCell_other (fun x => e (h.inj q i hq hi x)) _, h.inner q hq]
    congr 2
    refine rowA_congr fun k' _ => ?_
    simp [e]
theorem congr {U : Nat → Nat → Int} (h : Tbl w B g N M j rows T) (he : ∀ i k, i < j → k < M → T i k = U i k) : Tbl w B g N M j rows U :=
  ⟨h.outer, fun i hi => by rw [h.inner i hi, rowA_congr fun k hk => he i k hi hk], h.lo, h.lor, h.ne, h.inj⟩
end Tbl
/-- Two tables that lie apart. -/
def TblApart (j g1 g2 : Nat) (r1 r2 : Nat → Nat) : Prop := g1 ≠ g2 ∧ (∀ i, i < j → r1 i ≠ g2) ∧ (∀ i, i < j → r2 i ≠ g1) ∧ ∀ i k, i < j → k < j → r1 i ≠ r2 k
end Go.Proofs.YtaelfjlmkgimhaaGreatDoor
