/- transcript.right: the error of a node (printed by gen_trgt.py). -/
import Derived.Test.YtbjanlmnmeegnaaDoorTMkd
import Derived.Test.YtbjanlmnmeegnaaDoorETok
set_option linter.unusedVariables false
set_option linter.unusedSimpArgs false
namespace Go.Proofs.YtbjanlmnmeegnaaDoor
open Go.RowKit Go.Shelf

abbrev Ck (t : ByteArray) : Prop := chkS t = 0
abbrev Wk (t : ByteArray) : Prop := isWordP t = true
abbrev Nk (t : ByteArray) : Prop := isNameP t = true
/-- The node at its place is right. -/
def rgtP (k : Int) (t : ByteArray) (nn : Int) (ps : List Nd) (d : Nat) (tx : Bool) : Prop := fitF Ck Wk Nk k t nn ps ∧ (k = 4 → d = 0) ∧ (k = 1 → tx = false)
/-- What right answers. -/
def RgtP (P : Prop) (w : World) (e : Ending) (w' : World) : Prop := ∃ c : Int, e = .returned (.int .i64 c) ∧ (c = 0 ↔ P) ∧ Below w.heap.size w w'
theorem rgt_no {P : Prop} {w w' : World} {c : Int} (hc : c ≠ 0) (hP : ¬ P) (hb : Below w.heap.size w w') : RgtP P w (.returned (.int .i64 c)) w' := ⟨c, rfl, ⟨fun h => absurd h hc, fun h => absurd h hP⟩, hb⟩
theorem rgt_yes {P : Prop} {w w' : World} (hP : P) (hb : Below w.heap.size w w') : RgtP P w (.returned (.int .i64 0)) w' := ⟨0, rfl, ⟨fun _ => hP, fun _ => rfl⟩, hb⟩
theorem box_cells6 {W : World} {b : Nat} {c0 c1 c2 c3 c4 c5 : Value} {t : TypeId} (h : W.heap[b]? = some (.cells #[c0, c1, c2, c3, c4, c5] t (0, 0))) :
    W.cell? ⟨b, 0, none⟩ = some c0 ∧ W.cell? ⟨b, 1, none⟩ = some c1 ∧ W.cell? ⟨b, 2, none⟩ = some c2 ∧ W.cell? ⟨b, 3, none⟩ = some c3 ∧ W.cell? ⟨b, 4, none⟩ = some c4 ∧ W.cell? ⟨b, 5, none⟩ = some c5 :=
  ⟨by rw [Lib.cell_of_heap h]; rfl, by rw [Lib.cell_of_heap h]; rfl, by rw [Lib.cell_of_heap h]; rfl, by rw [Lib.cell_of_heap h]; rfl, by rw [Lib.cell_of_heap h]; rfl, by rw [Lib.cell_of_heap h]; rfl⟩
theorem isEmpty_ne {t : ByteArray} (h : t.size ≠ 0) : t.toList.isEmpty = false := by
  have hts0 := str_no (s := t) (t := ⟨#[]⟩) (fun e => h (by rw [e]; rfl))
  cases hq : t.toList with
  | nil => rw [hq] at hts0; simp at hts0
  | cons => rfl
theorem empty_of {t : ByteArray} (h : t.size = 0) : t = ⟨#[]⟩ := by
  obtain ⟨⟨l⟩⟩ := t
  cases l with
  | nil => rfl
  | cons => simp [ByteArray.size] at h
end Go.Proofs.YtbjanlmnmeegnaaDoor
