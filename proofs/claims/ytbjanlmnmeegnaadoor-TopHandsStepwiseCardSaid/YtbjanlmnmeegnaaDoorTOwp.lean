/- A struct of four cells is stored into an own slice; what a body's append and stores leave. -/
import Derived.Test.YtbjanlmnmeegnaaDoorTKp
set_option linter.unusedVariables false
set_option linter.unusedSimpArgs false
namespace Go.Proofs.YtbjanlmnmeegnaaDoor
open Go.RowKit

theorem own_cells {α : Type} {e size : Nat} {enc : α → List Value} {W : World} {B n cap : Nat} {a : Option Addr} {l : List α} (h : OwnQ e size enc W B a n cap l) {y : Addr} (hy : a = some y) {o : Obj} (ho : W.heap[y.block]? = some o) (hc : o.isCells = false) : False := by
  subst hy
  rcases h.2.2 with ⟨h0, _⟩ | ⟨g, cap', cur, hv, hB, hgc, _⟩
  · cases h0
  · cases hv
    rw [hgc] at ho; cases ho; cases hc
theorem flat_set4 {α : Type} {enc : α → List Value} (henc : ∀ x, (enc x).length = 4) (x : α) {d0 d1 d2 d3 : Value} (hx : enc x = [d0, d1, d2, d3]) : ∀ (l : List α) (j : Nat), (l.set j x).flatMap enc = ((((l.flatMap enc).set (j * 4) d0).set (j * 4 + 1) d1).set (j * 4 + 2) d2).set (j * 4 + 3) d3
  | [], j => by simp
  | y :: l, j => by
    obtain ⟨y0, y1, y2, y3, hy⟩ : ∃ y0 y1 y2 y3, enc y = [y0, y1, y2, y3] := by
      have := henc y
      match h : enc y with
      | [a, b, c, d] => exact ⟨a, b, c, d, rfl⟩
      | [] => rw [h] at this; cases this
      | [_] => rw [h] at this; cases this
      | [_, _] => rw [h] at this; cases this
      | [_, _, _] => rw [h] at this; cases this
      | _ :: _ :: _ :: _ :: _ :: _ => rw [h] at this; simp at this
    cases j with
    | zero => rw [List.set_cons_zero, List.flatMap_cons, List.flatMap_cons, hx, hy]; rfl
    | succ j =>
      rw [List.set_cons_succ, List.flatMap_cons, List.flatMap_cons, flat_set4 henc x hx l j, hy, show (j + 1) * 4 = j * 4 + 4 by omega]
      rfl
abbrev put4o (W : World) (b o : Nat) (d0 d1 d2 d3 : Value) : World := (((W.setCell ⟨b, o, none⟩ d0).setCell ⟨b, o + 1, none⟩ d1).setCell ⟨b, o + 2, none⟩ d2).setCell ⟨b, o + 3, none⟩ d3
theorem OwnQ.put4 {α : Type} {enc : α → List Value} {e B g n cap : Nat} {w : World} {l : List α} (h : OwnQ e 4 enc w B (some ⟨g, 0, none⟩) n cap l) (henc : ∀ x, (enc x).length = 4) (j : Nat) (x : α) {d0 d1 d2 d3 : Value} (hx : enc x = [d0, d1, d2, d3]) :
    OwnQ e 4 enc (put4o w g (j * 4) d0 d1 d2 d3) B (some ⟨g, 0, none⟩) n cap (l.set j x) := by
  refine ⟨by simpa using h.1, ?_⟩
  rw [flat_set4 henc x hx]
  exact ((((h.2.stored (j * 4) d0).1.stored (j * 4 + 1) d1).1.stored (j * 4 + 2) d2).1.stored (j * 4 + 3) d3).1
theorem OwnQ.putText {α : Type} {enc : α → List Value} {e B g n cap : Nat} {w : World} {l : List α} (h : OwnQ e 4 enc w B (some ⟨g, 0, none⟩) n cap l) (henc : ∀ x, (enc x).length = 4) (j : Nat) (y x : α) (hj : l[j]? = some y) {d0 d1 d2 d3 v : Value} (hy : enc y = [d0, d1, d2, d3]) (hx : enc x = [d0, v, d2, d3]) :
    OwnQ e 4 enc (w.setCell ⟨g, j * 4 + 1, none⟩ v) B (some ⟨g, 0, none⟩) n cap (l.set j x) := by
  refine ⟨by simpa using h.1, ?_⟩
  have e1 : (l.set j x).flatMap enc = (l.flatMap enc).set (j * 4 + 1) v := by
    rw [flat_set4 henc x hx]
    have f := fun i (hi : i < 4) => flat_get henc l j y i hj hi
    rw [hy] at f
    have f0 := f 0 (by omega); have f2 := f 2 (by omega); have f3 := f 3 (by omega)
    apply List.ext_getElem?
    intro i
    simp only [List.getElem?_set, List.length_set]
    repeat' split
    all_goals first | rfl | (exfalso; omega) | (subst_vars; first | exact f3.symm | exact f2.symm | exact f0.symm | exact (List.getElem?_eq_none_iff.2 (by omega)).symm)
  rw [e1]
  exact (h.2.stored _ v).1
theorem OwnQ.setOther {α : Type} {e size : Nat} {enc : α → List Value} {w : World} {B : Nat} {a : Option Addr} {n cap : Nat} {l : List α} (h : OwnQ e size enc w B a n cap l) {g j : Nat} (hg : ∀ x, a = some x → x.block ≠ g) (v : Value) : OwnQ e size enc (w.setCell ⟨g, j, none⟩ v) B a n cap l := by
  refine ⟨h.1, ownsRow_setCell_other h.2 ?_ v⟩
  cases a with
  | none => simp [Value.ownBlock]
  | some x => simpa [Value.ownBlock] using hg x rfl
theorem set_last {α : Type} {l : List α} {z x : α} {m : Nat} (h : m = l.length) : (l ++ [z]).set m x = l ++ [x] := by subst h; simp
theorem put4o_other {W : World} {b o b' : Nat} (hb : b' ≠ b) (d0 d1 d2 d3 : Value) : (put4o W b o d0 d1 d2 d3).heap[b']? = W.heap[b']? := by
  rw [heap_setCell_other hb, heap_setCell_other hb, heap_setCell_other hb, heap_setCell_other hb]
theorem put4o_size (W : World) (b o : Nat) (d0 d1 d2 d3 : Value) : (put4o W b o d0 d1 d2 d3).heap.size = W.heap.size := by simp [World.setCell]
theorem put4o_below {n : Nat} {A W : World} (h : Below n A W) {b o : Nat} (hb : n ≤ b) (d0 d1 d2 d3 : Value) : Below n A (put4o W b o d0 d1 d2 d3) :=
  below_setc (below_setc (below_setc (below_setc h hb _ _) hb _ _) hb _ _) hb _ _
/-- What a body's append and stores leave. -/
theorem owB_end {α : Type} {e size : Nat} {enc : α → List Value} {b4 B0 B n cap n' c' : Nat} {W V : World} {a a' : Option Addr} {l l' : List α} (h4 : b4 < B0) (h4B : b4 < B) (hc : W.cell? ⟨b4, 0, none⟩ = some (.slice a n cap)) (ho : OwnQ e size enc W B a n cap l) (ho2 : OwnQ e size enc V B a' n' c' l') (hbox : V.cell? ⟨b4, 0, none⟩ = some (.slice a' n' c')) (hsz : W.heap.size ≤ V.heap.size)
    (hK : ∀ b, b < W.heap.size → b ≠ b4 → (∀ y, a = some y → y.block ≠ b) → V.heap[b]? = W.heap[b]?) (hv : ∀ y, a' = some y → (∃ z, a = some z ∧ z.block = y.block) ∨ W.heap.size ≤ y.block) : KpO (OwB b4) W V ∧ KeepsFrom B0 W V := by
  have h4W := World.block_lt_of_cell? _ _ hc
  have hown : ∀ b, OwB b4 V b → b = b4 ∨ ∃ y, a' = some y ∧ y.block = b := by
    rintro b (rfl | ⟨y, n2, c2, h, e⟩)
    · exact .inl rfl
    · rw [hbox] at h; cases h; exact .inr ⟨y, rfl, e⟩
  refine ⟨⟨hsz, fun b cs t fr hb hA => ?_, fun b hb => ?_, fun _ b hb => ?_⟩, hsz, fun b o hb hA hc' => ?_⟩
  · have hbl := (Array.getElem?_eq_some_iff.1 hA).1
    rw [hK b hbl (fun e => hb (.inl e)) (fun y hy e => hb (.inr ⟨y, n, cap, by rw [hc, hy], e⟩))]
    exact hA
  · rcases hown b hb with rfl | ⟨y, hy, rfl⟩
    · exact .inl (.inl rfl)
    · rcases hv y hy with ⟨z, hz, e⟩ | h
      · exact .inl (.inr ⟨z, n, cap, by rw [hc, hz], e⟩)
      · exact .inr h
  · rcases hown b hb with rfl | ⟨y, hy, rfl⟩
    · have : b < W.heap.size := h4W
      omega
    · exact (ho2.lt y hy).2
  · have hbl := (Array.getElem?_eq_some_iff.1 hA).1
    rw [hK b hbl (by omega) (fun y hy e => own_cells ho hy (by rw [e]; exact hA) hc')]
    exact hA
end Go.Proofs.YtbjanlmnmeegnaaDoor
