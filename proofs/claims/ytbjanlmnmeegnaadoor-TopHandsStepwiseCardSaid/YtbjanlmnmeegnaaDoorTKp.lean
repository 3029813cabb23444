/- A body's own blocks: the variable's, and the slice's that it holds. -/
import Derived.Test.YtbjanlmnmeegnaaDoorTOwn
set_option linter.unusedVariables false
set_option linter.unusedSimpArgs false
namespace Go.Proofs.YtbjanlmnmeegnaaDoor
open Go.RowKit

/-- The body's own: the variable's block, and the block that it points to. -/
def OwB (b4 : Nat) (A : World) (b : Nat) : Prop := b = b4 ∨ ∃ y n c, A.cell? ⟨b4, 0, none⟩ = some (.slice (some y) n c) ∧ y.block = b
theorem owB_below {b4 : Nat} {A B : World} (h4 : b4 < A.heap.size) (h : Below A.heap.size A B) : ∀ b, OwB b4 B b ↔ OwB b4 A b := by
  have e : B.cell? ⟨b4, 0, none⟩ = A.cell? ⟨b4, 0, none⟩ := World.cell?_of_block (h.block b4 h4)
  intro b; unfold OwB; rw [e]
theorem OwnQ.ownKept {α : Type} {e size : Nat} {enc : α → List Value} {W W' : World} {B B0 n cap : Nat} {a : Option Addr} {l : List α} {row : Option Nat} (h : OwnQ e size enc W B a n cap l) (hg : W.grownBy W' row) (hr : ∀ r, row = some r → B0 ≤ r ∧ ∃ o : Obj, W.heap[r]? = some o ∧ o.isCells = false) : OwnQ e size enc W' B a n cap l := by
  refine h.kept hg fun x hx e => ?_
  obtain ⟨_, o, ho, hc⟩ := hr x.block e.symm
  subst hx
  rcases h.2.2 with ⟨h0, _⟩ | ⟨g, cap', cur, hv, hB, hgc, _⟩
  · cases h0
  · cases hv
    rw [hgc] at ho; cases ho; cases hc
/-- One element more: what the body's append turns. -/
theorem kpO_app {α : Type} {e size : Nat} {enc : α → List Value} {b4 : Nat} {W W1 W2 : World} {B n cap n' c' : Nat} {a a' : Option Addr} {l l' : List α} (h4 : b4 < W.heap.size) (hc : W.cell? ⟨b4, 0, none⟩ = some (.slice a n cap)) (ho : OwnQ e size enc W B a n cap l) (ho2 : OwnQ e size enc W2 B a' n' c' l') (hb1 : Below W.heap.size W W1) (hg : W1.grownBy W2 (Value.slice a n cap).ownBlock)
    (hv : (Value.slice a' n' c').ownBlock = (Value.slice a n cap).ownBlock ∨ (Value.slice a' n' c').ownBlock = some W1.heap.size) (hcell : ∃ u, W2.cell? ⟨b4, 0, none⟩ = some u) : KpO (OwB b4) W (W2.setCell ⟨b4, 0, none⟩ (.slice a' n' c')) := by
  have hsz : (W2.setCell ⟨b4, 0, none⟩ (.slice a' n' c')).heap.size = W2.heap.size := by simp [World.setCell]
  have hl1 := hb1.size
  have hl2 := hg.size
  have hnew : (W2.setCell ⟨b4, 0, none⟩ (.slice a' n' c')).cell? ⟨b4, 0, none⟩ = some (.slice a' n' c') := by
    obtain ⟨u, hu⟩ := hcell
    exact World.cell?_setCell_same _ _ _ (by first | exact hu | (rw [hu]; rfl) | simp [hu])
  have hown : ∀ b, OwB b4 (W2.setCell ⟨b4, 0, none⟩ (.slice a' n' c')) b → b = b4 ∨ ∃ y, a' = some y ∧ y.block = b := by
    rintro b (rfl | ⟨y, n2, c2, h, e⟩)
    · exact .inl rfl
    · rw [hnew] at h; cases h; exact .inr ⟨y, rfl, e⟩
  refine ⟨by omega, fun b cs t fr hb hA => ?_, fun b hb => ?_, fun _ b hb => ?_⟩
  · have hbl : b < W.heap.size := (Array.getElem?_eq_some_iff.1 hA).1
    have hb4 : b ≠ b4 := fun e => hb (.inl e)
    rw [Below.heap_setCell _ _ _ _ (by exact hb4), hg.block b (by omega) (fun e => ?_), hb1.block b hbl]
    · exact hA
    · cases a with
      | none => cases e
      | some y => exact hb (.inr ⟨y, n, cap, hc, (Option.some.inj e).symm⟩)
  · rcases hown b hb with rfl | ⟨y, rfl, rfl⟩
    · exact .inl (.inl rfl)
    · rcases hv with e | e
      · cases a with
        | none => cases e
        | some z => exact .inl (.inr ⟨z, n, cap, hc, (Option.some.inj e).symm⟩)
      · have := Option.some.inj e; exact .inr (by show W.heap.size ≤ y.block; omega)
  · rcases hown b hb with rfl | ⟨y, rfl, rfl⟩
    · omega
    · have := (ho2.lt y rfl).2; omega
theorem kpO_put {b4 : Nat} {W : World} {l : Nat} {o : Obj} (hl : l ≠ b4) (h : W.heap[l]? = some o) (hc : o.isCells = false) (o' : Obj) : KpO (OwB b4) W (W.putObj l o') := by
  have hsz : (W.putObj l o').heap.size = W.heap.size := by simp [World.putObj]
  have he : (W.putObj l o').cell? ⟨b4, 0, none⟩ = W.cell? ⟨b4, 0, none⟩ := World.cell?_of_block (World.putObj_heap_other (Ne.symm hl))
  have how : ∀ b, OwB b4 (W.putObj l o') b ↔ OwB b4 W b := fun b => by unfold OwB; rw [he]
  refine ⟨by omega, fun b cs t fr _ hA => ?_, fun b hb => .inl ((how b).1 hb), fun hn b hb => by rw [hsz]; exact hn b ((how b).1 hb)⟩
  have : b ≠ l := fun e => by subst e; rw [h] at hA; cases hA; cases hc
  rw [World.putObj_heap_other this]; exact hA
theorem keepsFrom_app {α : Type} {e size : Nat} {enc : α → List Value} {b4 B0 : Nat} {W W1 W2 : World} {B n cap : Nat} {a : Option Addr} {l : List α} (h4 : b4 < B0) (ho : OwnQ e size enc W B a n cap l) (hb1 : Below W.heap.size W W1) (hg : W1.grownBy W2 (Value.slice a n cap).ownBlock) (v : Value) : KeepsFrom B0 W (W2.setCell ⟨b4, 0, none⟩ v) := by
  have hsz : (W2.setCell ⟨b4, 0, none⟩ v).heap.size = W2.heap.size := by simp [World.setCell]
  have h1 := hb1.size
  have h2 := hg.size
  refine ⟨by omega, fun k o hk hk1 hc => ?_⟩
  have hkl : k < W.heap.size := (Array.getElem?_eq_some_iff.1 hk1).1
  rw [Below.heap_setCell _ _ _ _ (by show k ≠ b4; omega), hg.block k (by omega) (fun e => ?_), hb1.block k hkl]
  · exact hk1
  · rcases ho.2.2 with ⟨h0, _⟩ | ⟨g, cap', cur, hv, hB, hgc, _⟩
    · cases h0; cases e
    · cases hv
      cases e
      rw [hgc] at hk1; cases hk1; cases hc
end Go.Proofs.YtbjanlmnmeegnaaDoor
