/- A loop over an iterator: the assignment and the body of a round in one walk. -/
import Derived.Test.YtaelfjlmkgimhaaGreatDoorPTk4
import Derived.Test.YtaelfjlmkgimhaaGreatDoorEIter
import Derived.Test.YtaelfjlmkgimhaaGreatDoorETree
set_option linter.unusedVariables false
set_option linter.unusedSimpArgs false
namespace Go.Proofs.YtaelfjlmkgimhaaGreatDoor
open Go.RowKit Go.Shelf

/-- A loop over an iterator: what a round is to show is shown behind its assignment. -/
theorem iter_loop {α : Type} {n : Nat} {g : Operand} {ps : Array Tmp} {assign body : Code} {Q : Exit → Act → World → Prop} {a : Act} {w : World}
    (hn : 3 ≤ n) {gf : Nat} {lb : Array Value} (hg : a.eval g = .func (.func gf) #[] lb) (eg : ∀ args w, (callFunc gf args).run Tryz.prog w = .ok (.enter gf args) w)
    {encs : α → Array Value} {Kp : World → World → Prop} {S Sp : List α → Prop} {N : Nat} (hseq : SeqStopsK Fence.wide (n - 1) Tryz.prog gf lb encs Kp S Sp N w)
    (hKt : ∀ {A B C : World}, Kp A B → Kp B C → Kp A C) (hKr : ∀ A, Kp A A) (hKb : ∀ (W : World) (l : Nat) (o o' : Obj), w.heap.size ≤ l → W.heap[l]? = some o → o.isCells = false → o.isWalk = false → Kp W (W.putObj l o')) (hps : ∀ x, (encs x).size = ps.size)
    (I : List α → World → Prop) (Ix : Code → List α → World → Prop) (hI : OwnFrom w.heap.size I) (hIx : ∀ c, OwnFrom w.heap.size (Ix c)) (h0 : I [] w)
    (hround : ∀ (l : Nat) (x : α) (W : World) (K : Act → Prop), (∀ a', (∀ (lv : Nat) (pre : List α) (W : World), I pre W → pre.length < N → body.wpIn (Fence.wide.inRound lv) (n - 1 - 1) Tryz.prog (ownPostG w.heap.size Kp I Ix (pre ++ [x]) W) a' W) → K a') →
      assign.wpIn (Fence.wide.inRound l) (n - 1 - 1) Tryz.prog (Exit.then (fun a' W' => W' = W ∧ K a') (fun _ _ _ => False)) { tmps := (ps.zip (encs x)).foldl (fun t (p, v) => t.setIfInBounds p v) a.tmps, defers := [] } W)
    (hdone : ∀ (D : Nat) (xs : List α) (W : World), w.heap.size ≤ D → S xs → I xs W → W.heap[D]? = some (.deferred (some [])) → Q .normal { a with defers := { target := .collected D, args := #[] } :: a.defers } W)
    (hstop : ∀ (D : Nat) (c : Code) (pre : List α) (W : World), w.heap.size ≤ D → Sp pre → Ix c pre W → W.heap[D]? = some (.deferred (some [])) → c.wpIn Fence.wide n Tryz.prog Q { a with defers := { target := .collected D, args := #[] } :: a.defers } W) :
    (Code.rangeFunc g ps assign body).wpIn Fence.wide n Tryz.prog Q a w :=
  wpIn_rangeFunc_ownH (α := α) (n := n) (F := Fence.wide) rfl (by omega) hg trivial eg hseq hKt hKb (Below.refl _ _) hps I Ix hI hIx h0
    (fun x a' _ => ∀ (lv : Nat) (pre : List α) (W : World), I pre W → pre.length < N → body.wpIn (Fence.wide.inRound lv) (n - 1 - 1) Tryz.prog (ownPostG w.heap.size Kp I Ix (pre ++ [x]) W) a' W)
    (fun x a' => fun _ _ _ _ h _ _ => h)
    (fun l pre x W K hi hK => wpIn_mono (hround l x W (fun a' => K a' W) (fun a' ha => hK a' W (KeepsFrom.refl _ _) (hKr _) hi ha)) (fun e a' W' h => by
      cases e with
      | normal => obtain ⟨rfl, h⟩ := h; exact h
      | _ => exact h))
    (fun l pre x a' W _ _ hi ha hlt => ha l pre W hi hlt) hdone hstop
/-- A box of one cell. -/
theorem one_box {W : World} {b : Nat} {v : Value} {t : TypeId} (h : W.heap[b]? = some (.cells #[v] t (0, 0))) : W.cell? ⟨b, 0, none⟩ = some v ∧ W.frozen? ⟨b, 0, none⟩ = false := by
  constructor
  · rw [cell_row h]; rfl
  · simp [World.frozen?, h]
theorem one_set {W : World} {b : Nat} {v : Value} {t : TypeId} (h : W.heap[b]? = some (.cells #[v] t (0, 0))) (u : Value) : (W.setCell ⟨b, 0, none⟩ u).heap[b]? = some (.cells #[u] t (0, 0)) := by
  rw [heap_setCell_self h]; rfl
theorem keepsFrom_setc {B : Nat} {W W1 : World} (h : KeepsFrom B W W1) {b j : Nat} (hb : b < B) (v : Value) : KeepsFrom B W (W1.setCell ⟨b, j, none⟩ v) :=
  ⟨by simp [World.setCell]; exact h.1, fun k o hk h1 hc => by rw [Below.heap_setCell _ _ _ _ (by show k ≠ b; omega)]; exact h.2 k o hk h1 hc⟩
end Go.Proofs.YtaelfjlmkgimhaaGreatDoor
