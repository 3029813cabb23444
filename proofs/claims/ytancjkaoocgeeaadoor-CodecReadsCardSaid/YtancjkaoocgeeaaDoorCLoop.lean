/- A loop over all values in a value, in the words of KeepS. -/
import Derived.Test.YtancjkaoocgeeaaDoorCAll
namespace Go.Proofs.YtancjkaoocgeeaaDoor
open Go.RowKit Go.Shelf
attribute [local go_sem] Oper.semAt_some

theorem all_in (m : Nat) (w : World) : ∀ (v : Vl), CallsIn Fence.wide m Tryd.prog 41 #[v.val] w fun e w' => e = .returned (.func (.func 54) #[] #[.pointer (some ⟨w.heap.size, 0, none⟩)]) ∧ w' = w.alloc (.cells v.cells 24)
  | .mk k nn t a c l => by
    refine callsIn_of_wp Tryd.func41 rfl trivial ?_ rfl
    simp only [Tryd.ntmps41, List.size_toArray, List.length_cons, List.length_nil, Nat.reduceAdd, Nat.reduceSub, Array.replicate_succ, Array.replicate_zero, List.push_toArray, List.append_toArray, List.nil_append, List.cons_append]
    dsimp only [Vl.val, Vl.cells, Vl.kind, Vl.num, Vl.text, Vl.sl, Vl.addr, Vl.items, Vl.cap]
    gi_wp2
    go_ret
    exact ⟨rfl, rfl⟩
/-- What is kept stays kept when an object that is no cells turns. -/
theorem KeepS.own {S : Nat → Prop} {A W W' : World} {B : Nat} {row : Option Nat} (h : KeepS S A W) (hg : W.grownBy W' row) (hr : ∀ r, row = some r → B ≤ r ∧ ∃ o : Obj, W.heap[r]? = some o ∧ o.isCells = false) : KeepS S A W' :=
  ⟨Nat.le_trans h.1 hg.size, fun b cs t fr hs hb => by
    have hb' := h.2 b cs t fr hs hb
    rw [hg.block b (Array.getElem?_eq_some_iff.1 hb').1 (fun e => by
      obtain ⟨_, o, ho, hc⟩ := hr b e.symm
      rw [hb'] at ho; cases ho; cases hc)]
    exact hb'⟩
theorem cells_own {W W' : World} {B b : Nat} {row : Option Nat} {cs : Array Value} {t : TypeId} {fr : Nat × Nat} (h : W.heap[b]? = some (.cells cs t fr)) (hg : W.grownBy W' row) (hr : ∀ r, row = some r → B ≤ r ∧ ∃ o : Obj, W.heap[r]? = some o ∧ o.isCells = false) : W'.heap[b]? = some (.cells cs t fr) := by
  rw [hg.block b (Array.getElem?_eq_some_iff.1 h).1 (fun e => by
    obtain ⟨_, o, ho, hc⟩ := hr b e.symm
    rw [h] at ho; cases ho; cases hc)]
  exact h
theorem all_loop {n i1 i2 : Nat} {g0 : Operand} {assign body : Code} {Q : Exit → Act → World → Prop} {act : Act} {WL : World} (hn : 3 ≤ n) (bv : Nat) (v : Vl) (G : Nat → Prop)
    (hg0 : act.eval g0 = .func (.func 54) #[] #[.pointer (some ⟨bv, 0, none⟩)])
    (hv : VAt WL bv 0 v) (hr : Rd (Out G) WL v) (hG : ∀ b, G b → b < WL.heap.size) (hbv : ¬ G bv)
    (I : List (El v) → World → Prop) (Ix : Code → List (El v) → World → Prop) (hI : OwnFrom WL.heap.size I) (hIx : ∀ c, OwnFrom WL.heap.size (Ix c)) (h0 : I [] WL)
    (Ax : El v → Act → World → Prop) (hAx : ∀ x a', OwnFrom WL.heap.size (fun (_ : Unit) W => Ax x a' W))
    (hassign : ∀ (l : Nat) (pre : List (El v)) (x : El v) (W : World) (K : Act → World → Prop), I pre W → (∀ a' W', KeepsFrom WL.heap.size W W' → KeepS (Out G) W W' → I pre W' → Ax x a' W' → K a' W') →
      assign.wpIn (Fence.wide.inRound l) (n - 1 - 1) Tryd.prog (Exit.then K (fun _ _ _ => False)) { tmps := (#[i1, i2].zip (elEnc v x)).foldl (fun t (p, v) => t.setIfInBounds p v) act.tmps, defers := [] } W)
    (hbody : ∀ (l : Nat) (pre : List (El v)) (x : El v) (a' : Act) (W : World), I pre W → Ax x a' W → pre.length < (els v).length → body.wpIn (Fence.wide.inRound l) (n - 1 - 1) Tryd.prog (ownPostG WL.heap.size (KeepS (Out G)) I Ix (pre ++ [x]) W) a' W)
    (hdone : ∀ (D : Nat) (W : World), WL.heap.size ≤ D → I (els v) W → W.heap[D]? = some (.deferred (some [])) → Q .normal { act with defers := { target := .collected D, args := #[] } :: act.defers } W)
    (hstop : ∀ (D : Nat) (c : Code) (pre : List (El v)) (W : World), WL.heap.size ≤ D → pre <+: els v → Ix c pre W → W.heap[D]? = some (.deferred (some [])) → c.wpIn Fence.wide n Tryd.prog Q { act with defers := { target := .collected D, args := #[] } :: act.defers } W) :
    (Code.rangeFunc g0 #[i1, i2] assign body).wpIn Fence.wide n Tryd.prog Q act WL :=
  wpIn_rangeFunc_ownH (α := El v) (n := n) (F := Fence.wide) rfl (by omega) hg0 trivial (enters_of Tryd.func54 (by kernel_rfl) rfl)
    (all_stops (n - 1) G bv WL v hv hr hG hbv) KeepS.trans
    (fun W _ _ o' _ h hc _ => KeepS.putObj W h hc o') (Below.refl _ _) (fun _ => rfl) I Ix hI hIx h0 Ax hAx hassign
    (fun l pre x a' W _ _ hp ha hlt => hbody l pre x a' W hp ha hlt) (fun D _ W hD he hp hd => hdone D W hD (he ▸ hp) hd) hstop
end Go.Proofs.YtancjkaoocgeeaaDoor
