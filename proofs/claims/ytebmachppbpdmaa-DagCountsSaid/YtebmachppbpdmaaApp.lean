/- Appending one int to a slice of the call's own: the step of the walk, in the words of OwnI. -/
import Derived.Test.YtebmachppbpdmaaBase
import Derived.Maps.AppendAt
import Derived.Maps.OwnIn
namespace Go.Proofs.Ytebmachppbpdmaa
open Go.RowKit

theorem cell_lit1 (w : World) (x : Value) (t : TypeId) {k : Nat} (hk : k = w.heap.size) : (w.alloc (.cells #[x] t)).cell? ⟨k, 0, none⟩ = some x := by
  subst hk; simp [World.cell?_alloc_at]
theorem below_own {w0 w w' : World} {B : Nat} {a : Option Addr} {n cap : Nat} {l : List Int} (ho : OwnI w B a n cap l) (hb : Below B w0 w) (hs : B ≤ w.heap.size) (hg : w.grownBy w' (Value.slice a n cap).ownBlock) : Below B w0 w' :=
  hb.grown hg hs (fun j hj => (ho.2.lt j hj).1)
section
variable {ops : Array Oper} {rest : List Oper} {o : Oper} {act : Act} {Q : Exit → Act → World → Prop} {w w0 : World} {B : Nat} {a : Option Addr} {n cap b : Nat} {l : List Int} {y : Int}
theorem wpList_appI (hgd : o.guard = none) (s x : Operand) (ho : o.op = .call { callee := .builtin .append, args := #[s, x], argTypes := #[26, 26] })
    (hs : act.eval s = .slice a n cap) (hx : act.eval x = .slice (some ⟨b, 0, none⟩) 1 1) (hown : OwnI w B a n cap l) (hy : w.cell? ⟨b, 0, none⟩ = some (.int .i64 y)) (hn : n ≤ 1000000) (hB : B ≤ w.heap.size) (hb : Below B w0 w)
    (h : ∀ a' c' w', OwnI w' B a' (n + 1) c' (l ++ [y]) → Below B w0 w' → w.grownBy w' (Value.slice a n cap).ownBlock → ((Value.slice a' (n + 1) c').ownBlock = (Value.slice a n cap).ownBlock ∨ (Value.slice a' (n + 1) c').ownBlock = some w.heap.size) → wpList Try.prog ops Q rest (act.put o.dst (.slice a' (n + 1) c')) w') :
    wpList Try.prog ops Q (o :: rest) act w := by
  obtain ⟨i0, hi, hz0, hz1, hz2⟩ := info_parts Try.infoInt
  refine wpList_append_own_at _ hgd s x 26 ho B 3 i0 (.int .i64 0) 1 8 Try.underlying26 hi hz0 hz1 hz2 rfl (by decide) _ _ _ hs hown.2 ⟨b, 0, none⟩ 1 1 [.int .i64 y] hx rfl
    (fun j u hj => by
      match j, hj with
      | 0, hj => simp at hj; subst hj; exact hy) (by simp [Value.oneCell']) (by unfold maxLen; omega) (by omega) hB ?_
  intro v' w' h1 h2 _ h4
  obtain ⟨a', c', rfl, hO⟩ := OwnI.appended (m := [y]) h1 hown.len
  exact h a' c' w' hO (below_own hown hb hB h2) h2 h4
theorem wpListIn_appI {F : Fence} {nF : Nat} (hgd : o.guard = none) (s x : Operand) (ho : o.op = .call { callee := .builtin .append, args := #[s, x], argTypes := #[26, 26] })
    (hs : act.eval s = .slice a n cap) (hx : act.eval x = .slice (some ⟨b, 0, none⟩) 1 1) (hown : OwnI w B a n cap l) (hy : w.cell? ⟨b, 0, none⟩ = some (.int .i64 y)) (hn : n ≤ 1000000) (hB : B ≤ w.heap.size) (hb : Below B w0 w)
    (h : ∀ a' c' w', OwnI w' B a' (n + 1) c' (l ++ [y]) → Below B w0 w' → w.grownBy w' (Value.slice a n cap).ownBlock → ((Value.slice a' (n + 1) c').ownBlock = (Value.slice a n cap).ownBlock ∨ (Value.slice a' (n + 1) c').ownBlock = some w.heap.size) → wpListIn F nF Try.prog ops Q rest (act.put o.dst (.slice a' (n + 1) c')) w') :
    wpListIn F nF Try.prog ops Q (o :: rest) act w := by
  obtain ⟨i0, hi, hz0, hz1, hz2⟩ := info_parts Try.infoInt
  refine wpListIn_append_own_at _ hgd s x 26 ho B 3 i0 (.int .i64 0) 1 8 Try.underlying26 hi hz0 hz1 hz2 rfl (by decide) _ _ _ hs hown.2 ⟨b, 0, none⟩ 1 1 [.int .i64 y] hx rfl
    (fun j u hj => by
      match j, hj with
      | 0, hj => simp at hj; subst hj; exact hy) (by simp [Value.oneCell']) (by unfold maxLen; omega) (by omega) hB ?_
  intro v' w' h1 h2 _ h4
  obtain ⟨a', c', rfl, hO⟩ := OwnI.appended (m := [y]) h1 hown.len
  exact h a' c' w' hO (below_own hown hb hB h2) h2 h4
end
end Go.Proofs.Ytebmachppbpdmaa
