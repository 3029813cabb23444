/- Appending a whole row of ints to a row of the call's own, and a row to a slice of rows; blocks that are held. -/
import Derived.Test.YtebmachppbpdmaaApp
import Derived.Test.YtebmachppbpdmaaOwnII
import Derived.Laws.AppendOwnNone
import Derived.OwnWalk
namespace Go.Proofs.Ytebmachppbpdmaa
open Go.RowKit

/-- The blocks from lo to hi are as they were. -/
def Held (lo hi : Nat) (w w' : World) : Prop := w.heap.size ≤ w'.heap.size ∧ ∀ b, lo ≤ b → b < hi → w'.heap[b]? = w.heap[b]?
namespace Held
variable {lo hi : Nat} {a b c : World}
theorem refl (lo hi : Nat) (a : World) : Held lo hi a a := ⟨Nat.le_refl _, fun _ _ _ => rfl⟩
theorem trans (h : Held lo hi a b) (k : Held lo hi b c) : Held lo hi a c := ⟨Nat.le_trans h.1 k.1, fun x h1 h2 => (k.2 x h1 h2).trans (h.2 x h1 h2)⟩
theorem below (h : Below b.heap.size b c) (hh : hi ≤ b.heap.size) : Held lo hi b c := ⟨h.size, fun x _ h2 => h.block x (by omega)⟩
theorem grown {row : Option Nat} (h : b.grownBy c row) (hh : hi ≤ b.heap.size) (hr : ∀ r, row = some r → r < lo ∨ hi ≤ r) : Held lo hi b c :=
  ⟨h.size, fun x h1 h2 => h.block x (by omega) (fun e => by have := hr x e.symm; omega)⟩
theorem alloc (h : Held lo hi a b) (hh : hi ≤ b.heap.size) (o : Obj) : Held lo hi a (b.alloc o) := h.trans (below ((Below.refl _ _).alloc (Nat.le_refl _) _) hh)
end Held
theorem OwnI.held {w w' : World} {B : Nat} {a : Option Addr} {n cap : Nat} {l : List Int} (h : OwnI w B a n cap l) (hh : Held B w.heap.size w w') : OwnI w' B a n cap l := by
  obtain ⟨h1, h2, h3⟩ := h
  refine ⟨h1, h2, ?_⟩
  rcases h3 with h0 | ⟨g, cap', cur, hv, hB, hg, hrest⟩
  · exact .inl h0
  · exact .inr ⟨g, cap', cur, hv, hB, by rw [hh.2 g hB (Array.getElem?_eq_some_iff.1 hg).1]; exact hg, hrest⟩
theorem OwnII.held {w w' : World} {B : Nat} {a : Option Addr} {n cap : Nat} {ll : List (List Int)} (h : OwnII w B a n cap ll) (hh : Held B w.heap.size w w') : OwnII w' B a n cap ll := by
  obtain ⟨rs, h1, h2, h3, h4, h5⟩ := h
  refine ⟨rs, h1, h2, ?_, fun j r hr => ⟨(h4 j r hr).1.held hh, (h4 j r hr).2⟩, h5⟩
  refine ⟨h3.1, ?_⟩
  rcases h3.2 with h0 | ⟨g, cap', cur, hv, hB, hg, hrest⟩
  · exact .inl h0
  · exact .inr ⟨g, cap', cur, hv, hB, by rw [hh.2 g hB (Array.getElem?_eq_some_iff.1 hg).1]; exact hg, hrest⟩
theorem OwnII.lt {w : World} {B : Nat} {a : Option Addr} {n cap : Nat} {ll : List (List Int)} (h : OwnII w B a n cap ll) : ∀ q, (Value.slice a n cap).ownBlock = some q → B ≤ q ∧ q < w.heap.size := by
  obtain ⟨xs, h1, _⟩ := h.own
  exact h1.lt
/-- [][]int{nil}. -/
theorem OwnII.lit0 (w : World) (B : Nat) (hB : B ≤ w.heap.size) : OwnII (w.alloc (.cells #[.slice none 0 0] 26)) B (some ⟨w.heap.size, 0, none⟩) 1 1 [[]] := by
  refine ⟨[(none, 0, 0)], rfl, rfl, World.ownsRow_lit w #[.slice none 0 0] 1 hB (by unfold maxLen; omega) rfl, fun j r hr => ?_, fun i j r s hij hr hs => ?_⟩
  · match j, hr with
    | 0, hr => simp at hr; subst hr; exact ⟨OwnI.nil _ _, fun x y hx => by cases hx⟩
  · match i, j, hr, hs with
    | 0, 0, _, _ => exact absurd rfl hij

section
variable {ops : Array Oper} {rest : List Oper} {o : Oper} {act : Act} {Q : Exit → Act → World → Prop} {w w0 : World} {B B' : Nat} {a b : Option Addr} {n cap m c : Nat} {l s : List Int}
theorem wpList_appRow (hgd : o.guard = none) (os ox : Operand) (ho : o.op = .call { callee := .builtin .append, args := #[os, ox], argTypes := #[26, 26] })
    (hs : act.eval os = .slice a n cap) (hx : act.eval ox = .slice b m c) (hown : OwnI w B a n cap l) (hy : OwnI w B' b m c s) (hn : n + m ≤ 1000000) (hB : B ≤ w.heap.size) (hb : Below B w0 w)
    (h : ∀ a' c' w', OwnI w' B a' (n + m) c' (l ++ s) → Below B w0 w' → w.grownBy w' (Value.slice a n cap).ownBlock → ((Value.slice a' (n + m) c').ownBlock = (Value.slice a n cap).ownBlock ∨ (Value.slice a' (n + m) c').ownBlock = some w.heap.size) → wpList Try.prog ops Q rest (act.put o.dst (.slice a' (n + m) c')) w') :
    wpList Try.prog ops Q (o :: rest) act w := by
  obtain ⟨i0, hi, hz0, hz1, hz2⟩ := info_parts Try.infoInt
  have hm := hy.len
  rcases hy.2.2 with ⟨hv, h0⟩ | ⟨g, cap', cur, hv, _⟩
  · cases hv
    obtain rfl : s = [] := List.eq_nil_of_length_eq_zero (by omega)
    refine wpList_append_own_none hgd os ox 26 ho B 3 i0 1 Try.underlying26 hi _ _ _ hs hown.2 hx ?_
    exact h a cap w (by simpa using hown) hb ⟨rfl, rfl, rfl, Nat.le_refl _, fun _ _ _ => rfl⟩ (.inl rfl)
  · cases hv
    refine wpList_append_own_at _ hgd os ox 26 ho B 3 i0 (.int .i64 0) 1 8 Try.underlying26 hi hz0 hz1 hz2 rfl (by decide) _ _ _ hs hown.2 ⟨g, 0, none⟩ m _ (s.map (Value.int .i64)) hx (by simp [hm])
      (fun j u hj => by
        have hjm : j < m := by
          have := (List.getElem?_eq_some_iff.1 hj).1; simp at this; omega
        rw [Addr.add_lit, Nat.zero_add, hy.cell j hjm, ← hj, List.getElem?_map, List.getElem?_eq_getElem (by omega)]; rfl) (ints_oneCell _ _) (by unfold maxLen; omega) (by omega) hB ?_
    intro v' w' h1 h2 _ h4
    rw [hm] at h1
    obtain ⟨a', c', rfl, hO⟩ := OwnI.appended (m := s) h1 hown.len
    rw [← hm] at hO
    rw [← hm] at h4 ⊢
    exact h a' c' w' hO (below_own hown hb hB h2) h2 h4
end
section
variable {ops : Array Oper} {rest : List Oper} {o : Oper} {act : Act} {Q : Exit → Act → World → Prop} {w w0 wr : World} {B b : Nat} {a ra : Option Addr} {n cap rn rc : Nat} {ll : List (List Int)} {row : List Int}
theorem wpList_appII (hgd : o.guard = none) (os ox : Operand) (ho : o.op = .call { callee := .builtin .append, args := #[os, ox], argTypes := #[46, 46] })
    (hs : act.eval os = .slice a n cap) (hx : act.eval ox = .slice (some ⟨b, 0, none⟩) 1 1) (hown : OwnII wr B a n cap ll) (hbl : Below wr.heap.size wr w) (hrow : OwnI w B ra rn rc row) (hfresh : ∀ x, ra = some x → wr.heap.size ≤ x.block)
    (hy : w.cell? ⟨b, 0, none⟩ = some (.slice ra rn rc)) (hn : n ≤ 1000000) (hB : B ≤ w.heap.size) (hb : Below B w0 w)
    (h : ∀ a' c' w', OwnII w' B a' (n + 1) c' (ll ++ [row]) → Below B w0 w' → w.grownBy w' (Value.slice a n cap).ownBlock → ((Value.slice a' (n + 1) c').ownBlock = (Value.slice a n cap).ownBlock ∨ (Value.slice a' (n + 1) c').ownBlock = some w.heap.size) → wpList Try.prog ops Q rest (act.put o.dst (.slice a' (n + 1) c')) w') :
    wpList Try.prog ops Q (o :: rest) act w := by
  obtain ⟨i0, hi, hz0, hz1, hz2⟩ := info_parts Try.infoInts
  obtain ⟨rs, hown', hpush⟩ := hown.rows
  have hlt := hown'.lt
  refine wpList_append_own_at _ hgd os ox 46 ho B 26 i0 (.slice none 0 0) 1 24 Try.underlying46 hi hz0 hz1 hz2 rfl (by decide) _ _ _ hs (ownsRow_below hown' hbl) ⟨b, 0, none⟩ 1 1 [.slice ra rn rc] hx rfl
    (fun j u hj => by
      match j, hj with
      | 0, hj => simp at hj; subst hj; exact hy) (by simp [Value.oneCell']) (by unfold maxLen; omega) (by omega) hB ?_
  intro v' w' h1 h2 _ h4
  obtain ⟨a', c', rfl, hO⟩ := hpush w w' v' ra rn rc row hbl hrow hfresh h1 h2 h4
  exact h a' c' w' hO (hb.grown h2 hB (fun j hj => (hlt j hj).1)) h2 h4
end
end Go.Proofs.Ytebmachppbpdmaa
