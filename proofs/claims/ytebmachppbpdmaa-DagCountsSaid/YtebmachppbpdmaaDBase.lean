/- What slices of links (structs of three ints) read as in a world, and how such readings are carried to later worlds. -/
import Derived.Test.YtebmachppbpdmaaBase
namespace Go.Proofs.Ytebmachppbpdmaa
open Go.RowKit

/-- A link: from, to, cost. -/
abbrev Lk := Int × Int × Int
def lkV (x : Lk) : Value := .agg #[.int .i64 x.1, .int .i64 x.2.1, .int .i64 x.2.2]
/-- The three cells at j. -/
def LkAt (w : World) (b off j : Nat) (x : Lk) : Prop :=
  w.cell? ⟨b, off + j * 3, none⟩ = some (.int .i64 x.1) ∧ w.cell? ⟨b, off + j * 3 + 1, none⟩ = some (.int .i64 x.2.1) ∧ w.cell? ⟨b, off + j * 3 + 2, none⟩ = some (.int .i64 x.2.2)
/-- The slice value 'a n cap' reads as the list ll of links. -/
def Links (w : World) (a : Option Addr) (n cap : Nat) (ll : List Lk) : Prop :=
  n = ll.length ∧ n ≤ cap ∧ n * 24 ≤ 140737488355328 ∧ (∀ x ∈ ll, I64 x.1 ∧ I64 x.2.1 ∧ I64 x.2.2) ∧
    ∀ j, j < n → ∃ b off, a = some ⟨b, off, none⟩ ∧ LkAt w b off j (ll[j]?.getD (0, 0, 0))

namespace Links
variable {w w' : World} {a : Option Addr} {n cap : Nat} {l : List Lk}
theorem len (h : Links w a n cap l) : n = l.length := h.1
theorem le (h : Links w a n cap l) : n ≤ cap := h.2.1
theorem bound (h : Links w a n cap l) : n * 24 ≤ 140737488355328 := h.2.2.1
theorem at_ (h : Links w a n cap l) (hn : 0 < n) : ∃ b off, a = some ⟨b, off, none⟩ ∧ b < w.heap.size ∧ Hid (∀ j, j < n → LkAt w b off j (l[j]?.getD (0, 0, 0))) := by
  obtain ⟨b, off, e, hc⟩ := h.2.2.2.2 0 hn
  refine ⟨b, off, e, World.block_lt_of_cell? _ _ hc.1, fun j hj => ?_⟩
  obtain ⟨b', off', e', hc'⟩ := h.2.2.2.2 j hj
  rw [e] at e'; cases e'
  exact hc'
theorem i64 (h : Links w a n cap l) (j : Nat) : I64 (l[j]?.getD (0, 0, 0)).1 ∧ I64 (l[j]?.getD (0, 0, 0)).2.1 ∧ I64 (l[j]?.getD (0, 0, 0)).2.2 := by
  by_cases hj : j < l.length
  · rw [List.getElem?_eq_getElem hj]; exact h.2.2.2.1 _ (List.getElem_mem hj)
  · rw [List.getElem?_eq_none (by omega)]; exact ⟨I64.zero, I64.zero, I64.zero⟩
theorem below (h : Links w a n cap l) (hb : Below w.heap.size w w') : Links w' a n cap l := by
  obtain ⟨h1, h2, h3, h4, h5⟩ := h
  refine ⟨h1, h2, h3, h4, fun j hj => ?_⟩
  obtain ⟨b, off, e, c1, c2, c3⟩ := h5 j hj
  exact ⟨b, off, e, cell_later hb c1, cell_later hb c2, cell_later hb c3⟩
theorem drews (h : Links w a n cap l) (hd : Drew w w') : Links w' a n cap l := h.below (hd.below _)
theorem alloc (h : Links w a n cap l) (o : Obj) : Links (w.alloc o) a n cap l := h.below ((Below.refl _ _).alloc (Nat.le_refl _) _)
theorem nil (w : World) : Links w none 0 0 [] := ⟨rfl, Nat.le_refl _, by omega, by simp, fun j hj => by omega⟩
/-- What is told of link j, taken apart. -/
theorem get (h : Links w a n cap l) {j : Nat} (hj : j < n) : ∃ f t c : Int, l[j]? = some (f, t, c) ∧ I64 f ∧ I64 t ∧ I64 c ∧ ∃ b off, a = some ⟨b, off, none⟩ ∧ b < w.heap.size ∧ LkAt w b off j (f, t, c) := by
  have hl : j < l.length := by rw [← h.len]; exact hj
  obtain ⟨b, off, e, hc⟩ := h.2.2.2.2 j hj
  have hi := h.i64 j
  rw [List.getElem?_eq_getElem hl] at hc hi
  exact ⟨l[j].1, l[j].2.1, l[j].2.2, List.getElem?_eq_getElem hl, hi.1, hi.2.1, hi.2.2, b, off, e, World.block_lt_of_cell? _ _ hc.1, hc⟩
end Links

/-- What Check says of a link. -/
def badL (n : Int) (x : Lk) : Prop := x.1 < 0 ∨ n ≤ x.1 ∨ x.2.1 < 0 ∨ n ≤ x.2.1 ∨ x.2.2 < 0 ∨ 1073741824 < x.2.2
instance (n : Int) (x : Lk) : Decidable (badL n x) := by unfold badL; exact inferInstance
def chkL (n : Int) : List Lk → Int
  | [] => 0
  | x :: r => if badL n x then 2 else if x.2.1 ≤ x.1 then 10 else chkL n r
def chkE (n : Int) (ll : List Lk) : Int := if n < 1 ∨ 4096 < n then 2 else if 65536 < ll.length then 4 else chkL n ll
theorem chkL_drop {n : Int} {ll : List Lk} {k : Nat} {x : Lk} (h : ll[k]? = some x) : chkL n (ll.drop k) = if badL n x then 2 else if x.2.1 ≤ x.1 then 10 else chkL n (ll.drop (k + 1)) := by
  obtain ⟨hk, rfl⟩ := List.getElem?_eq_some_iff.1 h
  rw [List.drop_eq_getElem_cons hk, chkL]
theorem chkL_bad {n : Int} {ll : List Lk} {k : Nat} {x : Lk} (h : ll[k]? = some x) (hb : badL n x) : chkL n (ll.drop k) = 2 := by rw [chkL_drop h, if_pos hb]
theorem chkL_order {n : Int} {ll : List Lk} {k : Nat} {x : Lk} (h : ll[k]? = some x) (hb : ¬ badL n x) (ho : x.2.1 ≤ x.1) : chkL n (ll.drop k) = 10 := by rw [chkL_drop h, if_neg hb, if_pos ho]
theorem chkL_next {n : Int} {ll : List Lk} {k : Nat} {x : Lk} (h : ll[k]? = some x) (hb : ¬ badL n x) (ho : ¬ x.2.1 ≤ x.1) : chkL n (ll.drop k) = chkL n (ll.drop (k + 1)) := by rw [chkL_drop h, if_neg hb, if_neg ho]
theorem bad_cases (n f t c : Int) : f < 0 ∨ (0 ≤ f ∧ n ≤ f) ∨ (0 ≤ f ∧ f < n ∧ t < 0) ∨ (0 ≤ f ∧ f < n ∧ 0 ≤ t ∧ n ≤ t) ∨ (0 ≤ f ∧ f < n ∧ 0 ≤ t ∧ t < n ∧ c < 0) ∨
    (0 ≤ f ∧ f < n ∧ 0 ≤ t ∧ t < n ∧ 0 ≤ c ∧ 1073741824 < c) ∨ (0 ≤ f ∧ f < n ∧ 0 ≤ t ∧ t < n ∧ 0 ≤ c ∧ c ≤ 1073741824) := by omega
end Go.Proofs.Ytebmachppbpdmaa
