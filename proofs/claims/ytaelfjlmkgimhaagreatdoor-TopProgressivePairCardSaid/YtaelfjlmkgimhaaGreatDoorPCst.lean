/- pairwise: what columns cost. -/
import Derived.Test.YtaelfjlmkgimhaaGreatDoorPDst
import Derived.Test.YtaelfjlmkgimhaaGreatDoorPPl7
set_option linter.unusedVariables false
set_option linter.unusedSimpArgs false
namespace Go.Proofs.YtaelfjlmkgimhaaGreatDoor
open Go.RowKit

def tkD : Tok := ⟨⟨#[]⟩, ⟨#[]⟩, ⟨#[]⟩, 0, 0, ⟨#[]⟩⟩
def tkAt (l : List Tok) (i : Nat) : Tok := (l[i]?).getD tkD
/-- What pairs of numbers of tokens cost, and gaps. -/
def pN (c : Cst) (l r : List Tok) (i k : Nat) : Nat := pT c (tkAt l i) (tkAt r k)
def gN (c : Cst) (l : List Tok) (i : Nat) : Nat := gT c (tkAt l i)
theorem tkAt_get {l : List Tok} {i : Nat} {t : Tok} (h : l[i]? = some t) : tkAt l i = t := by rw [tkAt, h]; rfl
theorem lst_map2 {α β γ : Type} (q : γ → β) (p : α → β → Nat) (g : α → Nat) (f : β → Nat) : ∀ (n : Nat) (a : List α) (b : List γ), a.length + b.length ≤ n → lst p g f a (b.map q) = lst (fun x y => p x (q y)) g (fun y => f (q y)) a b
  | _, [], [], _ => by rw [List.map_nil, lst_00, lst_00]
  | 0, x :: a, b, hn => by simp at hn
  | 0, [], y :: b, hn => by simp at hn
  | n + 1, x :: a, [], hn => by
    have := lst_map2 q p g f n a [] (by simp at hn ⊢; omega)
    rw [List.map_nil] at this ⊢
    rw [lst_10, lst_10, this]
  | n + 1, [], y :: b, hn => by
    rw [List.map_cons, lst_01, lst_01, lst_map2 q p g f n [] b (by simp at hn ⊢; omega)]
  | n + 1, x :: a, y :: b, hn => by
    simp only [List.length_cons] at hn
    have h1 := lst_map2 q p g f n a b (by omega)
    have h2 := lst_map2 q p g f n a (y :: b) (by simp only [List.length_cons]; omega)
    have h3 := lst_map2 q p g f n (x :: a) b (by simp only [List.length_cons]; omega)
    rw [List.map_cons] at h2 ⊢
    rw [lst_11, lst_11, h1, h2, h3]
theorem range_map (l : List Tok) : (List.range l.length).map (tkAt l) = l := by
  apply List.ext_getElem?
  intro i
  rw [List.getElem?_map]
  by_cases h : i < l.length
  · rw [List.getElem?_range h, Option.map_some, tkAt, List.getElem?_eq_getElem h]; rfl
  · rw [List.getElem?_eq_none (by simpa using h), List.getElem?_eq_none (by omega)]; rfl
/-- The distance, by the numbers of the tokens. -/
theorem tabS_range (c : Cst) (l r : List Tok) : tabS c l r 0 0 = lst (pN c l r) (gN c l) (gN c r) (List.range l.length) (List.range r.length) := by
  show lst (pT c) (gT c) (gT c) l r = _
  have h1 := lst_map (tkAt l) (pT c) (gT c) (gT c) _ (List.range l.length) r (Nat.le_refl _)
  rw [range_map] at h1
  rw [h1]
  have h2 := lst_map2 (tkAt r) (fun x y => pT c (tkAt l x) y) (fun x => gT c (tkAt l x)) (gT c) _ (List.range l.length) (List.range r.length) (Nat.le_refl _)
  rw [range_map] at h2
  rw [h2]; rfl
/-- An alignment of two sources. -/
structure Aln (n m : Nat) (cols : List (Cln Nat Nat)) : Prop where
  l : cols.filterMap (·.1) = List.range n
  r : cols.filterMap (·.2) = List.range m
  ne : ∀ x ∈ cols, x ≠ (none, none)
theorem cstL_le {α β : Type} (p : α → β → Nat) (g : α → Nat) (h : β → Nat) {B : Nat} (hp : ∀ x y, p x y ≤ B) (hg : ∀ x, g x ≤ B) (hh : ∀ x, h x ≤ B) : ∀ l : List (Cln α β), cstL p g h l ≤ B * l.length
  | [] => Nat.zero_le _
  | x :: l => by
    have ih := cstL_le p g h hp hg hh l
    unfold cstL at ih ⊢
    rw [List.map_cons, List.sum_cons, List.length_cons, Nat.mul_succ]
    have : cstC p g h x ≤ B := by
      obtain ⟨x1, x2⟩ := x
      cases x1 <;> cases x2
      · exact Nat.zero_le _
      · exact hh _
      · exact hg _
      · exact hp _ _
    omega
theorem fil_len {α β : Type} (f : α → Option β) : ∀ l : List α, (l.filterMap f).length ≤ l.length := fun l => List.length_filterMap_le _ _
theorem aln_len {n m : Nat} {cols : List (Cln Nat Nat)} (h : Aln n m cols) : cols.length ≤ n + m := by
  have key : ∀ l : List (Cln Nat Nat), (∀ x ∈ l, x ≠ (none, none)) → l.length ≤ (l.filterMap (·.1)).length + (l.filterMap (·.2)).length := by
    intro l
    induction l with
    | nil => intro _; exact Nat.zero_le _
    | cons x l ih =>
      intro hx
      have h1 := ih fun y hy => hx y (List.mem_cons_of_mem _ hy)
      have h2 := hx x List.mem_cons_self
      obtain ⟨x1, x2⟩ := x
      cases x1 <;> cases x2 <;> simp at h1 h2 ⊢ <;> omega
  have := key cols h.ne
  rw [h.l, h.r, List.length_range, List.length_range] at this
  exact this
end Go.Proofs.YtaelfjlmkgimhaaGreatDoor
