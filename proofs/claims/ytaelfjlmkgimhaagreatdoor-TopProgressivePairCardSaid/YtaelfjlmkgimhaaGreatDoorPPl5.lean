/- The table of the rests; the way, step by step. No program here. -/
import Derived.Test.YtaelfjlmkgimhaaGreatDoorPPl4
set_option linter.unusedVariables false
set_option linter.unusedSimpArgs false
namespace Go.Proofs.YtaelfjlmkgimhaaGreatDoor

section
variable {α β : Type} (p : α → β → Nat) (g : α → Nat) (f : β → Nat) (a : List α) (b : List β)
def tab (i k : Nat) : Nat := lst p g f (a.drop i) (b.drop k)
theorem drp_at {γ : Type} {l : List γ} {i : Nat} {x : γ} (h : l[i]? = some x) : l.drop i = x :: l.drop (i + 1) := by
  obtain ⟨hl, e⟩ := List.getElem?_eq_some_iff.1 h
  rw [List.drop_eq_getElem_cons hl, e]
theorem drp_end {γ : Type} {l : List γ} {i : Nat} (h : l.length ≤ i) : l.drop i = [] := List.drop_of_length_le h
variable {a b}
theorem tab_11 {i k : Nat} {x : α} {y : β} (hi : a[i]? = some x) (hk : b[k]? = some y) : tab p g f a b i k = min (p x y + tab p g f a b (i + 1) (k + 1)) (min (g x + tab p g f a b (i + 1) k) (f y + tab p g f a b i (k + 1))) := by
  unfold tab; rw [drp_at hi, drp_at hk, lst_11]
theorem tab_10 {i k : Nat} {x : α} (hi : a[i]? = some x) (hk : b.length ≤ k) : tab p g f a b i k = g x + tab p g f a b (i + 1) k := by
  unfold tab; rw [drp_at hi, drp_end hk, lst_10]
theorem tab_01 {i k : Nat} {y : β} (hi : a.length ≤ i) (hk : b[k]? = some y) : tab p g f a b i k = f y + tab p g f a b i (k + 1) := by
  unfold tab; rw [drp_at hk, drp_end hi, lst_01]
theorem tab_00 {i k : Nat} (hi : a.length ≤ i) (hk : b.length ≤ k) : tab p g f a b i k = 0 := by
  unfold tab; rw [drp_end hk, drp_end hi, lst_00]
theorem lst_bound {M : Nat} (hp : ∀ x y, p x y ≤ M) (hg : ∀ x, g x ≤ M) (hf : ∀ y, f y ≤ M) : ∀ (n : Nat) (a : List α) (b : List β), a.length + b.length ≤ n → lst p g f a b ≤ M * n
  | n, [], [], _ => by rw [lst_00]; exact Nat.zero_le _
  | 0, x :: a, b, hn => by simp at hn
  | 0, [], y :: b, hn => by simp at hn
  | n + 1, x :: a, [], hn => by
    have := lst_bound hp hg hf n a [] (by simp at hn ⊢; omega)
    have := hg x
    rw [lst_10, Nat.mul_succ]; omega
  | n + 1, [], y :: b, hn => by
    have := lst_bound hp hg hf n [] b (by simp at hn ⊢; omega)
    have := hf y
    rw [lst_01, Nat.mul_succ]; omega
  | n + 1, x :: a, y :: b, hn => by
    have := lst_bound hp hg hf n a b (by simp only [List.length_cons] at hn; omega)
    have := hp x y
    rw [lst_11, Nat.mul_succ]; omega
theorem tab_bound {M : Nat} (hp : ∀ x y, p x y ≤ M) (hg : ∀ x, g x ≤ M) (hf : ∀ y, f y ≤ M) (i k : Nat) : tab p g f a b i k ≤ M * (a.length + b.length) :=
  lst_bound p g f hp hg hf _ _ _ (by simp; omega)
/-- The way, from a place on. -/
def wayF (i k : Nat) : List (Cln α β) := way p g f (a.drop i) (b.drop k)
theorem way_at1 {i k : Nat} {x : α} {y : β} (hi : a[i]? = some x) (hk : b[k]? = some y) (h : p x y + tab p g f a b (i + 1) (k + 1) = tab p g f a b i k) : wayF p g f (a := a) (b := b) i k = (some x, some y) :: wayF p g f (a := a) (b := b) (i + 1) (k + 1) := by
  unfold tab at h; unfold wayF
  rw [drp_at hi, drp_at hk] at h ⊢
  rw [way_11, if_pos h]
theorem way_at2 {i k : Nat} {x : α} (hi : a[i]? = some x) (h0 : ∀ y, b[k]? = some y → ¬ p x y + tab p g f a b (i + 1) (k + 1) = tab p g f a b i k) (h : g x + tab p g f a b (i + 1) k = tab p g f a b i k) : wayF p g f (a := a) (b := b) i k = (some x, none) :: wayF p g f (a := a) (b := b) (i + 1) k := by
  unfold tab at h h0; unfold wayF
  cases hb : b[k]? with
  | none => rw [drp_at hi, drp_end (List.getElem?_eq_none_iff.1 hb), way_10]
  | some y =>
    have h1 := h0 y hb
    rw [drp_at hi, drp_at hb] at h1 h ⊢
    rw [way_11, if_neg h1, if_pos h]
theorem way_at3 {i k : Nat} {y : β} (hk : b[k]? = some y) (h0 : ∀ x, a[i]? = some x → ¬ p x y + tab p g f a b (i + 1) (k + 1) = tab p g f a b i k ∧ ¬ g x + tab p g f a b (i + 1) k = tab p g f a b i k) : wayF p g f (a := a) (b := b) i k = (none, some y) :: wayF p g f (a := a) (b := b) i (k + 1) ∧ f y + tab p g f a b i (k + 1) = tab p g f a b i k := by
  unfold tab at h0 ⊢; unfold wayF
  cases ha : a[i]? with
  | none => rw [drp_at hk, drp_end (List.getElem?_eq_none_iff.1 ha), way_01, lst_01]; exact ⟨rfl, rfl⟩
  | some x =>
    obtain ⟨h1, h2⟩ := h0 x ha
    rw [drp_at ha, drp_at hk] at h1 h2 ⊢
    have e := lst_11 p g f x (a.drop (i + 1)) y (b.drop (k + 1))
    rw [way_11, if_neg h1, if_neg h2]
    exact ⟨rfl, by omega⟩
theorem way_end {i k : Nat} (hi : a.length ≤ i) (hk : b.length ≤ k) : wayF p g f (a := a) (b := b) i k = [] := by
  unfold wayF; rw [drp_end hk, drp_end hi, way_00]
end
end Go.Proofs.YtaelfjlmkgimhaaGreatDoor
