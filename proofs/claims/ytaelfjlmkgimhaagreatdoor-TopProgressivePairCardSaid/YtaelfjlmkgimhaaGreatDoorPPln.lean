/- Least alignments of two lists: the table's numbers, the way that is read off them. No program here. -/
import Derived.ProofKit
set_option linter.unusedVariables false
namespace Go.Proofs.YtaelfjlmkgimhaaGreatDoor

section
variable {α β : Type} (p : α → β → Nat) (g : α → Nat) (h : β → Nat)
/-- The least cost. -/
def lst : List α → List β → Nat
  | [], [] => 0
  | x :: a, [] => g x + lst a []
  | [], y :: b => h y + lst [] b
  | x :: a, y :: b => min (p x y + lst a b) (min (g x + lst a (y :: b)) (h y + lst (x :: a) b))
termination_by a b => a.length + b.length
/-- A column: a thing of the first list, of the second one, or of both. -/
abbrev Cln (α β : Type) := Option α × Option β
def cstC : Cln α β → Nat
  | (some x, some y) => p x y
  | (some x, none) => g x
  | (none, some y) => h y
  | (none, none) => 0
def cstL (l : List (Cln α β)) : Nat := (l.map (cstC p g h)).sum
/-- The first way of least cost. -/
def way : List α → List β → List (Cln α β)
  | [], [] => []
  | x :: a, [] => (some x, none) :: way a []
  | [], y :: b => (none, some y) :: way [] b
  | x :: a, y :: b =>
    if p x y + lst p g h a b = lst p g h (x :: a) (y :: b) then (some x, some y) :: way a b
    else if g x + lst p g h a (y :: b) = lst p g h (x :: a) (y :: b) then (some x, none) :: way a (y :: b)
    else (none, some y) :: way (x :: a) b
termination_by a b => a.length + b.length
theorem lst_00 : lst p g h [] [] = 0 := by rw [lst]
theorem lst_10 (x : α) (a : List α) : lst p g h (x :: a) [] = g x + lst p g h a [] := by rw [lst]
theorem lst_01 (y : β) (b : List β) : lst p g h [] (y :: b) = h y + lst p g h [] b := by rw [lst]
theorem lst_11 (x : α) (a : List α) (y : β) (b : List β) : lst p g h (x :: a) (y :: b) = min (p x y + lst p g h a b) (min (g x + lst p g h a (y :: b)) (h y + lst p g h (x :: a) b)) := by rw [lst]
/-- Nothing is cheaper. -/
theorem lst_le : ∀ (l : List (Cln α β)), (∀ c ∈ l, c ≠ (none, none)) → lst p g h (l.filterMap (·.1)) (l.filterMap (·.2)) ≤ cstL p g h l
  | [], _ => by rw [List.filterMap_nil, List.filterMap_nil, lst_00]; exact Nat.zero_le _
  | c :: l, hc => by
    have ih := lst_le l (fun d hd => hc d (List.mem_cons_of_mem _ hd))
    have h0 := hc c List.mem_cons_self
    unfold cstL at ih ⊢
    rw [List.map_cons, List.sum_cons]
    obtain ⟨x, y⟩ := c
    cases x with
    | none =>
      cases y with
      | none => exact absurd rfl h0
      | some y =>
        rw [show ((none, some y) :: l : List (Cln α β)).filterMap (·.1) = l.filterMap (·.1) from rfl, show ((none, some y) :: l : List (Cln α β)).filterMap (·.2) = y :: l.filterMap (·.2) from rfl]
        show _ ≤ h y + _
        cases hl : l.filterMap (·.1) with
        | nil => rw [hl] at ih; rw [lst_01]; omega
        | cons x a => rw [hl] at ih; rw [lst_11]; omega
    | some x =>
      cases y with
      | none =>
        rw [show ((some x, none) :: l : List (Cln α β)).filterMap (·.1) = x :: l.filterMap (·.1) from rfl, show ((some x, none) :: l : List (Cln α β)).filterMap (·.2) = l.filterMap (·.2) from rfl]
        show _ ≤ g x + _
        cases hl : l.filterMap (·.2) with
        | nil => rw [hl] at ih; rw [lst_10]; omega
        | cons y b => rw [hl] at ih; rw [lst_11]; omega
      | some y =>
        rw [show ((some x, some y) :: l : List (Cln α β)).filterMap (·.1) = x :: l.filterMap (·.1) from rfl, show ((some x, some y) :: l : List (Cln α β)).filterMap (·.2) = y :: l.filterMap (·.2) from rfl]
        show _ ≤ p x y + _
        rw [lst_11]; omega
theorem way_10 (x : α) (a : List α) : way p g h (x :: a) [] = (some x, none) :: way p g h a [] := by rw [way]
theorem way_01 (y : β) (b : List β) : way p g h [] (y :: b) = (none, some y) :: way p g h [] b := by rw [way]
theorem way_00 : way p g h [] [] = [] := by rw [way]
theorem way_11 (x : α) (a : List α) (y : β) (b : List β) : way p g h (x :: a) (y :: b) =
    if p x y + lst p g h a b = lst p g h (x :: a) (y :: b) then (some x, some y) :: way p g h a b
    else if g x + lst p g h a (y :: b) = lst p g h (x :: a) (y :: b) then (some x, none) :: way p g h a (y :: b)
    else (none, some y) :: way p g h (x :: a) b := by rw [way]
/-- The way: its things are those of the lists, and it costs the least. -/
theorem way_ok : ∀ (n : Nat) (a : List α) (b : List β), a.length + b.length ≤ n → (way p g h a b).filterMap (·.1) = a ∧ (way p g h a b).filterMap (·.2) = b ∧ (∀ c ∈ way p g h a b, c ≠ (none, none)) ∧ cstL p g h (way p g h a b) = lst p g h a b
  | n, [], [], _ => by rw [way_00, lst_00]; exact ⟨rfl, rfl, by simp, rfl⟩
  | 0, x :: a, b, hn => by simp at hn
  | 0, [], y :: b, hn => by simp at hn
  | n + 1, x :: a, [], hn => by
    obtain ⟨h1, h2, h3, h4⟩ := way_ok n a [] (by simp at hn ⊢; omega)
    rw [way_10, lst_10]
    refine ⟨?_, ?_, ?_, ?_⟩
    · rw [List.filterMap_cons_some (f := Prod.fst) rfl, h1]
    · rw [List.filterMap_cons_none (f := Prod.snd) rfl, h2]
    · intro c hc; rcases List.mem_cons.1 hc with rfl | hc
      · simp
      · exact h3 c hc
    · unfold cstL at h4 ⊢; rw [List.map_cons, List.sum_cons, h4]; rfl
  | n + 1, [], y :: b, hn => by
    obtain ⟨h1, h2, h3, h4⟩ := way_ok n [] b (by simp at hn ⊢; omega)
    rw [way_01, lst_01]
    refine ⟨?_, ?_, ?_, ?_⟩
    · rw [List.filterMap_cons_none (f := Prod.fst) rfl, h1]
    · rw [List.filterMap_cons_some (f := Prod.snd) rfl, h2]
    · intro c hc; rcases List.mem_cons.1 hc with rfl | hc
      · simp
      · exact h3 c hc
    · unfold cstL at h4 ⊢; rw [List.map_cons, List.sum_cons, h4]; rfl
  | n + 1, x :: a, y :: b, hn => by
    simp only [List.length_cons] at hn
    have e := lst_11 p g h x a y b
    rw [way_11]
    split
    · rename_i hq
      obtain ⟨h1, h2, h3, h4⟩ := way_ok n a b (by omega)
      refine ⟨?_, ?_, ?_, ?_⟩
      · rw [List.filterMap_cons_some (f := Prod.fst) rfl, h1]
      · rw [List.filterMap_cons_some (f := Prod.snd) rfl, h2]
      · intro c hc; rcases List.mem_cons.1 hc with rfl | hc
        · simp
        · exact h3 c hc
      · unfold cstL at h4 ⊢; rw [List.map_cons, List.sum_cons, h4, ← hq]; rfl
    · split
      · rename_i hq
        obtain ⟨h1, h2, h3, h4⟩ := way_ok n a (y :: b) (by simp only [List.length_cons]; omega)
        refine ⟨?_, ?_, ?_, ?_⟩
        · rw [List.filterMap_cons_some (f := Prod.fst) rfl, h1]
        · rw [List.filterMap_cons_none (f := Prod.snd) rfl, h2]
        · intro c hc; rcases List.mem_cons.1 hc with rfl | hc
          · simp
          · exact h3 c hc
        · unfold cstL at h4 ⊢; rw [List.map_cons, List.sum_cons, h4, ← hq]; rfl
      · rename_i hq1 hq2
        obtain ⟨h1, h2, h3, h4⟩ := way_ok n (x :: a) b (by simp only [List.length_cons]; omega)
        refine ⟨?_, ?_, ?_, ?_⟩
        · rw [List.filterMap_cons_none (f := Prod.fst) rfl, h1]
        · rw [List.filterMap_cons_some (f := Prod.snd) rfl, h2]
        · intro c hc; rcases List.mem_cons.1 hc with rfl | hc
          · simp
          · exact h3 c hc
        · unfold cstL at h4 ⊢; rw [List.map_cons, List.sum_cons, h4]
          show h y + _ = _
          omega
end
end Go.Proofs.YtaelfjlmkgimhaaGreatDoor
