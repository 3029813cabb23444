/- Lists of different numbers below n; columns as the program has them. No program here. -/
import Derived.Test.YtaelfjlmkgimhaaGreatDoorPPl5
set_option linter.unusedVariables false
set_option linter.unusedSimpArgs false
namespace Go.Proofs.YtaelfjlmkgimhaaGreatDoor

theorem nodup_len_le : ∀ (l m : List Nat), l.Nodup → (∀ x ∈ l, x ∈ m) → l.length ≤ m.length
  | [], m, _, _ => Nat.zero_le _
  | x :: l, m, hn, hs => by
    have hx := hs x List.mem_cons_self
    have hn' := List.nodup_cons.1 hn
    have h := nodup_len_le l (m.erase x) hn'.2 fun y hy => by
      have hne : y ≠ x := fun e => hn'.1 (by rw [← e]; exact hy)
      exact (List.mem_erase_of_ne hne).2 (hs y (List.mem_cons_of_mem _ hy))
    have he := List.length_erase_of_mem hx
    have hp : 0 < m.length := List.length_pos_of_mem hx
    rw [List.length_cons]
    omega
/-- As many different numbers below n as there are: all of them. -/
theorem full_of_nodup {l : List Nat} {n : Nat} (hn : l.Nodup) (hlt : ∀ x ∈ l, x < n) (hl : l.length = n) (i : Nat) (hi : i < n) : i ∈ l := by
  apply Classical.byContradiction
  intro hni
  have h := nodup_len_le l ((List.range n).erase i) hn fun x hx => (List.mem_erase_of_ne (fun e => hni (by rw [← e]; exact hx))).2 (List.mem_range.2 (hlt x hx))
  rw [List.length_erase_of_mem (List.mem_range.2 hi), List.length_range] at h
  omega
/-- Fewer than n numbers: one is not among them. -/
theorem ex_not_mem {l : List Nat} {n : Nat} (hl : l.length < n) : ∃ i, i < n ∧ i ∉ l := by
  apply Classical.byContradiction
  intro h
  have hall : ∀ i ∈ List.range n, i ∈ l := fun i hi => Classical.byContradiction fun hni => h ⟨i, List.mem_range.1 hi, hni⟩
  have := nodup_len_le (List.range n) l List.nodup_range hall
  rw [List.length_range] at this
  omega
/-- A place of a column, as a number. -/
def toI : Option Nat → Int
  | some n => n
  | none => -1
theorem toI_neg {o : Option Nat} : toI o < 0 ↔ o = none := by
  cases o with
  | none => simp [toI]
  | some n => simp [toI]
theorem toI_nonneg {o : Option Nat} : 0 ≤ toI o ↔ ∃ n, o = some n ∧ toI o = n := by
  cases o with
  | none => simp [toI]
  | some n => simp [toI]
/-- A column, as the program has it. -/
def colI (c : Cm) : List Int := c.map toI
/-- The columns of two sources, as the program has them. -/
def prI (l : List (Cln Nat Nat)) : List (List Int) := l.map fun x => [toI x.1, toI x.2]
theorem prI_prs {s u : Nat} : ∀ l : List Cm, prI (prs s u l) = (l.map fun c => [toI (ent1 s c), toI (ent1 u c)]).filter fun x => x.any fun n => decide (0 ≤ n)
  | [] => rfl
  | c :: l => by
    have ih := prI_prs (s := s) (u := u) l
    unfold prI prs at ih ⊢
    rw [List.map_cons, List.filter_cons, List.map_cons, List.filter_cons, ← ih]
    cases h1 : ent1 s c <;> cases h2 : ent1 u c <;> simp [toI]
/-- What a cost of columns comes to, column by column. -/
theorem cstL_take {α β : Type} (p : α → β → Nat) (g : α → Nat) (h : β → Nat) {l : List (Cln α β)} {j : Nat} {c : Cln α β} (hc : l[j]? = some c) : cstL p g h (l.take (j + 1)) = cstL p g h (l.take j) + cstC p g h c := by
  unfold cstL
  rw [List.take_add_one, hc, List.map_append, List.sum_append]
  simp
theorem fil_take {α β : Type} (f : α → Option β) {l : List α} {j : Nat} {c : α} (hc : l[j]? = some c) : ((l.take (j + 1)).filterMap f).length = ((l.take j).filterMap f).length + (if (f c).isSome then 1 else 0) := by
  rw [List.take_add_one, hc, List.filterMap_append, List.length_append]
  cases h : f c <;> simp [h]
/-- The entry of a column, in a list whose entries count up. -/
theorem ent_at {α : Type} {e : α → Option Nat} {l : List α} {n j k : Nat} {c : α} (h : l.filterMap e = List.range n) (hc : l[j]? = some c) (hk : e c = some k) : k = ((l.take j).filterMap e).length ∧ k < n := by
  obtain ⟨hj, hcj⟩ := List.getElem?_eq_some_iff.1 hc
  have hs : l = l.take j ++ c :: l.drop (j + 1) := by
    rw [← hcj, ← List.drop_eq_getElem_cons hj, List.take_append_drop]
  rw [hs] at h
  exact nxt_ent h hk
end Go.Proofs.YtaelfjlmkgimhaaGreatDoor
