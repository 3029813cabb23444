/- The columns of one source; the first two sources; another order. No program here. -/
import Derived.Test.YtaelfjlmkgimhaaGreatDoorPPl2
set_option linter.unusedVariables false
set_option linter.unusedSimpArgs false
namespace Go.Proofs.YtaelfjlmkgimhaaGreatDoor

def one (n : Nat) : List Cm := (List.range n).map fun i => [some i]
theorem way_nil {α β : Type} (p : α → β → Nat) (g : α → Nat) (f : β → Nat) : ∀ b : List β, way p g f [] b = b.map fun y => (none, some y)
  | [] => way_00 p g f
  | y :: b => by rw [way_01, way_nil p g f b]; rfl
theorem addC_one (p : Cm → Nat → Nat) (g : Cm → Nat) (f : Nat → Nat) (n : Nat) : addC p g f 0 [] n = one n := by
  rw [addC, way_nil, List.map_map]; rfl
theorem vc_nil : Vc [] [] := ⟨by simp, by simp, fun s n h => by simp at h⟩
theorem vc_one (n : Nat) : Vc [n] (one n) := by
  have h : Vc ([] ++ [n]) (addC (fun _ _ => 0) (fun _ => 0) (fun _ => 0) ([] : List Nat).length [] n) := addC_vc vc_nil n
  rwa [show ([] : List Nat).length = 0 from rfl, addC_one] at h
section
variable {P : Nat → Nat → Nat} {G F : Nat → Nat} {p : Cm → Nat → Nat} {g : Cm → Nat} {f : Nat → Nat}
theorem first_cost (h1 : ∀ i y, p [some i] y = P i y) (h2 : ∀ i, g [some i] = G i) (h3 : ∀ y, f y = F y) : ∀ l : List (Cln Cm Nat), (∀ x ∈ l, x ≠ (none, none)) → (∀ x ∈ l, ∀ c, x.1 = some c → ∃ i, c = [some i]) →
    cstL P G F (prs 0 1 (l.map (ext 1))) = cstL p g f l
  | [], _, _ => rfl
  | x :: l, hn, hc => by
    have ih := first_cost h1 h2 h3 l (fun y hy => hn y (List.mem_cons_of_mem _ hy)) (fun y hy => hc y (List.mem_cons_of_mem _ hy))
    have h0 := hn x List.mem_cons_self
    have hx := hc x List.mem_cons_self
    unfold cstL prs at ih ⊢
    rw [List.map_cons, List.map_cons, List.filter_cons, List.map_cons, List.sum_cons]
    obtain ⟨a, b⟩ := x
    cases a with
    | none =>
      cases b with
      | none => exact absurd rfl h0
      | some y =>
        rw [show (ent1 0 (ext 1 (none, some y)), ent1 1 (ext 1 (none, some y))) = ((none, some y) : Cln Nat Nat) from rfl]
        simp only [Option.isSome_some, Option.isSome_none, Bool.or_true, Bool.true_or, if_true, List.map_cons, List.sum_cons]
        rw [ih]; show F y + _ = f y + _; rw [h3]
    | some c =>
      obtain ⟨i, rfl⟩ := hx c rfl
      cases b with
      | none =>
        rw [show (ent1 0 (ext 1 (some [some i], none)), ent1 1 (ext 1 (some [some i], none))) = ((some i, none) : Cln Nat Nat) from rfl]
        simp only [Option.isSome_some, Option.isSome_none, Bool.or_true, Bool.true_or, if_true, List.map_cons, List.sum_cons]
        rw [ih]; show G i + _ = g _ + _; rw [h2]
      | some y =>
        rw [show (ent1 0 (ext 1 (some [some i], some y)), ent1 1 (ext 1 (some [some i], some y))) = ((some i, some y) : Cln Nat Nat) from rfl]
        simp only [Option.isSome_some, Option.isSome_none, Bool.or_true, Bool.true_or, if_true, List.map_cons, List.sum_cons]
        rw [ih]; show P i y + _ = p _ y + _; rw [h1]
/-- The first two sources cost the least. -/
theorem pair_least (h1 : ∀ i y, p [some i] y = P i y) (h2 : ∀ i, g [some i] = G i) (h3 : ∀ y, f y = F y) (n m : Nat) :
    cstL P G F (prs 0 1 (addC p g f 1 (one n) m)) = lst P G F (List.range n) (List.range m) := by
  obtain ⟨w1, w2, w3, w4⟩ := way_ok p g f _ (one n) (List.range m) (Nat.le_refl _)
  rw [addC, first_cost h1 h2 h3 _ w3 (fun x hx c hc => by
    have : c ∈ one n := by rw [← w1]; exact List.mem_filterMap.2 ⟨x, hx, hc⟩
    obtain ⟨i, -, rfl⟩ := List.mem_map.1 this
    exact ⟨i, rfl⟩), w4, one, lst_map _ p g f _ _ _ (Nat.le_refl _)]
  rw [show (fun x y => p [some x] y) = P from funext fun x => funext fun y => h1 x y, show (fun x => g [some x]) = G from funext h2, show f = F from funext h3]
end
/-- The entries in another order: the entry k goes to the place order[k]. -/
def arr (n : Nat) (order : List Nat) (c : Cm) : Cm := (List.range n).map fun i => ent1 (order.idxOf i) c
theorem ent1_arr {n i : Nat} (order : List Nat) (c : Cm) (h : i < n) : ent1 i (arr n order c) = ent1 (order.idxOf i) c := by
  unfold arr; rw [ent1, List.getElem?_map, List.getElem?_range h]; rfl
theorem prs_arr {n i k : Nat} (order : List Nat) (hi : i < n) (hk : k < n) : ∀ l : List Cm, prs i k (l.map (arr n order)) = prs (order.idxOf i) (order.idxOf k) l := fun l => by
  unfold prs
  rw [List.map_map]
  congr 1
  refine List.map_congr_left fun c _ => ?_
  show (ent1 i (arr n order c), ent1 k (arr n order c)) = _
  rw [ent1_arr order c hi, ent1_arr order c hk]
theorem vc_arr {lens lens' order : List Nat} {l : List Cm} (h : Vc lens l) (hn : order.Nodup) (hol : order.length = lens.length) (hlt : ∀ i ∈ order, i < lens'.length) (hal : ∀ i, i < lens'.length → i ∈ order) (hl : ∀ k i : Nat, order[k]? = some i → lens'[i]? = lens[k]?) :
    Vc lens' (l.map (arr lens'.length order)) := by
  refine ⟨fun c hc => ?_, fun c hc => ?_, fun s n hs => ?_⟩
  · obtain ⟨d, -, rfl⟩ := List.mem_map.1 hc; simp [arr]
  · obtain ⟨d, hd, rfl⟩ := List.mem_map.1 hc
    obtain ⟨s, k, hk⟩ := h.some d hd
    have hsl : s < order.length := by
      rw [hol, ← h.len d hd]
      apply Classical.byContradiction
      intro hn
      rw [ent1, List.getElem?_eq_none (by omega)] at hk; cases hk
    refine ⟨order[s], k, ?_⟩
    rw [ent1_arr order d (hlt _ (List.getElem_mem hsl)), hn.idxOf_getElem s hsl]; exact hk
  · have hsl := (List.getElem?_eq_some_iff.1 hs).1
    have hm := hal s hsl
    have hix := List.idxOf_lt_length_of_mem hm
    have e := List.getElem_idxOf hix
    rw [List.filterMap_map]
    rw [show (ent1 s ∘ arr lens'.length order) = ent1 (order.idxOf s) from funext fun c => ent1_arr order c hsl]
    exact h.all _ n (by rw [← hl _ s (by rw [List.getElem?_eq_getElem hix, e])]; exact hs)
end Go.Proofs.YtaelfjlmkgimhaaGreatDoor
