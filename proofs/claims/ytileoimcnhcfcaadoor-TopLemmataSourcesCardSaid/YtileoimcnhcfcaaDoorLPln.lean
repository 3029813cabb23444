/- lemma, plain: the occurrences, and what Of and Find count. -/
import Derived.Test.YtileoimcnhcfcaaDoorLOcc
set_option linter.unusedVariables false
set_option linter.unusedSimpArgs false
namespace Go.Proofs.YtileoimcnhcfcaaDoor
open Go.RowKit

section
variable {ws : List ByteArray} {f l : ByteArray}
theorem inn_mem {i k : Nat} {x : Nat × Nat} : x ∈ inn ws l i k ↔ x.1 = i ∧ i < x.2 ∧ x.2 < k ∧ ws[x.2]? = some l := by
  obtain ⟨a, b⟩ := x
  simp only [inn, List.mem_map, List.mem_filter, List.mem_range, Bool.and_eq_true, decide_eq_true_eq, Prod.mk.injEq]
  constructor
  · rintro ⟨q, ⟨h1, h2, h3⟩, rfl, rfl⟩
    exact ⟨rfl, h2, h1, h3⟩
  · rintro ⟨rfl, h2, h1, h3⟩
    exact ⟨b, ⟨h1, h2, h3⟩, rfl, rfl⟩
theorem inn_nodup (i k : Nat) : (inn ws l i k).Nodup := by
  unfold inn
  rw [List.nodup_iff_pairwise_ne, List.pairwise_map]
  refine (List.Pairwise.filter _ (List.nodup_iff_pairwise_ne.1 List.nodup_range)).imp ?_
  intro a b hab e
  exact hab (Prod.mk.inj e).2
theorem row_mem {i : Nat} {x : Nat × Nat} (h : x ∈ row ws f l i) : x.1 = i ∧ ws[i]? = some f := by
  unfold row at h
  split at h
  · rename_i hf
    split at h
    · rw [List.mem_singleton.1 h]; exact ⟨rfl, hf⟩
    · exact ⟨(inn_mem.1 h).1, hf⟩
  · cases h
theorem row_nodup (i : Nat) : (row ws f l i).Nodup := by
  unfold row
  split
  · split
    · simp
    · exact inn_nodup _ _
  · simp
theorem occ_fst {j : Nat} {x : Nat × Nat} (h : x ∈ occ ws f l j) : x.1 < j := by
  simp only [occ, List.mem_flatMap, List.mem_range] at h
  obtain ⟨i, hi, hx⟩ := h
  rw [(row_mem hx).1]; exact hi
theorem occ_nodup : ∀ j, (occ ws f l j).Nodup
  | 0 => by simp [occ]
  | j + 1 => by
    rw [occ_succ, List.nodup_append]
    refine ⟨occ_nodup j, row_nodup j, fun a ha b hb e => ?_⟩
    subst e
    have := occ_fst ha
    have := (row_mem hb).1
    omega
theorem occ_in_mem {i k : Nat} (hi : i < ws.length) (hf : ws[i]? = some f) (h : (l = ⟨#[]⟩ ∧ k = i) ∨ (l ≠ ⟨#[]⟩ ∧ i < k ∧ k < ws.length ∧ ws[k]? = some l)) : (i, k) ∈ occs ws f l := by
  simp only [occs, occ, List.mem_flatMap, List.mem_range]
  refine ⟨i, hi, ?_⟩
  rw [row, if_pos hf]
  rcases h with ⟨h1, h2⟩ | ⟨h1, h2, h3, h4⟩
  · rw [if_pos h1, h2]; simp
  · rw [if_neg h1]; exact inn_mem.2 ⟨rfl, h2, h3, h4⟩
theorem inn_len (i k : Nat) : (inn ws l i k).length ≤ k := by
  unfold inn
  rw [List.length_map]
  exact Nat.le_trans (List.length_filter_le _ _) (by simp)
theorem occ_len (hn : ws.length ≤ 200) : ∀ j, (occ ws f l j).length ≤ j * 201
  | 0 => by simp [occ]
  | j + 1 => by
    have ih := occ_len hn j
    rw [occ_succ, List.length_append]
    have : (row ws f l j).length ≤ 201 := by
      unfold row
      split
      · split
        · simp
        · have := inn_len (ws := ws) (l := l) j ws.length; omega
      · simp
    omega
end
theorem snoc_ind {α : Type} {P : List α → Prop} (nil : P []) (snoc : ∀ l x, P l → P (l ++ [x])) (l : List α) : P l := by
  have h : ∀ r : List α, P r.reverse := fun r => by
    induction r with
    | nil => exact nil
    | cons x r ih => rw [List.reverse_cons]; exact snoc _ x ih
  have := h l.reverse
  rwa [List.reverse_reverse] at this
/-- What Of makes of the occurrences so far: the number of the last that is the one. -/
def numF (p : Nat × Nat) (l : List (Nat × Nat)) : Nat := (l.foldl (fun (s : Nat × Nat) x => (s.1 + 1, if x = p then s.1 + 1 else s.2)) (0, 0)).2
theorem numF_fst (p : Nat × Nat) : ∀ (l : List (Nat × Nat)) (s : Nat × Nat), (l.foldl (fun (s : Nat × Nat) x => (s.1 + 1, if x = p then s.1 + 1 else s.2)) s).1 = s.1 + l.length
  | [], s => rfl
  | x :: l, s => by rw [List.foldl_cons, numF_fst p l]; simp; omega
theorem numF_snoc (p : Nat × Nat) (l : List (Nat × Nat)) (x : Nat × Nat) : numF p (l ++ [x]) = if x = p then l.length + 1 else numF p l := by
  unfold numF
  rw [List.foldl_append, List.foldl_cons, List.foldl_nil, numF_fst]
  simp
theorem numF_le (p : Nat × Nat) : ∀ l : List (Nat × Nat), numF p l ≤ l.length := by
  intro l
  induction l using snoc_ind with
  | nil => exact Nat.le_refl _
  | snoc l x ih => rw [numF_snoc, List.length_append]; split <;> simp <;> omega
/-- In a list without repetitions. -/
theorem numF_at {p : Nat × Nat} : ∀ (l : List (Nat × Nat)), l.Nodup → ∀ k, l[k]? = some p → numF p l = k + 1 := by
  intro l
  induction l using snoc_ind with
  | nil => intro _ k h; simp at h
  | snoc l x ih =>
    intro hnd k h
    rw [numF_snoc]
    rw [List.nodup_append] at hnd
    by_cases hx : x = p
    · rw [if_pos hx]
      subst hx
      by_cases hk : k < l.length
      · rw [List.getElem?_append_left hk] at h
        exact absurd rfl (hnd.2.2 x (List.mem_of_getElem? h) x (by simp))
      · have := (List.getElem?_eq_some_iff.1 h).1
        simp at this; omega
    · rw [if_neg hx]
      have hk : k < l.length := by
        apply Classical.byContradiction
        intro hk
        rw [List.getElem?_append_right (by omega)] at h
        have : k - l.length = 0 := by
          have := (List.getElem?_eq_some_iff.1 h).1
          simp at this; omega
        rw [this] at h
        exact hx (Option.some.inj h)
      rw [List.getElem?_append_left hk] at h
      exact ih hnd.1 k h
theorem numF_no {p : Nat × Nat} : ∀ (l : List (Nat × Nat)), p ∉ l → numF p l = 0 := by
  intro l
  induction l using snoc_ind with
  | nil => intro _; rfl
  | snoc l x ih =>
    intro h
    rw [numF_snoc, if_neg (fun e => h (by rw [e]; simp)), ih (fun h' => h (List.mem_append_left _ h'))]
/-- What Find makes of them. -/
def fndF (N : Nat) (l : List (Nat × Nat)) : Nat × Nat := match l[max N 1 - 1]? with | some x => (x.1, x.2 + 1) | none => (0, 0)
theorem fndF_snoc (N : Nat) (l : List (Nat × Nat)) (x : Nat × Nat) : fndF N (l ++ [x]) = if l.length + 1 = max N 1 then (x.1, x.2 + 1) else fndF N l := by
  unfold fndF
  by_cases h : l.length + 1 = max N 1
  · rw [if_pos h, show max N 1 - 1 = l.length by omega]; simp
  · rw [if_neg h]
    by_cases h2 : max N 1 - 1 < l.length
    · rw [List.getElem?_append_left h2]
    · rw [List.getElem?_eq_none (by simp; omega), List.getElem?_eq_none (by omega)]
theorem pre_map {ws : List ByteArray} {f l : ByteArray} {pre : List (Oc ws f l)} (h : pre <+: ocL ws f l) : pre.map (·.1) <+: occs ws f l := by
  obtain ⟨r, hr⟩ := h
  refine ⟨r.map (·.1), ?_⟩
  rw [← List.map_append, hr, ocL, List.attach_map_subtype_val]
theorem all_map (ws : List ByteArray) (f l : ByteArray) : (ocL ws f l).map (·.1) = occs ws f l := by rw [ocL, List.attach_map_subtype_val]
end Go.Proofs.YtileoimcnhcfcaaDoor
