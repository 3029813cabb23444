/- Plain lists: a list ascends weakly exactly if it has no inversions; turned round, a list without repeats has the other ones. No program. -/
import Derived.Test.YtdkokpehcmcnpaaWLib
import Derived.Test.YtdkokpehcmcnpaaWPerm
namespace Go.Proofs.Ytdkokpehcmcnpaa

def invC : List Int → Nat
  | [] => 0
  | x :: xs => xs.countP (fun y => decide (y < x)) + invC xs
def ascC : List Int → Nat
  | [] => 0
  | x :: xs => xs.countP (fun y => decide (x < y)) + ascC xs
theorem invC_snoc (l : List Int) (y : Int) : invC (l ++ [y]) = invC l + l.countP (fun z => decide (y < z)) := by
  induction l with
  | nil => simp [invC]
  | cons x l ih =>
    simp only [List.cons_append, invC, ih, List.countP_append, List.countP_cons, List.countP_nil]
    omega
theorem inv_take (l : List Int) : ∀ k, k ≤ l.length → inv l k = invC (l.take k)
  | 0, _ => by simp [inv, invC]
  | k + 1, h => by
    rw [take_succ' l 0 k (by omega), invC_snoc, inv, inv_take l k (by omega), invBelow, List.countP_eq_length_filter]
theorem inv_eq (l : List Int) : inv l l.length = invC l := by rw [inv_take l _ (Nat.le_refl _), List.take_length]
theorem invC_reverse : ∀ l : List Int, invC l.reverse = ascC l
  | [] => rfl
  | x :: l => by rw [List.reverse_cons, invC_snoc, invC_reverse l, List.countP_reverse, ascC]; omega
theorem count_both {x : Int} : ∀ {l : List Int}, x ∉ l → l.countP (fun y => decide (y < x)) + l.countP (fun y => decide (x < y)) = l.length
  | [], _ => rfl
  | y :: l, h => by
    have ih := count_both (x := x) (l := l) (fun hx => h (List.mem_cons_of_mem _ hx))
    have hne : y ≠ x := fun e => h (by simp [e])
    simp only [List.countP_cons, List.length_cons, decide_eq_true_eq]
    by_cases h1 : y < x
    · rw [if_pos h1, if_neg (by omega)]; omega
    · rw [if_neg h1, if_pos (by omega)]; omega
theorem inv_asc : ∀ {l : List Int}, l.Nodup → 2 * (invC l + ascC l) = l.length * (l.length - 1)
  | [], _ => rfl
  | x :: l, h => by
    obtain ⟨h1, h2⟩ := List.nodup_cons.1 h
    have ih := inv_asc h2
    have hc := count_both h1
    simp only [invC, ascC, List.length_cons, Nat.add_sub_cancel]
    have e : (l.length + 1) * l.length = l.length * (l.length - 1) + 2 * l.length := by
      cases hl : l.length with
      | zero => rfl
      | succ m => simp only [Nat.add_sub_cancel, Nat.add_mul, Nat.mul_add]; omega
    omega
theorem perm_nodup {l : List Int} (h : permB l = true) : l.Nodup := by
  have hp : PermTo l l.length := of_decide_eq_true h
  rw [List.Nodup, List.pairwise_iff_getElem]
  intro i j hi hj hij
  have := (hp j hj).2.2 i hij
  simpa [List.getElem?_eq_getElem, hi, hj] using this
theorem ascending {l : List Int} (h : ∀ j, j < l.length → 0 < j → l[j - 1]?.getD 0 ≤ l[j]?.getD 0) : ∀ j, j < l.length → ∀ i, i ≤ j → l[i]?.getD 0 ≤ l[j]?.getD 0 := by
  intro j
  induction j with
  | zero => intro _ i hi; obtain rfl : i = 0 := by omega
            exact Int.le_refl _
  | succ j ih =>
    intro hj i hi
    by_cases e : i = j + 1
    · subst e; exact Int.le_refl _
    · exact Int.le_trans (ih (by omega) i (by omega)) (h (j + 1) hj (by omega))
theorem invBelow_zero {l : List Int} {x : Int} {k : Nat} (hk : k ≤ l.length) : invBelow l x k = 0 ↔ ∀ i, i < k → l[i]?.getD 0 ≤ x := by
  induction k with
  | zero => simp [invBelow]
  | succ k ih =>
    rw [invBelow_succ l x k (by omega)]
    constructor
    · intro h i hi
      have h1 : invBelow l x k = 0 := by omega
      by_cases e : i = k
      · subst e
        by_cases hx : x < l[i]?.getD 0
        · rw [if_pos hx] at h; omega
        · omega
      · exact (ih (by omega)).1 h1 i (by omega)
    · intro h
      rw [(ih (by omega)).2 (fun i hi => h i (by omega)), if_neg (by have := h k (by omega); omega)]
theorem inv_zero {l : List Int} : ∀ k, k ≤ l.length → (inv l k = 0 ↔ ∀ j, j < k → ∀ i, i < j → l[i]?.getD 0 ≤ l[j]?.getD 0)
  | 0, _ => by simp [inv]
  | k + 1, h => by
    rw [inv, Nat.add_eq_zero_iff, inv_zero k (by omega), invBelow_zero (by omega)]
    constructor
    · rintro ⟨h1, h2⟩ j hj i hi
      by_cases e : j = k
      · subst e; exact h2 i hi
      · exact h1 j (by omega) i hi
    · intro h1
      exact ⟨fun j hj i hi => h1 j (by omega) i hi, fun i hi => h1 k (by omega) i hi⟩
theorem inv_sorted (l : List Int) : (inv l l.length = 0) ↔ sortedB l = true := by
  rw [inv_zero _ (Nat.le_refl _)]
  constructor
  · intro h; exact decide_eq_true fun j hj h0 => h j hj (j - 1) (by omega)
  · intro h j hj i hi
    exact ascending (of_decide_eq_true h) j hj i (by omega)
theorem inv_turned {l : List Int} (h : permB l = true) : inv l l.length + inv l.reverse l.length = l.length * (l.length - 1) / 2 := by
  have h1 := inv_asc (perm_nodup h)
  have h2 : inv l.reverse l.length = ascC l := by
    have := inv_eq l.reverse
    rw [List.length_reverse, invC_reverse] at this
    exact this
  rw [inv_eq, h2]
  omega
end Go.Proofs.Ytdkokpehcmcnpaa
