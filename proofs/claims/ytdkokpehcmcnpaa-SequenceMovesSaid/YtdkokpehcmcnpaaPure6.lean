/- Plain lists: the greatest of a list from its beginning on; inversions counted forward; runs, and the first list of a cover that fits, found as the reference does. No program. -/
import Derived.Test.YtdkokpehcmcnpaaPure4
import Derived.Test.YtdkokpehcmcnpaaPure5
namespace Go.Proofs.Ytdkokpehcmcnpaa

/-- The greatest of 0 and the first k elements. -/
def topTo (S : List Int) (k : Nat) : Int := (S.take k).foldr max 0
theorem foldr_max_init (y : Int) : ∀ S : List Int, S.foldr max (max y 0) = max (S.foldr max 0) y
  | [] => by simp only [List.foldr_nil]; exact Int.max_comm _ _
  | x :: S => by simp only [List.foldr_cons]; rw [foldr_max_init y S, Int.max_assoc]
theorem topTo_succ {S : List Int} {k : Nat} (h : k < S.length) : topTo S (k + 1) = max (topTo S k) (S[k]?.getD 0) := by
  unfold topTo
  rw [take_succ' S 0 k h, List.foldr_append]
  exact foldr_max_init _ _
theorem topTo_all (S : List Int) : topTo S S.length = top S 0 := by unfold topTo top; rw [List.take_length, List.drop_zero]
theorem topTo_yes {S : List Int} {k : Nat} (h : k < S.length) (hx : topTo S k < S[k]?.getD 0) : topTo S (k + 1) = S[k]?.getD 0 := by rw [topTo_succ h, Int.max_eq_right (by omega)]
theorem topTo_no {S : List Int} {k : Nat} (h : k < S.length) (hx : ¬ topTo S k < S[k]?.getD 0) : topTo S (k + 1) = topTo S k := by rw [topTo_succ h, Int.max_eq_left (by omega)]

/-- How many of the c elements behind i are less than that at i. -/
def lowIn (l : List Int) (i c : Nat) : Nat := ((l.drop (i + 1)).take c).countP fun y => decide (y < l[i]?.getD 0)
def invTo (l : List Int) : Nat → Nat
  | 0 => 0
  | k + 1 => invTo l k + lowIn l k (l.length - 1 - k)
theorem lowIn_le (l : List Int) (i c : Nat) : lowIn l i c ≤ c := Nat.le_trans List.countP_le_length (by simp; omega)
theorem lowIn_zero (l : List Int) (i : Nat) : lowIn l i 0 = 0 := by simp [lowIn]
theorem lowIn_succ {l : List Int} {i c : Nat} (h : i + 1 + c < l.length) : lowIn l i (c + 1) = lowIn l i c + if l[i + 1 + c]?.getD 0 < l[i]?.getD 0 then 1 else 0 := by
  unfold lowIn
  rw [take_succ' (l.drop (i + 1)) 0 c (by simp; omega), List.countP_append, List.getElem?_drop]
  by_cases hx : l[i + 1 + c]?.getD 0 < l[i]?.getD 0 <;> simp [hx]
theorem lowIn_yes {l : List Int} {i c : Nat} (h : i + 1 + c < l.length) (hx : l[i + 1 + c]?.getD 0 < l[i]?.getD 0) : lowIn l i (c + 1) = lowIn l i c + 1 := by rw [lowIn_succ h, if_pos hx]
theorem lowIn_no {l : List Int} {i c : Nat} (h : i + 1 + c < l.length) (hx : ¬ l[i + 1 + c]?.getD 0 < l[i]?.getD 0) : lowIn l i (c + 1) = lowIn l i c := by rw [lowIn_succ h, if_neg hx]; rfl
theorem invTo_le (l : List Int) : ∀ k, k ≤ l.length → invTo l k ≤ k * l.length
  | 0, _ => by simp [invTo]
  | k + 1, h => by
    have := invTo_le l k (by omega)
    have := lowIn_le l k (l.length - 1 - k)
    rw [invTo, Nat.add_mul]; omega
theorem invC_split (l : List Int) : ∀ k, k ≤ l.length → invC l = invTo l k + invC (l.drop k)
  | 0, _ => by simp [invTo]
  | k + 1, h => by
    rw [invC_split l k (by omega), List.drop_eq_getElem_cons (by omega), invC, invTo, lowIn, List.take_of_length_le (by simp; omega), List.getElem?_eq_getElem (by omega)]
    simp only [Option.getD_some]; omega
theorem invTo_all (l : List Int) : invTo l l.length = inv l l.length := by
  rw [inv_eq, invC_split l l.length (Nat.le_refl _), List.drop_length]; rfl

/-- A: the first list from j on that fits, or -1. -/
def FirstFit (l : List Int) (ll : List (List Int)) (x : Int) (j : Nat) (A : Int) : Prop :=
  (A = -1 ∧ ∀ q, j ≤ q → q < ll.length → fits l x (ll[q]?.getD []) = false) ∨
  ∃ k : Nat, A = k ∧ j ≤ k ∧ k < ll.length ∧ fits l x (ll[k]?.getD []) = true ∧ ∀ q, j ≤ q → q < k → fits l x (ll[q]?.getD []) = false
theorem FirstFit.start (l : List Int) (ll : List (List Int)) (x : Int) : FirstFit l ll x ll.length (-1) := .inl ⟨rfl, fun q h1 h2 => by omega⟩
theorem FirstFit.yes {l : List Int} {ll : List (List Int)} {x : Int} {j : Nat} (hj : j < ll.length) (hf : fits l x (ll[j]?.getD []) = true) : FirstFit l ll x j j := .inr ⟨j, rfl, Nat.le_refl _, hj, hf, fun q h1 h2 => by omega⟩
theorem FirstFit.no {l : List Int} {ll : List (List Int)} {x : Int} {j : Nat} {A : Int} (h : FirstFit l ll x (j + 1) A) (hf : fits l x (ll[j]?.getD []) = false) : FirstFit l ll x j A := by
  rcases h with ⟨h1, h2⟩ | ⟨k, h1, h2, h3, h4, h5⟩
  · exact .inl ⟨h1, fun q hq hq' => by
      by_cases e : q = j
      · rw [e]; exact hf
      · exact h2 q (by omega) hq'⟩
  · exact .inr ⟨k, h1, by omega, h3, h4, fun q hq hq' => by
      by_cases e : q = j
      · rw [e]; exact hf
      · exact h5 q (by omega) hq'⟩
theorem FirstFit.eq {l : List Int} {ll : List (List Int)} {x : Int} {A : Int} (h : FirstFit l ll x 0 A) : A = coverIdx l ll x := by
  rcases h with ⟨h1, h2⟩ | ⟨k, h1, _, h3, h4, h5⟩
  · rw [coverIdx_none (fun j hj => h2 j (Nat.zero_le _) hj)]; exact h1
  · rw [coverIdx_at h3 h4 (fun j hj => h5 j (Nat.zero_le _) hj)]; exact h1
theorem FirstFit.lt {l : List Int} {ll : List (List Int)} {x : Int} {j : Nat} {A : Int} (h : FirstFit l ll x j A) : -1 ≤ A ∧ A < ll.length := by
  rcases h with ⟨h1, _⟩ | ⟨k, h1, _, h3, _⟩ <;> omega

theorem stopAt_upto {l : List Int} {s : Nat} : ∀ d, s + d ≤ l.length → (∀ t, s ≤ t → t < s + d → cont l t = true) → stopAt l s = stopAt l (s + d)
  | 0, _, _ => rfl
  | d + 1, h, hc => by
    rw [stopAt_upto d (by omega) (fun t h1 h2 => hc t h1 (by omega)), stopAt_step (by omega) (hc (s + d) (by omega) (by omega))]
    rfl
/-- The runs of the first i elements, the last of them still open: it begins at s. -/
def Running (l : List Int) (i : Nat) (r : List (Nat × Nat)) (s : Nat) : Prop :=
  s < i ∧ i ≤ l.length ∧ (∀ t, s < t → t < i → cont l t = true) ∧ ∀ rest, RunsFrom l s rest → RunsFrom l 0 (r ++ rest)
theorem Running.first {l : List Int} (h : 0 < l.length) : Running l 1 [] 0 := ⟨by omega, by omega, fun t h1 h2 => by omega, fun rest h => h⟩
theorem Running.on {l : List Int} {i s : Nat} {r : List (Nat × Nat)} (h : Running l i r s) (hi : i < l.length) (hc : cont l i = true) : Running l (i + 1) r s :=
  ⟨by have := h.1; omega, by omega, fun t h1 h2 => by
    by_cases e : t = i
    · rw [e]; exact hc
    · exact h.2.2.1 t h1 (by omega), h.2.2.2⟩
theorem Running.stop {l : List Int} {i s : Nat} {r : List (Nat × Nat)} (h : Running l i r s) (hc : ¬ (i < l.length ∧ cont l i = true)) : stopAt l (s + 1) = i := by
  obtain ⟨h1, h2, h3, h4⟩ := h
  have := stopAt_upto (l := l) (s := s + 1) (i - (s + 1)) (by omega) (fun t h1 h2 => h3 t (by omega) (by omega))
  rw [show s + 1 + (i - (s + 1)) = i by omega] at this
  rw [this, stopAt_stop hc]
theorem Running.next {l : List Int} {i s : Nat} {r : List (Nat × Nat)} (h : Running l i r s) (hi : i < l.length) (hc : ¬ cont l i = true) : Running l (i + 1) (r ++ [(s, i - s)]) i := by
  have e := h.stop (fun x => hc x.2)
  obtain ⟨h1, h2, h3, h4⟩ := h
  refine ⟨by omega, by omega, fun t h1 h2 => by omega, fun rest hr => ?_⟩
  rw [List.append_assoc]
  exact h4 _ ⟨by omega, by rw [e], by rw [e]; exact hr⟩
theorem Running.done {l : List Int} {s : Nat} {r : List (Nat × Nat)} (h : Running l l.length r s) : r ++ [(s, l.length - s)] = runsOf l := by
  have e := h.stop (fun x => by omega)
  exact (h.2.2.2 [(s, l.length - s)] ⟨by have := h.1; omega, by rw [e], by rw [e]; exact Nat.le_refl _⟩).unique (runs_spec l)
end Go.Proofs.Ytdkokpehcmcnpaa
