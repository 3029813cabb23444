/- Plain lists: all paths of a small graph. No program. -/
import Derived.Test.YtebmachppbpdmaaDVerP
import Derived.Test.YtebmachppbpdmaaDRCnt
namespace Go.Proofs.Ytebmachppbpdmaa

/-- All paths from s to t, of at most d links. -/
def pathsF (ll : List Lk) (t : Nat) : Nat → Nat → List (List Int)
  | 0, s => if s = t then [[]] else []
  | d + 1, s => if s = t then [[]] else (idx ll s).flatMap fun i => (pathsF ll t d (dst ll i)).map ((i : Int) :: ·)
/-- Those over the first j links. -/
def pathsTo (ll : List Lk) (t d s j : Nat) : List (List Int) := (idxTo ll s j).flatMap fun i => (pathsF ll t d (dst ll i)).map ((i : Int) :: ·)
theorem pathsTo_zero (ll : List Lk) (t d s : Nat) : pathsTo ll t d s 0 = [] := rfl
theorem pathsTo_yes {ll : List Lk} {t d s j : Nat} (h : (lkAt ll j).1 = (s : Int)) : pathsTo ll t d s (j + 1) = pathsTo ll t d s j ++ (pathsF ll t d (dst ll j)).map ((j : Int) :: ·) := by
  rw [pathsTo, idxTo_yes h, List.flatMap_append]; simp [pathsTo]
theorem pathsTo_no {ll : List Lk} {t d s j : Nat} (h : (lkAt ll j).1 ≠ (s : Int)) : pathsTo ll t d s (j + 1) = pathsTo ll t d s j := by
  rw [pathsTo, idxTo_no h]; rfl
theorem pathsTo_mono {ll : List Lk} {t d s j : Nat} : ∀ e, (pathsTo ll t d s j).length ≤ (pathsTo ll t d s (j + e)).length
  | 0 => Nat.le_refl _
  | e + 1 => by
    refine Nat.le_trans (pathsTo_mono e) ?_
    rw [show j + (e + 1) = (j + e) + 1 by omega]
    by_cases h : (lkAt ll (j + e)).1 = (s : Int)
    · rw [pathsTo_yes h, List.length_append]; omega
    · rw [pathsTo_no h]; exact Nat.le_refl _
theorem pathsF_self (ll : List Lk) (t d : Nat) : pathsF ll t d t = [[]] := by cases d <;> simp [pathsF]
theorem pathsF_next {ll : List Lk} {t d s : Nat} (h : s ≠ t) : pathsF ll t (d + 1) s = pathsTo ll t d s ll.length := by rw [pathsF, if_neg h]; rfl

/-- How many links leave s or a node behind it. -/
def above (ll : List Lk) (s : Nat) : Nat := ((List.range ll.length).filter fun i => decide ((s : Int) ≤ (lkAt ll i).1)).length
theorem above_le (ll : List Lk) (s : Nat) : above ll s ≤ ll.length := by
  unfold above; exact Nat.le_trans (List.length_filter_le _ _) (by simp)
theorem filter_mono {α : Type} {p q : α → Bool} : ∀ (l : List α), (∀ x ∈ l, p x = true → q x = true) → (l.filter p).length ≤ (l.filter q).length
  | [], _ => by simp
  | x :: l, h => by
    have ih := filter_mono l (fun y hy => h y (by simp [hy]))
    have hx := h x (by simp)
    rw [List.filter_cons, List.filter_cons]
    by_cases hp : p x = true
    · rw [if_pos hp, if_pos (hx hp)]; simp; exact ih
    · rw [if_neg hp]; split <;> simp <;> omega
theorem filter_split {α : Type} {p q r : α → Bool} : ∀ (l : List α), (∀ x ∈ l, p x = true → r x = true) → (∀ x ∈ l, q x = true → r x = true) → (∀ x ∈ l, ¬ (p x = true ∧ q x = true)) → (l.filter p).length + (l.filter q).length ≤ (l.filter r).length
  | [], _, _, _ => by simp
  | x :: l, h1, h2, h3 => by
    have ih := filter_split l (fun y hy => h1 y (by simp [hy])) (fun y hy => h2 y (by simp [hy])) (fun y hy => h3 y (by simp [hy]))
    have a1 := h1 x (by simp)
    have a2 := h2 x (by simp)
    have a3 := h3 x (by simp)
    rw [List.filter_cons, List.filter_cons, List.filter_cons]
    by_cases hp : p x = true
    · have hq : ¬ q x = true := fun e => a3 ⟨hp, e⟩
      rw [if_pos hp, if_neg hq, if_pos (a1 hp)]; simp; omega
    · rw [if_neg hp]
      by_cases hq : q x = true
      · rw [if_pos hq, if_pos (a2 hq)]; simp; omega
      · rw [if_neg hq]; split <;> simp <;> omega
theorem above_mono {ll : List Lk} {s u : Nat} (h : s ≤ u) : above ll u ≤ above ll s := filter_mono _ fun x _ hx => by
  simp only [decide_eq_true_eq] at hx ⊢; omega
theorem above_split (ll : List Lk) (s : Nat) : (idx ll s).length + above ll (s + 1) ≤ above ll s := by
  refine filter_split _ (fun x _ hx => ?_) (fun x _ hx => ?_) (fun x _ hx => ?_)
  · simp only [decide_eq_true_eq] at hx ⊢; omega
  · simp only [decide_eq_true_eq] at hx ⊢; omega
  · simp only [decide_eq_true_eq] at hx; omega
theorem flatMap_len {α β : Type} {M : Nat} : ∀ (l : List α) (f : α → List β), (∀ x ∈ l, (f x).length ≤ M) → (l.flatMap f).length ≤ l.length * M
  | [], _, _ => by simp
  | x :: l, f, h => by
    have ih := flatMap_len l f (fun y hy => h y (by simp [hy]))
    have hx := h x (by simp)
    rw [List.flatMap_cons, List.length_append, List.length_cons, Nat.succ_mul]; omega
theorem le_two_pow : ∀ k : Nat, k ≤ 2 ^ k := fun k => Nat.le_of_lt Nat.lt_two_pow_self
theorem pathsF_len {ll : List Lk} {n : Nat} (hv : Valid n ll) (t : Nat) : ∀ d s, (pathsF ll t d s).length ≤ 2 ^ above ll s
  | 0, s => by
    have : 0 < 2 ^ above ll s := Nat.pow_pos (by omega)
    rw [pathsF]; split <;> simp; omega
  | d + 1, s => by
    have h0 : 0 < 2 ^ above ll s := Nat.pow_pos (by omega)
    rw [pathsF]
    split
    · simp; omega
    · refine Nat.le_trans (flatMap_len (M := 2 ^ above ll (s + 1)) _ _ fun i hi => ?_) ?_
      · rw [List.length_map]
        refine Nat.le_trans (pathsF_len hv t d (dst ll i)) (Nat.pow_le_pow_right (by omega) (above_mono (hv.dst_gt hi)))
      · refine Nat.le_trans (Nat.mul_le_mul_right _ (le_two_pow _)) ?_
        rw [← Nat.pow_add]
        exact Nat.pow_le_pow_right (by omega) (above_split ll s)
theorem pathsF_small {ll : List Lk} {n : Nat} (hv : Valid n ll) (hm : ll.length ≤ 14) (t d s : Nat) : (pathsF ll t d s).length ≤ 16384 :=
  Nat.le_trans (pathsF_len hv t d s) (Nat.le_trans (Nat.pow_le_pow_right (by omega) (Nat.le_trans (above_le ll s) hm)) (by decide))
theorem pathsTo_small {ll : List Lk} {n : Nat} (hv : Valid n ll) (hm : ll.length ≤ 14) {t d s j : Nat} (hst : s ≠ t) (hj : j ≤ ll.length) : (pathsTo ll t d s j).length ≤ 16384 := by
  have h1 := pathsTo_mono (ll := ll) (t := t) (d := d) (s := s) (j := j) (ll.length - j)
  rw [show j + (ll.length - j) = ll.length by omega, ← pathsF_next hst] at h1
  exact Nat.le_trans h1 (pathsF_small hv hm t _ s)
theorem pathsF_row {ll : List Lk} {t : Nat} : ∀ d s, ∀ p ∈ pathsF ll t d s, p.length ≤ d ∧ ∀ x ∈ p, 0 ≤ x ∧ x < ll.length
  | 0, s, p, hp => by
    rw [pathsF] at hp
    split at hp
    · simp at hp; subst hp; simp
    · cases hp
  | d + 1, s, p, hp => by
    rw [pathsF] at hp
    split at hp
    · simp at hp; subst hp; simp
    · obtain ⟨i, hi, hq⟩ := List.mem_flatMap.1 hp
      obtain ⟨q, hq', rfl⟩ := List.mem_map.1 hq
      obtain ⟨h1, h2⟩ := pathsF_row d _ q hq'
      have := (mem_idx.1 hi).1
      refine ⟨by simp; omega, fun x hx => ?_⟩
      rcases List.mem_cons.1 hx with rfl | hx
      · omega
      · exact h2 x hx
theorem pathsF_fuel {ll : List Lk} {n : Nat} (hv : Valid n ll) (t : Nat) : ∀ d e s, s < n → n - s ≤ d → n - s ≤ e → pathsF ll t d s = pathsF ll t e s
  | 0, e, s, h, h1, _ => by omega
  | d + 1, 0, s, h, _, h1 => by omega
  | d + 1, e + 1, s, h, h1, h2 => by
    rw [pathsF, pathsF]
    by_cases hst : s = t
    · rw [if_pos hst, if_pos hst]
    · rw [if_neg hst, if_neg hst]
      have key : ∀ l : List Nat, (∀ i ∈ l, i ∈ idx ll s) → l.flatMap (fun i => (pathsF ll t d (dst ll i)).map ((i : Int) :: ·)) = l.flatMap fun i => (pathsF ll t e (dst ll i)).map ((i : Int) :: ·) := by
        intro l
        induction l with
        | nil => intro _; rfl
        | cons i l ih =>
          intro hl
          have hi := hl i (by simp)
          have g1 := hv.dst_gt hi
          have g2 := hv.dst_lt (mem_idx.1 hi).1
          rw [List.flatMap_cons, List.flatMap_cons, ih (fun j hj => hl j (by simp [hj])), pathsF_fuel hv t d e _ g2 (by omega) (by omega)]
      exact key _ fun i hi => hi
/-- All paths. -/
def pathsL (ll : List Lk) (n s t : Nat) : List (List Int) := pathsF ll t n s
theorem pathsL_next {ll : List Lk} {n : Nat} (hv : Valid n ll) {s t : Nat} (hs : s < n) (hst : s ≠ t) : pathsL ll n s t = (idx ll s).flatMap fun i => (pathsL ll n (dst ll i) t).map ((i : Int) :: ·) := by
  obtain ⟨d, rfl⟩ : ∃ d, n = d + 1 := ⟨n - 1, by omega⟩
  rw [pathsL, pathsF, if_neg hst]
  have key : ∀ l : List Nat, (∀ i ∈ l, i ∈ idx ll s) → l.flatMap (fun i => (pathsF ll t d (dst ll i)).map ((i : Int) :: ·)) = l.flatMap fun i => (pathsL ll (d + 1) (dst ll i) t).map ((i : Int) :: ·) := by
    intro l
    induction l with
    | nil => intro _; rfl
    | cons i l ih =>
      intro hl
      have hi := hl i (by simp)
      have g1 := hv.dst_gt hi
      have g2 := hv.dst_lt (mem_idx.1 hi).1
      rw [List.flatMap_cons, List.flatMap_cons, ih (fun j hj => hl j (by simp [hj])), pathsL, pathsF_fuel hv t d (d + 1) _ g2 (by omega) (by omega)]
  exact key _ fun i hi => hi
theorem pathsL_self (ll : List Lk) (n t : Nat) : pathsL ll n t t = [[]] := pathsF_self ll t n

theorem mem_pathsL {ll : List Lk} {n : Nat} (hv : Valid n ll) {s t : Nat} (hs : s < n) (hst : s ≠ t) {q : List Int} : q ∈ pathsL ll n s t ↔ ∃ i ∈ idx ll s, ∃ r ∈ pathsL ll n (dst ll i) t, q = (i : Int) :: r := by
  rw [pathsL_next hv hs hst, List.mem_flatMap]
  constructor
  · rintro ⟨i, hi, hq⟩
    obtain ⟨r, hr, rfl⟩ := List.mem_map.1 hq
    exact ⟨i, hi, r, hr, rfl⟩
  · rintro ⟨i, hi, r, hr, rfl⟩
    exact ⟨i, hi, List.mem_map.2 ⟨r, hr, rfl⟩⟩
/-- A path leads to t, at what it costs. -/
theorem pathsL_walk {ll : List Lk} {n t : Nat} (hv : Valid n ll) : ∀ (q : List Int) (s : Nat) (c : Int), s < n → q ∈ pathsL ll n s t → walkP ll s c q = some ((t : Int), c + costP ll q)
  | [], s, c, hs, h => by
    by_cases hst : s = t
    · subst hst; simp [walkP, costP]
    · obtain ⟨i, _, r, _, e⟩ := (mem_pathsL hv hs hst).1 h; cases e
  | x :: r, s, c, hs, h => by
    by_cases hst : s = t
    · subst hst; rw [pathsL_self] at h; simp at h
    · obtain ⟨i, hi, r', hr, e⟩ := (mem_pathsL hv hs hst).1 h
      obtain ⟨rfl, rfl⟩ := List.cons.inj e
      obtain ⟨h1, h2⟩ := mem_idx.1 hi
      have g2 := hv.dst_lt h1
      have ih := pathsL_walk hv r (dst ll i) (c + cst ll i) g2 hr
      rw [walkP, Int.toNat_natCast, if_pos ⟨by omega, by omega, h2⟩, hv.dst_eq h1]
      show walkP ll _ (c + cst ll i) r = _
      rw [ih, costP, Int.toNat_natCast]
      congr 2; omega

/-- The order of two paths. -/
def cmpL : List Int → List Int → Int
  | [], [] => 0
  | [], _ :: _ => -1
  | _ :: _, [] => 1
  | x :: a, y :: b => if x < y then -1 else if y < x then 1 else cmpL a b

section
variable {ll : List Lk} {n t : Nat} {p : List Int} (hv : Valid n ll) (hp : FoldOk potW ll n t 0 p) (hge : ∀ j : Nat, -1 ≤ p[j]?.getD 0)
include hv hp
theorem gpath_mem : ∀ (r : List Int) (s : Nat), s < n → GPath ll p t s r → r ∈ pathsL ll n s t
  | [], s, hs, h => by
    obtain rfl : s = t := h
    rw [pathsL_self]; simp
  | x :: r, s, hs, ⟨hst, i, hx, hf, hr⟩ => by
    subst hx
    have hi : i ∈ idx ll s := mem_idx.2 ⟨hf.1, hf.2.1.1⟩
    exact (mem_pathsL hv hs hst).2 ⟨i, hi, r, gpath_mem r _ (hv.dst_lt hf.1) hr, rfl⟩
include hge
/-- No path costs less. -/
theorem pathsL_least {q : List Int} {s : Nat} (hs : s < n) (h : q ∈ pathsL ll n s t) : 0 ≤ p[s]?.getD 0 ∧ p[s]?.getD 0 ≤ costP ll q := by
  have h1 := pathsL_walk hv q s 0 hs h
  have := walk_bound hv (pot_potOk hv hp hge) q s 0 _ h1
  omega
theorem pathsL_nil {s : Nat} (hs : s < n) : pathsL ll n s t = [] ↔ p[s]?.getD 0 < 0 := by
  constructor
  · intro h
    rcases Int.lt_or_le (p[s]?.getD 0) 0 with e | e
    · exact e
    · obtain ⟨r, hr⟩ := gpath_exists hv hp (n - s) s rfl hs e
      have := gpath_mem hv hp r s hs hr
      rw [h] at this; cases this
  · intro h
    refine List.eq_nil_iff_forall_not_mem.2 fun q hq => ?_
    have := (pathsL_least hv hp hge hs hq).1
    omega
/-- None that costs as much stands before the first one. -/
theorem gpath_first : ∀ (r q : List Int) (s : Nat), s < n → GPath ll p t s r → q ∈ pathsL ll n s t → costP ll q = p[s]?.getD 0 → 0 ≤ cmpL q r
  | [], q, s, hs, h, hq, _ => by
    obtain rfl : s = t := h
    rw [pathsL_self] at hq
    simp at hq; subst hq; decide
  | x :: r, q, s, hs, ⟨hst, i, hx, hf, hr⟩, hq, hc => by
    subst hx
    obtain ⟨j, hj, q', hq', rfl⟩ := (mem_pathsL hv hs hst).1 hq
    obtain ⟨h1, h2⟩ := mem_idx.1 hj
    have g2 := hv.dst_lt h1
    obtain ⟨l1, l2⟩ := pathsL_least hv hp hge g2 hq'
    have hpl := (pot_potOk hv hp hge).2.2.2 j h1
    unfold PotLink at hpl
    rw [h2, hv.dst_eq h1, Int.toNat_natCast, Int.toNat_natCast] at hpl
    have hpl := hpl l1
    rw [costP, Int.toNat_natCast] at hc
    have hcj : (lkAt ll j).2.2 = cst ll j := rfl
    have hfit : Fit ll p s j := ⟨h2, l1, by omega⟩
    have hij : i ≤ j := by
      rcases Nat.lt_or_ge j i with e | e
      · exact absurd hfit (hf.2.2 j e)
      · exact e
    rw [cmpL, if_neg (by omega)]
    by_cases e : i < j
    · rw [if_pos (by omega)]; decide
    · obtain rfl : i = j := by omega
      rw [if_neg (by omega)]
      exact gpath_first r q' (dst ll i) g2 hr hq' (by have := hfit.2.2; omega)
end
end Go.Proofs.Ytebmachppbpdmaa
