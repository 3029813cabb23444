/- Plain lists: the chosen subsequence is increasing, has the greatest weight, and stands before every other one as heavy. No program. -/
import Derived.Test.YtdkokpehcmcnpaaPure2
namespace Go.Proofs.Ytdkokpehcmcnpaa

/-- b holds ascending indices, from k on, of ascending elements, greater than lv. -/
def Inc (l : List Int) : Nat → Option Int → List Int → Prop
  | _, _, [] => True
  | k, lv, x :: b => ∃ i : Nat, x = i ∧ k ≤ i ∧ i < l.length ∧ (∀ v, lv = some v → v < l[i]?.getD 0) ∧ Inc l (i + 1) (some (l[i]?.getD 0)) b
/-- The weight of indices. -/
def wsum (wt : List Int) : List Int → Int
  | [] => 0
  | x :: b => wt[x.toNat]?.getD 0 + wsum wt b
/-- Which list stands first. -/
def cmpL : List Int → List Int → Int
  | [], [] => 0
  | [], _ :: _ => -1
  | _ :: _, [] => 1
  | x :: a, y :: b => if x < y then -1 else if y < x then 1 else cmpL a b
theorem cmpL_nil (b : List Int) : cmpL [] b ≤ 0 := by cases b <;> simp [cmpL]
theorem cmpL_cons (x : Int) (a b : List Int) : cmpL (x :: a) (x :: b) = cmpL a b := by simp [cmpL]
theorem cmpL_lt {x y : Int} (h : x < y) (a b : List Int) : cmpL (x :: a) (y :: b) = -1 := by simp [cmpL, h]

/-- What is chosen from index k on. -/
def pk (l wt S : List Int) : Nat → Nat → Option Int → Int → List Int
  | 0, _, _, _ => []
  | d + 1, k, lv, left => if 0 < left ∧ S[k]?.getD 0 = left ∧ (∀ v, lv = some v → v < l[k]?.getD 0) then (k : Int) :: pk l wt S d (k + 1) (some (l[k]?.getD 0)) (left - wt[k]?.getD 0) else pk l wt S d (k + 1) lv left
def lastV (l out : List Int) : Option Int := out.getLast?.map fun x => l[x.toNat]?.getD 0
theorem lastV_nil (l : List Int) : lastV l [] = none := rfl
theorem lastV_snoc (l out : List Int) (k : Nat) : lastV l (out ++ [(k : Int)]) = some (l[k]?.getD 0) := by simp [lastV]
theorem fits_iff (l out : List Int) (x : Int) : (out = [] ∨ l[(out.getLast?.getD 0).toNat]?.getD 0 < x) ↔ ∀ v, lastV l out = some v → v < x := by
  cases out with
  | nil => simp [lastV]
  | cons y ys =>
    obtain ⟨z, hz⟩ : ∃ z, (y :: ys).getLast? = some z := ⟨_, List.getLast?_eq_some_getLast (by simp)⟩
    simp [lastV, hz]
theorem picks_pk (l wt S : List Int) (tot : Int) : ∀ d k, (picks l wt S tot (k + d)).1 = (picks l wt S tot k).1 ++ pk l wt S d k (lastV l (picks l wt S tot k).1) (picks l wt S tot k).2
  | 0, k => by simp [pk]
  | d + 1, k => by
    have ih := picks_pk l wt S tot d (k + 1)
    rw [show k + (d + 1) = k + 1 + d by omega, ih]
    have e : picks l wt S tot (k + 1) = pick1 l wt S (picks l wt S tot k) k := rfl
    rw [e, pick1]
    simp only [fits_iff, pk]
    split
    · simp only [lastV_snoc, List.append_assoc, List.singleton_append]
    · rfl
theorem heavy_pk (l wt : List Int) : heavy l wt = pk l wt (sums l wt) l.length 0 none (weight l wt) := by
  have := picks_pk l wt (sums l wt) (top (sums l wt) 0) l.length 0
  rw [Nat.zero_add] at this
  exact this

theorem aft_ge {l S : List Int} {i j : Nat} (h : l[i]?.getD 0 < l[j]?.getD 0) : ∀ c, i < j → j ≤ i + c → S[j]?.getD 0 ≤ aft l S i c
  | 0, h1, h2 => by omega
  | c + 1, h1, h2 => by
    by_cases e : j = i + 1 + c
    · subst e
      rw [aft_yes h]
      exact Int.le_max_right _ _
    · have ih := aft_ge (S := S) h c h1 (by omega)
      simp only [aft]
      split
      · exact Int.le_trans ih (Int.le_max_left _ _)
      · exact ih
theorem aft_mem {l S : List Int} {i : Nat} : ∀ c, 0 < aft l S i c → ∃ j, i < j ∧ j ≤ i + c ∧ l[i]?.getD 0 < l[j]?.getD 0 ∧ S[j]?.getD 0 = aft l S i c
  | 0, h => by simp [aft] at h
  | c + 1, h => by
    simp only [aft] at h ⊢
    split at h
    · rename_i hx
      rw [if_pos hx]
      by_cases hm : aft l S i c ≤ S[i + 1 + c]?.getD 0
      · exact ⟨i + 1 + c, by omega, by omega, hx, by rw [Int.max_eq_right hm]⟩
      · rw [Int.max_eq_left (by omega)] at h ⊢
        obtain ⟨j, h1, h2, h3⟩ := aft_mem c h
        exact ⟨j, h1, by omega, h3⟩
    · rename_i hx
      rw [if_neg hx]
      obtain ⟨j, h1, h2, h3⟩ := aft_mem c h
      exact ⟨j, h1, by omega, h3⟩

section
variable {l wt S : List Int} (hS : SumsFrom l wt S 0)
include hS
/-- No increasing subsequence is heavier than the sum at its first index. -/
theorem inc_le : ∀ (b : List Int) (k : Nat) (lv : Option Int) (i : Nat), Inc l k lv ((i : Int) :: b) → wsum wt ((i : Int) :: b) ≤ S[i]?.getD 0
  | [], k, lv, i, h => by
    obtain ⟨i', e, _, hi, _, _⟩ := h
    obtain rfl : i = i' := by omega
    rw [hS.2 i (Nat.zero_le _) hi]
    have := aft_nonneg (l := l) (S := S) (i := i) (l.length - 1 - i)
    simp [wsum]; omega
  | y :: b, k, lv, i, h => by
    obtain ⟨i', e, _, hi, _, h2⟩ := h
    obtain rfl : i = i' := by omega
    have h3 := h2
    obtain ⟨j, rfl, hij, hj, hv, _⟩ := h2
    have ih := inc_le b _ _ j h3
    have ha := aft_ge (S := S) (hv _ rfl) (l.length - 1 - i) (by omega) (by omega)
    rw [hS.2 i (Nat.zero_le _) hi]
    have e2 : wsum wt ((i : Int) :: (j : Int) :: b) = wt[i]?.getD 0 + wsum wt ((j : Int) :: b) := by simp [wsum]
    rw [e2]; omega

theorem pk_best (hw : ∀ j : Nat, 0 ≤ wt[j]?.getD 0) : ∀ (d k : Nat) (lv : Option Int) (left : Int), k + d = l.length → 0 ≤ left →
    (∀ i, k ≤ i → i < l.length → (∀ v, lv = some v → v < l[i]?.getD 0) → S[i]?.getD 0 ≤ left) →
    (0 < left → ∃ i, k ≤ i ∧ i < l.length ∧ (∀ v, lv = some v → v < l[i]?.getD 0) ∧ S[i]?.getD 0 = left) →
    Inc l k lv (pk l wt S d k lv left) ∧ wsum wt (pk l wt S d k lv left) = left ∧
      ∀ b, Inc l k lv b → wsum wt b ≤ left ∧ (wsum wt b = left → cmpL (pk l wt S d k lv left) b ≤ 0)
  | 0, k, lv, left, hd, h0, hub, hat => by
    have hl : left = 0 := by
      rcases Int.lt_or_eq_of_le h0 with h | h
      · obtain ⟨i, h1, h2, _⟩ := hat h; omega
      · exact h.symm
    refine ⟨trivial, by simp [pk, wsum, hl], fun b hb => ?_⟩
    cases b with
    | nil => simp [wsum, hl, pk, cmpL]
    | cons x b => obtain ⟨i, _, h1, h2, _⟩ := hb; omega
  | d + 1, k, lv, left, hd, h0, hub, hat => by
    simp only [pk]
    split
    · rename_i hc
      obtain ⟨hpos, hSk, hfit⟩ := hc
      have hkl : k < l.length := by omega
      have haft : left - wt[k]?.getD 0 = aft l S k (l.length - 1 - k) := by rw [← hSk, hS.2 k (Nat.zero_le _) hkl]; omega
      obtain ⟨p1, p2, p3⟩ := pk_best hw d (k + 1) (some (l[k]?.getD 0)) (left - wt[k]?.getD 0) (by omega) (by rw [haft]; exact aft_nonneg _)
        (fun i h1 h2 h3 => by rw [haft]; exact aft_ge (h3 _ rfl) _ (by omega) (by omega))
        (fun h => by
          rw [haft] at h ⊢
          obtain ⟨j, h1, h2, h3, h4⟩ := aft_mem _ h
          exact ⟨j, by omega, by omega, fun v hv => by cases hv; exact h3, h4⟩)
      refine ⟨⟨k, rfl, Nat.le_refl _, hkl, hfit, p1⟩, by simp [wsum, p2]; omega, fun b hb => ?_⟩
      cases b with
      | nil => exact ⟨by simpa [wsum] using h0, fun h => by simp [wsum] at h; omega⟩
      | cons x b =>
        have hb' := hb
        obtain ⟨i, rfl, h1, h2, h3, h4⟩ := hb
        have hle := Int.le_trans (inc_le hS b k lv i hb') (hub i h1 h2 h3)
        refine ⟨hle, fun he => ?_⟩
        by_cases e : i = k
        · subst e
          rw [cmpL_cons]
          refine (p3 b h4).2 ?_
          have : wsum wt ((i : Int) :: b) = wt[i]?.getD 0 + wsum wt b := by simp [wsum]
          omega
        · rw [cmpL_lt (by omega)]; omega
    · rename_i hc
      obtain ⟨p1, p2, p3⟩ := pk_best hw d (k + 1) lv left (by omega) h0 (fun i h1 h2 h3 => hub i (by omega) h2 h3)
        (fun h => by
          obtain ⟨i, h1, h2, h3, h4⟩ := hat h
          refine ⟨i, ?_, h2, h3, h4⟩
          by_cases e : i = k
          · subst e; exact absurd ⟨h, h4, h3⟩ hc
          · omega)
      have hmono : ∀ b, Inc l (k + 1) lv b → Inc l k lv b := fun b hb => by
        cases b with
        | nil => trivial
        | cons x b => obtain ⟨i, e, h1, h2⟩ := hb; exact ⟨i, e, by omega, h2⟩
      refine ⟨hmono _ p1, p2, fun b hb => ?_⟩
      cases b with
      | nil => exact ⟨by simpa [wsum] using h0, fun h => (p3 [] trivial).2 h⟩
      | cons x b =>
        have hb' := hb
        obtain ⟨i, rfl, h1, h2, h3, h4⟩ := hb
        have hle := Int.le_trans (inc_le hS b k lv i hb') (hub i h1 h2 h3)
        refine ⟨hle, fun he => ?_⟩
        by_cases e : i = k
        · subst e
          have hup := inc_le hS b i lv i hb'
          have := hub i (by omega) h2 h3
          by_cases hp : 0 < left
          · exact absurd ⟨hp, by omega, h3⟩ hc
          · have hl : left = 0 := by omega
            have hnil : pk l wt S d (i + 1) lv left = [] := by
              have : ∀ d k lv left, left ≤ 0 → pk l wt S d k lv left = [] := by
                intro d
                induction d with
                | zero => intros; rfl
                | succ d ih => intro k lv left h; rw [pk, if_neg (by omega)]; exact ih _ _ _ h
              exact this _ _ _ _ (by omega)
            rw [hnil]
            exact cmpL_nil _
        · exact (p3 ((i : Int) :: b) ⟨i, rfl, by omega, h2, h3, h4⟩).2 he
end

/-- The chosen subsequence. -/
theorem heavy_best (l wt : List Int) (hw : ∀ j : Nat, 0 ≤ wt[j]?.getD 0) :
    Inc l 0 none (heavy l wt) ∧ wsum wt (heavy l wt) = weight l wt ∧ ∀ b, Inc l 0 none b → wsum wt b ≤ weight l wt ∧ (wsum wt b = weight l wt → cmpL (heavy l wt) b ≤ 0) := by
  rw [heavy_pk]
  have hlen := (sums_spec l wt).1
  refine pk_best (sums_spec l wt) hw l.length 0 none (weight l wt) (by omega) (top_nonneg _ _) (fun i h1 h2 _ => ?_) (fun h => ?_)
  · have := foldr_max_ge (sums l wt) ((sums l wt)[i]?.getD 0) (by rw [List.getElem?_eq_getElem (by omega)]; exact List.getElem_mem _)
    simpa [weight, top] using this
  · have := foldr_max_mem (sums l wt)
    unfold weight top at h ⊢
    rw [List.drop_zero] at h ⊢
    rcases this with h0 | h0
    · omega
    · obtain ⟨i, hi, he⟩ := List.getElem_of_mem h0
      exact ⟨i, Nat.zero_le _, by omega, fun v hv => (by cases hv), by rw [List.getElem?_eq_getElem hi, Option.getD_some]; exact he⟩
theorem wsum_ones {l : List Int} : ∀ {b : List Int} {k : Nat} {lv : Option Int}, Inc l k lv b → wsum (ones l) b = b.length
  | [], _, _, _ => rfl
  | x :: b, k, lv, h => by
    obtain ⟨i, rfl, _, hi, _, h2⟩ := h
    rw [wsum, wsum_ones h2]
    simp [ones, hi]; omega
theorem ones_nonneg (l : List Int) (j : Nat) : 0 ≤ (ones l)[j]?.getD 0 := ((ones_light l).2 j).1
theorem lis_best (l : List Int) : Inc l 0 none (lis l) ∧ ∀ b, Inc l 0 none b → b.length ≤ (lis l).length ∧ (b.length = (lis l).length → cmpL (lis l) b ≤ 0) := by
  obtain ⟨h1, h2, h3⟩ := heavy_best l (ones l) (ones_nonneg l)
  have e : wsum (ones l) (lis l) = (lis l).length := wsum_ones h1
  have e2 : weight l (ones l) = (lis l).length := by rw [← e]; exact h2.symm
  refine ⟨h1, fun b hb => ?_⟩
  have h4 := h3 b hb
  have e3 := wsum_ones hb
  rw [e2, e3] at h4
  exact ⟨by omega, fun h => h4.2 (by omega)⟩
/-- What increasing means, index by index. -/
theorem Inc.at_ {l : List Int} : ∀ {b : List Int} {k : Nat} {lv : Option Int}, Inc l k lv b → ∀ j, j < b.length → ∃ x : Nat, b[j]?.getD 0 = (x : Int) ∧ k ≤ x ∧ x < l.length ∧ (j = 0 → ∀ v, lv = some v → v < l[x]?.getD 0) ∧
    (0 < j → ∃ y : Nat, b[j - 1]?.getD 0 = (y : Int) ∧ y < x ∧ l[y]?.getD 0 < l[x]?.getD 0)
  | [], _, _, _, j, hj => by simp at hj
  | z :: b, k, lv, h, j, hj => by
    obtain ⟨i, rfl, h1, h2, h3, h4⟩ := h
    cases j with
    | zero => exact ⟨i, rfl, h1, h2, fun _ => h3, fun h => by omega⟩
    | succ j =>
      simp at hj
      obtain ⟨x, e1, e2, e3, e4, e5⟩ := Inc.at_ h4 j hj
      refine ⟨x, by simpa using e1, by omega, e3, by omega, fun _ => ?_⟩
      cases j with
      | zero => exact ⟨i, by simp, by omega, e4 rfl _ rfl⟩
      | succ j =>
        obtain ⟨y, y1, y2⟩ := e5 (by omega)
        exact ⟨y, by simpa using y1, y2⟩
/-- An increasing subsequence, one element longer. -/
theorem Inc.snoc {l : List Int} {x : Nat} : ∀ {b : List Int} {k : Nat} {lv : Option Int}, Inc l k lv b → x < l.length → (b = [] → k ≤ x ∧ ∀ v, lv = some v → v < l[x]?.getD 0) → (∀ y : Nat, b.getLast? = some (y : Int) → y < x ∧ l[y]?.getD 0 < l[x]?.getD 0) → Inc l k lv (b ++ [(x : Int)])
  | [], k, lv, _, hx, h0, _ => ⟨x, rfl, (h0 rfl).1, hx, (h0 rfl).2, trivial⟩
  | z :: b, k, lv, h, hx, _, hl => by
    obtain ⟨i, rfl, h1, h2, h3, h4⟩ := h
    refine ⟨i, rfl, h1, h2, h3, ?_⟩
    refine Inc.snoc h4 hx (fun e => ?_) (fun y hy => ?_)
    · subst e
      obtain ⟨a1, a2⟩ := hl i rfl
      exact ⟨by omega, fun v hv => by cases hv; exact a2⟩
    · refine hl y ?_
      cases b with
      | nil => simp at hy
      | cons w b => rw [List.getLast?_cons_cons]; exact hy
end Go.Proofs.Ytdkokpehcmcnpaa
