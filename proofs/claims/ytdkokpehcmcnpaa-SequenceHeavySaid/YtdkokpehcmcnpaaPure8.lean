/- Plain lists: with equal positive weights the heaviest subsequence is the first longest one. No program. -/
import Derived.Test.YtdkokpehcmcnpaaPure7
namespace Go.Proofs.Ytdkokpehcmcnpaa

theorem cmpL_antisymm : ∀ {a b : List Int}, cmpL a b ≤ 0 → cmpL b a ≤ 0 → a = b
  | [], [], _, _ => rfl
  | [], _ :: _, _, h => by simp [cmpL] at h
  | _ :: _, [], h, _ => by simp [cmpL] at h
  | x :: a, y :: b, h, k => by
    simp only [cmpL] at h k
    by_cases h1 : x < y
    · rw [if_neg (by omega), if_pos h1] at k; omega
    · by_cases h2 : y < x
      · rw [if_neg (by omega), if_pos h2] at h; omega
      · rw [if_neg h1, if_neg h2] at h
        rw [if_neg h2, if_neg h1] at k
        obtain rfl : x = y := by omega
        rw [cmpL_antisymm h k]
def equalW (n : Nat) (d : Int) : List Int := List.replicate n d
theorem wsum_equal {l : List Int} {d : Int} : ∀ {b : List Int} {k : Nat} {lv : Option Int}, Inc l k lv b → wsum (equalW l.length d) b = (b.length : Int) * d
  | [], _, _, _ => by simp [wsum]
  | x :: b, k, lv, h => by
    obtain ⟨i, rfl, _, hi, _, h2⟩ := h
    have e : ((equalW l.length d)[((i : Nat) : Int).toNat]?.getD 0) = d := by simp [equalW, hi]
    rw [wsum, wsum_equal h2, e, List.length_cons]
    have : ((b.length + 1 : Nat) : Int) * d = (b.length : Int) * d + d := by rw [Int.natCast_add, Int.add_mul]; simp
    omega
theorem equal_nonneg {n : Nat} {d : Int} (hd : 0 < d) (j : Nat) : 0 ≤ (equalW n d)[j]?.getD 0 := by
  by_cases h : j < n
  · simp [equalW, h]; omega
  · simp [equalW, h]
theorem heavy_equal (l : List Int) (d : Int) (hd : 0 < d) : heavy l (equalW l.length d) = lis l ∧ weight l (equalW l.length d) = ((lis l).length : Int) * d := by
  obtain ⟨h1, h2, h3⟩ := heavy_best l (equalW l.length d) (equal_nonneg hd)
  obtain ⟨k1, k2⟩ := lis_best l
  have e1 := wsum_equal (d := d) h1
  have e2 := wsum_equal (d := d) k1
  have a1 := (h3 _ k1).1
  have a2 := (k2 _ h1).1
  rw [e2, ← h2, e1] at a1
  have a3 : (lis l).length ≤ (heavy l (equalW l.length d)).length := by
    have := Int.le_of_mul_le_mul_right a1 hd
    omega
  have e3 : (heavy l (equalW l.length d)).length = (lis l).length := by omega
  have c1 := (k2 _ h1).2 e3
  have c2 := (h3 _ k1).2 (by rw [e2, ← h2, e1, e3])
  refine ⟨cmpL_antisymm c2 c1, ?_⟩
  rw [← h2, e1, e3]
theorem wsum_snoc (wt : List Int) (x : Int) : ∀ b, wsum wt (b ++ [x]) = wsum wt b + wt[x.toNat]?.getD 0
  | [] => by simp [wsum]
  | y :: b => by rw [List.cons_append, wsum, wsum, wsum_snoc wt x b]; omega
theorem wsum_take {wt b : List Int} {k : Nat} (h : k < b.length) : wsum wt (b.take (k + 1)) = wsum wt (b.take k) + wt[(b[k]?.getD 0).toNat]?.getD 0 := by
  rw [take_succ' b 0 k h, wsum_snoc]
theorem wsum_bound {wt : List Int} {W : Int} (hw : ∀ j : Nat, 0 ≤ wt[j]?.getD 0 ∧ wt[j]?.getD 0 ≤ W) : ∀ b : List Int, 0 ≤ wsum wt b ∧ wsum wt b ≤ W * b.length
  | [] => by simp [wsum]
  | x :: b => by
    have := wsum_bound hw b
    have := hw x.toNat
    have e : W * ((x :: b).length : Int) = W * (b.length : Int) + W := by rw [List.length_cons, Int.natCast_add, Int.mul_add]; simp
    rw [e, wsum]; omega
end Go.Proofs.Ytdkokpehcmcnpaa
