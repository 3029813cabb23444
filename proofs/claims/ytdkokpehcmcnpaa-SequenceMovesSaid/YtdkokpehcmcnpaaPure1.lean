/- Plain lists: counting inversions. No program. -/
import Derived.Test.YtdkokpehcmcnpaaBase
namespace Go.Proofs.Ytdkokpehcmcnpaa

def invBelow (l : List Int) (x : Int) (n : Nat) : Nat := ((l.take n).filter fun y => decide (x < y)).length
def inv (l : List Int) : Nat → Nat
  | 0 => 0
  | k + 1 => inv l k + invBelow l (l[k]?.getD 0) k

theorem invBelow_le (l : List Int) (x : Int) (n : Nat) : invBelow l x n ≤ n := Nat.le_trans (List.length_filter_le _ _) (List.length_take_le _ _)
theorem inv_le (l : List Int) (k : Nat) : inv l k ≤ k * k := by
  induction k with
  | zero => simp [inv]
  | succ k ih => have := invBelow_le l (l[k]?.getD 0) k; simp only [inv]; rw [Nat.mul_add, Nat.add_mul]; omega
theorem take_succ' {α : Type} [Inhabited α] (zs : List α) (d : α) (k : Nat) (hk : k < zs.length) : zs.take (k + 1) = zs.take k ++ [zs[k]?.getD d] := by
  rw [List.take_add_one, List.getElem?_eq_getElem hk]; rfl
theorem invBelow_succ (l : List Int) (x : Int) (n : Nat) (h : n < l.length) : invBelow l x (n + 1) = invBelow l x n + if x < l[n]?.getD 0 then 1 else 0 := by
  unfold invBelow
  rw [take_succ' l 0 n h, List.filter_append, List.length_append]
  by_cases hx : x < l[n]?.getD 0 <;> simp [hx]
theorem invBelow_yes (l : List Int) (x : Int) (n : Nat) (h : n < l.length) (hx : x < l[n]?.getD 0) : invBelow l x (n + 1) = invBelow l x n + 1 := by
  rw [invBelow_succ l x n h, if_pos hx]
theorem invBelow_no (l : List Int) (x : Int) (n : Nat) (h : n < l.length) (hx : ¬ x < l[n]?.getD 0) : invBelow l x (n + 1) = invBelow l x n := by
  rw [invBelow_succ l x n h, if_neg hx]; rfl
end Go.Proofs.Ytdkokpehcmcnpaa
