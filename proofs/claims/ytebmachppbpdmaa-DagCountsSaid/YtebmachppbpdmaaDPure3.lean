/- Plain lists: which nodes are reached. No program. -/
import Derived.Test.YtebmachppbpdmaaDPure2
namespace Go.Proofs.Ytebmachppbpdmaa

/-- The first k links, those that leave u: where they lead is reached. -/
def mark (ll : List Lk) (bs : List Bool) (u k : Nat) : List Bool := (idxTo ll u k).foldl (fun b i => b.set (dst ll i) true) bs
theorem mark_yes {ll : List Lk} {bs : List Bool} {u k : Nat} (h : (lkAt ll k).1 = (u : Int)) : mark ll bs u (k + 1) = (mark ll bs u k).set (dst ll k) true := by rw [mark, idxTo_yes h, List.foldl_append]; rfl
theorem mark_no {ll : List Lk} {bs : List Bool} {u k : Nat} (h : (lkAt ll k).1 ≠ (u : Int)) : mark ll bs u (k + 1) = mark ll bs u k := by rw [mark, idxTo_no h]; rfl
theorem mark_length {ll : List Lk} {bs : List Bool} {u : Nat} : ∀ k, (mark ll bs u k).length = bs.length
  | 0 => rfl
  | k + 1 => by
    by_cases h : (lkAt ll k).1 = (u : Int)
    · rw [mark_yes h, List.length_set, mark_length k]
    · rw [mark_no h, mark_length k]
theorem mark_below {n : Nat} {ll : List Lk} (hv : Valid n ll) {bs : List Bool} {u j : Nat} (hj : j ≤ u) : ∀ k, k ≤ ll.length → (mark ll bs u k)[j]?.getD false = bs[j]?.getD false
  | 0, _ => rfl
  | k + 1, hk => by
    by_cases h : (lkAt ll k).1 = (u : Int)
    · have := hv.dst_gt (mem_idx.2 ⟨by omega, h⟩)
      rw [mark_yes h, List.getElem?_set_ne (by omega), mark_below hv hj k (by omega)]
    · rw [mark_no h, mark_below hv hj k (by omega)]
def rnext (ll : List Lk) (bs : List Bool) (u : Nat) : List Bool := if bs[u]?.getD false then mark ll bs u ll.length else bs
def reachB (ll : List Lk) (n s : Nat) : Nat → List Bool
  | 0 => (List.replicate n false).set s true
  | k + 1 => rnext ll (reachB ll n s k) (s + k)
theorem reachB_length {ll : List Lk} {n s : Nat} : ∀ k, (reachB ll n s k).length = n
  | 0 => by simp [reachB]
  | k + 1 => by rw [reachB, rnext]; split <;> simp [mark_length, reachB_length k]
theorem reachB_keep {n : Nat} {ll : List Lk} (hv : Valid n ll) {s j k : Nat} (hj : j ≤ s + k) : (reachB ll n s (k + 1))[j]?.getD false = (reachB ll n s k)[j]?.getD false := by
  rw [reachB, rnext]
  split
  · exact mark_below hv hj _ (Nat.le_refl _)
  · rfl
theorem reachB_stays {n : Nat} {ll : List Lk} (hv : Valid n ll) {s j k : Nat} (hj : j ≤ s + k) : ∀ d, (reachB ll n s (k + d))[j]?.getD false = (reachB ll n s k)[j]?.getD false
  | 0 => rfl
  | d + 1 => by rw [show k + (d + 1) = (k + d) + 1 by omega, reachB_keep hv (by omega), reachB_stays hv hj d]
def reachF (ll : List Lk) (n s : Nat) : List Bool := reachB ll n s (n - s)
theorem reachF_at {n : Nat} {ll : List Lk} (hv : Valid n ll) {s j k : Nat} (hj : j ≤ s + k) (hk : s + k ≤ n) : (reachF ll n s)[j]?.getD false = (reachB ll n s k)[j]?.getD false := by
  have := reachB_stays hv hj (n - s - k)
  rw [show k + (n - s - k) = n - s by omega] at this
  exact this
/-- The nodes below k that are marked. -/
def marked (bs : List Bool) (k : Nat) : List Int := ((List.range k).filter fun j => bs[j]?.getD false).map fun j : Nat => (j : Int)
theorem marked_yes {bs : List Bool} {k : Nat} (h : bs[k]?.getD false = true) : marked bs (k + 1) = marked bs k ++ [(k : Int)] := by
  simp [marked, List.range_succ, h]
theorem marked_no {bs : List Bool} {k : Nat} (h : bs[k]?.getD false = false) : marked bs (k + 1) = marked bs k := by
  simp [marked, List.range_succ, h]
theorem marked_congr {bs bs' : List Bool} {k : Nat} (h : ∀ j, j < k → bs[j]?.getD false = bs'[j]?.getD false) : marked bs k = marked bs' k := by
  unfold marked
  congr 1
  refine List.filter_congr fun j hj => ?_
  rw [h j (List.mem_range.1 hj)]
theorem marked_length (bs : List Bool) (k : Nat) : (marked bs k).length ≤ k := by
  unfold marked
  rw [List.length_map]
  have := List.length_filter_le (fun j => bs[j]?.getD false) (List.range k)
  simpa using this
theorem marked_mem {bs : List Bool} {k : Nat} {x : Int} : x ∈ marked bs k ↔ ∃ j, j < k ∧ x = (j : Int) ∧ bs[j]?.getD false = true := by
  unfold marked
  rw [List.mem_map]
  constructor
  · rintro ⟨j, hj, rfl⟩
    obtain ⟨h1, h2⟩ := List.mem_filter.1 hj
    exact ⟨j, List.mem_range.1 h1, rfl, h2⟩
  · rintro ⟨j, h1, rfl, h2⟩
    exact ⟨j, List.mem_filter.2 ⟨List.mem_range.2 h1, h2⟩, rfl⟩
def reachL (ll : List Lk) (n s : Nat) : List Int := marked (reachF ll n s) n
end Go.Proofs.Ytebmachppbpdmaa
