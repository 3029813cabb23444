/- Plain lists: the greedy cover. No program. -/
import Derived.Test.YtdkokpehcmcnpaaPure2
namespace Go.Proofs.Ytdkokpehcmcnpaa

/-- The last index of a list of a cover. -/
def lastOf (s : List Int) : Nat := (s.getLast?.getD 0).toNat
/-- Does an element x fit behind the last one of s? -/
def fits (l : List Int) (x : Int) (s : List Int) : Bool := decide (x ≤ l[lastOf s]?.getD 0)
/-- The first list to which x fits, or -1. -/
def coverIdx (l : List Int) (ll : List (List Int)) (x : Int) : Int := match ll.findIdx? (fits l x) with | none => -1 | some k => k
def coverStep (l : List Int) (ll : List (List Int)) (i : Nat) : List (List Int) :=
  match ll.findIdx? (fits l (l[i]?.getD 0)) with
  | none => ll ++ [[(i : Int)]]
  | some k => ll.set k (ll[k]?.getD [] ++ [(i : Int)])
def cover (l : List Int) : Nat → List (List Int)
  | 0 => []
  | i + 1 => coverStep l (cover l i) i

theorem coverIdx_none {l : List Int} {ll : List (List Int)} {x : Int} (h : ∀ j, j < ll.length → fits l x (ll[j]?.getD []) = false) : coverIdx l ll x = -1 := by
  unfold coverIdx
  rw [List.findIdx?_eq_none_iff.2]
  intro s hs
  obtain ⟨j, hj, rfl⟩ := List.getElem_of_mem hs
  have := h j hj
  simpa [List.getElem?_eq_getElem hj] using this
theorem findIdx_at {l : List Int} {ll : List (List Int)} {x : Int} {k : Nat} (hk : k < ll.length) (h1 : fits l x (ll[k]?.getD []) = true) (h : ∀ j, j < k → fits l x (ll[j]?.getD []) = false) : ll.findIdx? (fits l x) = some k := by
  rw [List.findIdx?_eq_some_iff_getElem]
  refine ⟨hk, by simpa [List.getElem?_eq_getElem hk] using h1, fun j hj => ?_⟩
  have := h j hj
  simp [List.getElem?_eq_getElem (Nat.lt_trans hj hk)] at this
  simp [this]
theorem coverIdx_at {l : List Int} {ll : List (List Int)} {x : Int} {k : Nat} (hk : k < ll.length) (h1 : fits l x (ll[k]?.getD []) = true) (h : ∀ j, j < k → fits l x (ll[j]?.getD []) = false) : coverIdx l ll x = k := by
  unfold coverIdx; rw [findIdx_at hk h1 h]
theorem coverIdx_cases (l : List Int) (ll : List (List Int)) (i : Nat) :
    (coverIdx l ll (l[i]?.getD 0) = -1 ∧ coverStep l ll i = ll ++ [[(i : Int)]]) ∨
    ∃ k : Nat, k < ll.length ∧ coverIdx l ll (l[i]?.getD 0) = k ∧ coverStep l ll i = ll.set k (ll[k]?.getD [] ++ [(i : Int)]) := by
  unfold coverIdx coverStep
  cases h : ll.findIdx? (fits l (l[i]?.getD 0)) with
  | none => exact .inl ⟨rfl, rfl⟩
  | some k =>
    obtain ⟨hk, _⟩ := List.findIdx?_eq_some_iff_getElem.1 h
    exact .inr ⟨k, hk, rfl, rfl⟩

/-- The lists of a cover are not empty, and hold indices that came before. -/
def CoverOk (ll : List (List Int)) (i : Nat) : Prop := ∀ s ∈ ll, s ≠ [] ∧ s.length ≤ i ∧ ∀ x ∈ s, 0 ≤ x ∧ x < i
theorem cover_rows (l : List Int) : ∀ i, CoverOk (cover l i) i ∧ (cover l i).length ≤ i
  | 0 => ⟨by simp [cover, CoverOk], by simp [cover]⟩
  | i + 1 => by
    obtain ⟨ih, ihl⟩ := cover_rows l i
    show CoverOk (coverStep l (cover l i) i) (i + 1) ∧ _
    rcases coverIdx_cases l (cover l i) i with ⟨_, e⟩ | ⟨k, hk, _, e⟩
    · rw [show cover l (i + 1) = coverStep l (cover l i) i from rfl, e]
      refine ⟨fun s hs => ?_, by simp; omega⟩
      rcases List.mem_append.1 hs with h | h
      · obtain ⟨h1, h2, h3⟩ := ih s h
        exact ⟨h1, by omega, fun x hx => by have := h3 x hx; omega⟩
      · simp at h; subst h
        exact ⟨by simp, by simp, fun x hx => by simp at hx; omega⟩
    · rw [show cover l (i + 1) = coverStep l (cover l i) i from rfl, e]
      refine ⟨fun s hs => ?_, by simp; omega⟩
      rcases List.mem_or_eq_of_mem_set hs with h | h
      · obtain ⟨h1, h2, h3⟩ := ih s h
        exact ⟨h1, by omega, fun x hx => by have := h3 x hx; omega⟩
      · subst h
        obtain ⟨h1, h2, h3⟩ := ih _ (List.getElem_mem hk)
        rw [List.getElem?_eq_getElem hk, Option.getD_some]
        refine ⟨by simp, by simp; omega, fun x hx => ?_⟩
        rcases List.mem_append.1 hx with h | h
        · have := h3 x h; omega
        · simp at h; omega
theorem rows_last {ll : List (List Int)} {i j : Nat} (h : CoverOk ll i) (hj : j < ll.length) :
    ∃ y : Nat, y < i ∧ lastOf (ll[j]?.getD []) = y ∧ 0 < (ll[j]?.getD []).length ∧ (ll[j]?.getD [])[(ll[j]?.getD []).length - 1]?.getD 0 = (y : Int) := by
  rw [List.getElem?_eq_getElem hj, Option.getD_some]
  obtain ⟨h1, h2, h3⟩ := h _ (List.getElem_mem hj)
  obtain ⟨y, hy⟩ : ∃ y, (ll[j]).getLast? = some y := ⟨_, List.getLast?_eq_some_getLast h1⟩
  have hm := h3 y (List.mem_of_getLast? hy)
  refine ⟨y.toNat, by omega, by simp [lastOf, hy], List.length_pos_iff.2 h1, ?_⟩
  rw [← List.getLast?_eq_getElem?, hy]
  simp; omega
theorem rows_i64 {ll : List (List Int)} {i : Nat} (h : CoverOk ll i) (hi : i ≤ 1024) : ∀ s ∈ ll, s.length * 8 ≤ 140737488355328 ∧ ∀ x ∈ s, I64 x := fun s hs => by
  obtain ⟨_, h2, h3⟩ := h s hs
  exact ⟨by omega, fun x hx => by have := h3 x hx; exact I64.small (by omega) (by omega)⟩
end Go.Proofs.Ytdkokpehcmcnpaa
