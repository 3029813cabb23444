/- Plain lists: the greedy cover is a cover. No program. -/
import Derived.Test.YtdkokpehcmcnpaaPureB
namespace Go.Proofs.Ytdkokpehcmcnpaa

theorem step_cases (l : List Int) (ll : List (List Int)) (i : Nat) :
    ((∀ k, k < ll.length → fits l (l[i]?.getD 0) (ll[k]?.getD []) = false) ∧ coverStep l ll i = ll ++ [[(i : Int)]]) ∨
    ∃ k : Nat, k < ll.length ∧ fits l (l[i]?.getD 0) (ll[k]?.getD []) = true ∧ (∀ j, j < k → fits l (l[i]?.getD 0) (ll[j]?.getD []) = false) ∧ coverStep l ll i = ll.set k (ll[k]?.getD [] ++ [(i : Int)]) := by
  unfold coverStep
  cases h : ll.findIdx? (fits l (l[i]?.getD 0)) with
  | none =>
    refine .inl ⟨fun k hk => ?_, rfl⟩
    have := List.findIdx?_eq_none_iff.1 h _ (List.getElem_mem hk)
    rw [List.getElem?_eq_getElem hk, Option.getD_some]
    simpa using this
  | some k =>
    obtain ⟨hk, h1, h2⟩ := List.findIdx?_eq_some_iff_getElem.1 h
    refine .inr ⟨k, hk, by rw [List.getElem?_eq_getElem hk]; exact h1, fun j hj => ?_, rfl⟩
    have := h2 j hj
    rw [List.getElem?_eq_getElem (show j < ll.length by omega), Option.getD_some]
    simpa using this
theorem last_mem {s : List Int} (h : s ≠ []) (h0 : ∀ x ∈ s, 0 ≤ x) : ((lastOf s : Nat) : Int) ∈ s ∧ s[s.length - 1]?.getD 0 = ((lastOf s : Nat) : Int) := by
  obtain ⟨y, hy⟩ : ∃ y, s.getLast? = some y := ⟨_, List.getLast?_eq_some_getLast h⟩
  have hm := List.mem_of_getLast? hy
  have := h0 y hm
  have e : ((lastOf s : Nat) : Int) = y := by simp [lastOf, hy]; omega
  refine ⟨by rw [e]; exact hm, ?_⟩
  rw [e, ← List.getLast?_eq_getElem?, hy]; rfl
theorem ord_snoc {l s : List Int} {i : Nat} (h : ordB l false s = true) (hne : s ≠ []) (hlt : ∀ x ∈ s, x < (i : Int)) (hi : i < l.length) (hf : fits l (l[i]?.getD 0) s = true) : ordB l false (s ++ [(i : Int)]) = true := by
  have ho := ordB_get h
  obtain ⟨m1, m2⟩ := last_mem hne (fun x hx => (ordB_mem h x hx).1)
  have hpos := List.length_pos_iff.2 hne
  refine ordB_yes (k := s.length + 1) (by simp) ?_
  have hkeep : ∀ j, j < s.length → (s ++ [(i : Int)])[j]?.getD 0 = s[j]?.getD 0 := fun j hj => by rw [List.getElem?_append_left hj]
  have hnew : (s ++ [(i : Int)])[s.length]?.getD 0 = i := by rw [List.getElem?_append_right (Nat.le_refl _)]; simp
  refine Ord.step (fun j hj => ?_) (by rw [hnew]; omega) (by rw [hnew]; omega) (fun _ => ?_)
  · rw [hkeep j hj, hkeep (j - 1) (by omega)]
    exact ho j hj
  · rw [hnew, hkeep _ (by omega), m2]
    refine ⟨hlt _ m1, ?_⟩
    have := of_decide_eq_true hf
    simp only [fitR, elemAt, Int.toNat_natCast]
    exact decide_eq_true this
theorem flat_set {cov : List (List Int)} {k : Nat} {i v : Int} (hk : k < cov.length) : (cov.set k (cov[k]?.getD [] ++ [i])).flatten.count v = cov.flatten.count v + if v = i then 1 else 0 := by
  have e1 : cov = cov.take k ++ cov[k] :: cov.drop (k + 1) := by rw [← List.drop_eq_getElem_cons hk, List.take_append_drop]
  rw [List.getElem?_eq_getElem hk, Option.getD_some, List.set_eq_take_append_cons_drop, if_pos hk]
  conv => rhs; rw [e1]
  simp only [List.flatten_append, List.flatten_cons, List.count_append, List.count_cons, List.count_nil]
  by_cases h : v = i
  · subst h; simp; omega
  · have h' : (i == v) = false := by simp; omega
    simp [h, h']
theorem cover_ok (l : List Int) : ∀ i, i ≤ l.length → CovOk l (cover l i) i
  | 0, _ => ⟨fun k hk => by simp [cover] at hk, fun v => by simp [cover], fun k _ hk => by simp [cover] at hk⟩
  | i + 1, hi => by
    obtain ⟨c1, c2, c3⟩ := cover_ok l i (by omega)
    have above : ∀ k, k < (cover l i).length → fits l (l[i]?.getD 0) ((cover l i)[k]?.getD []) = false → ∃ y ∈ (cover l i)[k]?.getD [], y < (i : Int) ∧ elemAt l y < elemAt l (i : Int) := fun k hk hf => by
      obtain ⟨m1, _⟩ := last_mem (c1 k hk).2.1 (fun x hx => (ordB_mem (c1 k hk).1 x hx).1)
      refine ⟨_, m1, (c1 k hk).2.2 _ m1, ?_⟩
      have := of_decide_eq_false hf
      simp only [elemAt, Int.toNat_natCast]; omega
    rw [show cover l (i + 1) = coverStep l (cover l i) i from rfl]
    rcases step_cases l (cover l i) i with ⟨h1, e⟩ | ⟨k, hk, h1, h2, e⟩
    · rw [e]
      have hl : ∀ k, k < (cover l i).length → (cover l i ++ [[(i : Int)]])[k]?.getD [] = (cover l i)[k]?.getD [] := fun k hk => by rw [List.getElem?_append_left hk]
      have hn : (cover l i ++ [[(i : Int)]])[(cover l i).length]?.getD [] = [(i : Int)] := by rw [List.getElem?_append_right (Nat.le_refl _)]; simp
      refine ⟨fun k hk => ?_, fun v => ?_, fun k h0 hk x hx => ?_⟩
      · by_cases e' : k = (cover l i).length
        · rw [e', hn]
          refine ⟨ordB_yes (k := 1) (by simp) (fun j hj => ?_), by simp, fun x hx => by simp at hx; omega⟩
          obtain rfl : j = 0 := by omega
          exact ⟨by simp, by simp; omega, fun h => by omega⟩
        · have hk' : k < (cover l i).length := by simp at hk; omega
          rw [hl k hk']
          exact ⟨(c1 k hk').1, (c1 k hk').2.1, fun x hx => by have := (c1 k hk').2.2 x hx; omega⟩
      · rw [List.flatten_append, List.count_append, c2]
        by_cases e' : v = i
        · subst e'; simp
        · have : ([[(i : Int)]] : List (List Int)).flatten.count (v : Int) = 0 := by rw [List.count_eq_zero]; simp; omega
          rw [this]; split <;> split <;> omega
      · by_cases e' : k = (cover l i).length
        · rw [e', hn] at hx
          rw [e', hl _ (by omega)]
          simp at hx
          subst hx
          exact above _ (by omega) (h1 _ (by omega))
        · have hk' : k < (cover l i).length := by simp at hk; omega
          rw [hl k hk'] at hx
          rw [hl (k - 1) (by omega)]
          exact c3 k h0 hk' x hx
    · rw [e]
      have hl : ∀ j, j ≠ k → ((cover l i).set k ((cover l i)[k]?.getD [] ++ [(i : Int)]))[j]?.getD [] = (cover l i)[j]?.getD [] := fun j hj => by rw [List.getElem?_set_ne (fun x => hj x.symm)]
      have hn : ((cover l i).set k ((cover l i)[k]?.getD [] ++ [(i : Int)]))[k]?.getD [] = (cover l i)[k]?.getD [] ++ [(i : Int)] := by rw [List.getElem?_set_self hk]; rfl
      refine ⟨fun j hj => ?_, fun v => ?_, fun j h0 hj x hx => ?_⟩
      · rw [List.length_set] at hj
        by_cases e' : j = k
        · rw [e', hn]
          refine ⟨ord_snoc (c1 k hk).1 (c1 k hk).2.1 (c1 k hk).2.2 (by omega) h1, by simp, fun x hx => ?_⟩
          rcases List.mem_append.1 hx with hx | hx
          · have := (c1 k hk).2.2 x hx; omega
          · simp at hx; omega
        · rw [hl j e']
          exact ⟨(c1 j hj).1, (c1 j hj).2.1, fun x hx => by have := (c1 j hj).2.2 x hx; omega⟩
      · rw [flat_set hk, c2]
        by_cases e' : v = i
        · subst e'; simp
        · have e2 : (if (v : Int) = (i : Int) then (1 : Nat) else 0) = 0 := if_neg (by omega)
          rw [e2]; split <;> split <;> omega
      · rw [List.length_set] at hj
        have sub : ∀ y, y ∈ (cover l i)[j - 1]?.getD [] → y ∈ ((cover l i).set k ((cover l i)[k]?.getD [] ++ [(i : Int)]))[j - 1]?.getD [] := fun y hy => by
          by_cases e' : j - 1 = k
          · rw [e', hn]; rw [e'] at hy; exact List.mem_append_left _ hy
          · rw [hl _ e']; exact hy
        by_cases e' : j = k
        · rw [e', hn] at hx
          rcases List.mem_append.1 hx with hx | hx
          · obtain ⟨y, y1, y2⟩ := c3 k (by omega) hk x hx
            exact ⟨y, sub y (by rw [e']; exact y1), y2⟩
          · simp at hx
            subst hx
            obtain ⟨y, y1, y2⟩ := above (k - 1) (by omega) (h2 _ (by omega))
            exact ⟨y, sub y (by rw [e']; exact y1), y2⟩
        · rw [hl j e'] at hx
          obtain ⟨y, y1, y2⟩ := c3 j h0 hj x hx
          exact ⟨y, sub y y1, y2⟩
end Go.Proofs.Ytdkokpehcmcnpaa
