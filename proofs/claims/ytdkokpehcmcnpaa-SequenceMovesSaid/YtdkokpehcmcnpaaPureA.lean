/- Plain lists: the tables that Verify keeps. No program. -/
import Derived.Test.YtdkokpehcmcnpaaPure9
namespace Go.Proofs.Ytdkokpehcmcnpaa

theorem take_flat {cov : List (List Int)} {k : Nat} (hk : k < cov.length) : (cov.take (k + 1)).flatten = (cov.take k).flatten ++ cov[k]?.getD [] := by
  rw [take_succ' cov [] k hk, List.flatten_append]; simp
theorem flat_split {cov : List (List Int)} {k j : Nat} (hk : k < cov.length) (hj : j < (cov[k]?.getD []).length) :
    ∃ R, cov.flatten = ((cov.take k).flatten ++ (cov[k]?.getD []).take j) ++ (cov[k]?.getD [])[j]?.getD 0 :: R := by
  refine ⟨(cov[k]?.getD []).drop (j + 1) ++ (cov.drop (k + 1)).flatten, ?_⟩
  have e1 : cov.flatten = (cov.take k).flatten ++ (cov[k]?.getD [] ++ (cov.drop (k + 1)).flatten) := by
    conv => lhs; rw [← List.take_append_drop k cov]
    rw [List.flatten_append, List.drop_eq_getElem_cons hk, List.flatten_cons, List.getElem?_eq_getElem hk]; rfl
  have e2 : cov[k]?.getD [] = (cov[k]?.getD []).take j ++ (cov[k]?.getD [])[j]?.getD 0 :: (cov[k]?.getD []).drop (j + 1) := by
    conv => lhs; rw [← List.take_append_drop j (cov[k]?.getD [])]
    rw [List.drop_eq_getElem_cons hj, List.getElem?_eq_getElem hj]; rfl
  rw [e1]
  conv => lhs; rw [e2]
  simp
theorem not_once {n x : Nat} {F P R : List Int} (hx : x < n) (hm : (x : Int) ∈ P) (e : F = P ++ (x : Int) :: R) : ¬ Once n F := by
  intro h
  have := h x hx
  have h1 := List.count_pos_iff.2 hm
  rw [e, List.count_append, List.count_cons_self] at this
  omega
def SeenF (n : Nat) (F : List Int) (bs : List Bool) : Prop := bs.length = n ∧ ∀ v : Nat, v < n → (bs[v]?.getD false = true ↔ (v : Int) ∈ F)
theorem SeenF.start (n : Nat) : SeenF n [] (List.replicate n false) := ⟨by simp, fun v hv => by simp [hv]⟩
theorem SeenF.step {n x : Nat} {F : List Int} {bs : List Bool} (h : SeenF n F bs) (hx : x < n) : SeenF n (F ++ [(x : Int)]) (bs.set x true) := by
  refine ⟨by simp [h.1], fun u hu => ?_⟩
  by_cases e : u = x
  · subst e
    rw [List.getElem?_set_self (by rw [h.1]; exact hu)]
    simp
  · rw [List.getElem?_set_ne (fun y => e y.symm), h.2 u hu]
    simp; omega
def CountF (n : Nat) (F cs : List Int) : Prop := cs.length = n ∧ ∀ v : Nat, v < n → cs[v]?.getD 0 = (F.count (v : Int) : Int)
theorem CountF.start (n : Nat) : CountF n [] (List.replicate n 0) := ⟨by simp, fun v hv => by simp [hv]⟩
theorem CountF.step {n x : Nat} {F cs : List Int} (h : CountF n F cs) (hx : x < n) : CountF n (F ++ [(x : Int)]) (cs.set x (cs[x]?.getD 0 + 1)) := by
  refine ⟨by simp [h.1], fun u hu => ?_⟩
  by_cases e : u = x
  · subst e
    rw [List.getElem?_set_self (by rw [h.1]; exact hu), Option.getD_some, h.2 u hu, List.count_append]
    simp
  · rw [List.getElem?_set_ne (fun y => e y.symm), h.2 u hu, List.count_append]
    have : ([(x : Int)] : List Int).count (u : Int) = 0 := by
      rw [List.count_eq_zero]; simp; omega
    omega
theorem nodup_step {F : List Int} {x : Int} (h : F.Nodup) (hx : x ∉ F) : (F ++ [x]).Nodup := by
  rw [List.nodup_append]
  exact ⟨h, by simp, fun a ha b hb => by
    simp at hb; subst hb
    exact fun e => hx (e ▸ ha)⟩
theorem take_step {s : List Int} {j : Nat} (F : List Int) (hj : j < s.length) : F ++ s.take (j + 1) = (F ++ s.take j) ++ [s[j]?.getD 0] := by
  rw [take_succ' s 0 j hj, List.append_assoc]
theorem flat_mem {l : List Int} {cov : List (List Int)} {k : Nat} (h : ∀ j, j < k → ordB l false (cov[j]?.getD []) = true) : ∀ x ∈ (cov.take k).flatten, 0 ≤ x ∧ x < l.length := by
  intro x hx
  obtain ⟨s, hs, hxs⟩ := List.mem_flatten.1 hx
  obtain ⟨j, hj, rfl⟩ := List.getElem_of_mem hs
  have hj' : j < k ∧ j < cov.length := by simp at hj; omega
  have := h j hj'.1
  rw [List.getElem?_eq_getElem hj'.2] at this
  rw [List.getElem_take] at hxs
  exact ordB_mem this x hxs
theorem take_len {cov : List (List Int)} {M : Nat} (hM : ∀ s ∈ cov, s.length ≤ M) : ∀ k, (cov.take k).flatten.length ≤ k * M
  | 0 => by simp
  | k + 1 => by
    have ih := take_len hM k
    by_cases hk : k < cov.length
    · rw [take_flat hk, List.length_append, List.getElem?_eq_getElem hk, Option.getD_some, Nat.add_mul]
      have := hM _ (List.getElem_mem hk)
      omega
    · rw [List.take_of_length_le (by omega)]
      rw [List.take_of_length_le (by omega)] at ih
      rw [Nat.add_mul]; omega
def noEmpty (cov : List (List Int)) : Bool := decide (∀ j, j < cov.length → cov[j]?.getD [] ≠ [])
theorem verOk_iff {l ind : List Int} {cov : List (List Int)} (h1 : ind.length = cov.length) (h2 : ordB l true ind = true) (h3 : ∀ j, j < cov.length → ordB l false (cov[j]?.getD []) = true) :
    verOk l ind cov ↔ noEmpty cov = true ∧ Once l.length cov.flatten := by
  constructor
  · rintro ⟨_, _, h, h4⟩
    refine ⟨decide_eq_true fun j hj => ?_, h4⟩
    rw [List.getElem?_eq_getElem hj]
    exact (h _ (List.getElem_mem hj)).1
  · rintro ⟨h, h4⟩
    refine ⟨h1, h2, fun s hs => ?_, h4⟩
    obtain ⟨j, hj, rfl⟩ := List.getElem_of_mem hs
    have a := (of_decide_eq_true h : ∀ j, j < cov.length → cov[j]?.getD [] ≠ []) j hj
    have b := h3 j hj
    rw [List.getElem?_eq_getElem hj] at a b
    exact ⟨a, b⟩
theorem not_ord {l ind : List Int} {cov : List (List Int)} {j : Nat} (hj : j < cov.length) (h : ordB l false (cov[j]?.getD []) = false) : ¬ verOk l ind cov := fun hv => by
  have := (hv.2.2.1 _ (List.getElem_mem hj)).2
  rw [List.getElem?_eq_getElem hj] at h
  simp at h
  rw [h] at this; cases this
end Go.Proofs.Ytdkokpehcmcnpaa
