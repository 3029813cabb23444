/- Plain lists: what Verify looks at. No program. -/
import Derived.Test.YtdkokpehcmcnpaaPure1
namespace Go.Proofs.Ytdkokpehcmcnpaa

def elemAt (l : List Int) (x : Int) : Int := l[x.toNat]?.getD 0
/-- Does the second element fit behind the first. -/
def fitR (st : Bool) (x y : Int) : Bool := if st then decide (x < y) else decide (y ≤ x)
/-- The first k of the indices s ascend, and their elements fit. -/
def Ord (l : List Int) (st : Bool) (s : List Int) (k : Nat) : Prop :=
  ∀ j, j < k → 0 ≤ s[j]?.getD 0 ∧ s[j]?.getD 0 < l.length ∧ (0 < j → s[j - 1]?.getD 0 < s[j]?.getD 0 ∧ fitR st (elemAt l (s[j - 1]?.getD 0)) (elemAt l (s[j]?.getD 0)) = true)
instance (l : List Int) (st : Bool) (s : List Int) (k : Nat) : Decidable (Ord l st s k) := by unfold Ord; exact inferInstance
def ordB (l : List Int) (st : Bool) (s : List Int) : Bool := decide (Ord l st s s.length)
theorem Ord.step {l : List Int} {st : Bool} {s : List Int} {k : Nat} (h : Ord l st s k) (h0 : 0 ≤ s[k]?.getD 0) (h1 : s[k]?.getD 0 < l.length)
    (h2 : 0 < k → s[k - 1]?.getD 0 < s[k]?.getD 0 ∧ fitR st (elemAt l (s[k - 1]?.getD 0)) (elemAt l (s[k]?.getD 0)) = true) : Ord l st s (k + 1) := by
  intro j hj
  by_cases e : j = k
  · subst e; exact ⟨h0, h1, h2⟩
  · exact h j (by omega)
theorem ordB_no {l : List Int} {st : Bool} {s : List Int} {k : Nat} (hk : k < s.length)
    (h : ¬ (0 ≤ s[k]?.getD 0 ∧ s[k]?.getD 0 < l.length ∧ (0 < k → s[k - 1]?.getD 0 < s[k]?.getD 0 ∧ fitR st (elemAt l (s[k - 1]?.getD 0)) (elemAt l (s[k]?.getD 0)) = true))) : ordB l st s = false :=
  decide_eq_false fun hall => h (hall k hk)
theorem ordB_yes {l : List Int} {st : Bool} {s : List Int} {k : Nat} (hk : k = s.length) (h : Ord l st s k) : ordB l st s = true := by subst hk; exact decide_eq_true h
theorem ordB_mem {l : List Int} {st : Bool} {s : List Int} (h : ordB l st s = true) : ∀ x ∈ s, 0 ≤ x ∧ x < l.length := by
  intro x hx
  obtain ⟨j, hj, rfl⟩ := List.getElem_of_mem hx
  have := (of_decide_eq_true h : Ord l st s s.length) j hj
  rw [List.getElem?_eq_getElem hj] at this
  exact ⟨this.1, this.2.1⟩

theorem pigeon : ∀ (n : Nat) (F : List Int), F.Nodup → (∀ x ∈ F, 0 ≤ x ∧ x < n) → F.length ≤ n
  | 0, F, _, h => by
    cases F with
    | nil => simp
    | cons x F => have := h x (by simp); omega
  | n + 1, F, hd, h => by
    have ih := pigeon n (F.erase (n : Int)) (hd.erase _) (fun x hx => by
      obtain ⟨h1, h2⟩ := hd.mem_erase_iff.1 hx
      have := h x h2
      omega)
    have := List.length_erase (a := (n : Int)) (l := F)
    split at this <;> omega
theorem filled : ∀ (n : Nat) (F : List Int), (∀ v : Nat, v < n → (v : Int) ∈ F) → n ≤ F.length
  | 0, _, _ => Nat.zero_le _
  | n + 1, F, h => by
    have hm := h n (by omega)
    have ih := filled n (F.erase (n : Int)) (fun v hv => (List.mem_erase_of_ne (by omega)).2 (h v (by omega)))
    have := List.length_erase_of_mem hm
    have := List.length_pos_of_mem hm
    omega
/-- Every index stands once. -/
def Once (n : Nat) (F : List Int) : Prop := ∀ v : Nat, v < n → F.count (v : Int) = 1
instance (n : Nat) (F : List Int) : Decidable (Once n F) := by unfold Once; exact inferInstance
theorem once_iff {n : Nat} {F : List Int} (hr : ∀ x ∈ F, 0 ≤ x ∧ x < n) : Once n F ↔ F.Nodup ∧ F.length = n := by
  constructor
  · intro h
    have hd : F.Nodup := by
      rw [List.nodup_iff_count]
      intro x
      by_cases hx : x ∈ F
      · obtain ⟨h0, h1⟩ := hr x hx
        obtain ⟨v, rfl⟩ := Int.eq_ofNat_of_zero_le h0
        rw [h v (by omega)]; exact Nat.le_refl _
      · rw [List.count_eq_zero.2 hx]; omega
    have h1 := pigeon n F hd hr
    have h2 := filled n F (fun v hv => List.count_pos_iff.1 (by rw [h v hv]; omega))
    exact ⟨hd, by omega⟩
  · rintro ⟨hd, hl⟩ v hv
    have h1 : (v : Int) ∈ F := by
      by_cases hm : (v : Int) ∈ F
      · exact hm
      · have := pigeon n ((v : Int) :: F) (List.nodup_cons.2 ⟨hm, hd⟩) (fun x hx => by
          rcases List.mem_cons.1 hx with rfl | hx
          · omega
          · exact hr x hx)
        simp at this; omega
    have h2 := List.count_pos_iff.2 h1
    have h3 := (List.nodup_iff_count.1 hd) (v : Int)
    omega

/-- What Verify returns. -/
def verOk (l ind : List Int) (cov : List (List Int)) : Prop := ind.length = cov.length ∧ ordB l true ind = true ∧ (∀ s ∈ cov, s ≠ [] ∧ ordB l false s = true) ∧ Once l.length cov.flatten
instance (l ind : List Int) (cov : List (List Int)) : Decidable (verOk l ind cov) := by unfold verOk; exact inferInstance
def verE (l ind : List Int) (cov : List (List Int)) : Int := if 1024 < l.length then 4 else if verOk l ind cov then 0 else 18
theorem verE_long {l ind : List Int} {cov : List (List Int)} (h : 1024 < l.length) : verE l ind cov = 4 := if_pos h
theorem verE_no {l ind : List Int} {cov : List (List Int)} (h : ¬ 1024 < l.length) (h2 : ¬ verOk l ind cov) : verE l ind cov = 18 := by rw [verE, if_neg h, if_neg h2]
theorem verE_yes {l ind : List Int} {cov : List (List Int)} (h : ¬ 1024 < l.length) (h2 : verOk l ind cov) : verE l ind cov = 0 := by rw [verE, if_neg h, if_pos h2]
end Go.Proofs.Ytdkokpehcmcnpaa
