/- Plain lists: the runs of a list. No program. -/
import Derived.Test.YtdkokpehcmcnpaaPure3
namespace Go.Proofs.Ytdkokpehcmcnpaa

/-- Element t is greater by 1 than the one before. -/
def cont (l : List Int) (t : Nat) : Bool := decide (l[t - 1]?.getD 0 < l[t]?.getD 0 ∧ l[t]?.getD 0 - 1 = l[t - 1]?.getD 0)
/-- Where the run that goes on to t ends. -/
def stopGo (l : List Int) : Nat → Nat → Nat
  | 0, t => t
  | f + 1, t => if t < l.length ∧ cont l t = true then stopGo l f (t + 1) else t
def stopAt (l : List Int) (t : Nat) : Nat := stopGo l (l.length - t) t
theorem stopGo_ge (l : List Int) : ∀ f t, t ≤ stopGo l f t
  | 0, t => Nat.le_refl _
  | f + 1, t => by
    simp only [stopGo]; split
    · have := stopGo_ge l f (t + 1); omega
    · exact Nat.le_refl _
theorem stopGo_le (l : List Int) : ∀ f t, t ≤ l.length → stopGo l f t ≤ l.length
  | 0, t, h => h
  | f + 1, t, h => by
    simp only [stopGo]; split
    · exact stopGo_le l f (t + 1) (by omega)
    · exact h
theorem stopAt_step {l : List Int} {t : Nat} (h : t < l.length) (hc : cont l t = true) : stopAt l t = stopAt l (t + 1) := by
  unfold stopAt
  obtain ⟨f, hf⟩ : ∃ f, l.length - t = f + 1 := ⟨l.length - t - 1, by omega⟩
  rw [hf, show l.length - (t + 1) = f by omega]
  simp only [stopGo, h, hc, and_self, if_true]
theorem stopAt_stop {l : List Int} {t : Nat} (hc : ¬ (t < l.length ∧ cont l t = true)) : stopAt l t = t := by
  unfold stopAt
  cases h : l.length - t with
  | zero => rfl
  | succ f => simp only [stopGo, if_neg hc]
theorem stopAt_ge (l : List Int) (t : Nat) : t ≤ stopAt l t := stopGo_ge _ _ _
theorem stopAt_le {l : List Int} {t : Nat} (h : t ≤ l.length) : stopAt l t ≤ l.length := stopGo_le _ _ _ h

/-- The runs from an index on: first index and length. -/
def RunsFrom (l : List Int) : Nat → List (Nat × Nat) → Prop
  | at_, [] => l.length ≤ at_
  | at_, p :: rest => at_ < l.length ∧ p = (at_, stopAt l (at_ + 1) - at_) ∧ RunsFrom l (stopAt l (at_ + 1)) rest
def runsGo (l : List Int) : Nat → Nat → List (Nat × Nat)
  | 0, _ => []
  | f + 1, at_ => if at_ < l.length then (at_, stopAt l (at_ + 1) - at_) :: runsGo l f (stopAt l (at_ + 1)) else []
def runsOf (l : List Int) : List (Nat × Nat) := runsGo l l.length 0
theorem runsGo_spec (l : List Int) : ∀ f at_, l.length ≤ f + at_ → RunsFrom l at_ (runsGo l f at_)
  | 0, at_, h => by simpa [runsGo, RunsFrom] using h
  | f + 1, at_, h => by
    simp only [runsGo]
    split
    · have := stopAt_ge l (at_ + 1)
      exact ⟨‹_›, rfl, runsGo_spec l f _ (by omega)⟩
    · simp only [RunsFrom]; omega
theorem runs_spec (l : List Int) : RunsFrom l 0 (runsOf l) := runsGo_spec _ _ _ (by omega)
theorem RunsFrom.unique {l : List Int} : ∀ {at_ : Nat} {r s : List (Nat × Nat)}, RunsFrom l at_ r → RunsFrom l at_ s → r = s
  | _, [], [], _, _ => rfl
  | _, [], _ :: _, h, k => by simp only [RunsFrom] at h k; omega
  | _, _ :: _, [], h, k => by simp only [RunsFrom] at h k; omega
  | _, p :: r, q :: s, h, k => by
    obtain ⟨_, rfl, h⟩ := h
    obtain ⟨_, rfl, k⟩ := k
    rw [RunsFrom.unique h k]
theorem RunsFrom.length_le {l : List Int} : ∀ {at_ : Nat} {r : List (Nat × Nat)}, at_ ≤ l.length → RunsFrom l at_ r → r.length + at_ ≤ l.length
  | _, [], h, _ => by simpa using h
  | _, p :: r, h, k => by
    obtain ⟨k1, _, k⟩ := k
    have h1 := stopAt_ge l (‹Nat› + 1)
    have := RunsFrom.length_le (stopAt_le (by omega)) k
    simp; omega
theorem RunsFrom.bound {l : List Int} : ∀ {at_ : Nat} {r : List (Nat × Nat)}, RunsFrom l at_ r → ∀ p ∈ r, p.1 < l.length ∧ p.2 ≤ l.length
  | _, [], _, p, hp => by simp at hp
  | at_, q :: r, h, p, hp => by
    obtain ⟨h1, rfl, h2⟩ := h
    rcases List.mem_cons.1 hp with rfl | hp
    · have := stopAt_le (l := l) (t := at_ + 1) (by omega)
      exact ⟨h1, by simp only; omega⟩
    · exact RunsFrom.bound h2 p hp
/-- A run as the program hands it back. -/
def pair (p : Nat × Nat) : List Int := [(p.1 : Int), (p.2 : Int)]
def runsL (l : List Int) : List (List Int) := (runsOf l).map pair
theorem cont_yes {l : List Int} {t : Nat} (h1 : l[t - 1]?.getD 0 < l[t]?.getD 0) (h2 : l[t]?.getD 0 - 1 = l[t - 1]?.getD 0) : cont l t = true := decide_eq_true ⟨h1, h2⟩
theorem cont_no1 {l : List Int} {t : Nat} (h1 : ¬ l[t - 1]?.getD 0 < l[t]?.getD 0) : ¬ (t < l.length ∧ cont l t = true) := fun h => h1 (of_decide_eq_true h.2).1
theorem cont_no2 {l : List Int} {t : Nat} (h1 : ¬ l[t]?.getD 0 - 1 = l[t - 1]?.getD 0) : ¬ (t < l.length ∧ cont l t = true) := fun h => h1 (of_decide_eq_true h.2).2
end Go.Proofs.Ytdkokpehcmcnpaa
