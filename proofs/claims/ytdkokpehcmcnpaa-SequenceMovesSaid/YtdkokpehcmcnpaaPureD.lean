/- Plain lists: what Verify says of an increasing subsequence and the greedy cover. No program. -/
import Derived.Test.YtdkokpehcmcnpaaPureC
namespace Go.Proofs.Ytdkokpehcmcnpaa

theorem inc_ord {l b : List Int} (h : Inc l 0 none b) : ordB l true b = true := by
  refine ordB_yes (k := b.length) rfl (fun j hj => ?_)
  obtain ⟨x, e, _, hx, _, h2⟩ := h.at_ j hj
  rw [e]
  refine ⟨by omega, by omega, fun h0 => ?_⟩
  obtain ⟨y, e2, hy, hv⟩ := h2 h0
  rw [e2]
  refine ⟨by omega, ?_⟩
  simp only [fitR, elemAt, Int.toNat_natCast, if_true]
  exact decide_eq_true hv
theorem cover_ver (l b : List Int) (h : Inc l 0 none b) : verOk l b (cover l l.length) ↔ b.length = (lis l).length := by
  have hc := cover_ok l l.length (Nat.le_refl _)
  have hl := cover_lis hc
  constructor
  · intro hv; rw [hl]; exact hv.1
  · intro he
    refine ⟨by rw [he, hl], inc_ord h, fun s hs => ?_, fun v hv => ?_⟩
    · obtain ⟨k, hk, rfl⟩ := List.getElem_of_mem hs
      have := hc.1 k hk
      rw [List.getElem?_eq_getElem hk] at this
      exact ⟨this.2.1, this.1⟩
    · rw [hc.2.1 v, if_pos hv]
theorem less_ver {l b : List Int} {cov : List (List Int)} (h : b.length ≠ cov.length) : ¬ verOk l b cov := fun hv => h hv.1
end Go.Proofs.Ytdkokpehcmcnpaa
