/- What Verify answers: at least paths, struck, raised, and at whatever it accepts. -/
import Derived.Test.YtebmachppbpdmaaLawPot
import Derived.Test.YtebmachppbpdmaaDPure6
import Derived.Test.YtebmachppbpdmaaDVer
namespace Go.Proofs.Ytebmachppbpdmaa

section
variable {k : Nat} {ll : List Lk} (hf : fineB k ll = true) {u b : Nat} (hu : u < k) (hb : b < k)
include hf hu hb
theorem ver_eq (path ps : List Int) : verD k ll u b path ps = if VerOk ll k u b path ps then 0 else 18 := by
  obtain ⟨k', e, _, _, _, hv, hc⟩ := fineB_ok hf
  obtain rfl : k = k' := by omega
  rw [verD, if_neg (by rw [chk2_of hc hu hb]; decide), Int.toNat_natCast, Int.toNat_natCast, Int.toNat_natCast]
theorem sh_cases {r : List Int} (h : ShPath k ll u b r) : (shErr k ll u b = 6 ∧ shCost k ll u b = 0 ∧ r = [] ∧ (pots ll k b)[u]?.getD 0 < 0) ∨ (shErr k ll u b = 0 ∧ shCost k ll u b = (pots ll k b)[u]?.getD 0 ∧ 0 ≤ (pots ll k b)[u]?.getD 0 ∧ GPath ll (pots ll k b) b u r) := by
  obtain ⟨k', e, _, _, _, hv, hc⟩ := fineB_ok hf
  obtain rfl : k = k' := by omega
  obtain ⟨p1, p2⟩ := sh_at hc hu hb
  rw [p1, p2]
  unfold ShPath at h
  rw [chk2_of hc hu hb] at h
  simp only [true_and, Int.toNat_natCast] at h
  by_cases h0 : 0 ≤ (pots ll k b)[u]?.getD 0
  · rw [if_pos h0] at h
    right
    exact ⟨if_neg (by omega), by omega, h0, h⟩
  · rw [if_neg h0] at h
    left
    exact ⟨if_pos (by omega), by omega, h, by omega⟩
omit hu in
theorem potsOk : PotOk ll k b (pots ll k b) := by
  obtain ⟨k', e, _, hk8, _, hv, hc⟩ := fineB_ok hf
  obtain rfl : k = k' := by omega
  exact pot_potOk hv (pots_ok hv hb) (fun j => (pots_within hv (by omega) hb j).1)
theorem ver_least {r : List Int} (h : GPath ll (pots ll k b) b u r) : verD k ll u b r (pots ll k b) = 0 := by
  obtain ⟨k', e, _, hk8, _, hv, hc⟩ := fineB_ok hf
  obtain rfl : k = k' := by omega
  rw [ver_eq hf hu hb, if_pos ⟨potsOk hf hb, by rw [gpath_walk hv (pots_ok hv hb) r u 0 h, Int.zero_add]⟩]
theorem ver_struck {r ps : List Int} (h : GPath ll (pots ll k b) b u r) (hr : r ≠ []) : verD k ll u b r.dropLast ps = 18 := by
  obtain ⟨k', e, _, hk8, _, hv, hc⟩ := fineB_ok hf
  obtain rfl : k = k' := by omega
  rw [ver_eq hf hu hb, if_neg]
  rintro ⟨_, h2⟩
  obtain ⟨v, C, h3, h4⟩ := gpath_struck hv r u 0 hr h
  rw [h3] at h2
  simp only [Option.some.injEq, Prod.mk.injEq] at h2
  exact h4 (by omega)
theorem ver_more {r : List Int} (h : GPath ll (pots ll k b) b u r) : verD k ll u b r ((pots ll k b).set u ((pots ll k b)[u]?.getD 0 + 1)) = 18 := by
  obtain ⟨k', e, _, hk8, _, hv, hc⟩ := fineB_ok hf
  obtain rfl : k = k' := by omega
  have hl := (pots_ok hv hb).len
  rw [ver_eq hf hu hb, if_neg]
  rintro ⟨_, h2⟩
  rw [gpath_walk hv (pots_ok hv hb) r u 0 h, List.getElem?_set_self (by omega)] at h2
  simp only [Option.some.injEq, Prod.mk.injEq, Option.getD_some] at h2
  omega
theorem ver_ok {r path ps : List Int} (hs : ShPath k ll u b r) (h : verD k ll u b path ps = 0) : shErr k ll u b = 0 ∧ costP ll path = shCost k ll u b ∧ ∀ x ∈ path, 0 ≤ x ∧ x < ll.length := by
  obtain ⟨k', e, _, hk8, _, hv, hc⟩ := fineB_ok hf
  obtain rfl : k = k' := by omega
  rw [ver_eq hf hu hb] at h
  by_cases hok : VerOk ll k u b path ps
  · obtain ⟨h1, h2⟩ := hok
    obtain ⟨c1, c2⟩ := walk_cost path u 0 b _ h2
    have w1 := walk_bound hv (potsOk hf hb) path u 0 _ h2
    rcases sh_cases hf hu hb hs with ⟨_, _, _, hneg⟩ | ⟨e1, e2, e3, hg⟩
    · omega
    · have hw := gpath_walk hv (pots_ok hv hb) r u 0 hg
      have w2 := walk_bound hv h1 r u 0 _ hw
      exact ⟨e1, by omega, c2⟩
  · rw [if_neg hok] at h; cases h
end
end Go.Proofs.Ytebmachppbpdmaa
