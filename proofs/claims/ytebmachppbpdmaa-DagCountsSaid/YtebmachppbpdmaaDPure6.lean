/- Plain lists: least paths and their proofs. No program. -/
import Derived.Test.YtebmachppbpdmaaDPure4
import Derived.Test.YtebmachppbpdmaaDPure5
import Derived.Test.YtebmachppbpdmaaDCost
namespace Go.Proofs.Ytebmachppbpdmaa

/-- Potentials bound whatever path there is. -/
theorem walk_bound {ll : List Lk} {n t : Nat} {q : List Int} (hv : Valid n ll) (hq : PotOk ll n t q) : ∀ (path : List Int) (u : Nat) (c C : Int), walkP ll u c path = some ((t : Int), C) → 0 ≤ q[u]?.getD 0 ∧ q[u]?.getD 0 ≤ C - c
  | [], u, c, C, h => by
    simp only [walkP, Option.some.injEq, Prod.mk.injEq] at h
    obtain ⟨h1, rfl⟩ := h
    obtain rfl : u = t := by omega
    rw [hq.2.1]; omega
  | i :: r, u, c, C, h => by
    rw [walkP] at h
    split at h
    · rename_i hc
      obtain ⟨h1, h2, h3⟩ := hc
      have hi : i.toNat < ll.length := by omega
      have hd := hv.dst_eq hi
      rw [hd] at h
      have ih := walk_bound hv hq r _ _ _ h
      have hp := hq.2.2.2 i.toNat hi
      unfold PotLink at hp
      rw [h3, hd, Int.toNat_natCast, Int.toNat_natCast] at hp
      have := hp ih.1
      omega
    · cases h
/-- What a walk costs is what its path costs. -/
theorem walk_cost {ll : List Lk} : ∀ (path : List Int) (u c v C : Int), walkP ll u c path = some (v, C) → C = c + costP ll path ∧ ∀ x ∈ path, 0 ≤ x ∧ x < ll.length
  | [], u, c, v, C, h => by
    simp only [walkP, Option.some.injEq, Prod.mk.injEq] at h
    exact ⟨by rw [costP]; omega, by simp⟩
  | i :: r, u, c, v, C, h => by
    rw [walkP] at h
    split at h
    · rename_i hc
      obtain ⟨h1, h2⟩ := walk_cost r _ _ _ _ h
      refine ⟨by rw [h1, costP, cst]; omega, fun x hx => ?_⟩
      rcases List.mem_cons.1 hx with e | e
      · subst e; exact ⟨hc.1, hc.2.1⟩
      · exact h2 x e
    · cases h
theorem gpath_struck {ll : List Lk} {n t : Nat} {p : List Int} (hv : Valid n ll) : ∀ (r : List Int) (s : Nat) (c : Int), r ≠ [] → GPath ll p t s r → ∃ (u : Nat) (C : Int), walkP ll s c r.dropLast = some ((u : Int), C) ∧ u ≠ t
  | [], _, _, h, _ => absurd rfl h
  | [x], s, c, _, h => ⟨s, c, by simp [walkP], h.1⟩
  | x :: y :: r, s, c, _, ⟨_, i, hx, hf, hr⟩ => by
    subst hx
    obtain ⟨u, C, h1, h2⟩ := gpath_struck hv (y :: r) (dst ll i) (c + cst ll i) (by simp) hr
    refine ⟨u, C, ?_, h2⟩
    rw [List.dropLast_cons_cons, walkP, Int.toNat_natCast, if_pos ⟨by omega, by have := hf.1; omega, hf.2.1.1⟩, hv.dst_eq hf.1]
    exact h1
section
variable {ll : List Lk} {n t : Nat} {p : List Int} (hv : Valid n ll) (hp : FoldOk potW ll n t 0 p)
include hv hp
theorem gpath_walk : ∀ (r : List Int) (s : Nat) (c : Int), GPath ll p t s r → walkP ll s c r = some ((t : Int), c + p[s]?.getD 0)
  | [], s, c, h => by
    have e : s = t := h
    subst e
    rw [walkP, hp.at_]; simp
  | x :: r, s, c, ⟨_, i, hx, hf, hr⟩ => by
    subst hx
    have ih := gpath_walk r (dst ll i) (c + cst ll i) hr
    rw [walkP, Int.toNat_natCast, if_pos ⟨by omega, by have := hf.1; omega, hf.2.1.1⟩, hv.dst_eq hf.1]
    show walkP ll _ (c + cst ll i) r = _
    rw [ih]
    have := hf.2.1.2.2
    congr 2
    omega
theorem pot_potOk (hge : ∀ j : Nat, -1 ≤ p[j]?.getD 0) : PotOk ll n t p := by
  refine ⟨hp.len, hp.at_, fun i _ => hge i, fun i hi => ?_⟩
  obtain ⟨f, tt, e1, e2, hft, htn, hc0, _⟩ := hv i hi
  unfold PotLink
  rw [e1, e2, Int.toNat_natCast, Int.toNat_natCast]
  intro h0
  have hne : f ≠ t := fun e => by
    have := hp.above tt (by omega) htn
    omega
  have hr := hp.row_all hv (s := f) (by omega) hne
  have hin : i ∈ idx ll f := mem_idx.2 ⟨hi, e1⟩
  have hd : dst ll i = tt := by rw [dst, e2]; rfl
  have h3 := (pot_fold hv.cst0 (idx ll f) (-1) mem_idx_lt (out := p)).2.2 i hin (by rw [hd]; exact h0)
  have e : frow potW ll p f = (idx ll f).foldl (fstep potW ll p) (-1) := rfl
  rw [← e, ← hr, hd, cst] at h3
  omega
end
end Go.Proofs.Ytebmachppbpdmaa
