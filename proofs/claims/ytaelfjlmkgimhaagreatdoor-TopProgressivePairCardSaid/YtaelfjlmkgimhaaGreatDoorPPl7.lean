/- Sources added one after the other: the whole alignment. No program here. -/
import Derived.Test.YtaelfjlmkgimhaaGreatDoorPPl6
set_option linter.unusedVariables false
set_option linter.unusedSimpArgs false
namespace Go.Proofs.YtaelfjlmkgimhaaGreatDoor

section
variable (Pq : Nat → Cm → Nat → Nat) (Gq : Nat → Cm → Nat) (Fq : Nat → Nat → Nat) (ln : Nat → Nat)
/-- The columns behind j sources. -/
def colsF : Nat → List Cm
  | 0 => []
  | j + 1 => addC (Pq j) (Gq j) (Fq j) j (colsF j) (ln j)
theorem colsF_vc : ∀ j, Vc ((List.range j).map ln) (colsF Pq Gq Fq ln j)
  | 0 => vc_nil
  | j + 1 => by
    have h := addC_vc (p := Pq j) (g := Gq j) (f := Fq j) (colsF_vc j) (ln j)
    rw [List.length_map, List.length_range] at h
    rw [List.range_succ, List.map_append]
    exact h
variable {Pq Gq Fq ln}
theorem colsF_first {P : Nat → Nat → Nat} {G F : Nat → Nat} (h1 : ∀ i y, Pq 1 [some i] y = P i y) (h2 : ∀ i, Gq 1 [some i] = G i) (h3 : ∀ y, Fq 1 y = F y) : ∀ j, cstL P G F (prs 0 1 (colsF Pq Gq Fq ln (j + 2))) = lst P G F (List.range (ln 0)) (List.range (ln 1))
  | 0 => by
    show cstL P G F (prs 0 1 (addC (Pq 1) (Gq 1) (Fq 1) 1 (addC (Pq 0) (Gq 0) (Fq 0) 0 [] (ln 0)) (ln 1))) = _
    rw [addC_one, pair_least h1 h2 h3]
  | j + 1 => by
    have hl := (colsF_vc Pq Gq Fq ln (j + 2)).len
    rw [List.length_map, List.length_range] at hl
    show cstL P G F (prs 0 1 (addC (Pq (j + 2)) (Gq (j + 2)) (Fq (j + 2)) (j + 2) (colsF Pq Gq Fq ln (j + 2)) (ln (j + 2)))) = _
    rw [addC_prs hl (by omega) (by omega), colsF_first h1 h2 h3 j]
end
section
variable {Pq : Nat → Cm → Nat → Nat} {Gq : Nat → Cm → Nat} {Fq : Nat → Nat → Nat} {lens order : List Nat}
/-- The entries where their sources are. -/
def allC (Pq : Nat → Cm → Nat → Nat) (Gq : Nat → Cm → Nat) (Fq : Nat → Nat → Nat) (lens order : List Nat) : List Cm :=
  (colsF Pq Gq Fq (fun j => (lens[(order[j]?).getD 0]?).getD 0) lens.length).map (arr lens.length order)
theorem allC_vc (hn : order.Nodup) (hol : order.length = lens.length) (hlt : ∀ i ∈ order, i < lens.length) : Vc lens (allC Pq Gq Fq lens order) := by
  refine vc_arr (colsF_vc Pq Gq Fq _ _) hn (by simp [hol]) hlt (full_of_nodup hn hlt hol) fun k i hk => ?_
  obtain ⟨hkl, -⟩ := List.getElem?_eq_some_iff.1 hk
  have hi := hlt i (List.mem_of_getElem? hk)
  rw [List.getElem?_map, List.getElem?_range (by omega), Option.map_some, hk, Option.getD_some, List.getElem?_eq_getElem hi, Option.getD_some]
/-- No pair costs less than its distance. -/
theorem allC_least (hn : order.Nodup) (hol : order.length = lens.length) (hlt : ∀ i ∈ order, i < lens.length) (p : Nat → Nat → Nat) (g f : Nat → Nat) {i k n m : Nat} (hi : lens[i]? = some n) (hk : lens[k]? = some m) :
    lst p g f (List.range n) (List.range m) ≤ cstL p g f (prs i k (allC Pq Gq Fq lens order)) := prs_least (allC_vc hn hol hlt) p g f hi hk
/-- The first two cost their distance. -/
theorem allC_first (hn : order.Nodup) (hol : order.length = lens.length) (hlt : ∀ i ∈ order, i < lens.length) {P : Nat → Nat → Nat} {G F : Nat → Nat} (h1 : ∀ i y, Pq 1 [some i] y = P i y) (h2 : ∀ i, Gq 1 [some i] = G i) (h3 : ∀ y, Fq 1 y = F y) {i k n m : Nat} (hi : order[0]? = some i) (hk : order[1]? = some k) (hni : lens[i]? = some n) (hmk : lens[k]? = some m) :
    cstL P G F (prs i k (allC Pq Gq Fq lens order)) = lst P G F (List.range n) (List.range m) := by
  obtain ⟨h0l, e0⟩ := List.getElem?_eq_some_iff.1 hi
  obtain ⟨h1l, e1⟩ := List.getElem?_eq_some_iff.1 hk
  have hil := hlt i (List.mem_of_getElem? hi)
  have hkl := hlt k (List.mem_of_getElem? hk)
  have x0 : order.idxOf i = 0 := by rw [← e0]; exact hn.idxOf_getElem 0 h0l
  have x1 : order.idxOf k = 1 := by rw [← e1]; exact hn.idxOf_getElem 1 h1l
  obtain ⟨j, hj⟩ : ∃ j, lens.length = j + 2 := ⟨lens.length - 2, by omega⟩
  unfold allC
  rw [prs_arr order hil hkl, x0, x1, hj, colsF_first h1 h2 h3 j]
  simp only [hi, hk, Option.getD_some, hni, hmk]
end
end Go.Proofs.YtaelfjlmkgimhaaGreatDoor
