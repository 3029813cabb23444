/- Valid tokens and costs; what pairs and gaps cost, as numbers. No program here. -/
import Derived.Test.YtaelfjlmkgimhaaGreatDoorPPai
set_option linter.unusedVariables false
set_option linter.unusedSimpArgs false
namespace Go.Proofs.YtaelfjlmkgimhaaGreatDoor

theorem gapT_small : ∀ i : Fin 64, (gapT (i.val + 1)).size ≤ 64 := by decide +kernel
theorem gapP_small {s : ByteArray} (h : gapP s = true) : s.size ≤ 64 := by
  unfold gapP at h
  obtain ⟨i, hi, e⟩ := List.any_eq_true.1 h
  have := of_decide_eq_true e
  subst this
  exact gapT_small ⟨i, List.mem_range.1 hi⟩
/-- A valid token is small. -/
theorem vt_small {t : Tok} (h : t.err = 0) : t.text.size ≤ 64 ∧ t.norm.size ≤ 64 ∧ 0 ≤ t.flags ∧ t.flags ≤ 31 := by
  unfold Tok.err at h
  split at h
  · exact absurd h (by decide)
  · rename_i hf
    split at h
    · exact absurd h (by decide)
    · split at h
      · exact absurd h (by decide)
      · rename_i hb
        have hb' : t.formB = true := by simpa using hb
        clear h hb
        have hs : t.text.size ≤ 64 ∧ t.norm.size ≤ 64 := by
          unfold Tok.formB at hb'
          split at hb'
          · rw [Bool.and_eq_true] at hb'
            have h1 := gapP_small hb'.1
            have h2 := of_decide_eq_true hb'.2
            rw [h2]; exact ⟨h1, h1⟩
          · split at hb'
            · rw [Bool.and_eq_true] at hb'
              have h2 := of_decide_eq_true hb'.2
              have h1 := hb'.1
              unfold markP at h1
              rw [Bool.and_eq_true] at h1
              have := of_decide_eq_true h1.1
              rw [h2]; omega
            · rw [Bool.and_eq_true] at hb'
              have h1 := hb'.1
              have h2 := hb'.2
              unfold isWordP at h1
              unfold normP at h2
              rw [Bool.and_eq_true] at h1 h2
              have := of_decide_eq_true h1.1
              have := of_decide_eq_true h2.1
              omega
        omega
/-- Costs. -/
structure Cst where
  g : Int
  n : Int
  l : Int
  m : Int
def Cst.arr (c : Cst) : Array Value := #[.int .i64 c.g, .int .i64 c.n, .int .i64 c.l, .int .i64 c.m]
def Cst.val (c : Cst) : Value := .agg c.arr
def Cst.ok (c : Cst) : Prop := CstOk c.g c.n c.l c.m
def pT (c : Cst) (a b : Tok) : Nat := (pairF c.n c.l c.m a.text a.norm a.flags b.text b.norm b.flags).toNat
def gT (c : Cst) (a : Tok) : Nat := (gapF c.g a.flags).toNat
theorem pT_int {c : Cst} (h : c.ok) (a b : Tok) : pairF c.n c.l c.m a.text a.norm a.flags b.text b.norm b.flags = (pT c a b : Int) := by
  have := pairF_bound h a.text a.norm a.flags b.text b.norm b.flags
  unfold pT; omega
theorem gT_int {c : Cst} (h : c.ok) (a : Tok) : gapF c.g a.flags = (gT c a : Int) := by
  have := gapF_bound (fl := a.flags) h.1
  unfold gT; omega
theorem pT_le {c : Cst} (h : c.ok) (a b : Tok) : pT c a b ≤ 1000 := by
  have := pairF_bound h a.text a.norm a.flags b.text b.norm b.flags
  unfold pT; omega
theorem gT_le {c : Cst} (h : c.ok) (a : Tok) : gT c a ≤ 1000 := by
  have := gapF_bound (fl := a.flags) h.1
  unfold gT; omega
end Go.Proofs.YtaelfjlmkgimhaaGreatDoor
