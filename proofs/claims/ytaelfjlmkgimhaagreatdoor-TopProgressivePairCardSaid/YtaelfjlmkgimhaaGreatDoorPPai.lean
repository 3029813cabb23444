/- tokencost.rules. -/
import Derived.Test.YtaelfjlmkgimhaaGreatDoorPDi3
set_option linter.unusedVariables false
set_option linter.unusedSimpArgs false
namespace Go.Proofs.YtaelfjlmkgimhaaGreatDoor
open Go.RowKit

set_option maxRecDepth 100000 in
set_option maxHeartbeats 1000000 in
theorem rules_any (w : World) : Calls Tryz.prog 102 #[] w fun e w' => ∃ b, w.heap.size ≤ b ∧ e = .returned (.slice (some ⟨b, 0, none⟩) 3 3) ∧ w'.cell? ⟨b, 0, none⟩ = some (.func (.func 114) #[] #[]) ∧ w'.cell? ⟨b, 1, none⟩ = some (.func (.func 115) #[] #[]) ∧ w'.cell? ⟨b, 2, none⟩ = some (.func (.func 116) #[] #[]) ∧ b < w'.heap.size ∧ Below w.heap.size w w' := by
  go_enter Tryz.func102, Tryz.ntmps102
  go_wp2
  go_ret
  refine ⟨w.heap.size, Nat.le_refl _, rfl, ?_, ?_, ?_, ?_, ?_⟩
  iterate 3 (first | (simp [go_sem]; done) | (simp [World.cell?, World.alloc]; done) | rfl | (simp [World.cell?, World.alloc, World.alloc_eq]; done) | simp [World.alloc_eq])
  · simp
  · exact (Below.refl _ _).alloc (Nat.le_refl _) _
/-- What a pair costs. -/
def pairF (cn cl cm : Int) (tx nm : ByteArray) (fl : Int) (tx2 nm2 : ByteArray) (fl2 : Int) : Int :=
  if (tx.toList == tx2.toList) = true then 0 else if ((nm.toList == nm2.toList) || gapB fl fl2) = true then cn else ruleT cn cl cm (rowF (eqS nm nm2) nm.size nm2.size)
theorem pairF_bound {cg cn cl cm : Int} (h : CstOk cg cn cl cm) (tx nm : ByteArray) (fl : Int) (tx2 nm2 : ByteArray) (fl2 : Int) : 0 ≤ pairF cn cl cm tx nm fl tx2 nm2 fl2 ∧ pairF cn cl cm tx nm fl tx2 nm2 fl2 ≤ 1000 := by
  obtain ⟨h1, h2, h3, h4, h5⟩ := h
  unfold pairF ruleT
  split
  · omega
  · split
    · omega
    · generalize cl * _ = E
      omega
end Go.Proofs.YtaelfjlmkgimhaaGreatDoor
