/- What tokens cost: the gap beside a token. -/
import Derived.Test.YtaelfjlmkgimhaaGreatDoorETok
import Derived.Test.YtaelfjlmkgimhaaGreatDoorPRow
set_option linter.unusedVariables false
set_option linter.unusedSimpArgs false
namespace Go.Proofs.YtaelfjlmkgimhaaGreatDoor
open Go.RowKit

/-- Valid costs. -/
def CstOk (cg cn cl cm : Int) : Prop := (0 ≤ cg ∧ cg ≤ 1000) ∧ (0 ≤ cn ∧ cn ≤ 1000) ∧ (0 ≤ cl ∧ cl ≤ 1000) ∧ (0 ≤ cm ∧ cm ≤ 1000) ∧ cn ≤ cm
def gapF (cg fl : Int) : Int := if fl / 8 % 2 = 1 then (cg + 1) / 2 else cg
theorem gapF_bound {cg fl : Int} (h : 0 ≤ cg ∧ cg ≤ 1000) : 0 ≤ gapF cg fl ∧ gapF cg fl ≤ 1000 := by
  unfold gapF; split <;> omega
set_option maxRecDepth 100000 in
set_option maxHeartbeats 1000000 in
theorem tgap_any (cg cn cl cm : Int) (tx nm pg na : ByteArray) (ln fl : Int) (w : World) (hc : 0 ≤ cg ∧ cg ≤ 1000) (h0 : 0 ≤ fl) (h1 : fl ≤ 31) : Calls Tryz.prog 81 #[.agg #[.int .i64 cg, .int .i64 cn, .int .i64 cl, .int .i64 cm], .agg #[.string tx, .string nm, .string pg, .int .i64 ln, .int .i64 fl, .string na]] w fun e w' => e = .returned (.int .i64 (gapF cg fl)) ∧ Below w.heap.size w w' := by
  obtain ⟨f1, f2, f3⟩ := flag_bits h0 h1
  have hb1 : Below w.heap.size w ((w.alloc (.cells #[.int .i64 cg, .int .i64 cn, .int .i64 cl, .int .i64 cm] 23)).alloc (.cells #[.string tx, .string nm, .string pg, .int .i64 ln, .int .i64 fl, .string na] 47)) := ((Below.refl _ _).alloc (Nat.le_refl _) _).alloc (by simp) _
  have HB := Lib.hid hb1
  clear hb1
  have hw1 : IntKind.i64.wrap (cg + 1) = cg + 1 := by rw [IntKind.wrap_i64]; omega
  by_cases h : fl / 8 % 2 = 1
  · have HG : Hid (gapF cg fl = (cg + 1) / 2) := if_pos h
    generalize gapF cg fl = R at *
    go_enter Tryz.func81, Tryz.ntmps81
    go_wp2
    go_ret
    exact ⟨ret_int HG.out.symm, HB.out⟩
  · have HG : Hid (gapF cg fl = cg) := if_neg h
    generalize gapF cg fl = R at *
    go_enter Tryz.func81, Tryz.ntmps81
    go_wp2
    go_ret
    exact ⟨ret_int HG.out.symm, HB.out⟩
end Go.Proofs.YtaelfjlmkgimhaaGreatDoor
