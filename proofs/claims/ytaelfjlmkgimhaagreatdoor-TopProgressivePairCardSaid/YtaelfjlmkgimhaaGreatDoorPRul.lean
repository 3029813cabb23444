/- What tokens cost: the first two rules of a pair. -/
import Derived.Test.YtaelfjlmkgimhaaGreatDoorPTkc
set_option linter.unusedVariables false
set_option linter.unusedSimpArgs false
namespace Go.Proofs.YtaelfjlmkgimhaaGreatDoor
open Go.RowKit

def gapB (f1 f2 : Int) : Bool := decide (f1 / 2 % 2 = 1) || decide (f2 / 2 % 2 = 1)
theorem orgap_bits {f1 f2 : Int} (h0 : 0 ≤ f1) (h1 : f1 ≤ 31) (g0 : 0 ≤ f2) (g1 : f2 ≤ 31) : (bits BinOp.and IntKind.i64 (bits BinOp.or IntKind.i64 f1 f2) 2 != 0) = gapB f1 f2 := by
  have key : ∀ n m : Fin 32, (bits BinOp.and IntKind.i64 (bits BinOp.or IntKind.i64 (n.val : Int) (m.val : Int)) 2 != 0) = gapB (n.val : Int) (m.val : Int) := by decide +kernel
  obtain ⟨n, rfl⟩ : ∃ n : Nat, f1 = (n : Int) := ⟨f1.toNat, by omega⟩
  obtain ⟨m, rfl⟩ : ∃ m : Nat, f2 = (m : Int) := ⟨f2.toNat, by omega⟩
  exact key ⟨n, by omega⟩ ⟨m, by omega⟩
theorem box3_below (w : World) (cg cn cl cm : Int) (tx nm pg na tx2 nm2 pg2 na2 : ByteArray) (ln fl ln2 fl2 : Int) : Below w.heap.size w (((w.alloc (.cells #[.int .i64 cg, .int .i64 cn, .int .i64 cl, .int .i64 cm] 23)).alloc (.cells #[.string tx, .string nm, .string pg, .int .i64 ln, .int .i64 fl, .string na] 47)).alloc (.cells #[.string tx2, .string nm2, .string pg2, .int .i64 ln2, .int .i64 fl2, .string na2] 47)) :=
  (((Below.refl _ _).alloc (Nat.le_refl _) _).alloc (by simp) _).alloc (by simp; omega) _
set_option maxRecDepth 100000 in
set_option maxHeartbeats 1000000 in
theorem rule1_any (cg cn cl cm : Int) (tx nm pg na tx2 nm2 pg2 na2 : ByteArray) (ln fl ln2 fl2 : Int) (w : World) : Calls Tryz.prog 114 #[.agg #[.int .i64 cg, .int .i64 cn, .int .i64 cl, .int .i64 cm], .agg #[.string tx, .string nm, .string pg, .int .i64 ln, .int .i64 fl, .string na], .agg #[.string tx2, .string nm2, .string pg2, .int .i64 ln2, .int .i64 fl2, .string na2]] w fun e w' => e = .returned (.tuple #[.int .i64 0, .bool (tx.toList == tx2.toList)]) ∧ Below w.heap.size w w' := by
  have HB := Lib.hid (box3_below w cg cn cl cm tx nm pg na tx2 nm2 pg2 na2 ln fl ln2 fl2)
  go_enter Tryz.func114, Tryz.ntmps114
  go_wp2
  go_quiet (fail)
  go_wp2
  go_ret2
  exact ⟨rfl, HB.out.trans (drewN_below _ _ _)⟩
set_option maxRecDepth 100000 in
set_option maxHeartbeats 1000000 in
theorem rule2_any (cg cn cl cm : Int) (tx nm pg na tx2 nm2 pg2 na2 : ByteArray) (ln fl ln2 fl2 : Int) (w : World) (h0 : 0 ≤ fl) (h1 : fl ≤ 31) (g0 : 0 ≤ fl2) (g1 : fl2 ≤ 31) : Calls Tryz.prog 115 #[.agg #[.int .i64 cg, .int .i64 cn, .int .i64 cl, .int .i64 cm], .agg #[.string tx, .string nm, .string pg, .int .i64 ln, .int .i64 fl, .string na], .agg #[.string tx2, .string nm2, .string pg2, .int .i64 ln2, .int .i64 fl2, .string na2]] w fun e w' => e = .returned (.tuple #[.int .i64 cn, .bool ((nm.toList == nm2.toList) || gapB fl fl2)]) ∧ Below w.heap.size w w' := by
  have HF := Lib.hid (orgap_bits h0 h1 g0 g1)
  have HB := Lib.hid (box3_below w cg cn cl cm tx nm pg na tx2 nm2 pg2 na2 ln fl ln2 fl2)
  by_cases h : (nm.toList == nm2.toList) = true
  · have HR : Hid (((nm.toList == nm2.toList) || gapB fl fl2) = true) := by show _ = _; rw [h]; rfl
    generalize ((nm.toList == nm2.toList) || gapB fl fl2) = R at *
    go_enter Tryz.func115, Tryz.ntmps115
    go_wp2
    go_quiet (fail)
    go_wp2
    go_ret2
    exact ⟨by rw [HR.out]; simp [h], HB.out.trans (drewN_below _ _ _)⟩
  · rw [Bool.not_eq_true] at h
    have HR : Hid (((nm.toList == nm2.toList) || gapB fl fl2) = gapB fl fl2) := by show _ = _; rw [h]; rfl
    generalize ((nm.toList == nm2.toList) || gapB fl fl2) = R at *
    go_enter Tryz.func115, Tryz.ntmps115
    go_wp2
    go_quiet (fail)
    go_wp2
    go_ret2
    exact ⟨by rw [HR.out, ← HF.out]; rfl, HB.out.trans (drewN_below _ _ _)⟩
end Go.Proofs.YtaelfjlmkgimhaaGreatDoor
