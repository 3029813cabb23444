/- editdistance.Distance; the third rule of a pair. -/
import Derived.Test.YtaelfjlmkgimhaaGreatDoorPDi2
import Derived.Test.YtaelfjlmkgimhaaGreatDoorPRul
set_option linter.unusedVariables false
set_option linter.unusedSimpArgs false
namespace Go.Proofs.YtaelfjlmkgimhaaGreatDoor
open Go.RowKit

set_option maxRecDepth 100000 in
set_option maxHeartbeats 1000000 in
theorem dlong_any (n m : Nat) (w : World) (hn : n ≤ 256) (hm : m ≤ 256) : Calls Tryz.prog 131 #[.int .i64 (n : Int), .int .i64 (m : Int)] w fun e w' => e = .returned (.bool false) ∧ w = w' := by
  go_enter Tryz.func131, Tryz.ntmps131
  by_cases h : n < m
  · go_wp2
    go_ret
    exact ⟨by simp; omega, rfl⟩
  · go_wp2
    go_ret
    exact ⟨by simp; omega, rfl⟩
set_option maxRecDepth 100000 in
set_option maxHeartbeats 1000000 in
theorem edist_any (a b : ByteArray) (w : World) (ha : a.size ≤ 256) (hb : b.size ≤ 256) :
    Calls Tryz.prog 117 #[.string a, .string b] w fun e w' => e = .returned (.tuple #[.int .i64 (rowF (eqS a b) a.size b.size : Nat), .int .i64 0]) ∧ Below w.heap.size w w' := by
  have HL := Lib.hid (dlong_any a.size b.size w ha hb)
  have HO := Lib.hid (of_any a b w ha hb)
  generalize rowF (eqS a b) a.size b.size = R at *
  go_enter Tryz.func117, Tryz.ntmps117
  go_wp2_with (first | (go_at_call 131; refine HL.out.mono ?_; rintro e w' ⟨rfl, rfl⟩) | (go_at_call 132; refine HO.out.mono ?_; rintro e w' ⟨rfl, hb'⟩))
  go_ret2
  exact ⟨rfl, hb'⟩
/-- What the third rule answers. -/
def ruleT (cn cl cm : Int) (d : Nat) : Int := min cm (max cn (cl * d))
set_option maxRecDepth 100000 in
set_option maxHeartbeats 1000000 in
theorem rule3_any (cg cn cl cm : Int) (tx nm pg na tx2 nm2 pg2 na2 : ByteArray) (ln fl ln2 fl2 : Int) (w : World) (hc : CstOk cg cn cl cm) (ha : nm.size ≤ 256) (hb : nm2.size ≤ 256) : Calls Tryz.prog 116 #[.agg #[.int .i64 cg, .int .i64 cn, .int .i64 cl, .int .i64 cm], .agg #[.string tx, .string nm, .string pg, .int .i64 ln, .int .i64 fl, .string na], .agg #[.string tx2, .string nm2, .string pg2, .int .i64 ln2, .int .i64 fl2, .string na2]] w fun e w' => e = .returned (.tuple #[.int .i64 (ruleT cn cl cm (rowF (eqS nm nm2) nm.size nm2.size)), .bool true]) ∧ Below w.heap.size w w' := by
  have HB := box3_below w cg cn cl cm tx nm pg na tx2 nm2 pg2 na2 ln fl ln2 fl2
  have HC1 := Lib.hid (show (((w.alloc (.cells #[.int .i64 cg, .int .i64 cn, .int .i64 cl, .int .i64 cm] 23)).alloc (.cells #[.string tx, .string nm, .string pg, .int .i64 ln, .int .i64 fl, .string na] 47)).alloc (.cells #[.string tx2, .string nm2, .string pg2, .int .i64 ln2, .int .i64 fl2, .string na2] 47)).cell? ⟨w.heap.size, 1, none⟩ = some (.int .i64 cn) by first | (simp [go_sem]; done) | (simp [World.cell?, World.alloc]; done) | rfl)
  have HC2 := Lib.hid (show (((w.alloc (.cells #[.int .i64 cg, .int .i64 cn, .int .i64 cl, .int .i64 cm] 23)).alloc (.cells #[.string tx, .string nm, .string pg, .int .i64 ln, .int .i64 fl, .string na] 47)).alloc (.cells #[.string tx2, .string nm2, .string pg2, .int .i64 ln2, .int .i64 fl2, .string na2] 47)).cell? ⟨w.heap.size, 2, none⟩ = some (.int .i64 cl) by first | (simp [go_sem]; done) | (simp [World.cell?, World.alloc]; done) | rfl)
  have HC3 := Lib.hid (show (((w.alloc (.cells #[.int .i64 cg, .int .i64 cn, .int .i64 cl, .int .i64 cm] 23)).alloc (.cells #[.string tx, .string nm, .string pg, .int .i64 ln, .int .i64 fl, .string na] 47)).alloc (.cells #[.string tx2, .string nm2, .string pg2, .int .i64 ln2, .int .i64 fl2, .string na2] 47)).cell? ⟨w.heap.size, 3, none⟩ = some (.int .i64 cm) by first | (simp [go_sem]; done) | (simp [World.cell?, World.alloc]; done) | rfl)
  have HB := Lib.hid HB
  have HE := Lib.hid (fun W => edist_any nm nm2 W ha hb)
  have hd := rowF_le (eqS nm nm2) nm.size nm2.size
  generalize rowF (eqS nm nm2) nm.size nm2.size = D at *
  have hD : D ≤ 1000 := by omega
  obtain ⟨-, -, hl, -, -⟩ := hc
  have hw : IntKind.i64.wrap (cl * (D : Int)) = cl * (D : Int) := by
    have h1 : 0 ≤ cl * (D : Int) := Int.mul_nonneg hl.1 (by omega)
    have h2 : cl * (D : Int) ≤ 1000 * 1000 := Int.mul_le_mul hl.2 (by omega) (by omega) (by omega)
    rw [IntKind.wrap_i64]; omega
  have HR : Hid (ruleT cn cl cm D = min cm (max cn (cl * (D : Int)))) := rfl
  generalize ruleT cn cl cm D = R at *
  have HW : Hid (wrap64 (cl * (D : Int)) = cl * (D : Int)) := by
    show _ = _
    rw [IntKind.wrap_i64] at hw
    first | exact hw | (unfold wrap64; exact hw) | (unfold wrap64; omega)
  go_enter Tryz.func116, Tryz.ntmps116
  go_wp2_with (go_at_call 117; refine (HE.out _).mono ?_; rintro e w' ⟨rfl, hb'⟩; have k1 := (hb'.cell (p := ⟨w.heap.size, 1, none⟩) (by simp; omega)).trans HC1.out; have k2 := (hb'.cell (p := ⟨w.heap.size, 2, none⟩) (by simp; omega)).trans HC2.out; have k3 := (hb'.cell (p := ⟨w.heap.size, 3, none⟩) (by simp; omega)).trans HC3.out; replace hb' := Lib.hid (HB.out.trans (hb'.mono (by simp; omega))))
  go_ret2
  exact ⟨by rw [HR.out]; simp [HW.out], hb'.out⟩
end Go.Proofs.YtaelfjlmkgimhaaGreatDoor
