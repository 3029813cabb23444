/- tokencost.pair. -/
import Derived.Test.YtaelfjlmkgimhaaGreatDoorPPai
set_option linter.unusedVariables false
set_option linter.unusedSimpArgs false
namespace Go.Proofs.YtaelfjlmkgimhaaGreatDoor
open Go.RowKit

theorem atC_new (w : World) (cs : Array Value) (e : TypeId) : AtC (w.alloc (.cells cs e)) w.heap.size 0 cs.toList := fun i x hx => by
  show (w.alloc (.cells cs e)).cell? ⟨w.heap.size, 0 + i, none⟩ = _
  rw [World.cell?_alloc_at _ _ _ _ rfl, Nat.zero_add]
  simpa using hx
theorem AtC.below {w w' : World} {b o : Nat} {cs : List Value} {B : Nat} (h : AtC w b o cs) (hb : b < B) (k : Below B w w') : AtC w' b o cs := fun i x hx => (k.cell (p := ⟨b, o + i, none⟩) hb).trans (h i x hx)
theorem box3_at (w : World) (cg cn cl cm : Int) (tx nm pg na tx2 nm2 pg2 na2 : ByteArray) (ln fl ln2 fl2 : Int) (W : World) (h : Below (((w.alloc (.cells #[.int .i64 cg, .int .i64 cn, .int .i64 cl, .int .i64 cm] 23)).alloc (.cells #[.string tx, .string nm, .string pg, .int .i64 ln, .int .i64 fl, .string na] 47)).alloc (.cells #[.string tx2, .string nm2, .string pg2, .int .i64 ln2, .int .i64 fl2, .string na2] 47)).heap.size (((w.alloc (.cells #[.int .i64 cg, .int .i64 cn, .int .i64 cl, .int .i64 cm] 23)).alloc (.cells #[.string tx, .string nm, .string pg, .int .i64 ln, .int .i64 fl, .string na] 47)).alloc (.cells #[.string tx2, .string nm2, .string pg2, .int .i64 ln2, .int .i64 fl2, .string na2] 47)) W) :
    AtC W w.heap.size 0 (#[.int .i64 cg, .int .i64 cn, .int .i64 cl, .int .i64 cm] : Array Value).toList ∧ AtC W (w.heap.size + 1) 0 (#[.string tx, .string nm, .string pg, .int .i64 ln, .int .i64 fl, .string na] : Array Value).toList ∧ AtC W (w.heap.size + 2) 0 (#[.string tx2, .string nm2, .string pg2, .int .i64 ln2, .int .i64 fl2, .string na2] : Array Value).toList := by
  have h1 := atC_new w #[.int .i64 cg, .int .i64 cn, .int .i64 cl, .int .i64 cm] 23
  have h2 := atC_new (w.alloc (.cells #[.int .i64 cg, .int .i64 cn, .int .i64 cl, .int .i64 cm] 23)) #[.string tx, .string nm, .string pg, .int .i64 ln, .int .i64 fl, .string na] 47
  have h3 := atC_new ((w.alloc (.cells #[.int .i64 cg, .int .i64 cn, .int .i64 cl, .int .i64 cm] 23)).alloc (.cells #[.string tx, .string nm, .string pg, .int .i64 ln, .int .i64 fl, .string na] 47)) #[.string tx2, .string nm2, .string pg2, .int .i64 ln2, .int .i64 fl2, .string na2] 47
  have e1 : Below (w.alloc (.cells #[.int .i64 cg, .int .i64 cn, .int .i64 cl, .int .i64 cm] 23)).heap.size (w.alloc (.cells #[.int .i64 cg, .int .i64 cn, .int .i64 cl, .int .i64 cm] 23)) (((w.alloc (.cells #[.int .i64 cg, .int .i64 cn, .int .i64 cl, .int .i64 cm] 23)).alloc (.cells #[.string tx, .string nm, .string pg, .int .i64 ln, .int .i64 fl, .string na] 47)).alloc (.cells #[.string tx2, .string nm2, .string pg2, .int .i64 ln2, .int .i64 fl2, .string na2] 47)) := ((Below.refl _ _).alloc (Nat.le_refl _) _).alloc (by simp) _
  have e2 : Below ((w.alloc (.cells #[.int .i64 cg, .int .i64 cn, .int .i64 cl, .int .i64 cm] 23)).alloc (.cells #[.string tx, .string nm, .string pg, .int .i64 ln, .int .i64 fl, .string na] 47)).heap.size ((w.alloc (.cells #[.int .i64 cg, .int .i64 cn, .int .i64 cl, .int .i64 cm] 23)).alloc (.cells #[.string tx, .string nm, .string pg, .int .i64 ln, .int .i64 fl, .string na] 47)) (((w.alloc (.cells #[.int .i64 cg, .int .i64 cn, .int .i64 cl, .int .i64 cm] 23)).alloc (.cells #[.string tx, .string nm, .string pg, .int .i64 ln, .int .i64 fl, .string na] 47)).alloc (.cells #[.string tx2, .string nm2, .string pg2, .int .i64 ln2, .int .i64 fl2, .string na2] 47)) := (Below.refl _ _).alloc (Nat.le_refl _) _
  have z1 : (w.alloc (.cells #[.int .i64 cg, .int .i64 cn, .int .i64 cl, .int .i64 cm] 23)).heap.size = w.heap.size + 1 := by simp
  have z2 : ((w.alloc (.cells #[.int .i64 cg, .int .i64 cn, .int .i64 cl, .int .i64 cm] 23)).alloc (.cells #[.string tx, .string nm, .string pg, .int .i64 ln, .int .i64 fl, .string na] 47)).heap.size = w.heap.size + 2 := by simp
  rw [z1] at h2
  rw [z2] at h3
  rw [z1] at e1
  rw [z2] at e2
  exact ⟨(h1.below (by omega) e1).below (by simp; try omega) h, (h2.below (by omega) e2).below (by simp; try omega) h, h3.below (by simp) h⟩
set_option maxRecDepth 100000 in
set_option maxHeartbeats 2000000 in
theorem pair_any (cg cn cl cm : Int) (tx nm pg na tx2 nm2 pg2 na2 : ByteArray) (ln fl ln2 fl2 : Int) (w : World) (hc : CstOk cg cn cl cm) (h0 : 0 ≤ fl) (h1 : fl ≤ 31) (g0 : 0 ≤ fl2) (g1 : fl2 ≤ 31) (ha : nm.size ≤ 256) (hb : nm2.size ≤ 256) : Calls Tryz.prog 88 #[.agg #[.int .i64 cg, .int .i64 cn, .int .i64 cl, .int .i64 cm], .agg #[.string tx, .string nm, .string pg, .int .i64 ln, .int .i64 fl, .string na], .agg #[.string tx2, .string nm2, .string pg2, .int .i64 ln2, .int .i64 fl2, .string na2]] w fun e w' => e = .returned (.int .i64 (pairF cn cl cm tx nm fl tx2 nm2 fl2)) ∧ Below w.heap.size w w' := by
  have HB := Lib.hid (box3_below w cg cn cl cm tx nm pg na tx2 nm2 pg2 na2 ln fl ln2 fl2)
  have HAT := Lib.hid (box3_at w cg cn cl cm tx nm pg na tx2 nm2 pg2 na2 ln fl ln2 fl2)
  have H1 := Lib.hid (fun W => rule1_any cg cn cl cm tx nm pg na tx2 nm2 pg2 na2 ln fl ln2 fl2 W)
  have H2 := Lib.hid (fun W => rule2_any cg cn cl cm tx nm pg na tx2 nm2 pg2 na2 ln fl ln2 fl2 W h0 h1 g0 g1)
  have H3 := Lib.hid (fun W => rule3_any cg cn cl cm tx nm pg na tx2 nm2 pg2 na2 ln fl ln2 fl2 W hc ha hb)
  have HR := Lib.hid (fun W => rules_any W)
  have HP : Hid (pairF cn cl cm tx nm fl tx2 nm2 fl2 = if (tx.toList == tx2.toList) = true then 0 else if ((nm.toList == nm2.toList) || gapB fl fl2) = true then cn else ruleT cn cl cm (rowF (eqS nm nm2) nm.size nm2.size)) := rfl
  clear hc h0 h1 g0 g1 ha hb
  generalize (tx.toList == tx2.toList) = P1 at *
  generalize ((nm.toList == nm2.toList) || gapB fl fl2) = P2 at *
  generalize ruleT cn cl cm (rowF (eqS nm nm2) nm.size nm2.size) = R3 at *
  generalize pairF cn cl cm tx nm fl tx2 nm2 fl2 = R at *
  go_enter Tryz.func88, Tryz.ntmps88
  have hsz0 : (((w.alloc (.cells #[.int .i64 cg, .int .i64 cn, .int .i64 cl, .int .i64 cm] 23)).alloc (.cells #[.string tx, .string nm, .string pg, .int .i64 ln, .int .i64 fl, .string na] 47)).alloc (.cells #[.string tx2, .string nm2, .string pg2, .int .i64 ln2, .int .i64 fl2, .string na2] 47)).heap.size = w.heap.size + 3 := by simp
  go_wp2_with (go_at_call 102; refine (HR.out _).mono ?_; rintro e w1 ⟨b, hb, rfl, c0, c1, c2, hlt, hb1⟩)
  generalize ((w.alloc (.cells #[.int .i64 cg, .int .i64 cn, .int .i64 cl, .int .i64 cm] 23)).alloc (.cells #[.string tx, .string nm, .string pg, .int .i64 ln, .int .i64 fl, .string na] 47)).alloc (.cells #[.string tx2, .string nm2, .string pg2, .int .i64 ln2, .int .i64 fl2, .string na2] 47) = w0 at *
  go_loopw [13] (fun i wr => ∃ j : Nat, i = .int .i64 j ∧ j < 3 ∧ Hid ((1 ≤ j → P1 = false) ∧ (2 ≤ j → P2 = false)) ∧ Below w0.heap.size w0 wr ∧ Hid (Below w1.heap.size w1 wr)) (fun i _ => 3 - (intOf i).toNat)
  case atStart => exact ⟨0, rfl, by omega, ⟨fun h => by omega, fun h => by omega⟩, hb1, Below.refl _ _⟩
  case round =>
    obtain ⟨j, rfl, hj, hq, hbr, hbs⟩ := hrel
    obtain ⟨HX, HY, HZ⟩ := HAT.out wr hbr
    have a0 := HX 0 _ rfl
    have a1 := HX 1 _ rfl
    have a2 := HX 2 _ rfl
    have a3 := HX 3 _ rfl
    have b0 := HY 0 _ rfl
    have b1 := HY 1 _ rfl
    have b2 := HY 2 _ rfl
    have b3 := HY 3 _ rfl
    have b4 := HY 4 _ rfl
    have b5 := HY 5 _ rfl
    have d0 := HZ 0 _ rfl
    have d1 := HZ 1 _ rfl
    have d2 := HZ 2 _ rfl
    have d3 := HZ 3 _ rfl
    have d4 := HZ 4 _ rfl
    have d5 := HZ 5 _ rfl
    clear HX HY HZ
    have hsz := hbr.size
    have e0 := (hbs.out.cell (p := ⟨b, 0, none⟩) hlt).trans c0
    have e1 := (hbs.out.cell (p := ⟨b, 1, none⟩) hlt).trans c1
    have e2 := (hbs.out.cell (p := ⟨b, 2, none⟩) hlt).trans c2
    clear c0 c1 c2 hb1 HAT
    have hj3 : j = 0 ∨ j = 1 ∨ j = 2 := by omega
    rcases hj3 with rfl | rfl | rfl
    · cases P1 with
      | true =>
        have HP2 : Hid (R = 0) := by show _ = _; rw [HP.out]; rfl
        go_wp2_with (go_at_call 114; refine (H1.out _).mono ?_; rintro e w' ⟨rfl, hb'⟩)
        go_ret
        exact ⟨ret_int HP2.out.symm, HB.out.trans ((hbr.trans (hb'.mono hsz)).mono (by omega))⟩
      | false =>
        go_wp2_with (go_at_call 114; refine (H1.out _).mono ?_; rintro e w' ⟨rfl, hb'⟩)
        go_roundw
        case rel => exact ⟨1, by go_num, by omega, ⟨fun _ => by first | trivial | rfl, fun h => by omega⟩, hbr.trans (hb'.mono hsz), hbs.out.trans (hb'.mono hbs.out.size)⟩
        case measure => simp [intOf]
    · have hP1 : P1 = false := hq.out.1 (by omega)
      subst hP1
      cases P2 with
      | true =>
        have HP2 : Hid (R = cn) := by show _ = _; rw [HP.out]; rfl
        go_wp2_with (go_at_call 115; refine (H2.out _).mono ?_; rintro e w' ⟨rfl, hb'⟩)
        go_ret
        exact ⟨ret_int HP2.out.symm, HB.out.trans ((hbr.trans (hb'.mono hsz)).mono (by omega))⟩
      | false =>
        go_wp2_with (go_at_call 115; refine (H2.out _).mono ?_; rintro e w' ⟨rfl, hb'⟩)
        go_roundw
        case rel => exact ⟨2, by go_num, by omega, ⟨fun _ => by first | trivial | rfl, fun _ => by first | trivial | rfl⟩, hbr.trans (hb'.mono hsz), hbs.out.trans (hb'.mono hbs.out.size)⟩
        case measure => simp [intOf]
    · have hP1 : P1 = false := hq.out.1 (by omega)
      have hP2 : P2 = false := hq.out.2 (by omega)
      subst hP1 hP2
      have HP2 : Hid (R = R3) := by show _ = _; rw [HP.out]; rfl
      go_wp2_with (go_at_call 116; refine (H3.out _).mono ?_; rintro e w' ⟨rfl, hb'⟩)
      go_ret
      exact ⟨ret_int HP2.out.symm, HB.out.trans ((hbr.trans (hb'.mono hsz)).mono (by omega))⟩
end Go.Proofs.YtaelfjlmkgimhaaGreatDoor
