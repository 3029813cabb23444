/- CodecValues. -/
import Derived.Test.YtancjkaoocgeeaaDoorCAwk
import Derived.Deep.QuietTactic
import Derived.BigQuiet
namespace Go.Proofs.YtancjkaoocgeeaaDoor
open Go.RowKit

set_option maxRecDepth 100000 in
set_option maxHeartbeats 8000000 in
theorem law_values (v v' : Vl) (w : World) (hr : Rd (fun b => b < w.heap.size) w v) (hr' : Rd (fun b => b < w.heap.size) w v') (hE : Env w) :
    Calls Tryd.prog 3 #[v.val, v'.val] w fun e w' => e = .returned (.bool true) ∧ Below w.heap.size w w' := by
  have HE := Lib.hid hE
  obtain ⟨k, nn, t, a, c, l⟩ := v
  obtain ⟨k', nn', t', a', c', l'⟩ := v'
  have hbA : Below w.heap.size w (w.alloc (.cells #[.int .i64 k, .int .i64 nn, .string t, .slice a l.length c] 24)) := (Below.refl _ _).alloc (Nat.le_refl _) _
  have hbB : Below w.heap.size w ((w.alloc (.cells #[.int .i64 k, .int .i64 nn, .string t, .slice a l.length c] 24)).alloc (.cells #[.int .i64 k', .int .i64 nn', .string t', .slice a' l'.length c'] 24)) := hbA.alloc hbA.size _
  have hbAB : Below (w.alloc (.cells #[.int .i64 k, .int .i64 nn, .string t, .slice a l.length c] 24)).heap.size (w.alloc (.cells #[.int .i64 k, .int .i64 nn, .string t, .slice a l.length c] 24)) ((w.alloc (.cells #[.int .i64 k, .int .i64 nn, .string t, .slice a l.length c] 24)).alloc (.cells #[.int .i64 k', .int .i64 nn', .string t', .slice a' l'.length c'] 24)) := (Below.refl _ _).alloc (Nat.le_refl _) _
  have sA : (w.alloc (.cells #[.int .i64 k, .int .i64 nn, .string t, .slice a l.length c] 24)).heap.size = w.heap.size + 1 := by simp
  have sB : ((w.alloc (.cells #[.int .i64 k, .int .i64 nn, .string t, .slice a l.length c] 24)).alloc (.cells #[.int .i64 k', .int .i64 nn', .string t', .slice a' l'.length c'] 24)).heap.size = w.heap.size + 2 := by simp
  obtain ⟨a1, a2, a3, a4, -⟩ := box_cells (World.alloc_heap_new w (.cells #[.int .i64 k, .int .i64 nn, .string t, .slice a l.length c] 24))
  obtain ⟨b1, b2, b3, b4, -⟩ := box_cells (World.alloc_heap_new (w.alloc (.cells #[.int .i64 k, .int .i64 nn, .string t, .slice a l.length c] 24)) (.cells #[.int .i64 k', .int .i64 nn', .string t', .slice a' l'.length c'] 24))
  rw [sA] at b1 b2 b3 b4
  have p1 := cell_later hbAB a1
  have p2 := cell_later hbAB a2
  have p3 := cell_later hbAB a3
  have p4 := cell_later hbAB a4
  have HRA := Lib.hid (hr.below hbB)
  have HRB := Lib.hid (hr'.below hbB)
  have HB := Lib.hid hbB
  have HSB := Lib.hid sB
  have hlw : w.heap.size ≤ ((w.alloc (.cells #[.int .i64 k, .int .i64 nn, .string t, .slice a l.length c] 24)).alloc (.cells #[.int .i64 k', .int .i64 nn', .string t', .slice a' l'.length c'] 24)).heap.size := hbB.size
  have GA : Hid (∀ W, Below ((w.alloc (.cells #[.int .i64 k, .int .i64 nn, .string t, .slice a l.length c] 24)).alloc (.cells #[.int .i64 k', .int .i64 nn', .string t', .slice a' l'.length c'] 24)).heap.size ((w.alloc (.cells #[.int .i64 k, .int .i64 nn, .string t, .slice a l.length c] 24)).alloc (.cells #[.int .i64 k', .int .i64 nn', .string t', .slice a' l'.length c'] 24)) W → Calls Tryd.prog 10 #[.agg #[.int .i64 k, .int .i64 nn, .string t, .slice a l.length c]] W fun e w' => e = .returned (.bool (greatV (Vl.mk k nn t a c l).er)) ∧ Below W.heap.size W w') := fun W hb => great_any _ _ W (HRA.out.below hb)
  have GB : Hid (∀ W, Below ((w.alloc (.cells #[.int .i64 k, .int .i64 nn, .string t, .slice a l.length c] 24)).alloc (.cells #[.int .i64 k', .int .i64 nn', .string t', .slice a' l'.length c'] 24)).heap.size ((w.alloc (.cells #[.int .i64 k, .int .i64 nn, .string t, .slice a l.length c] 24)).alloc (.cells #[.int .i64 k', .int .i64 nn', .string t', .slice a' l'.length c'] 24)) W → Calls Tryd.prog 10 #[.agg #[.int .i64 k', .int .i64 nn', .string t', .slice a' l'.length c']] W fun e w' => e = .returned (.bool (greatV (Vl.mk k' nn' t' a' c' l').er)) ∧ Below W.heap.size W w') := fun W hb => great_any _ _ W (HRB.out.below hb)
  have E1 : Hid (∀ W, Below ((w.alloc (.cells #[.int .i64 k, .int .i64 nn, .string t, .slice a l.length c] 24)).alloc (.cells #[.int .i64 k', .int .i64 nn', .string t', .slice a' l'.length c'] 24)).heap.size ((w.alloc (.cells #[.int .i64 k, .int .i64 nn, .string t, .slice a l.length c] 24)).alloc (.cells #[.int .i64 k', .int .i64 nn', .string t', .slice a' l'.length c'] 24)) W → Calls Tryd.prog 12 #[.agg #[.int .i64 k, .int .i64 nn, .string t, .slice a l.length c]] W fun e w' => e = .returned (.tuple #[.string ⟨(encB (Vl.mk k nn t a c l).er).toArray⟩, .int .i64 (encE (Vl.mk k nn t a c l).er)]) ∧ Below W.heap.size W w') := fun W hb => encode_A _ _ W (HRA.out.below hb) (fun b h9 => Nat.lt_of_lt_of_le (show b < w.heap.size from h9) (Nat.le_trans HB.out.size hb.size)) (HE.out.below (HB.out.trans (hb.mono HB.out.size)))
  have E2 : Hid (∀ W, Below ((w.alloc (.cells #[.int .i64 k, .int .i64 nn, .string t, .slice a l.length c] 24)).alloc (.cells #[.int .i64 k', .int .i64 nn', .string t', .slice a' l'.length c'] 24)).heap.size ((w.alloc (.cells #[.int .i64 k, .int .i64 nn, .string t, .slice a l.length c] 24)).alloc (.cells #[.int .i64 k', .int .i64 nn', .string t', .slice a' l'.length c'] 24)) W → Calls Tryd.prog 13 #[.agg #[.int .i64 k, .int .i64 nn, .string t, .slice a l.length c]] W fun e w' => e = .returned (.tuple #[.string ⟨(encB (Vl.mk k nn t a c l).er).toArray⟩, .int .i64 (encE (Vl.mk k nn t a c l).er)]) ∧ Below W.heap.size W w') := fun W hb => encode_R _ _ W (HRA.out.below hb) (fun b h9 => Nat.lt_of_lt_of_le (show b < w.heap.size from h9) (Nat.le_trans HB.out.size hb.size)) (HE.out.below (HB.out.trans (hb.mono HB.out.size)))
  have S1 : Hid (∀ W, Below ((w.alloc (.cells #[.int .i64 k, .int .i64 nn, .string t, .slice a l.length c] 24)).alloc (.cells #[.int .i64 k', .int .i64 nn', .string t', .slice a' l'.length c'] 24)).heap.size ((w.alloc (.cells #[.int .i64 k, .int .i64 nn, .string t, .slice a l.length c] 24)).alloc (.cells #[.int .i64 k', .int .i64 nn', .string t', .slice a' l'.length c'] 24)) W → Calls Tryd.prog 14 #[.agg #[.int .i64 k, .int .i64 nn, .string t, .slice a l.length c]] W fun e w' => e = .returned (.tuple #[.int .i64 (sizV (Vl.mk k nn t a c l).er), .int .i64 (chkV (Vl.mk k nn t a c l).er)]) ∧ Below W.heap.size W w') := fun W hb => size_any _ _ W (HRA.out.below hb)
  have S2 : Hid (∀ W, Below ((w.alloc (.cells #[.int .i64 k, .int .i64 nn, .string t, .slice a l.length c] 24)).alloc (.cells #[.int .i64 k', .int .i64 nn', .string t', .slice a' l'.length c'] 24)).heap.size ((w.alloc (.cells #[.int .i64 k, .int .i64 nn, .string t, .slice a l.length c] 24)).alloc (.cells #[.int .i64 k', .int .i64 nn', .string t', .slice a' l'.length c'] 24)) W → Calls Tryd.prog 15 #[.agg #[.int .i64 k, .int .i64 nn, .string t, .slice a l.length c]] W fun e w' => e = .returned (.tuple #[.int .i64 (sizV (Vl.mk k nn t a c l).er), .int .i64 (chkV (Vl.mk k nn t a c l).er)]) ∧ Below W.heap.size W w') := fun W hb => size_ref _ _ W (HRA.out.below hb)
  have C1 : Hid (∀ W, Below ((w.alloc (.cells #[.int .i64 k, .int .i64 nn, .string t, .slice a l.length c] 24)).alloc (.cells #[.int .i64 k', .int .i64 nn', .string t', .slice a' l'.length c'] 24)).heap.size ((w.alloc (.cells #[.int .i64 k, .int .i64 nn, .string t, .slice a l.length c] 24)).alloc (.cells #[.int .i64 k', .int .i64 nn', .string t', .slice a' l'.length c'] 24)) W → Calls Tryd.prog 16 #[.agg #[.int .i64 k, .int .i64 nn, .string t, .slice a l.length c]] W fun e w' => e = .returned (.int .i64 (chkV (Vl.mk k nn t a c l).er)) ∧ Below W.heap.size W w') := fun W hb => check_any _ _ W (HRA.out.below hb)
  have C2 : Hid (∀ W, Below ((w.alloc (.cells #[.int .i64 k, .int .i64 nn, .string t, .slice a l.length c] 24)).alloc (.cells #[.int .i64 k', .int .i64 nn', .string t', .slice a' l'.length c'] 24)).heap.size ((w.alloc (.cells #[.int .i64 k, .int .i64 nn, .string t, .slice a l.length c] 24)).alloc (.cells #[.int .i64 k', .int .i64 nn', .string t', .slice a' l'.length c'] 24)) W → Calls Tryd.prog 17 #[.agg #[.int .i64 k, .int .i64 nn, .string t, .slice a l.length c]] W fun e w' => e = .returned (.int .i64 (chkV (Vl.mk k nn t a c l).er)) ∧ Below W.heap.size W w') := fun W hb => check_ref _ _ W (HRA.out.below hb)
  have M1 : Hid (∀ W, Below ((w.alloc (.cells #[.int .i64 k, .int .i64 nn, .string t, .slice a l.length c] 24)).alloc (.cells #[.int .i64 k', .int .i64 nn', .string t', .slice a' l'.length c'] 24)).heap.size ((w.alloc (.cells #[.int .i64 k, .int .i64 nn, .string t, .slice a l.length c] 24)).alloc (.cells #[.int .i64 k', .int .i64 nn', .string t', .slice a' l'.length c'] 24)) W → Calls Tryd.prog 18 #[.agg #[.int .i64 k, .int .i64 nn, .string t, .slice a l.length c], .agg #[.int .i64 k', .int .i64 nn', .string t', .slice a' l'.length c']] W fun e w' => e = .returned (.bool (sameV (Vl.mk k nn t a c l).er (Vl.mk k' nn' t' a' c' l').er)) ∧ Below W.heap.size W w') := fun W hb => same_any _ _ _ _ W (HRA.out.below hb) (HRB.out.below hb)
  have M2 : Hid (∀ W, Below ((w.alloc (.cells #[.int .i64 k, .int .i64 nn, .string t, .slice a l.length c] 24)).alloc (.cells #[.int .i64 k', .int .i64 nn', .string t', .slice a' l'.length c'] 24)).heap.size ((w.alloc (.cells #[.int .i64 k, .int .i64 nn, .string t, .slice a l.length c] 24)).alloc (.cells #[.int .i64 k', .int .i64 nn', .string t', .slice a' l'.length c'] 24)) W → Calls Tryd.prog 19 #[.agg #[.int .i64 k, .int .i64 nn, .string t, .slice a l.length c], .agg #[.int .i64 k', .int .i64 nn', .string t', .slice a' l'.length c']] W fun e w' => e = .returned (.bool (sameV (Vl.mk k nn t a c l).er (Vl.mk k' nn' t' a' c' l').er)) ∧ Below W.heap.size W w') := fun W hb => same_ref _ _ _ _ W (HRA.out.below hb) (HRB.out.below hb)
  change Calls _ _ #[.agg #[.int .i64 k, .int .i64 nn, .string t, .slice a l.length c], .agg #[.int .i64 k', .int .i64 nn', .string t', .slice a' l'.length c']] _ _
  generalize greatV (Vl.mk k nn t a c l).er = g1 at *
  generalize greatV (Vl.mk k' nn' t' a' c' l').er = g2 at *
  generalize (⟨(encB (Vl.mk k nn t a c l).er).toArray⟩ : ByteArray) = SA at *
  generalize encE (Vl.mk k nn t a c l).er = xe at *
  generalize sizV (Vl.mk k nn t a c l).er = xs at *
  generalize chkV (Vl.mk k nn t a c l).er = xc at *
  generalize sameV (Vl.mk k nn t a c l).er (Vl.mk k' nn' t' a' c' l').er = xm at *
  have j1 : (xe == xe) = true := by simp
  have j2 : (xs == xs) = true := by simp
  have j3 : (xc == xc) = true := by simp
  have j4 : (xm == xm) = true := by simp
  have j5 : (SA.toList == SA.toList) = true := by simp
  clear hr hr' hbA hbB hbAB hE HRA HRB
  rcases g1 with _ | _
  · rcases g2 with _ | _
    · go_enter Tryd.func3, Tryd.ntmps3
      go_wp2_with fail
      generalize (w.alloc (.cells #[.int .i64 k, .int .i64 nn, .string t, .slice a l.length c] 24)).alloc (.cells #[.int .i64 k', .int .i64 nn', .string t', .slice a' l'.length c'] 24) = W0 at *
      have hx0 : Below W0.heap.size W0 W0 := Below.refl _ _
      refine (GA.out _ hx0).mono ?_
      rintro e W1 ⟨rfl, hc1⟩
      have hx1 := hx0.trans (hc1.mono hx0.size)
      have u10 := cell_later hx1 p1
      have v10 := cell_later hx1 b1
      have u11 := cell_later hx1 p2
      have v11 := cell_later hx1 b2
      have u12 := cell_later hx1 p3
      have v12 := cell_later hx1 b3
      have u13 := cell_later hx1 p4
      have v13 := cell_later hx1 b4
      go_wp2_with fail
      refine (GB.out _ hx1).mono ?_
      rintro e W2 ⟨rfl, hc2⟩
      have hx2 := hx1.trans (hc2.mono hx1.size)
      have u20 := cell_later hx2 p1
      have v20 := cell_later hx2 b1
      have u21 := cell_later hx2 p2
      have v21 := cell_later hx2 b2
      have u22 := cell_later hx2 p3
      have v22 := cell_later hx2 b3
      have u23 := cell_later hx2 p4
      have v23 := cell_later hx2 b4
      clear u10 v10 u11 v11 u12 v12 u13 v13
      go_wp2_with fail
      refine (E1.out _ hx2).mono ?_
      rintro e W3 ⟨rfl, hc3⟩
      have hx3 := hx2.trans (hc3.mono hx2.size)
      have u30 := cell_later hx3 p1
      have v30 := cell_later hx3 b1
      have u31 := cell_later hx3 p2
      have v31 := cell_later hx3 b2
      have u32 := cell_later hx3 p3
      have v32 := cell_later hx3 b3
      have u33 := cell_later hx3 p4
      have v33 := cell_later hx3 b4
      clear u20 v20 u21 v21 u22 v22 u23 v23
      go_wp2_with fail
      refine (E2.out _ hx3).mono ?_
      rintro e W4 ⟨rfl, hc4⟩
      have hx4 := hx3.trans (hc4.mono hx3.size)
      have u40 := cell_later hx4 p1
      have v40 := cell_later hx4 b1
      have u41 := cell_later hx4 p2
      have v41 := cell_later hx4 b2
      have u42 := cell_later hx4 p3
      have v42 := cell_later hx4 b3
      have u43 := cell_later hx4 p4
      have v43 := cell_later hx4 b4
      clear u30 v30 u31 v31 u32 v32 u33 v33
      go_wp2_with fail
      refine (S1.out _ hx4).mono ?_
      rintro e W5 ⟨rfl, hc5⟩
      have hx5 := hx4.trans (hc5.mono hx4.size)
      have u50 := cell_later hx5 p1
      have v50 := cell_later hx5 b1
      have u51 := cell_later hx5 p2
      have v51 := cell_later hx5 b2
      have u52 := cell_later hx5 p3
      have v52 := cell_later hx5 b3
      have u53 := cell_later hx5 p4
      have v53 := cell_later hx5 b4
      clear u40 v40 u41 v41 u42 v42 u43 v43
      go_wp2_with fail
      refine (S2.out _ hx5).mono ?_
      rintro e W6 ⟨rfl, hc6⟩
      have hx6 := hx5.trans (hc6.mono hx5.size)
      have u60 := cell_later hx6 p1
      have v60 := cell_later hx6 b1
      have u61 := cell_later hx6 p2
      have v61 := cell_later hx6 b2
      have u62 := cell_later hx6 p3
      have v62 := cell_later hx6 b3
      have u63 := cell_later hx6 p4
      have v63 := cell_later hx6 b4
      clear u50 v50 u51 v51 u52 v52 u53 v53
      go_wp2_with fail
      obtain ⟨X, Wf, hX, hS1, hS2⟩ := family (fun W => Below W6.heap.size W6 W) W6 (Below.refl _ _)
      have HX6 := Lib.hid hx6
      have HS1 := Lib.hid hS1
      have HS2 := Lib.hid hS2
      have y0 := fun x => cell_later (hS1 x) u60
      have z0 := fun x => cell_later (hS1 x) v60
      have y1 := fun x => cell_later (hS1 x) u61
      have z1 := fun x => cell_later (hS1 x) v61
      have y2 := fun x => cell_later (hS1 x) u62
      have z2 := fun x => cell_later (hS1 x) v62
      have y3 := fun x => cell_later (hS1 x) u63
      have z3 := fun x => cell_later (hS1 x) v63
      clear hS1 hS2 hx1 hx2 hx3 hx4 hx5 hx6 hc1 hc2 hc3 hc4 hc5 hc6 p1 p2 p3 p4 b1 b2 b3 b4 a1 a2 a3 a4
      clear u60 v60 u61 v61 u62 v62 u63 v63
      have HY : Hid (∀ x, Below W0.heap.size W0 (Wf x)) := fun x => HX6.out.trans ((HS1.out x).mono HX6.out.size)
      refine wp_region_quiet (C := fun W => ∃ x, W = Wf x) (by kernel_rfl) (by kernel_rfl) (HS2.out _ (Below.refl _ _).drew) ?_
      simp only []
      repeat (go_big_quiet_step (fail))
      go_big_quiet_step ((go_at_call 16; refine (C1.out _ (HY.out _)).mono ?_; rintro e4 w4 ⟨rfl, hb4⟩; exact ⟨rfl, HS2.out _ ((HS1.out _).trans (hb4.mono (HS1.out _).size))⟩))
      repeat (go_big_quiet_step (fail))
      go_big_quiet_step ((go_at_call 17; refine (C2.out _ (HY.out _)).mono ?_; rintro e4 w4 ⟨rfl, hb4⟩; exact ⟨rfl, HS2.out _ ((HS1.out _).trans (hb4.mono (HS1.out _).size))⟩))
      repeat (go_big_quiet_step (fail))
      go_big_quiet_step ((go_at_call 18; refine (M1.out _ (HY.out _)).mono ?_; rintro e4 w4 ⟨rfl, hb4⟩; exact ⟨rfl, HS2.out _ ((HS1.out _).trans (hb4.mono (HS1.out _).size))⟩))
      repeat (go_big_quiet_step (fail))
      go_big_quiet_step ((go_at_call 19; refine (M2.out _ (HY.out _)).mono ?_; rintro e4 w4 ⟨rfl, hb4⟩; exact ⟨rfl, HS2.out _ ((HS1.out _).trans (hb4.mono (HS1.out _).size))⟩))
      repeat (go_big_quiet_step (fail))
      go_big_quiet_step ((go_at_call 11; refine (awake_any _ (HE.out.below (HB.out.trans ((HY.out _).mono HB.out.size)))).mono ?_; rintro e4 w4 ⟨rfl, hb4⟩; exact ⟨rfl, HS2.out _ ((HS1.out _).trans (hb4.mono (HS1.out _).size))⟩))
      repeat (go_big_quiet_step (fail))
      refine wpQuiet_nil ?_
      rintro w5 ⟨x5, rfl⟩
      have hb5 := HB.out.trans ((HY.out x5).mono HB.out.size)
      generalize Wf x5 = w5 at *
      go_wp2
      go_ret
      exact ⟨rfl, hb5⟩
    · go_enter Tryd.func3, Tryd.ntmps3
      go_wp2_with fail
      generalize (w.alloc (.cells #[.int .i64 k, .int .i64 nn, .string t, .slice a l.length c] 24)).alloc (.cells #[.int .i64 k', .int .i64 nn', .string t', .slice a' l'.length c'] 24) = W0 at *
      have hx0 : Below W0.heap.size W0 W0 := Below.refl _ _
      refine (GA.out _ hx0).mono ?_
      rintro e W1 ⟨rfl, hc1⟩
      have hx1 := hx0.trans (hc1.mono hx0.size)
      have u10 := cell_later hx1 p1
      have v10 := cell_later hx1 b1
      have u11 := cell_later hx1 p2
      have v11 := cell_later hx1 b2
      have u12 := cell_later hx1 p3
      have v12 := cell_later hx1 b3
      have u13 := cell_later hx1 p4
      have v13 := cell_later hx1 b4
      go_wp2_with fail
      refine (GB.out _ hx1).mono ?_
      rintro e W2 ⟨rfl, hc2⟩
      have hx2 := hx1.trans (hc2.mono hx1.size)
      have u20 := cell_later hx2 p1
      have v20 := cell_later hx2 b1
      have u21 := cell_later hx2 p2
      have v21 := cell_later hx2 b2
      have u22 := cell_later hx2 p3
      have v22 := cell_later hx2 b3
      have u23 := cell_later hx2 p4
      have v23 := cell_later hx2 b4
      have hbZ := HB.out.trans (hx2.mono HB.out.size)
      go_wp2_with (go_at_call 11; refine (awake_any _ (HE.out.below hbZ)).mono ?_; rintro e WZ ⟨rfl, bz⟩)
      go_ret
      exact ⟨rfl, hbZ.trans (bz.mono hbZ.size)⟩
  · go_enter Tryd.func3, Tryd.ntmps3
    go_wp2_with fail
    generalize (w.alloc (.cells #[.int .i64 k, .int .i64 nn, .string t, .slice a l.length c] 24)).alloc (.cells #[.int .i64 k', .int .i64 nn', .string t', .slice a' l'.length c'] 24) = W0 at *
    have hx0 : Below W0.heap.size W0 W0 := Below.refl _ _
    refine (GA.out _ hx0).mono ?_
    rintro e W1 ⟨rfl, hc1⟩
    have hx1 := hx0.trans (hc1.mono hx0.size)
    have u10 := cell_later hx1 p1
    have v10 := cell_later hx1 b1
    have u11 := cell_later hx1 p2
    have v11 := cell_later hx1 b2
    have u12 := cell_later hx1 p3
    have v12 := cell_later hx1 b3
    have u13 := cell_later hx1 p4
    have v13 := cell_later hx1 b4
    have hbZ := HB.out.trans (hx1.mono HB.out.size)
    go_wp2_with (go_at_call 11; refine (awake_any _ (HE.out.below hbZ)).mono ?_; rintro e WZ ⟨rfl, bz⟩)
    go_ret
    exact ⟨rfl, hbZ.trans (bz.mono hbZ.size)⟩
end Go.Proofs.YtancjkaoocgeeaaDoor
