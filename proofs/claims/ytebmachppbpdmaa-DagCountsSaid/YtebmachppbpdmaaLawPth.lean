/- DagPaths. -/
import Derived.Test.YtebmachppbpdmaaLawOth
import Derived.Test.YtebmachppbpdmaaDVer
namespace Go.Proofs.Ytebmachppbpdmaa
open Go.RowKit

set_option maxHeartbeats 1000000 in
theorem law_paths (n : Int) (a : Option Addr) (m cap : Nat) (ll : List Lk) (s t : Int) (ap : Option Addr) (np cp : Nat) (path : List Int) (aq : Option Addr) (nq cq : Nat) (ps : List Int) (w : World) (h : LRow w a m cap ll) (hs : I64 s) (ht : I64 t)
    (hp : np * 8 ≤ 140737488355328 → Ints w ap np cp path) (hq : nq * 8 ≤ 140737488355328 → Ints w aq nq cq ps) :
    Calls Try.prog 7 #[.int .i64 n, .slice a m cap, .int .i64 s, .int .i64 t, .slice ap np cp, .slice aq nq cq] w fun e w' => e = .returned (.bool true) ∧ Below w.heap.size w w' := by
  have F := Lib.hid (ref_great_any n a m cap w h.1)
  by_cases hcase : greatG n m = true ∨ 20 < np ∨ 20 < nq
  · rcases (show greatG n m = true ∨ (greatG n m = false ∧ 20 < np) ∨ (greatG n m = false ∧ np ≤ 20 ∧ 20 < nq) by
      cases hg : greatG n m with
      | true => exact .inl rfl
      | false =>
        by_cases h1 : 20 < np
        · exact .inr (.inl ⟨rfl, h1⟩)
        · refine .inr (.inr ⟨rfl, by omega, ?_⟩)
          rcases hcase with e | e | e
          · rw [hg] at e; cases e
          · exact absurd e h1
          · exact e) with hg | ⟨hg, h1⟩ | ⟨hg, h1, h2⟩
    all_goals
      rw [hg] at F
      clear hcase hg h hp hq
      go_enter Try.func7, Try.ntmps7
      go_wp2_with (first | (go_at_call 18; refine F.out.mono ?_; rintro e w1 ⟨rfl, rfl⟩) | (go_at_call 12; refine (awake_any _).mono ?_; rintro e w2 ⟨rfl, b2⟩))
      go_ret
      exact ⟨rfl, b2⟩
  · have hg : greatG n m = false := by cases hg : greatG n m with | true => exact absurd (.inl hg) hcase | false => rfl
    have g1 : np ≤ 20 := by omega
    have g2 : nq ≤ 20 := by omega
    rw [hg] at F
    obtain ⟨hL, _⟩ := great_links h hg
    have hP := hp (by omega)
    have hQ := hq (by omega)
    clear hg h hcase hp hq
    have HL := Lib.hid hL
    have HP := Lib.hid hP
    have HQ := Lib.hid hQ
    clear hL hP hQ
    have G1 : Hid (∀ w', Below w.heap.size w w' → _) := fun w' hb => shortest_any n a m cap s t ll w' (HL.out.below hb) hs ht
    have G2 : Hid (∀ w', Below w.heap.size w w' → _) := fun w' hb => ref_shortest_any n a m cap s t ll w' (HL.out.below hb)
    have G3 : Hid (∀ w', Below w.heap.size w w' → _) := fun w' hb => potentials_any n a m cap t ll w' (HL.out.below hb) ht
    have G4 : Hid (∀ w', Below w.heap.size w w' → _) := fun w' hb => ref_potentials_any n a m cap t ll w' (HL.out.below hb)
    have G5 : Hid (∀ w', Below w.heap.size w w' → _) := fun w' hb => check_any n a m cap ll w' (HL.out.below hb)
    have G6 : Hid (∀ w', Below w.heap.size w w' → _) := fun w' hb => ref_check_any n a m cap ll w' (HL.out.below hb)
    have G7 : Hid (∀ w', Below w.heap.size w w' → _) := fun w' hb => verify_any n a ap aq m cap np cp nq cq s t ll path ps w' (HL.out.below hb) (HP.out.below hb) (HQ.out.below hb) (by omega) hs ht
    have G8 : Hid (∀ w', Below w.heap.size w w' → _) := fun w' hb => ref_verify_any n a ap aq m cap np cp nq cq s t ll path ps w' (HL.out.below hb) (HP.out.below hb) (HQ.out.below hb) (by omega)
    generalize verD n ll s t path ps = x1 at *
    generalize chkE n ll = x2 at *
    generalize shCost n ll s t = x3 at *
    generalize shErr n ll s t = x4 at *
    generalize (if chk2 n ll t t = 0 then pots ll n.toNat t.toNat else []) = pl at *
    generalize chk2 n ll t t = x5 at *
    have d1 : (x1 == x1) = true := by simp
    have d2 : (x2 == x2) = true := by simp
    have d3 : (x3 == x3) = true := by simp
    have d4 : (x4 == x4) = true := by simp
    have d5 : (x5 == x5) = true := by simp
    go_enter Try.func7, Try.ntmps7
    go_wp2_with (go_at_call 18; refine F.out.mono ?_; rintro e w1 ⟨rfl, rfl⟩)
    obtain ⟨w0, rfl⟩ : ∃ w0, w0 = w1 := ⟨_, rfl⟩
    refine (G1.out w0 (Below.refl _ _)).mono ?_
    rintro e w1 ⟨a1, q1, c1, r, rfl, i1, sp1, b1⟩
    go_wp2_with fail
    refine (G2.out w1 b1).mono ?_
    rintro e w2 ⟨a2, q2, c2, r2, rfl, i2, sp2, b2'⟩
    obtain rfl := sp1.unique sp2
    have b2 := b1.trans (b2'.mono b1.size)
    have i1b := i1.below b2'
    clear sp1 sp2
    go_wp2_with fail
    refine (G3.out w2 b2).mono ?_
    rintro e w3 ⟨a3, q3, c3, rfl, i3, b3'⟩
    have b3 := b2.trans (b3'.mono b2.size)
    go_wp2_with fail
    refine (G4.out w3 b3).mono ?_
    rintro e w4 ⟨a4, q4, c4, rfl, i4, b4'⟩
    have b4 := b3.trans (b4'.mono b3.size)
    have i3b := i3.below b4'
    have j1 := (i1b.below b3').below b4'
    have j2 := (i2.below b3').below b4'
    clear i1 i1b i2 i3
    go_wp2_with fail
    refine (G5.out w4 b4).mono ?_
    rintro e w5 ⟨rfl, b5'⟩
    have b5 := b4.trans (b5'.mono b4.size)
    go_wp2_with fail
    refine (G6.out w5 b5).mono ?_
    rintro e w6 ⟨rfl, b6'⟩
    have b6 := b5.trans (b6'.mono b5.size)
    have k1 := (j1.below b5').below b6'
    have k2 := (j2.below b5').below b6'
    have k3 := (i3b.below b5').below b6'
    have k4 := (i4.below b5').below b6'
    clear j1 j2 i3b i4 b1 b2 b3 b4 b5 b2' b3' b4' b5' b6' G1 G2 G3 G4 G5 G6
    go_wp2_with fail
    refine (equal_any _ _ _ _ _ _ _ _ _ k1 k2).mono ?_
    rintro e w7 ⟨rfl, q7⟩
    rw [show decide (r = r) = true from by simp]
    have b7 := b6.trans ((q7.below _).mono b6.size)
    have l3 := k3.drews q7
    have l4 := k4.drews q7
    clear k1 k2 k3 k4 q7 b6
    go_wp2_with fail
    refine (equal_any _ _ _ _ _ _ _ _ _ l3 l4).mono ?_
    rintro e w8 ⟨rfl, q8⟩
    rw [show decide (pl = pl) = true from by simp]
    have b8 := b7.trans ((q8.below _).mono b7.size)
    clear l3 l4 q8 b7
    go_wp2_with fail
    refine (G7.out w8 b8).mono ?_
    rintro e w9 ⟨rfl, b9'⟩
    have b9 := b8.trans (b9'.mono b8.size)
    go_wp2_with fail
    refine (G8.out w9 b9).mono ?_
    rintro e wa ⟨rfl, ba'⟩
    have ba := b9.trans (ba'.mono b9.size)
    clear b8 b9 b9' ba' G7 G8
    go_wp2_with fail
    refine (awake_any wa).mono ?_
    rintro e wb ⟨rfl, bb⟩
    go_wp2
    go_ret
    exact ⟨rfl, ba.trans (bb.mono ba.size)⟩
end Go.Proofs.Ytebmachppbpdmaa
