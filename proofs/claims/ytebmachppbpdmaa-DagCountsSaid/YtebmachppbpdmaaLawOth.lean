/- DagOthers. -/
import Derived.Test.YtebmachppbpdmaaDAwk
import Derived.Test.YtebmachppbpdmaaDReach
import Derived.Test.YtebmachppbpdmaaDRow
namespace Go.Proofs.Ytebmachppbpdmaa
open Go.RowKit

theorem great_links {n : Int} {m : Nat} {w : World} {a : Option Addr} {cap : Nat} {ll : List Lk} (h : LRow w a m cap ll) (hg : greatG n m = false) : Links w a m cap ll ∧ m ≤ 14 := by
  have hm : m ≤ 14 := by simp [greatG] at hg; omega
  exact ⟨h.2.2 (by omega), hm⟩
set_option maxHeartbeats 1000000 in
theorem law_others (n : Int) (a : Option Addr) (m cap : Nat) (ll : List Lk) (s t : Int) (w : World) (h : LRow w a m cap ll) (hs : I64 s) (ht : I64 t) :
    Calls Try.prog 6 #[.int .i64 n, .slice a m cap, .int .i64 s, .int .i64 t] w fun e w' => e = .returned (.bool true) ∧ Below w.heap.size w w' := by
  have F := Lib.hid (ref_great_any n a m cap w h.1)
  cases hg : greatG n m with
  | true =>
    rw [hg] at F
    clear hg h
    go_enter Try.func6, Try.ntmps6
    go_wp2_with (first | (go_at_call 18; refine F.out.mono ?_; rintro e w1 ⟨rfl, rfl⟩) | (go_at_call 12; refine (awake_any _).mono ?_; rintro e w2 ⟨rfl, b2⟩))
    go_ret
    exact ⟨rfl, b2⟩
  | false =>
    rw [hg] at F
    obtain ⟨hL, _⟩ := great_links h hg
    clear hg h
    have HL := Lib.hid hL
    clear hL
    have G1 : Hid (∀ w', Below w.heap.size w w' → _) := fun w' hb => count_any n a m cap s t ll w' (HL.out.below hb) hs ht
    have G2 : Hid (∀ w', Below w.heap.size w w' → _) := fun w' hb => ref_count_any n a m cap s t ll w' (HL.out.below hb)
    have G3 : Hid (∀ w', Below w.heap.size w w' → _) := fun w' hb => longest_any n a m cap s t ll w' (HL.out.below hb) hs ht
    have G4 : Hid (∀ w', Below w.heap.size w w' → _) := fun w' hb => ref_longest_any n a m cap s t ll w' (HL.out.below hb)
    have G5 : Hid (∀ w', Below w.heap.size w w' → _) := fun w' hb => reach_any n a m cap s ll w' (HL.out.below hb) hs
    have G6 : Hid (∀ w', Below w.heap.size w w' → _) := fun w' hb => ref_reach_any n a m cap s ll w' (HL.out.below hb)
    generalize cntN n ll s t = x1 at *
    generalize chk2 n ll s t = x2 at *
    generalize longN n ll s t = x3 at *
    generalize longE n ll s t = x4 at *
    generalize chk2 n ll s s = x5 at *
    generalize reL n ll s = rl at *
    have d1 : (x1 == x1) = true := by simp
    have d2 : (x2 == x2) = true := by simp
    have d3 : (x3 == x3) = true := by simp
    have d4 : (x4 == x4) = true := by simp
    have d5 : (x5 == x5) = true := by simp
    go_enter Try.func6, Try.ntmps6
    go_wp2_with (go_at_call 18; refine F.out.mono ?_; rintro e w1 ⟨rfl, rfl⟩)
    obtain ⟨w0, rfl⟩ : ∃ w0, w0 = w1 := ⟨_, rfl⟩
    refine (G1.out w0 (Below.refl _ _)).mono ?_
    rintro e w1 ⟨rfl, b1⟩
    go_wp2_with fail
    refine (G2.out w1 b1).mono ?_
    rintro e w2 ⟨rfl, b2'⟩
    have b2 := b1.trans (b2'.mono b1.size)
    go_wp2_with fail
    refine (G3.out w2 b2).mono ?_
    rintro e w3 ⟨rfl, b3'⟩
    have b3 := b2.trans (b3'.mono b2.size)
    go_wp2_with fail
    refine (G4.out w3 b3).mono ?_
    rintro e w4 ⟨rfl, b4'⟩
    have b4 := b3.trans (b4'.mono b3.size)
    go_wp2_with fail
    refine (G5.out w4 b4).mono ?_
    rintro e w5 ⟨a5, q5, c5, rfl, i5, b5'⟩
    have b5 := b4.trans (b5'.mono b4.size)
    go_wp2_with fail
    refine (G6.out w5 b5).mono ?_
    rintro e w6 ⟨a6, q6, c6, rfl, i6, b6'⟩
    have b6 := b5.trans (b6'.mono b5.size)
    have i56 := i5.below b6'
    clear b1 b2 b3 b4 b5 b2' b3' b4' b5' b6' i5 G1 G2 G3 G4 G5 G6
    go_wp2_with fail
    refine (equal_any _ _ _ _ _ _ _ _ _ i56 i6).mono ?_
    rintro e w7 ⟨rfl, q7⟩
    rw [show decide (rl = rl) = true from by simp]
    have b7 := b6.trans (q7.below _)
    clear i56 i6 q7
    go_wp2_with fail
    refine (awake_any w7).mono ?_
    rintro e w8 ⟨rfl, b8⟩
    go_wp2
    go_ret
    exact ⟨rfl, b7.trans (b8.mono b7.size)⟩
end Go.Proofs.Ytebmachppbpdmaa
