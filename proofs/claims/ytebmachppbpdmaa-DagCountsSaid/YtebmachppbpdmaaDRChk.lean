/- The reference's Check, check and Great. -/
import Derived.Test.YtebmachppbpdmaaDBase
namespace Go.Proofs.Ytebmachppbpdmaa
open Go.RowKit

set_option maxHeartbeats 1000000 in
theorem ref_check_any (n : Int) (a : Option Addr) (m cap : Nat) (ll : List Lk) (w : World) (h : Links w a m cap ll) :
    Calls Try.prog 27 #[.int .i64 n, .slice a m cap] w fun e w' => e = .returned (.int .i64 (chkE n ll)) ∧ Below w.heap.size w w' := by
  have H := Lib.hid h.len
  have h8 := h.bound
  by_cases hn : n < 1 ∨ 4096 < n
  · have E : Hid (chkE n ll = 2) := if_pos hn
    rcases hn with hn | hn
    · go_enter Try.func27, Try.ntmps27
      go_wp2
      go_ret
      exact ⟨by rw [E.out]; rfl, Below.refl _ _⟩
    · go_enter Try.func27, Try.ntmps27
      have hn1 : ¬ n < 1 := by omega
      go_wp2
      go_ret
      exact ⟨by rw [E.out]; rfl, Below.refl _ _⟩
  · have hn1 : 1 ≤ n := by omega
    have hn2 : n ≤ 4096 := by omega
    by_cases hl : 65536 < m
    · have E : Hid (chkE n ll = 4) := by show chkE n ll = 4; rw [chkE, if_neg hn, if_pos (by rw [← H.out]; exact hl)]
      clear hn
      go_enter Try.func27, Try.ntmps27
      go_wp2
      go_ret
      exact ⟨by rw [E.out]; rfl, Below.refl _ _⟩
    · have E : Hid (chkE n ll = chkL n (ll.drop 0)) := by show chkE n ll = _; rw [chkE, if_neg hn, if_neg (by rw [← H.out]; exact hl), List.drop_zero]
      clear hn
      go_enter Try.func27, Try.ntmps27
      go_wp2
      go_loopw [5] (fun i wr => ∃ k : Nat, k ≤ m ∧ i = .int .i64 k ∧ Hid (chkL n (ll.drop 0) = chkL n (ll.drop k)) ∧ Below w.heap.size w wr) (fun i _ => m - (intOf i).toNat)
      case atStart => exact ⟨0, Nat.zero_le _, rfl, rfl, Below.refl _ _⟩
      case round =>
        obtain ⟨k, hk, rfl, hc, hb⟩ := hrel
        by_cases hlt : k < m
        · obtain ⟨f, t, c, hx, f1, t1, c1, b, off, rfl, -, k1, k2, k3⟩ := (h.below hb).get hlt
          have HX := Lib.hid hx
          clear hx
          dsimp only at k1 k2 k3
          have hb' := hb.alloc hb.size (.cells #[.int .i64 f, .int .i64 t, .int .i64 c] 36)
          rcases bad_cases n f t c with g1 | ⟨g1, g2⟩ | ⟨g1, g2, g3⟩ | ⟨g1, g2, g3, g4⟩ | ⟨g1, g2, g3, g4, g5⟩ | ⟨g1, g2, g3, g4, g5, g6⟩ | ⟨g1, g2, g3, g4, g5, g6⟩
          iterate 6
            · have B : badL n (f, t, c) := by unfold badL; dsimp only; omega
              have E2 : Hid (chkE n ll = 2) := (E.out.trans hc.out).trans (chkL_bad HX.out B)
              clear B
              go_wp2
              go_ret
              exact ⟨by rw [E2.out]; rfl, hb'⟩
          · have B : ¬ badL n (f, t, c) := by unfold badL; dsimp only; omega
            by_cases ho : t ≤ f
            · have E2 : Hid (chkE n ll = 10) := (E.out.trans hc.out).trans (chkL_order HX.out B ho)
              clear B
              go_wp2
              go_ret
              exact ⟨by rw [E2.out]; rfl, hb'⟩
            · have E2 : Hid (chkL n (ll.drop k) = chkL n (ll.drop (k + 1))) := chkL_next HX.out B ho
              clear B
              go_wp2
              go_roundw
              case rel => exact ⟨k + 1, by omega, by go_num, hc.out.trans E2.out, hb'⟩
              case measure => simp [intOf]; omega
        · obtain rfl : k = m := by omega
          have E2 : Hid (chkE n ll = 0) := by
            show chkE n ll = 0
            rw [E.out, hc.out, List.drop_eq_nil_of_le (by rw [← H.out]; omega)]; rfl
          go_wp2
          go_ret
          exact ⟨by rw [E2.out]; rfl, hb⟩

/-- The errors of a graph and two nodes. -/
def chk2 (n : Int) (ll : List Lk) (s t : Int) : Int := if chkE n ll ≠ 0 then 1 else if s < 0 ∨ n ≤ s ∨ t < 0 ∨ n ≤ t then 2 else 0

set_option maxHeartbeats 1000000 in
theorem ref_check2_any (n : Int) (a : Option Addr) (m cap : Nat) (ll : List Lk) (s t : Int) (w : World) (h : Links w a m cap ll) :
    Calls Try.prog 46 #[.int .i64 n, .slice a m cap, .int .i64 s, .int .i64 t] w fun e w' => e = .returned (.int .i64 (chk2 n ll s t)) ∧ Below w.heap.size w w' := by
  have F := Lib.hid (ref_check_any n a m cap ll w h)
  by_cases h0 : chkE n ll = 0
  · have z : (chkE n ll != 0) = false := by simp [h0]
    rw [h0] at F z
    by_cases hs : s < 0 ∨ n ≤ s ∨ t < 0 ∨ n ≤ t
    · have E : Hid (chk2 n ll s t = 2) := by show chk2 n ll s t = 2; rw [chk2, if_neg (by omega), if_pos hs]
      clear h0
      rcases (show s < 0 ∨ (0 ≤ s ∧ n ≤ s) ∨ (0 ≤ s ∧ s < n ∧ t < 0) ∨ (0 ≤ s ∧ s < n ∧ 0 ≤ t ∧ n ≤ t) by omega) with g1 | ⟨g1, g2⟩ | ⟨g1, g2, g3⟩ | ⟨g1, g2, g3, g4⟩
      all_goals
        clear hs
        go_enter Try.func46, Try.ntmps46
        go_wp2_with (go_at_call 27; refine F.out.mono ?_; rintro e w1 ⟨rfl, b1⟩)
        go_ret
        exact ⟨by rw [E.out]; rfl, b1⟩
    · have E : Hid (chk2 n ll s t = 0) := by show chk2 n ll s t = 0; rw [chk2, if_neg (by omega), if_neg hs]
      have g1 : 0 ≤ s := by omega
      have g2 : s < n := by omega
      have g3 : 0 ≤ t := by omega
      have g4 : t < n := by omega
      clear hs h0
      go_enter Try.func46, Try.ntmps46
      go_wp2_with (go_at_call 27; refine F.out.mono ?_; rintro e w1 ⟨rfl, b1⟩)
      go_ret
      exact ⟨by rw [E.out]; rfl, b1⟩
  · have E : Hid (chk2 n ll s t = 1) := by show chk2 n ll s t = 1; rw [chk2, if_pos h0]
    have z : (chkE n ll != 0) = true := by simpa using h0
    clear h0
    generalize chkE n ll = C at *
    go_enter Try.func46, Try.ntmps46
    go_wp2_with (go_at_call 27; refine F.out.mono ?_; rintro e w1 ⟨rfl, b1⟩)
    go_ret
    exact ⟨by rw [E.out]; rfl, b1⟩

/-- Whether a graph is larger than the statements examine. -/
def greatG (n : Int) (m : Nat) : Bool := decide (14 < m) || (decide (8 < n) && decide (n ≤ 4096))
set_option maxHeartbeats 400000 in
theorem ref_great_any (n : Int) (a : Option Addr) (m cap : Nat) (w : World) (hm : m ≤ 9223372036854775807) :
    Calls Try.prog 18 #[.int .i64 n, .slice a m cap] w fun e w' => e = .returned (.bool (greatG n m)) ∧ w' = w := by
  rcases (show 14 < m ∨ (m ≤ 14 ∧ n ≤ 8) ∨ (m ≤ 14 ∧ 8 < n ∧ n ≤ 4096) ∨ (m ≤ 14 ∧ 8 < n ∧ 4096 < n) by omega) with g1 | ⟨g1, g2⟩ | ⟨g1, g2, g3⟩ | ⟨g1, g2, g3⟩
  · have E : Hid (greatG n m = true) := by show greatG n m = true; simp [greatG]; omega
    go_enter Try.func18, Try.ntmps18
    go_wp2
    go_ret
    exact ⟨by rw [E.out]; rfl, rfl⟩
  · have E : Hid (greatG n m = false) := by show greatG n m = false; simp [greatG]; omega
    have d1 : decide ((14 : Int) < (m : Int)) = false := decide_eq_false (by omega)
    have d2 : decide ((8 : Int) < n) = false := decide_eq_false (by omega)
    go_enter Try.func18, Try.ntmps18
    go_wp2
    go_ret
    exact ⟨by rw [E.out]; rfl, rfl⟩
  · have E : Hid (greatG n m = true) := by show greatG n m = true; simp [greatG]; omega
    have d1 : decide ((14 : Int) < (m : Int)) = false := decide_eq_false (by omega)
    go_enter Try.func18, Try.ntmps18
    go_wp2
    go_ret
    exact ⟨by rw [E.out]; rfl, rfl⟩
  · have E : Hid (greatG n m = false) := by show greatG n m = false; simp [greatG]; omega
    have d1 : decide ((14 : Int) < (m : Int)) = false := decide_eq_false (by omega)
    have d2 : decide (n ≤ 4096) = false := decide_eq_false (by omega)
    go_enter Try.func18, Try.ntmps18
    go_wp2
    go_ret
    exact ⟨by rw [E.out]; rfl, rfl⟩
end Go.Proofs.Ytebmachppbpdmaa
