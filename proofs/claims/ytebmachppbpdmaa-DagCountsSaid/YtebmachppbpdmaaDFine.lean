/- fine. -/
import Derived.Test.YtebmachppbpdmaaDRChk
import Derived.Test.YtebmachppbpdmaaDPure1
namespace Go.Proofs.Ytebmachppbpdmaa
open Go.RowKit

/-- A small valid graph. -/
def fineB (n : Int) (ll : List Lk) : Bool := !greatG n ll.length && decide (chkE n ll = 0)
theorem fineB_ok {n : Int} {ll : List Lk} (h : fineB n ll = true) : ∃ k : Nat, n = (k : Int) ∧ 1 ≤ k ∧ k ≤ 8 ∧ ll.length ≤ 14 ∧ Valid k ll ∧ chkE n ll = 0 := by
  unfold fineB at h
  simp only [Bool.and_eq_true, Bool.not_eq_true', decide_eq_true_eq] at h
  obtain ⟨h1, h2⟩ := h
  obtain ⟨k, rfl, hk1, hk2, _, hv⟩ := Valid.of_chk h2
  unfold greatG at h1
  simp only [Bool.or_eq_false_iff, decide_eq_false_iff_not, Bool.and_eq_false_iff] at h1
  exact ⟨k, rfl, hk1, by omega, by omega, hv, h2⟩
set_option maxHeartbeats 400000 in
theorem fine_no (n : Int) (a : Option Addr) (m cap : Nat) (ll : List Lk) (s t : Int) (w : World) (hl : ll.length = m) (h8 : m ≤ 9223372036854775807) (h : m * 24 ≤ 140737488355328 → Links w a m cap ll) (hf : fineB n ll = false) :
    Calls Try.prog 11 #[.int .i64 n, .slice a m cap, .int .u8 s, .int .u8 t] w fun e w' => e = .returned (.tuple #[.int .i64 0, .int .i64 0, .bool false]) ∧ Below w.heap.size w w' := by
  have F := Lib.hid (ref_great_any n a m cap w (by omega))
  unfold fineB at hf
  rw [hl] at hf
  by_cases hg : greatG n m = true
  · rw [hg] at F
    clear hf h8 h hl
    go_enter Try.func11, Try.ntmps11
    go_wp2_with (go_at_call 18; refine F.out.mono ?_; rintro e w' ⟨rfl, rfl⟩)
    go_ret3
    exact ⟨rfl, Below.refl _ _⟩
  · have hg' : greatG n m = false := by simpa using hg
    have hm : m ≤ 14 := by simp [greatG] at hg'; omega
    have G := Lib.hid (ref_check_any n a m cap ll w (h (by omega)))
    rw [hg'] at F hf
    have z : (chkE n ll != 0) = true := by simpa using hf
    generalize chkE n ll = C at *
    clear hf hg hg' h8 hm h hl
    go_enter Try.func11, Try.ntmps11
    go_wp2_with (first | (go_at_call 18; refine F.out.mono ?_; rintro e w' ⟨rfl, rfl⟩) | (go_at_call 27; refine G.out.mono ?_; rintro e w1 ⟨rfl, b1⟩))
    go_ret3
    exact ⟨rfl, b1⟩
set_option maxHeartbeats 400000 in
theorem fine_yes (k : Nat) (a : Option Addr) (m cap : Nat) (ll : List Lk) (s t : Nat) (w : World) (h : Links w a m cap ll) (hf : fineB k ll = true) (hs : s < 256) (ht : t < 256) :
    Calls Try.prog 11 #[.int .i64 k, .slice a m cap, .int .u8 s, .int .u8 t] w fun e w' => e = .returned (.tuple #[.int .i64 ((s % k : Nat) : Int), .int .i64 ((t % k : Nat) : Int), .bool true]) ∧ Below w.heap.size w w' := by
  have h8 := h.bound
  have F := Lib.hid (ref_great_any k a m cap w (by omega))
  have G := Lib.hid (ref_check_any k a m cap ll w h)
  obtain ⟨k', e, hk1, hk2, _, _, hc⟩ := fineB_ok hf
  obtain rfl : k = k' := by omega
  unfold fineB at hf
  rw [← h.len] at hf
  simp only [Bool.and_eq_true, Bool.not_eq_true', decide_eq_true_eq] at hf
  rw [hf.1] at F
  rw [hf.2] at G
  have hne : ¬ (k : Int) = 0 := by omega
  have e1 : wrap64 (s : Int) = s := by unfold wrap64; omega
  have e2 : wrap64 (t : Int) = t := by unfold wrap64; omega
  have e3 : (s : Int).tmod (k : Int) = ((s % k : Nat) : Int) := rfl
  have e4 : (t : Int).tmod (k : Int) = ((t % k : Nat) : Int) := rfl
  have E3 := Lib.hid e3
  have E4 := Lib.hid e4
  clear e3 e4
  clear hf h8 e hc
  go_enter Try.func11, Try.ntmps11
  go_wp2_with (first | (go_at_call 18; refine F.out.mono ?_; rintro e w' ⟨rfl, rfl⟩) | (go_at_call 27; refine G.out.mono ?_; rintro e w1 ⟨rfl, b1⟩))
  go_quiet (fail)
  go_wp2
  go_ret3
  exact ⟨by rw [← E3.out, ← E4.out]; rfl, below_drewN b1 nq⟩
end Go.Proofs.Ytebmachppbpdmaa
