/- slices.ContainsFunc with the closure that looks for an empty list. -/
import Derived.Test.YtdkokpehcmcnpaaPureA
namespace Go.Proofs.Ytdkokpehcmcnpaa
open Go.RowKit

theorem empty_any (a : Option Addr) (n cap : Nat) (w : World) : Calls Try.prog 61 #[.slice a n cap] w fun e w' => e = .returned (.bool (decide (n = 0))) ∧ w' = w := by
  by_cases h : n = 0
  · have e : ((n : Int) == 0) = true := by simp [h]
    have hd : Hid (decide (n = 0) = true) := decide_eq_true h
    clear h
    go_enter Try.func61, Try.ntmps61
    go_wp2
    go_ret
    exact ⟨by rw [hd.out]; rfl, rfl⟩
  · have e : ((n : Int) == 0) = false := by simp [h]
    have hd : Hid (decide (n = 0) = false) := decide_eq_false h
    clear h
    go_enter Try.func61, Try.ntmps61
    go_wp2
    go_ret
    exact ⟨by rw [hd.out]; rfl, rfl⟩
set_option maxHeartbeats 400000 in
theorem indexfunc_empty (ac : Option Addr) (nc cc : Nat) (cov : List (List Int)) (w : World) (h : Intss w ac nc cc cov) :
    Calls Try.prog 48 #[.slice ac nc cc, .func (.func 61) #[] #[]] w fun e w' => (∃ r : Int, e = .returned (.int .i64 r) ∧ decide (0 ≤ r) = !noEmpty cov) ∧ w' = w := by
  have H := Lib.hid h.len
  have h8 := h.bound
  go_enter Try.func48, Try.ntmps48
  go_wp2
  go_loopw [8] (fun i wr => ∃ k : Nat, k ≤ nc ∧ i = .int .i64 k ∧ Hid (∀ j, j < k → cov[j]?.getD [] ≠ []) ∧ wr = w) (fun i _ => nc - (intOf i).toNat)
  case atStart => exact ⟨0, Nat.zero_le _, rfl, fun j hj => by omega, rfl⟩
  case round =>
    obtain ⟨k, hk, rfl, hs, rfl⟩ := hrel
    by_cases hlt : k < nc
    · obtain ⟨b, off, rfl, -, hc⟩ := h.at_ (by omega)
      obtain ⟨sa, ns, cs, c1, i1⟩ := hc.out k hlt
      have hns := i1.len
      by_cases h0 : ns = 0
      · have e : Hid (noEmpty cov = false) := decide_eq_false fun hall => hall k (by rw [← H.out]; exact hlt) (List.eq_nil_of_length_eq_zero (by omega))
        have F : Hid (∀ w, Calls Try.prog 61 #[.slice sa ns cs] w fun e w' => e = .returned (.bool true) ∧ w' = w) := fun w => by have := empty_any sa ns cs w; rwa [decide_eq_true h0] at this
        clear h0 hns
        go_wp2_with (go_at_call 61; refine (F.out _).mono ?_; rintro e w' ⟨rfl, rfl⟩)
        go_ret
        exact ⟨⟨k, rfl, by rw [e.out]; simp⟩, rfl⟩
      · have HNE : Hid (cov[k]?.getD [] ≠ []) := fun e => h0 (by rw [hns, e]; rfl)
        have F : Hid (∀ w, Calls Try.prog 61 #[.slice sa ns cs] w fun e w' => e = .returned (.bool false) ∧ w' = w) := fun w => by have := empty_any sa ns cs w; rwa [decide_eq_false h0] at this
        clear h0 hns
        go_wp2_with (go_at_call 61; refine (F.out _).mono ?_; rintro e w' ⟨rfl, rfl⟩)
        go_roundw
        case rel => exact ⟨k + 1, by omega, by go_num, (fun j hj => by
          by_cases e : j = k
          · rw [e]; exact HNE.out
          · exact hs.out j (by omega)), trivial⟩
        case measure => simp [intOf]; omega
    · obtain rfl : k = nc := by omega
      have e : Hid (noEmpty cov = true) := decide_eq_true fun j hj => hs.out j (by rw [H.out]; exact hj)
      go_wp2
      go_ret
      exact ⟨⟨-1, rfl, by rw [e.out]; rfl⟩, rfl⟩
theorem contains_empty (ac : Option Addr) (nc cc : Nat) (cov : List (List Int)) (w : World) (h : Intss w ac nc cc cov) :
    Calls Try.prog 60 #[.slice ac nc cc, .func (.func 61) #[] #[]] w fun e w' => e = .returned (.bool (!noEmpty cov)) ∧ w' = w := by
  go_enter Try.func60, Try.ntmps60
  go_wp2_with fail
  refine (indexfunc_empty ac nc cc cov w h).mono ?_
  rintro e w' ⟨⟨r, rfl, hr⟩, rfl⟩
  have HR := Lib.hid hr
  clear hr
  go_wp2
  go_ret
  exact ⟨by rw [← HR.out]; rfl, rfl⟩
end Go.Proofs.Ytdkokpehcmcnpaa
