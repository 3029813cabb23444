/- The reference's Inversions and Great. -/
import Derived.Test.YtdkokpehcmcnpaaPure6
namespace Go.Proofs.Ytdkokpehcmcnpaa
open Go.RowKit

set_option maxHeartbeats 400000 in
theorem ref_inversions_any (a : Option Addr) (n cap : Nat) (l : List Int) (w : World) (h : Ints w a n cap l) (hm : n ≤ 1024) :
    Calls Try.prog 19 #[.slice a n cap] w fun e w' => e = .returned (.tuple #[.int .i64 (inv l n), .int .i64 0]) ∧ Drew w w' := by
  have H := Lib.hid h.len
  go_enter Try.func19, Try.ntmps19
  go_wp2
  go_loopw [4, 5] (fun c i wr => ∃ k : Nat, k ≤ n ∧ i = .int .i64 k ∧ c = .int .i64 (invTo l k) ∧ Drew w wr) (fun _ i _ => n - (intOf i).toNat)
  case atStart => exact ⟨0, Nat.zero_le _, rfl, rfl, Drew.refl _⟩
  case round =>
    obtain ⟨k, hk, rfl, rfl, hq⟩ := hrel
    by_cases hlt : k < n
    · go_wp2
      go_loopw [4, 6] (fun c i wr => ∃ t : Nat, k + 1 + t ≤ n ∧ i = .int .i64 (k + 1 + t : Nat) ∧ c = .int .i64 (invTo l k + lowIn l k t) ∧ Drew w wr) (fun _ i _ => n - (intOf i).toNat)
      case atStart => exact ⟨0, by omega, by go_num, by simp [lowIn_zero], hq⟩
      case round =>
        obtain ⟨t, ht, rfl, rfl, hq2⟩ := hrel
        obtain ⟨j, hj⟩ : ∃ j, j = k + 1 + t := ⟨_, rfl⟩
        rw [← hj]
        have HJ := Lib.hid hj
        have hkj : k < j := by omega
        have hjn : j ≤ n := by omega
        have htj : t ≤ j := by omega
        clear hj ht
        have b1 : invTo l k ≤ k * n := by rw [H.out]; exact invTo_le l k (by rw [← H.out]; omega)
        have b2 := lowIn_le l k t
        have b3 : k * n ≤ 1024 * 1024 := Nat.mul_le_mul (by omega) (by omega)
        by_cases hjl : j < n
        · obtain ⟨b, off, rfl, -, hc⟩ := (h.drews hq2).at_ (by omega)
          have c1 := hc.out j (by omega)
          have c2 := hc.out k (by omega)
          by_cases hx : l[j]?.getD 0 < l[k]?.getD 0
          · have e1 : Hid (lowIn l k (t + 1) = lowIn l k t + 1) := by have := HJ.out; subst this; exact lowIn_yes (by rw [← H.out]; omega) hx
            go_wp2
            go_quiet (fail)
            go_wp2
            go_roundw
            case rel => exact ⟨t + 1, by have := HJ.out; omega, by have := HJ.out; go_num, by rw [e1.out]; go_num, hq2.drewN _⟩
            case measure => simp [intOf]; omega
          · have e1 : Hid (lowIn l k (t + 1) = lowIn l k t) := by have := HJ.out; subst this; exact lowIn_no (by rw [← H.out]; omega) hx
            go_wp2
            go_quiet (fail)
            go_wp2
            go_roundw
            case rel => exact ⟨t + 1, by have := HJ.out; omega, by have := HJ.out; go_num, by rw [e1.out], hq2.drewN _⟩
            case measure => simp [intOf]; omega
        · have et : Hid (t = l.length - 1 - k) := by have := HJ.out; have := H.out; show t = _; omega
          go_wp2
          go_roundw
          case rel => exact ⟨k + 1, by omega, by go_num, by rw [invTo, ← et.out]; go_num, hq2⟩
          case measure => simp [intOf]; omega
    · go_wp2
      go_ret2
      obtain rfl : k = n := by omega
      exact ⟨by rw [H.out, invTo_all]; rfl, hq⟩
set_option maxHeartbeats 400000 in
theorem ref_inversions_long (a : Option Addr) (n cap : Nat) (w : World) (hm : 1024 < n) :
    Calls Try.prog 19 #[.slice a n cap] w fun e w' => e = .returned (.tuple #[.int .i64 0, .int .i64 4]) ∧ w' = w := by
  go_enter Try.func19, Try.ntmps19
  go_wp2
  go_ret2
  exact ⟨rfl, rfl⟩

set_option maxHeartbeats 400000 in
theorem great_any (a : Option Addr) (n cap : Nat) (l : List Int) (w : World) (h : n ≤ 1027 → Ints w a n cap l) :
    Calls Try.prog 13 #[.slice a n cap] w fun e w' => (∃ g, e = .returned (.bool g) ∧ (g = false → n ≤ 12 ∨ (1024 < n ∧ n ≤ 1027))) ∧ Drew w w' := by
  go_enter Try.func13, Try.ntmps13
  by_cases hbig : 1027 < n
  · go_wp2
    go_ret
    exact ⟨⟨true, rfl, by simp⟩, Drew.refl _⟩
  · replace h := h (by omega)
    have hn : n ≤ 1027 := by omega
    go_wp2
    go_loopw [3] (fun i wr => ∃ k : Nat, k ≤ n ∧ i = .int .i64 k ∧ (0 < k → n ≤ 12 ∨ 1024 < n) ∧ Drew w wr) (fun i _ => n - (intOf i).toNat)
    case atStart => exact ⟨0, Nat.zero_le _, rfl, by omega, Drew.refl _⟩
    case round =>
      obtain ⟨k, hk, rfl, hp, hq⟩ := hrel
      by_cases hlt : k < n
      · by_cases h12 : 12 < n
        · have i12 : (12 : Int) < (n : Int) := by omega
          by_cases h1024 : n ≤ 1024
          · have i1024 : (n : Int) ≤ 1024 := by omega
            go_wp2
            go_quiet (fail)
            go_wp2
            go_ret
            exact ⟨⟨true, rfl, by simp⟩, hq.drewN _⟩
          · have i1024 : decide ((n : Int) ≤ 1024) = false := decide_eq_false (by omega)
            obtain ⟨b, off, rfl, -, hc⟩ := (h.drews hq).at_ (by omega)
            have c1 := hc.out k (by omega)
            have c2 := hc.out 0 (by omega)
            have c3 : wr.cell? ⟨b, off, none⟩ = some (.int .i64 (l[0]?.getD 0)) := c2
            have hn0 : (0 : Int) < (n : Int) := by omega
            have hn1 : 0 < n := by omega
            by_cases he : l[k]?.getD 0 = l[0]?.getD 0
            · have e1 : (l[k]?.getD 0 != l[0]?.getD 0) = false := by simp [he]
              clear he
              go_wp2
              go_quiet (fail)
              go_wp2
              go_roundw
              case rel => exact ⟨k + 1, by omega, by go_num, by omega, hq.drewN _⟩
              case measure => simp [intOf]; omega
            · have e1 : (l[k]?.getD 0 != l[0]?.getD 0) = true := by simp [he]
              clear he
              go_wp2
              go_quiet (fail)
              go_wp2
              go_ret
              exact ⟨⟨true, rfl, by simp⟩, hq.drewN _⟩
        · have i12 : decide ((12 : Int) < (n : Int)) = false := decide_eq_false (by omega)
          go_wp2
          go_quiet (fail)
          go_wp2
          go_roundw
          case rel => exact ⟨k + 1, by omega, by go_num, by omega, hq.drewN _⟩
          case measure => simp [intOf]; omega
      · obtain rfl : k = n := by omega
        go_wp2
        go_ret
        exact ⟨⟨false, rfl, fun _ => by omega⟩, hq⟩
end Go.Proofs.Ytdkokpehcmcnpaa
