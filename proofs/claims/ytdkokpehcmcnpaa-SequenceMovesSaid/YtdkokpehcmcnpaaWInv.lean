/- sequence.Inversions returns the number of inversions. -/
import Derived.Test.YtdkokpehcmcnpaaPure1
namespace Go.Proofs.Ytdkokpehcmcnpaa
open Go.RowKit
set_option maxHeartbeats 400000 in
theorem inversions_any (a : Option Addr) (n cap : Nat) (l : List Int) (w : World) (h : Ints w a n cap l) (hm : n ≤ 1024) :
    Calls Try.prog 18 #[.slice a n cap] w fun e w' => e = .returned (.tuple #[.int .i64 (inv l n), .int .i64 0]) ∧ Drew w w' := by
  have H := Lib.hid h.len
  go_enter Try.func18, Try.ntmps18
  go_wp2
  go_loopw [4, 12] (fun c i wr => ∃ k : Nat, k ≤ n ∧ i = .int .i64 k ∧ c = .int .i64 (inv l k) ∧ Drew w wr) (fun _ i _ => n - (intOf i).toNat)
  case atStart => exact ⟨0, Nat.zero_le _, rfl, rfl, Drew.refl _⟩
  case round =>
    obtain ⟨k, hk, rfl, rfl, hq⟩ := hrel
    by_cases hlt : k < n
    · go_wp2
      go_loopw [4, 16] (fun c i wr => ∃ j : Nat, j ≤ k ∧ i = .int .i64 j ∧ c = .int .i64 (inv l k + invBelow l (l[k]?.getD 0) j) ∧ Drew w wr) (fun _ i _ => k - (intOf i).toNat)
      case atStart => exact ⟨0, Nat.zero_le _, rfl, by simp [invBelow], hq⟩
      case round =>
        obtain ⟨j, hj, rfl, rfl, hq2⟩ := hrel
        by_cases hjk : j < k
        · obtain ⟨b, off, rfl, -, hc⟩ := (h.drews hq2).at_ (by omega)
          have c1 := hc.out j (by omega)
          have c2 := hc.out k (by omega)
          have b1 := inv_le l k
          have b2 := invBelow_le l (l[k]?.getD 0) j
          have b3 : k * k ≤ 1024 * 1024 := Nat.mul_le_mul (by omega) (by omega)
          go_wp2
          go_quiet (fail)
          go_wp2
          · go_roundw
            case rel => exact ⟨j + 1, by omega, by go_num, by rw [invBelow_yes l _ j (by rw [← H.out]; omega) (by assumption)]; go_num, hq2.drewN _⟩
            case measure => simp [intOf]; omega
          · go_roundw
            case rel => exact ⟨j + 1, by omega, by go_num, by rw [invBelow_no l _ j (by rw [← H.out]; omega) (by omega)], hq2.drewN _⟩
            case measure => simp [intOf]; omega
        · go_wp2
          go_roundw
          case rel =>
            obtain rfl : j = k := by omega
            exact ⟨j + 1, by omega, by go_num, by simp [inv], hq2⟩
          case measure => simp [intOf]; omega
    · go_wp2
      go_ret2
      obtain rfl : k = n := by omega
      exact ⟨rfl, hq⟩
set_option maxHeartbeats 400000 in
theorem inversions_long (a : Option Addr) (n cap : Nat) (w : World) (hm : 1024 < n) :
    Calls Try.prog 18 #[.slice a n cap] w fun e w' => e = .returned (.tuple #[.int .i64 0, .int .i64 4]) ∧ w' = w := by
  go_enter Try.func18, Try.ntmps18
  go_wp2
  go_ret2
  exact ⟨rfl, rfl⟩
end Go.Proofs.Ytdkokpehcmcnpaa
