/- The closure that sums the weights of indices. -/
import Derived.Test.YtdkokpehcmcnpaaPure8
import Derived.Test.YtdkokpehcmcnpaaWLib
namespace Go.Proofs.Ytdkokpehcmcnpaa
open Go.RowKit

set_option maxHeartbeats 1000000 in
theorem sum_any (bw : Nat) (aw ab : Option Addr) (n cw q cb : Nat) (wt b : List Int) (w : World) (hw : Ints w aw n cw wt) (hb : Ints w ab q cb b) (hbw : w.cell? ⟨bw, 0, none⟩ = some (.slice aw n cw))
    (hL : ∀ j : Nat, 0 ≤ wt[j]?.getD 0 ∧ wt[j]?.getD 0 ≤ 255) (hin : ∀ j, j < q → 0 ≤ b[j]?.getD 0 ∧ b[j]?.getD 0 < n) (hq : q ≤ 1024) :
    Calls Try.prog 39 #[.slice ab q cb, .pointer (some ⟨bw, 0, none⟩)] w fun e w' => e = .returned (.int .i64 (wsum wt b)) ∧ w' = w := by
  have H := Lib.hid hb.len
  have h8 := hb.bound
  have h9 := hw.bound
  have HIN := Lib.hid hin
  have HL := Lib.hid hL
  clear hin hL
  go_enter Try.func39, Try.ntmps39
  go_wp2
  go_loopw [4, 9] (fun s i wr => ∃ k : Nat, k ≤ q ∧ i = .int .i64 k ∧ s = .int .i64 (wsum wt (b.take k)) ∧ wr = w) (fun _ i _ => q - (intOf i).toNat)
  case atStart => exact ⟨0, Nat.zero_le _, rfl, by simp [wsum], rfl⟩
  case round =>
    obtain ⟨k, hk, rfl, rfl, rfl⟩ := hrel
    by_cases hlt : k < q
    · obtain ⟨bb, off, rfl, -, hc⟩ := hb.at_ (by omega)
      have c1 := hc.out k hlt
      obtain ⟨h0, h1⟩ := HIN.out k hlt
      obtain ⟨x, hx⟩ := Int.eq_ofNat_of_zero_le h0
      have e1 := wsum_take (wt := wt) (b := b) (k := k) (by rw [← H.out]; exact hlt)
      rw [hx, Int.toNat_natCast] at e1
      rw [hx] at c1 h1
      have hxn : x < n := by omega
      obtain ⟨bv, offv, rfl, -, hcv⟩ := hw.at_ (by omega)
      have c2 := hcv.out x hxn
      have E1 := Lib.hid e1
      have b1 := wsum_bound HL.out (b.take k)
      have b2 : (b.take k).length ≤ k := by simp; omega
      obtain ⟨v0, v1⟩ := HL.out x
      have s0 := b1.1
      have s1 : wsum wt (b.take k) ≤ 262144 := by
        have := b1.2
        have : (255 : Int) * ((b.take k).length : Int) ≤ 255 * 1024 := by omega
        omega
      have d0 : decide ((x : Int) < 0) = false := decide_eq_false (by omega)
      have d1 : decide ((n : Int) ≤ (x : Int)) = false := decide_eq_false (by omega)
      have x0 : ¬ ((x : Int) < 0) := by omega
      have x1 : ¬ ((n : Int) ≤ (x : Int)) := by omega
      clear hx h0 h1 e1 b1 b2
      go_wp2
      go_roundw
      case rel => exact ⟨k + 1, by omega, by go_num, by rw [E1.out], trivial⟩
      case measure => simp [intOf]; omega
    · obtain rfl : k = q := by omega
      have e : Hid (b.take k = b) := by show b.take k = b; rw [H.out, List.take_length]
      rw [e.out]
      go_wp2
      go_ret
      exact ⟨rfl, rfl⟩
end Go.Proofs.Ytdkokpehcmcnpaa
