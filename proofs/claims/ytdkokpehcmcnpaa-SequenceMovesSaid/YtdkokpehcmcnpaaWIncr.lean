/- sequence.Increasing, sequence.Weighted. -/
import Derived.Test.YtdkokpehcmcnpaaWBestW
namespace Go.Proofs.Ytdkokpehcmcnpaa
open Go.RowKit

set_option maxHeartbeats 400000 in
theorem increasing_any (a : Option Addr) (n cap : Nat) (l : List Int) (w : World) (h : Ints w a n cap l) (hm : n ≤ 1024) :
    Calls Try.prog 14 #[.slice a n cap] w fun e w' => ∃ (a' : Option Addr) (q cap' : Nat), e = .returned (.tuple #[.slice a' q cap', .int .i64 0]) ∧ OwnI w' w.heap.size a' q cap' (lis l) ∧ Below w.heap.size w w' := by
  have hn := h.len
  have HL : Hid (Light (ones l) n) := by rw [hn]; exact ones_light l
  have HN := Lib.hid hn
  clear hn
  go_enter Try.func14, Try.ntmps14
  go_wp2_with (go_at_call 45; refine (best_ones a n cap l (ones l) w h hm HL.out (fun j hj => ones_at l j (by rw [← HN.out]; exact hj))).mono ?_; rintro e w' ⟨S, a', q, cap', rfl, hS, ho, hb⟩)
  go_ret2
  refine ⟨a', q, cap', rfl, ?_, hb⟩
  rw [hS.unique (sums_spec l (ones l)), HN.out] at ho
  exact ho
set_option maxHeartbeats 400000 in
theorem increasing_long (a : Option Addr) (n cap : Nat) (w : World) (hm : 1024 < n) :
    Calls Try.prog 14 #[.slice a n cap] w fun e w' => e = .returned (.tuple #[.slice none 0 0, .int .i64 4]) ∧ w' = w := by
  go_enter Try.func14, Try.ntmps14
  go_wp2
  go_ret2
  exact ⟨rfl, rfl⟩
end Go.Proofs.Ytdkokpehcmcnpaa
