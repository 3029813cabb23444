/- The law SequenceInversions returns true, for every slice of ints, and writes nothing that was there. -/
import Derived.Test.YtdkokpehcmcnpaaPure5
import Derived.Test.YtdkokpehcmcnpaaWAwake
namespace Go.Proofs.Ytdkokpehcmcnpaa
open Go.RowKit

theorem reverse_empty (cap : Nat) (a : Option Addr) (w : World) :
    Calls Try.prog 28 #[.slice a 0 cap] w fun e w' => e = .returned (.tuple #[]) ∧ w' = w := by
  go_enter Try.func28, Try.ntmps28
  go_wp2
  go_loopw [2, 3] (fun i j wr => i = .int .i64 0 ∧ j = .int .i64 (-1) ∧ wr = w) (fun _ _ _ => 0)
  case atStart => exact ⟨rfl, rfl, rfl⟩
  case round =>
    obtain ⟨rfl, rfl, rfl⟩ := hrel
    go_wp2
    go_end0
    exact ⟨rfl, rfl⟩
set_option maxHeartbeats 400000 in
theorem law_inv_long (a : Option Addr) (n cap : Nat) (w : World) (hn : 12 < n) :
    Calls Try.prog 5 #[.slice a n cap] w fun e w' => e = .returned (.bool true) ∧ Below w.heap.size w w' := by
  go_enter Try.func5, Try.ntmps5
  go_wp2_with (go_at_call 11; refine (awake_any _).mono ?_; rintro e w' ⟨rfl, hb⟩)
  go_ret
  exact ⟨rfl, hb⟩
set_option maxHeartbeats 1000000 in
theorem law_inv (a : Option Addr) (n cap : Nat) (l : List Int) (w : World) (h : Ints w a n cap l) (hn : ¬ 12 < n) :
    Calls Try.prog 5 #[.slice a n cap] w fun e w' => e = .returned (.bool true) ∧ Below w.heap.size w w' := by
  have HN := Lib.hid h.len
  have s1 := inv_sorted l
  rw [← HN.out] at s1
  have s2 : permB l = true → inv l n + inv l.reverse n = n * (n - 1) / 2 := fun hp => by have := inv_turned hp; rwa [← HN.out] at this
  have b1 := inv_le l n
  have b2 := inv_le l.reverse n
  have b3 : n * n ≤ 12 * 12 := Nat.mul_le_mul (by omega) (by omega)
  have S1 := Lib.hid s1
  have S2 := Lib.hid s2
  clear s1 s2
  go_enter Try.func5, Try.ntmps5
  go_wp2_with fail
  refine (inversions_any a n cap l w h (by omega)).mono ?_
  rintro e w1 ⟨rfl, d1⟩
  go_wp2_with fail
  refine (clone_any a n cap l w1 (h.drews d1)).mono ?_
  rintro e w2 ⟨a', cap', rfl, o2, d2⟩
  have D2 : Below w.heap.size w w2 := (d1.below _).trans (d2.mono (d1.below 0).size)
  go_wp2_with fail
  have R : Calls Try.prog 28 #[.slice a' n cap'] w2 fun e w' => e = .returned (.tuple #[]) ∧ OwnI w' w1.heap.size a' n cap' l.reverse ∧ Below w1.heap.size w2 w' := by
    rcases Nat.eq_zero_or_pos n with h0 | h0
    · subst h0
      have hl : l = [] := List.eq_nil_of_length_eq_zero HN.out.symm
      refine (reverse_empty cap' a' w2).mono ?_
      rintro e w' ⟨rfl, rfl⟩
      exact ⟨rfl, by rw [hl] at o2 ⊢; exact o2, Below.refl _ _⟩
    · obtain ⟨g, rfl, hgB, hgs, _⟩ := o2.at_ h0
      refine (reverse_any g n cap' w1.heap.size l w2 o2 (by omega)).mono ?_
      rintro e w' ⟨rfl, o3, g3⟩
      exact ⟨rfl, o3, (Below.refl _ _).grown g3 d2.size (fun k e => by cases e; exact hgB)⟩
  have HR := Lib.hid R
  clear R
  refine HR.out.mono ?_
  rintro e w3 ⟨rfl, o3, d3⟩
  have D3 : Below w.heap.size w w3 := D2.trans (d3.mono (d1.below 0).size)
  go_wp2_with fail
  have i3 := o3.ints (by omega) (fun x hx => by rw [List.mem_reverse] at hx; exact h.2.2.2.1 x hx)
  refine (inversions_any a' n cap' l.reverse w3 i3 (by omega)).mono ?_
  rintro e w4 ⟨rfl, d4⟩
  have D4 : Below w.heap.size w w4 := D3.trans (d4.below _)
  have ec : ((n * (n - 1) : Nat) : Int) = (n : Int) * ((n : Int) - 1) := by
    rcases Nat.eq_zero_or_pos n with h0 | h0
    · subst h0; rfl
    · rw [Int.natCast_mul, Int.ofNat_sub h0]; rfl
  have m2 : n * (n - 1) ≤ 12 * 12 := Nat.mul_le_mul (by omega) (by omega)
  have m0 : (0 : Int) ≤ (n : Int) * ((n : Int) - 1) := by rw [← ec]; exact Int.natCast_nonneg _
  have m1 : (n : Int) * ((n : Int) - 1) ≤ 144 := by rw [← ec]; omega
  have EC := Lib.hid ec
  clear ec m2
  have e1 : (((inv l n : Nat) : Int) == 0) = sortedB l := by
    cases hs : sortedB l with
    | true => simp [S1.out.2 hs]
    | false =>
      have : ¬ inv l n = 0 := fun hz => by rw [S1.out.1 hz] at hs; cases hs
      simp; omega
  have E1 := Lib.hid e1
  clear e1
  have j4 := h.below D4
  have HP := Lib.hid (permutation_any a n cap l)
  have HA := Lib.hid awake_any
  have d4s := D4.size
  cases hs : sortedB l with
  | false =>
    rw [hs] at E1
    have e1 := E1.out
    go_wp2_with (first | (go_at_call 29; refine (issorted_any a n cap l _ j4).mono ?_; rintro e w5 ⟨rfl, d5⟩; have j5 := j4.drews d5; have D5 := D4.trans (d5.below _)) | (go_at_call 25; refine (HP.out _ j5).mono ?_; rintro e w6 ⟨rfl, d6⟩; have D6 := D5.trans (d6.mono D5.size)) | (go_at_call 11; refine (HA.out _).mono ?_; rintro e w7 ⟨rfl, d7⟩; have D7 := D6.trans (d7.mono D6.size)))
    · go_ret
      exact ⟨rfl, D7⟩
    · exfalso
      have hp : permB l = true := by assumption
      have hne : ¬ ((inv l n : Nat) : Int) + ((inv l.reverse n : Nat) : Int) = (n : Int) * ((n : Int) - 1) / 2 := by assumption
      have := S2.out hp
      have := EC.out
      omega
    · go_ret
      exact ⟨rfl, D7⟩
  | true =>
    rw [hs] at E1
    have e1 := E1.out
    go_wp2_with (first | (go_at_call 29; refine (issorted_any a n cap l _ j4).mono ?_; rintro e w5 ⟨rfl, d5⟩; have j5 := j4.drews d5; have D5 := D4.trans (d5.below _)) | (go_at_call 25; refine (HP.out _ j5).mono ?_; rintro e w6 ⟨rfl, d6⟩; have D6 := D5.trans (d6.mono D5.size)) | (go_at_call 11; refine (HA.out _).mono ?_; rintro e w7 ⟨rfl, d7⟩; have D7 := D6.trans (d7.mono D6.size)))
    · go_ret
      exact ⟨rfl, D7⟩
    · exfalso
      have hp : permB l = true := by assumption
      have hne : ¬ ((inv l n : Nat) : Int) + ((inv l.reverse n : Nat) : Int) = (n : Int) * ((n : Int) - 1) / 2 := by assumption
      have := S2.out hp
      have := EC.out
      omega
    · go_ret
      exact ⟨rfl, D7⟩
end Go.Proofs.Ytdkokpehcmcnpaa
