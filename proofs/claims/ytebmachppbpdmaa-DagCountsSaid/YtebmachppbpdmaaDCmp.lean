/- slices.Compare of ints; slices.IsSorted; slices.Contains. -/
import Derived.Test.YtebmachppbpdmaaDPathP
import Derived.Test.YtebmachppbpdmaaShelf
namespace Go.Proofs.Ytebmachppbpdmaa
open Go.RowKit

theorem cmpL_self : ∀ l, cmpL l l = 0
  | [] => rfl
  | x :: l => by rw [cmpL, if_neg (by omega), if_neg (by omega), cmpL_self l]
theorem cmpL_end {x y : List Int} {k : Nat} (h1 : k < x.length) (h2 : y.length ≤ k) : cmpL (x.drop k) (y.drop k) = 1 := by
  rw [List.drop_eq_getElem_cons h1, List.drop_of_length_le h2]; rfl
theorem cmpL_at {x y : List Int} {k : Nat} (h1 : k < x.length) (h2 : k < y.length) : cmpL (x.drop k) (y.drop k) = if x[k]?.getD 0 < y[k]?.getD 0 then -1 else if y[k]?.getD 0 < x[k]?.getD 0 then 1 else cmpL (x.drop (k + 1)) (y.drop (k + 1)) := by
  rw [List.drop_eq_getElem_cons h1, List.drop_eq_getElem_cons h2, cmpL, List.getElem?_eq_getElem h1, List.getElem?_eq_getElem h2]; rfl
set_option maxHeartbeats 1000000 in
theorem compare_any (a a' : Option Addr) (n cap n' cap' : Nat) (x y : List Int) (w : World) (h : Ints w a n cap x) (h' : Ints w a' n' cap' y) :
    Calls Try.prog 35 #[.slice a n cap, .slice a' n' cap'] w fun e w' => e = .returned (.int .i64 (cmpL x y)) ∧ w' = w := by
  have H := Lib.hid h.len
  have H' := Lib.hid h'.len
  have h8 := h.bound
  have h8' := h'.bound
  go_enter Try.func35, Try.ntmps35
  go_wp2
  go_loopw [11] (fun i wr => ∃ k : Nat, k ≤ n ∧ k ≤ n' ∧ i = .int .i64 k ∧ Hid (cmpL x y = cmpL (x.drop k) (y.drop k)) ∧ wr = w) (fun i _ => n - (intOf i).toNat)
  case atStart => exact ⟨0, Nat.zero_le _, Nat.zero_le _, rfl, rfl, rfl⟩
  case round =>
    obtain ⟨k, hk, hk', rfl, hs, rfl⟩ := hrel
    by_cases hlt : k < n
    · obtain ⟨bb, off, rfl, -, hc⟩ := h.at_ (by omega)
      have c1 := hc.out k (by omega)
      by_cases hlt' : k < n'
      · obtain ⟨bb', off', rfl, -, hc'⟩ := h'.at_ (by omega)
        have c2 := hc'.out k (by omega)
        have st := cmpL_at (x := x) (y := y) (k := k) (by rw [← H.out]; exact hlt) (by rw [← H'.out]; exact hlt')
        rw [← hs.out] at st
        generalize x[k]?.getD 0 = u at *
        generalize y[k]?.getD 0 = v at *
        have F := Lib.hid (Try.cmp_Compare_int u v wr)
        rcases Int.lt_trichotomy u v with e | e | e
        · rw [if_pos e] at st
          have ST := Lib.hid st
          rw [show Lib.compareInt u v = -1 by simp [Lib.compareInt, e]] at F
          clear st
          go_wp2_with (go_at_call 52; refine F.out.mono ?_; rintro e w' ⟨rfl, rfl⟩)
          go_ret
          exact ⟨by rw [ST.out]; rfl, rfl⟩
        · subst e
          rw [if_neg (by omega), if_neg (by omega)] at st
          have ST := Lib.hid st
          rw [show Lib.compareInt u u = 0 by simp [Lib.compareInt]] at F
          clear st
          go_wp2_with (go_at_call 52; refine F.out.mono ?_; rintro e w' ⟨rfl, rfl⟩)
          go_roundw
          case rel => exact ⟨k + 1, by omega, by omega, by go_num, ST.out, trivial⟩
          case measure => simp [intOf]; omega
        · rw [if_neg (by omega), if_pos e] at st
          have ST := Lib.hid st
          rw [show Lib.compareInt u v = 1 by simp [Lib.compareInt, e, Int.not_lt.2 (Int.le_of_lt e)]] at F
          clear st
          go_wp2_with (go_at_call 52; refine F.out.mono ?_; rintro e w' ⟨rfl, rfl⟩)
          go_ret
          exact ⟨by rw [ST.out]; rfl, rfl⟩
      · have ST : Hid (cmpL x y = 1) := hs.out.trans (cmpL_end (by rw [← H.out]; exact hlt) (by rw [← H'.out]; omega))
        go_wp2
        go_ret
        exact ⟨by rw [ST.out]; rfl, rfl⟩
    · obtain rfl : k = n := by omega
      by_cases hlt' : k < n'
      · have ST : Hid (cmpL x y = -1) := by
          show _ = _
          rw [hs.out, List.drop_of_length_le (by rw [← H.out]; exact Nat.le_refl _), List.drop_eq_getElem_cons (by rw [← H'.out]; exact hlt')]; rfl
        go_wp2
        go_ret
        exact ⟨by rw [ST.out]; rfl, rfl⟩
      · have ST : Hid (cmpL x y = 0) := by
          show _ = _
          rw [hs.out, List.drop_of_length_le (by rw [← H.out]; exact Nat.le_refl _), List.drop_of_length_le (by rw [← H'.out]; omega)]; rfl
        go_wp2
        go_ret
        exact ⟨by rw [ST.out]; rfl, rfl⟩
set_option maxHeartbeats 1000000 in
theorem sorted_any (a : Option Addr) (n cap : Nat) (x : List Int) (w : World) (h : Ints w a n cap x) (hs : ∀ j : Nat, j + 1 < x.length → x[j]?.getD 0 ≤ x[j + 1]?.getD 0) :
    Calls Try.prog 38 #[.slice a n cap] w fun e w' => e = .returned (.bool true) ∧ Drew w w' := by
  have H := Lib.hid h.len
  have h8 := h.bound
  have HS := Lib.hid hs
  clear hs
  go_enter Try.func38, Try.ntmps38
  go_wp2
  go_loopw [3] (fun i wr => ∃ k : Nat, k ≤ n ∧ i = .int .i64 ((k : Int) - 1) ∧ Drew w wr) (fun i _ => (intOf i + 1).toNat)
  case atStart => exact ⟨n, Nat.le_refl _, rfl, Drew.refl _⟩
  case round =>
    obtain ⟨k, hk, rfl, hq⟩ := hrel
    by_cases hlt : 1 < k
    · obtain ⟨j, rfl⟩ : ∃ j, k = j + 2 := ⟨k - 2, by omega⟩
      have hle := HS.out j (by rw [← H.out]; omega)
      obtain ⟨bb, off, rfl, -, hc⟩ := (h.drews hq).at_ (by omega)
      have c1 := hc.out j (by omega)
      have c2 := hc.out (j + 1) (by omega)
      generalize x[j]?.getD 0 = u at *
      generalize x[j + 1]?.getD 0 = v at *
      rw [show (((j + 2 : Nat) : Int) - 1) = ((j + 1 : Nat) : Int) by omega]
      have F : Hid (∀ w', Calls Try.prog 54 #[.int .i64 v, .int .i64 u] w' fun e w'' => e = .returned (.bool false) ∧ w'' = w') := fun w' => by
        have := Try.cmp_Less_int2 v u w'
        rwa [show decide (v < u) = false by simp; omega] at this
      have n1 : (0 : Int) ≤ ((j + 1 : Nat) : Int) - 1 := by omega
      have n2 : IntKind.i64.wrap (((j + 1 : Nat) : Int) - 1) = (j : Int) := by rw [show (((j + 1 : Nat) : Int) - 1) = (j : Int) by omega]; exact IntWalk.i64_in _ (by omega)
      have n3 : ((j + 1 : Nat) : Int) < (n : Int) := by omega
      have n4 : (j : Int) < (n : Int) := by omega
      clear hle
      go_wp2
      go_quiet ((go_at_call 54; exact Calls.quiet_of_same (F.out _)))
      go_wp2
      go_roundw
      case rel => exact ⟨j + 1, by omega, by go_num, hq.drewN _⟩
      case measure => simp [intOf]; omega
    · go_wp2
      go_ret
      exact ⟨rfl, hq⟩
end Go.Proofs.Ytebmachppbpdmaa
