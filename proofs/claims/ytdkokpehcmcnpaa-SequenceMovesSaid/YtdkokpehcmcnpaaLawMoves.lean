/- The law SequenceMoves returns true, for every slice of ints and every two indices, and writes nothing that was there. -/
import Derived.Test.YtdkokpehcmcnpaaWMov
import Derived.Test.YtdkokpehcmcnpaaWRefI
import Derived.Test.YtdkokpehcmcnpaaWAwake
namespace Go.Proofs.Ytdkokpehcmcnpaa
open Go.RowKit

theorem movesE_perm {l : List Int} (h : permB l = true) : movesE l = 0 := by rw [movesE, h]; rfl
theorem perm_i64 {l : List Int} (h : permB l = true) (hn : l.length ≤ 1000) : ∀ x ∈ l, I64 x := fun x hx => by
  have := ((permB_iff l).1 h).2 x hx
  exact I64.small (by omega) (by omega)

set_option maxHeartbeats 4000000 in
theorem law_moves (a : Option Addr) (n cap : Nat) (l : List Int) (f t : Int) (w : World) (h : n ≤ 12 → Ints w a n cap l) (hf0 : 0 ≤ f) (hf1 : f ≤ 255) (ht0 : 0 ≤ t) (ht1 : t ≤ 255) :
    Calls Try.prog 10 #[.slice a n cap, .int .u8 f, .int .u8 t] w fun e w' => e = .returned (.bool true) ∧ Below w.heap.size w w' := by
  by_cases hn : 12 < n
  · go_enter Try.func10, Try.ntmps10
    go_wp2_with (go_at_call 11; refine (awake_any _).mono ?_; rintro e w' ⟨rfl, hb⟩)
    go_ret
    exact ⟨rfl, hb⟩
  · have i0 := h (by omega)
    have H := Lib.hid i0.len
    have hn12 : n ≤ 12 := by omega
    clear h
    have d0 : decide ((12 : Int) < (n : Int)) = false := decide_eq_false (by omega)
    by_cases hz : n = 0
    · have z0 : ((n : Int) == 0) = true := by simp [hz]
      clear hz
      go_enter Try.func10, Try.ntmps10
      go_wp2_with (go_at_call 11; refine (awake_any _).mono ?_; rintro e w' ⟨rfl, hb⟩)
      go_ret
      exact ⟨rfl, hb⟩
    · have hnp : 0 < n := by omega
      have z0 : ((n : Int) == 0) = false := by simp; omega
      clear hz hn
      cases hp : permB l with
      | false =>
        have P : Hid (Calls Try.prog 26 #[.slice a n cap] w fun e w' => e = .returned (.bool false) ∧ Below w.heap.size w w') := by
          have := ref_permutation_any a n cap l w i0
          rw [hp] at this; exact this
        clear hp
        go_enter Try.func10, Try.ntmps10
        go_wp2_with (first | (go_at_call 26; refine P.out.mono ?_; rintro e w1 ⟨rfl, b1⟩) | (go_at_call 11; refine (awake_any _).mono ?_; rintro e w' ⟨rfl, hb⟩))
        go_ret
        exact ⟨rfl, b1.trans (hb.mono b1.size)⟩
      | true =>
        obtain ⟨i, hi⟩ : ∃ i : Nat, f % (n : Int) = (i : Int) := Int.eq_ofNat_of_zero_le (Int.emod_nonneg _ (by omega))
        obtain ⟨k, hk⟩ : ∃ k : Nat, t % (n : Int) = (k : Int) := Int.eq_ofNat_of_zero_le (Int.emod_nonneg _ (by omega))
        have hin : i < n := by have := Int.emod_lt_of_pos f (show (0 : Int) < n by omega); omega
        have hkn : k < n := by have := Int.emod_lt_of_pos t (show (0 : Int) < n by omega); omega
        have law := moves_law hp (by rw [← H.out]; omega) (i := i) (by rw [← H.out]; exact hin) k
        have HP := Lib.hid hp
        have P : Hid (∀ w, Ints w a n cap l → Calls Try.prog 26 #[.slice a n cap] w fun e w' => e = .returned (.bool true) ∧ Below w.heap.size w w') := fun w h => by rw [← hp]; exact ref_permutation_any a n cap l w h
        have P' : Hid (∀ w, Ints w a n cap l → Calls Try.prog 25 #[.slice a n cap] w fun e w' => e = .returned (.bool true) ∧ Below w.heap.size w w') := fun w h => by rw [← hp]; exact permutation_any a n cap l w h
        clear hp
        obtain ⟨L1, L2, L3, L4, L5, L6⟩ := law
        have HL1 := Lib.hid L1
        have HMI : Hid (∀ x ∈ movedL l i k, I64 x) := perm_i64 L1 (by rw [(movedL_perm (by rw [← H.out]; exact hin) k).length_eq, ← H.out]; omega)
        have HMV : Hid (movedL l i k = (l.eraseIdx i).take k ++ l[i]?.getD 0 :: (l.eraseIdx i).drop k) := rfl
        rw [← H.out] at L4
        clear L1
        obtain ⟨N, hN⟩ : ∃ N, N = movesN l := ⟨_, rfl⟩
        obtain ⟨M, hM⟩ : ∃ M, M = movesN (movedL l i k) := ⟨_, rfl⟩
        have F1 : Hid (∀ w, Ints w a n cap l → Calls Try.prog 21 #[.slice a n cap] w fun e w' => e = .returned (.tuple #[.int .i64 N, .int .i64 0]) ∧ Below w.heap.size w w') := fun w h => by
          rw [hN, ← movesE_perm HP.out]; exact moves_any a n cap l w h (by omega)
        have F2 : Hid (∀ w a m c, m ≤ 1024 → Ints w a m c (movedL l i k) → Calls Try.prog 21 #[.slice a m c] w fun e w' => e = .returned (.tuple #[.int .i64 M, .int .i64 0]) ∧ Below w.heap.size w w') := fun w a m c hm h => by
          rw [hM, ← movesE_perm HL1.out]; exact moves_any a m c _ w h hm
        rw [← hN, ← hM] at L5 L6
        rw [← hN] at L2 L3 L4
        have F3 : Hid (∀ w, Ints w a n cap l → Calls Try.prog 29 #[.slice a n cap] w fun e w' => e = .returned (.bool (sortedB l)) ∧ Drew w w') := fun w h => issorted_any a n cap l w h
        have e9 : ((N == 0) == sortedB l) = true := by
          rw [beq_iff_eq, Bool.eq_iff_iff, beq_iff_eq]; exact L2
        generalize sortedB l = S at *
        clear hN hM L2
        go_enter Try.func10, Try.ntmps10
        go_wp2_with (go_at_call 26; refine (P.out _ i0).mono ?_; rintro e w1 ⟨rfl, b1⟩; have i1 := i0.below b1)
        have D1 := b1
        clear i0 P b1
        go_wp2_with fail
        refine (F1.out w1 i1).mono ?_
        rintro e w2 ⟨rfl, b2⟩
        have D2 := D1.trans (b2.mono D1.size)
        have i2 := i1.below b2
        clear b2 i1 D1 F1
        go_wp2
        go_quiet (fail)
        obtain ⟨w3, hw3⟩ : ∃ w3 : World, w3 = w2.drewN nq := ⟨_, rfl⟩
        rw [← hw3]
        have D3 : Below w.heap.size w w3 := by rw [hw3]; exact below_drewN D2 nq
        have i3 : Ints w3 a n cap l := by rw [hw3]; exact i2.drewN nq
        clear hw3 i2 D2
        go_wp2_with fail
        refine (clone_any a n cap l w3 i3).mono ?_
        rintro e w4 ⟨a4, c4, rfl, o4, b4⟩
        have D4 := D3.trans (b4.mono D3.size)
        have i4 := i3.below b4
        obtain ⟨g, rfl, hBg, -, -, -, -⟩ := o4.at_ hnp
        have hsz4 := b4.size
        go_wp2_with fail
        refine (delete_own g n c4 w3.heap.size i l w3 w4 o4 hin hBg b4).mono ?_
        rintro e w5 ⟨rfl, o5, b5⟩
        have D5 := D3.trans (b5.mono D3.size)
        have i5 := i3.below b5
        have o5' : OwnI w5 w3.heap.size (some ⟨g, 0, none⟩) (n - 1 + 1) c4 (l.eraseIdx i ++ [0]) := by rw [show n - 1 + 1 = n by omega]; exact o5
        have hgl : g < w5.heap.size := by
          obtain ⟨g', e, _, h1, _⟩ := o5.at_ hnp
          cases e; exact h1
        obtain ⟨bb, off, rfl, -, hc⟩ := i5.at_ hnp
        have k1 := hc.out i hin
        have hix := i5.i64 i
        clear D4 i4 hsz4 o4 b4 o5
        go_wp2_with fail
        refine (insert_own g (n - 1) c4 w3.heap.size k (l.eraseIdx i) (l[i]?.getD 0) 0 w3 _ (o5'.alloc _) (by omega) hBg (b5.alloc b5.size _) w5.heap.size (by unfold World.alloc; exact Array.getElem?_push_size) (by omega)).mono ?_
        rintro e w6 ⟨rfl, o6, b6⟩
        rw [← HMV.out] at o6
        have D6 := D3.trans (b6.mono D3.size)
        have i6 := i3.below b6
        have t6 : Ints w6 (some ⟨g, 0, none⟩) (n - 1 + 1) c4 (movedL l i k) := o6.ints (by omega) HMI.out
        clear b5 D5 o5' hgl i5 hc k1 hix i3 D3 b6 o6 hBg
        go_wp2_with fail
        refine (F2.out w6 _ _ c4 (by omega) t6).mono ?_
        rintro e w7 ⟨rfl, b7⟩
        have D7 := D6.trans (b7.mono D6.size)
        have i7 := i6.below b7
        clear D6 i6 t6 b7
        go_wp2_with fail
        refine (P'.out w7 i7).mono ?_
        rintro e w8 ⟨rfl, b8⟩
        have D8 := D7.trans (b8.mono D7.size)
        have i8 := i7.below b8
        clear D7 i7 b8
        go_wp2_with fail
        refine (F3.out w8 i8).mono ?_
        rintro e w9 ⟨rfl, d9⟩
        have D9 := D8.trans (d9.below _)
        clear d9 D8 i8
        go_wp2_with (go_at_call 11; refine (awake_any _).mono ?_; rintro e w' ⟨rfl, hb⟩)
        go_ret
        exact ⟨rfl, D9.trans (hb.mono D9.size)⟩
end Go.Proofs.Ytdkokpehcmcnpaa
