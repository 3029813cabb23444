/- The law SequenceLongest returns true, for every slice of ints and every choice, and writes nothing that was there. -/
import Derived.Test.YtdkokpehcmcnpaaWRise
import Derived.Test.YtdkokpehcmcnpaaWComp
import Derived.Test.YtdkokpehcmcnpaaWAwake
namespace Go.Proofs.Ytdkokpehcmcnpaa
open Go.RowKit

set_option maxHeartbeats 2000000 in
theorem law_longest (a : Option Addr) (n cap : Nat) (l : List Int) (c : Int) (w : World) (h : n ≤ 12 → Ints w a n cap l) :
    Calls Try.prog 6 #[.slice a n cap, .int .u16 c] w fun e w' => e = .returned (.bool true) ∧ Below w.heap.size w w' := by
  have D0 := (Below.refl w.heap.size w).alloc (Nat.le_refl _) (.cells #[.slice a n cap] 22)
  by_cases hn : 12 < n
  · go_enter Try.func6, Try.ntmps6
    go_wp2_with (go_at_call 11; refine (awake_any _).mono ?_; rintro e w' ⟨rfl, hb⟩)
    go_ret
    exact ⟨rfl, D0.trans (hb.mono (by simp))⟩
  · replace h := h (by omega)
    have H := Lib.hid h.len
    have i0 := h.alloc (.cells #[.slice a n cap] 22)
    have hbl : (w.alloc (.cells #[.slice a n cap] 22)).cell? ⟨w.heap.size, 0, none⟩ = some (.slice a n cap) := by rw [World.cell?_alloc_at _ _ _ _ rfl]; rfl
    obtain ⟨hinc, hbest⟩ := lis_best l
    have HB := Lib.hid hbest
    have HI : Hid (Inc l 0 none (lis l)) := hinc
    have hll : (lis l).length ≤ n := by rw [H.out]; exact heavy_length _ _
    have HLL := Lib.hid hll
    clear hbest hinc hll
    go_enter Try.func6, Try.ntmps6
    go_wp2_with fail
    refine (increasing_any a n cap l _ i0 (by omega)).mono ?_
    rintro e w1 ⟨a1, q, c1, rfl, o1, b1⟩
    have D1 := D0.trans (b1.mono (by simp))
    have hbl1 := cell_later b1 hbl
    have i1 := i0.below b1
    have hql := o1.len
    have HQ := Lib.hid hql
    have hqn : q ≤ n := by rw [hql]; exact HLL.out
    have s1 : Ints w1 a1 q c1 (lis l) := o1.ints (by omega) (heavy_i64 _ _ (by rw [← H.out]; omega))
    clear hql b1 hbl o1
    go_wp2_with fail
    refine (contains_outside w.heap.size a a1 n cap q c1 (lis l) w1 s1 hbl1 (fun j hj => by
      obtain ⟨x, e, _, hx, _⟩ := HI.out.at_ j (by rw [← HQ.out]; exact hj)
      rw [e]; have := H.out; omega)).mono ?_
    rintro e w2 ⟨rfl, rfl⟩
    go_wp2
    obtain ⟨wo, rfl⟩ : ∃ wo : World, wo = w2 := ⟨_, rfl⟩
    go_loopw [28] (fun i wr => ∃ k : Nat, k ≤ q ∧ i = .int .i64 k ∧ Drew wo wr) (fun i _ => q - (intOf i).toNat)
    case atStart => exact ⟨0, Nat.zero_le _, rfl, Drew.refl _⟩
    case round =>
      obtain ⟨k, hk, rfl, hq⟩ := hrel
      by_cases hlt : k < q
      · by_cases hk0 : 0 < k
        · obtain ⟨x, e1, -, hx, -, e2⟩ := HI.out.at_ k (by rw [← HQ.out]; exact hlt)
          obtain ⟨y, e3, hyx, hv⟩ := e2 hk0
          rw [← H.out] at hx
          obtain ⟨bb, off, rfl, -, hc⟩ := (s1.drews hq).at_ (by omega)
          obtain ⟨ba, offa, rfl, -, hca⟩ := (i1.drews hq).at_ (by omega)
          have k1 := hc.out k hlt
          have k2 := hc.out (k - 1) (by omega)
          rw [e1] at k1
          rw [e3] at k2
          have k3 := hca.out x (by omega)
          have k4 := hca.out y (by omega)
          have k5 := cell_later (hq.below _) hbl1
          clear e1 e3 e2
          have ik : (0 : Int) < (k : Int) := by omega
          have h8 := s1.bound
          have d0 : decide (x ≤ y) = false := decide_eq_false (by omega)
          have d1 : decide ((x : Int) ≤ (y : Int)) = false := decide_eq_false (by omega)
          have d2 : decide (l[x]?.getD 0 ≤ l[y]?.getD 0) = false := decide_eq_false (by omega)
          go_wp2
          go_quiet (fail)
          go_wp2
          go_roundw
          case rel => exact ⟨k + 1, by omega, by go_num, hq.drewN _⟩
          case measure => simp [intOf]; omega
        · have d1 : decide ((0 : Int) < (k : Int)) = false := decide_eq_false (by omega)
          go_wp2
          go_quiet (fail)
          go_wp2
          go_roundw
          case rel => exact ⟨k + 1, by omega, by go_num, hq.drewN _⟩
          case measure => simp [intOf]; omega
      · have D2 := D1.trans (hq.below _)
        have i2 := i1.drews hq
        have s2 := s1.drews hq
        have hbl2 := cell_later (hq.below _) hbl1
        clear D1 i1 s1 hbl1
        go_wp2_with fail
        refine (rises_any a n cap l c wr i2 (by omega)).mono ?_
        rintro e w3 ⟨is, a3, q3, c3, b, rfl, o3, hb3, b3⟩
        have D3 := D2.trans (b3.mono D2.size)
        have s3 := s2.below b3
        have hql3 := o3.len
        have HQ3 := Lib.hid hql3
        clear hql3
        cases is with
        | false =>
          clear hb3
          go_wp2_with (go_at_call 11; refine (awake_any _).mono ?_; rintro e w' ⟨rfl, hb⟩)
          go_ret
          exact ⟨rfl, D3.trans (hb.mono D3.size)⟩
        | true =>
          have hinc := Lib.hid (hb3 rfl)
          have hlb := (HB.out b hinc.out).1
          rw [← HQ3.out, ← HQ.out] at hlb
          clear hb3
          by_cases hlt3 : q3 < q
          · have i3 : (q3 : Int) < (q : Int) := by omega
            go_wp2_with (go_at_call 11; refine (awake_any _).mono ?_; rintro e w' ⟨rfl, hb⟩)
            go_ret
            exact ⟨rfl, D3.trans (hb.mono D3.size)⟩
          · obtain rfl : q3 = q := by omega
            have hc0 := (HB.out b hinc.out).2 (by rw [← HQ3.out, ← HQ.out])
            have t3 : Ints w3 a3 q3 c3 b := o3.ints (by omega) (fun x hx => by
              obtain ⟨j, hj, rfl⟩ := List.getElem_of_mem hx
              obtain ⟨y, e, _, hy, _⟩ := hinc.out.at_ j hj
              rw [List.getElem?_eq_getElem hj, Option.getD_some] at e
              rw [e]; have := H.out; exact I64.small (by omega) (by omega))
            have F := Lib.hid (compare_any a1 a3 q3 c1 q3 c3 (lis l) b w3 s3 t3)
            generalize cmpL (lis l) b = cc at *
            have d1 : decide ((q3 : Int) < (q3 : Int)) = false := decide_eq_false (by omega)
            have d2 : ((q3 : Int) == (q3 : Int)) = true := by simp
            clear hlb hlt3
            go_wp2_with (first | (go_at_call 33; refine F.out.mono ?_; rintro e w4 ⟨rfl, hd4⟩; have D4 := D3.trans (hd4.below _)) | (go_at_call 11; refine (awake_any _).mono ?_; rintro e w' ⟨rfl, hb⟩))
            go_ret
            exact ⟨rfl, D4.trans (hb.mono D4.size)⟩
end Go.Proofs.Ytdkokpehcmcnpaa
