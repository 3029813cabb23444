/- Verify's closures, with each of the two fits; the reference's increasing. Written by gen_ord.py. -/
import Derived.Test.YtdkokpehcmcnpaaPure9
namespace Go.Proofs.Ytdkokpehcmcnpaa
open Go.RowKit

theorem fitlt_any (x y : Int) (w : World) : Calls Try.prog 58 #[.int .i64 x, .int .i64 y] w fun e w' => e = .returned (.bool (fitR true x y)) ∧ w' = w := by
  go_enter Try.func58, Try.ntmps58
  go_wp2
  go_ret
  exact ⟨rfl, rfl⟩
theorem fitge_any (x y : Int) (w : World) : Calls Try.prog 59 #[.int .i64 x, .int .i64 y] w fun e w' => e = .returned (.bool (fitR false x y)) ∧ w' = w := by
  go_enter Try.func59, Try.ntmps59
  go_wp2
  go_ret
  exact ⟨rfl, rfl⟩

set_option maxHeartbeats 2000000 in
theorem ordered_lt (bl0 : Nat) (a sa : Option Addr) (n cap q cs : Nat) (l s : List Int) (w : World) (h : Ints w a n cap l) (hs : Ints w sa q cs s) (hbl0 : w.cell? ⟨bl0, 0, none⟩ = some (.slice a n cap)) :
    Calls Try.prog 57 #[.slice sa q cs, .func (.func 58) #[] #[], .pointer (some ⟨bl0, 0, none⟩)] w fun e w' => e = .returned (.bool (ordB l true s)) ∧ Drew w w' := by
  have H := Lib.hid h.len
  have HS := Lib.hid hs.len
  have h8 := h.bound
  have h9 := hs.bound
  go_enter Try.func57, Try.ntmps57
  go_wp2
  go_loopw [10] (fun i wr => ∃ k : Nat, k ≤ q ∧ i = .int .i64 k ∧ Hid (Ord l true s k) ∧ Drew w wr) (fun i _ => q - (intOf i).toNat)
  case atStart => exact ⟨0, Nat.zero_le _, rfl, fun j hj => by omega, Drew.refl _⟩
  case round =>
    obtain ⟨k, hk, rfl, ho, hq⟩ := hrel
    have hbl := cell_later (hq.below w.heap.size) hbl0
    by_cases hlt : k < q
    · obtain ⟨b, off, rfl, -, hc⟩ := (hs.drews hq).at_ (by omega)
      have c1 := hc.out k hlt
      by_cases hx0 : s[k]?.getD 0 < 0
      · have HNO : Hid (ordB l true s = false) := ordB_no (k := k) (by rw [← HS.out]; exact hlt) (fun hh => by omega)
        go_wp2
        go_quiet (fail)
        go_wp2
        go_ret
        exact ⟨by rw [HNO.out]; rfl, hq.drewN _⟩
      · by_cases hxn : (n : Int) ≤ s[k]?.getD 0
        · have d0 : decide (s[k]?.getD 0 < 0) = false := decide_eq_false hx0
          have HNO : Hid (ordB l true s = false) := ordB_no (k := k) (by rw [← HS.out]; exact hlt) (fun hh => by have := H.out; omega)
          clear hx0
          go_wp2
          go_quiet (fail)
          go_wp2
          go_ret
          exact ⟨by rw [HNO.out]; rfl, hq.drewN _⟩
        · obtain ⟨x, hx⟩ := Int.eq_ofNat_of_zero_le (show 0 ≤ s[k]?.getD 0 by omega)
          have hxl : x < n := by omega
          rw [hx] at c1
          have d0 : decide ((x : Int) < 0) = false := decide_eq_false (by omega)
          have d1 : decide ((n : Int) ≤ (x : Int)) = false := decide_eq_false (by omega)
          have d2 : decide (n ≤ x) = false := decide_eq_false (by omega)
          have HX := Lib.hid hx
          clear hx hx0 hxn
          by_cases hk0 : 0 < k
          · have hprev := ho.out (k - 1) (by omega)
            obtain ⟨y, hy⟩ := Int.eq_ofNat_of_zero_le hprev.1
            have hyl : y < n := by have := hprev.2.1; have := H.out; omega
            have c2 := hc.out (k - 1) (by omega)
            rw [hy] at c2
            have HY := Lib.hid hy
            clear hy hprev
            obtain ⟨bl, offl, rfl, -, hcl⟩ := (h.drews hq).at_ (by omega)
            have c3 := hcl.out x hxl
            have c4 := hcl.out y hyl
            have i0k : (0 : Int) < (k : Int) := by omega
            by_cases hxy : x ≤ y
            · have HNO : Hid (ordB l true s = false) := ordB_no (k := k) (by rw [← HS.out]; exact hlt) (fun hh => by have := (hh.2.2 hk0).1; rw [HX.out, HY.out] at this; omega)
              have i1 : (x : Int) ≤ (y : Int) := by omega
              go_wp2
              go_quiet (fail)
              go_wp2
              go_ret
              exact ⟨by rw [HNO.out]; rfl, hq.drewN _⟩
            · have d3 : decide (x ≤ y) = false := decide_eq_false hxy
              have hyx : y < x := by omega
              have e1 : fitR true (elemAt l (s[k - 1]?.getD 0)) (elemAt l (s[k]?.getD 0)) = fitR true (l[y]?.getD 0) (l[x]?.getD 0) := by rw [HX.out, HY.out]; rfl
              clear hxy
              cases hf : fitR true (l[y]?.getD 0) (l[x]?.getD 0) with
              | true =>
                rw [hf] at e1
                have HSTEP : Hid (Ord l true s (k + 1)) := ho.out.step (by rw [HX.out]; omega) (by rw [HX.out, ← H.out]; omega) (fun _ => ⟨by rw [HX.out, HY.out]; omega, e1⟩)
                have F : ∀ w, Calls Try.prog 58 #[.int .i64 (l[y]?.getD 0), .int .i64 (l[x]?.getD 0)] w fun e w' => e = .returned (.bool true) ∧ w' = w := fun w => by rw [← hf]; exact fitlt_any _ _ w
                have HF := Lib.hid F
                clear F
                clear e1 hf
                go_wp2
                go_quiet ((go_at_call 58; exact Calls.quiet_of_same (HF.out _)))
                go_wp2
                go_roundw
                case rel => exact ⟨k + 1, by omega, by go_num, HSTEP.out, hq.drewN _⟩
                case measure => simp [intOf]; omega
              | false =>
                rw [hf] at e1
                have HNO : Hid (ordB l true s = false) := ordB_no (k := k) (by rw [← HS.out]; exact hlt) (fun hh => by have := (hh.2.2 hk0).2; rw [e1] at this; cases this)
                have F : ∀ w, Calls Try.prog 58 #[.int .i64 (l[y]?.getD 0), .int .i64 (l[x]?.getD 0)] w fun e w' => e = .returned (.bool false) ∧ w' = w := fun w => by rw [← hf]; exact fitlt_any _ _ w
                have HF := Lib.hid F
                clear F
                clear e1 hf
                go_wp2
                go_quiet ((go_at_call 58; exact Calls.quiet_of_same (HF.out _)))
                go_wp2
                go_ret
                exact ⟨by rw [HNO.out]; rfl, hq.drewN _⟩
          · have d4 : decide ((0 : Int) < (k : Int)) = false := decide_eq_false (by omega)
            have HSTEP : Hid (Ord l true s (k + 1)) := ho.out.step (by rw [HX.out]; omega) (by rw [HX.out, ← H.out]; omega) (fun hh => absurd hh hk0)
            go_wp2
            go_quiet (fail)
            go_wp2
            go_roundw
            case rel => exact ⟨k + 1, by omega, by go_num, HSTEP.out, hq.drewN _⟩
            case measure => simp [intOf]; omega
    · obtain rfl : k = q := by omega
      have HYES : Hid (ordB l true s = true) := ordB_yes HS.out ho.out
      go_wp2
      go_ret
      exact ⟨by rw [HYES.out]; rfl, hq⟩

set_option maxHeartbeats 2000000 in
theorem ordered_ge (bl0 : Nat) (a sa : Option Addr) (n cap q cs : Nat) (l s : List Int) (w : World) (h : Ints w a n cap l) (hs : Ints w sa q cs s) (hbl0 : w.cell? ⟨bl0, 0, none⟩ = some (.slice a n cap)) :
    Calls Try.prog 57 #[.slice sa q cs, .func (.func 59) #[] #[], .pointer (some ⟨bl0, 0, none⟩)] w fun e w' => e = .returned (.bool (ordB l false s)) ∧ Drew w w' := by
  have H := Lib.hid h.len
  have HS := Lib.hid hs.len
  have h8 := h.bound
  have h9 := hs.bound
  go_enter Try.func57, Try.ntmps57
  go_wp2
  go_loopw [10] (fun i wr => ∃ k : Nat, k ≤ q ∧ i = .int .i64 k ∧ Hid (Ord l false s k) ∧ Drew w wr) (fun i _ => q - (intOf i).toNat)
  case atStart => exact ⟨0, Nat.zero_le _, rfl, fun j hj => by omega, Drew.refl _⟩
  case round =>
    obtain ⟨k, hk, rfl, ho, hq⟩ := hrel
    have hbl := cell_later (hq.below w.heap.size) hbl0
    by_cases hlt : k < q
    · obtain ⟨b, off, rfl, -, hc⟩ := (hs.drews hq).at_ (by omega)
      have c1 := hc.out k hlt
      by_cases hx0 : s[k]?.getD 0 < 0
      · have HNO : Hid (ordB l false s = false) := ordB_no (k := k) (by rw [← HS.out]; exact hlt) (fun hh => by omega)
        go_wp2
        go_quiet (fail)
        go_wp2
        go_ret
        exact ⟨by rw [HNO.out]; rfl, hq.drewN _⟩
      · by_cases hxn : (n : Int) ≤ s[k]?.getD 0
        · have d0 : decide (s[k]?.getD 0 < 0) = false := decide_eq_false hx0
          have HNO : Hid (ordB l false s = false) := ordB_no (k := k) (by rw [← HS.out]; exact hlt) (fun hh => by have := H.out; omega)
          clear hx0
          go_wp2
          go_quiet (fail)
          go_wp2
          go_ret
          exact ⟨by rw [HNO.out]; rfl, hq.drewN _⟩
        · obtain ⟨x, hx⟩ := Int.eq_ofNat_of_zero_le (show 0 ≤ s[k]?.getD 0 by omega)
          have hxl : x < n := by omega
          rw [hx] at c1
          have d0 : decide ((x : Int) < 0) = false := decide_eq_false (by omega)
          have d1 : decide ((n : Int) ≤ (x : Int)) = false := decide_eq_false (by omega)
          have d2 : decide (n ≤ x) = false := decide_eq_false (by omega)
          have HX := Lib.hid hx
          clear hx hx0 hxn
          by_cases hk0 : 0 < k
          · have hprev := ho.out (k - 1) (by omega)
            obtain ⟨y, hy⟩ := Int.eq_ofNat_of_zero_le hprev.1
            have hyl : y < n := by have := hprev.2.1; have := H.out; omega
            have c2 := hc.out (k - 1) (by omega)
            rw [hy] at c2
            have HY := Lib.hid hy
            clear hy hprev
            obtain ⟨bl, offl, rfl, -, hcl⟩ := (h.drews hq).at_ (by omega)
            have c3 := hcl.out x hxl
            have c4 := hcl.out y hyl
            have i0k : (0 : Int) < (k : Int) := by omega
            by_cases hxy : x ≤ y
            · have HNO : Hid (ordB l false s = false) := ordB_no (k := k) (by rw [← HS.out]; exact hlt) (fun hh => by have := (hh.2.2 hk0).1; rw [HX.out, HY.out] at this; omega)
              have i1 : (x : Int) ≤ (y : Int) := by omega
              go_wp2
              go_quiet (fail)
              go_wp2
              go_ret
              exact ⟨by rw [HNO.out]; rfl, hq.drewN _⟩
            · have d3 : decide (x ≤ y) = false := decide_eq_false hxy
              have hyx : y < x := by omega
              have e1 : fitR false (elemAt l (s[k - 1]?.getD 0)) (elemAt l (s[k]?.getD 0)) = fitR false (l[y]?.getD 0) (l[x]?.getD 0) := by rw [HX.out, HY.out]; rfl
              clear hxy
              cases hf : fitR false (l[y]?.getD 0) (l[x]?.getD 0) with
              | true =>
                rw [hf] at e1
                have HSTEP : Hid (Ord l false s (k + 1)) := ho.out.step (by rw [HX.out]; omega) (by rw [HX.out, ← H.out]; omega) (fun _ => ⟨by rw [HX.out, HY.out]; omega, e1⟩)
                have F : ∀ w, Calls Try.prog 59 #[.int .i64 (l[y]?.getD 0), .int .i64 (l[x]?.getD 0)] w fun e w' => e = .returned (.bool true) ∧ w' = w := fun w => by rw [← hf]; exact fitge_any _ _ w
                have HF := Lib.hid F
                clear F
                clear e1 hf
                go_wp2
                go_quiet ((go_at_call 59; exact Calls.quiet_of_same (HF.out _)))
                go_wp2
                go_roundw
                case rel => exact ⟨k + 1, by omega, by go_num, HSTEP.out, hq.drewN _⟩
                case measure => simp [intOf]; omega
              | false =>
                rw [hf] at e1
                have HNO : Hid (ordB l false s = false) := ordB_no (k := k) (by rw [← HS.out]; exact hlt) (fun hh => by have := (hh.2.2 hk0).2; rw [e1] at this; cases this)
                have F : ∀ w, Calls Try.prog 59 #[.int .i64 (l[y]?.getD 0), .int .i64 (l[x]?.getD 0)] w fun e w' => e = .returned (.bool false) ∧ w' = w := fun w => by rw [← hf]; exact fitge_any _ _ w
                have HF := Lib.hid F
                clear F
                clear e1 hf
                go_wp2
                go_quiet ((go_at_call 59; exact Calls.quiet_of_same (HF.out _)))
                go_wp2
                go_ret
                exact ⟨by rw [HNO.out]; rfl, hq.drewN _⟩
          · have d4 : decide ((0 : Int) < (k : Int)) = false := decide_eq_false (by omega)
            have HSTEP : Hid (Ord l false s (k + 1)) := ho.out.step (by rw [HX.out]; omega) (by rw [HX.out, ← H.out]; omega) (fun hh => absurd hh hk0)
            go_wp2
            go_quiet (fail)
            go_wp2
            go_roundw
            case rel => exact ⟨k + 1, by omega, by go_num, HSTEP.out, hq.drewN _⟩
            case measure => simp [intOf]; omega
    · obtain rfl : k = q := by omega
      have HYES : Hid (ordB l false s = true) := ordB_yes HS.out ho.out
      go_wp2
      go_ret
      exact ⟨by rw [HYES.out]; rfl, hq⟩

set_option maxHeartbeats 2000000 in
theorem ref_increasing_ok (a sa : Option Addr) (n cap q cs : Nat) (l s : List Int) (w : World) (h : Ints w a n cap l) (hs : Ints w sa q cs s) :
    Calls Try.prog 62 #[.slice a n cap, .slice sa q cs] w fun e w' => e = .returned (.bool (ordB l true s)) ∧ Drew w w' := by
  have H := Lib.hid h.len
  have HS := Lib.hid hs.len
  have h8 := h.bound
  have h9 := hs.bound
  go_enter Try.func62, Try.ntmps62
  go_wp2
  go_loopw [5] (fun i wr => ∃ k : Nat, k ≤ q ∧ i = .int .i64 k ∧ Hid (Ord l true s k) ∧ Drew w wr) (fun i _ => q - (intOf i).toNat)
  case atStart => exact ⟨0, Nat.zero_le _, rfl, fun j hj => by omega, Drew.refl _⟩
  case round =>
    obtain ⟨k, hk, rfl, ho, hq⟩ := hrel
    by_cases hlt : k < q
    · obtain ⟨b, off, rfl, -, hc⟩ := (hs.drews hq).at_ (by omega)
      have c1 := hc.out k hlt
      by_cases hx0 : s[k]?.getD 0 < 0
      · have HNO : Hid (ordB l true s = false) := ordB_no (k := k) (by rw [← HS.out]; exact hlt) (fun hh => by omega)
        go_wp2
        go_quiet (fail)
        go_wp2
        go_ret
        exact ⟨by rw [HNO.out]; rfl, hq.drewN _⟩
      · by_cases hxn : (n : Int) ≤ s[k]?.getD 0
        · have d0 : decide (s[k]?.getD 0 < 0) = false := decide_eq_false hx0
          have HNO : Hid (ordB l true s = false) := ordB_no (k := k) (by rw [← HS.out]; exact hlt) (fun hh => by have := H.out; omega)
          clear hx0
          go_wp2
          go_quiet (fail)
          go_wp2
          go_ret
          exact ⟨by rw [HNO.out]; rfl, hq.drewN _⟩
        · obtain ⟨x, hx⟩ := Int.eq_ofNat_of_zero_le (show 0 ≤ s[k]?.getD 0 by omega)
          have hxl : x < n := by omega
          rw [hx] at c1
          have d0 : decide ((x : Int) < 0) = false := decide_eq_false (by omega)
          have d1 : decide ((n : Int) ≤ (x : Int)) = false := decide_eq_false (by omega)
          have d2 : decide (n ≤ x) = false := decide_eq_false (by omega)
          have HX := Lib.hid hx
          clear hx hx0 hxn
          by_cases hk0 : 0 < k
          · have hprev := ho.out (k - 1) (by omega)
            obtain ⟨y, hy⟩ := Int.eq_ofNat_of_zero_le hprev.1
            have hyl : y < n := by have := hprev.2.1; have := H.out; omega
            have c2 := hc.out (k - 1) (by omega)
            rw [hy] at c2
            have HY := Lib.hid hy
            clear hy hprev
            obtain ⟨bl, offl, rfl, -, hcl⟩ := (h.drews hq).at_ (by omega)
            have c3 := hcl.out x hxl
            have c4 := hcl.out y hyl
            have i0k : (0 : Int) < (k : Int) := by omega
            by_cases hxy : x ≤ y
            · have HNO : Hid (ordB l true s = false) := ordB_no (k := k) (by rw [← HS.out]; exact hlt) (fun hh => by have := (hh.2.2 hk0).1; rw [HX.out, HY.out] at this; omega)
              have i1 : (x : Int) ≤ (y : Int) := by omega
              go_wp2
              go_quiet (fail)
              go_wp2
              go_ret
              exact ⟨by rw [HNO.out]; rfl, hq.drewN _⟩
            · have d3 : decide (x ≤ y) = false := decide_eq_false hxy
              have hyx : y < x := by omega
              have e1 : fitR true (elemAt l (s[k - 1]?.getD 0)) (elemAt l (s[k]?.getD 0)) = fitR true (l[y]?.getD 0) (l[x]?.getD 0) := by rw [HX.out, HY.out]; rfl
              clear hxy
              cases hf : fitR true (l[y]?.getD 0) (l[x]?.getD 0) with
              | true =>
                rw [hf] at e1
                have HSTEP : Hid (Ord l true s (k + 1)) := ho.out.step (by rw [HX.out]; omega) (by rw [HX.out, ← H.out]; omega) (fun _ => ⟨by rw [HX.out, HY.out]; omega, e1⟩)
                have i2 : decide (l[x]?.getD 0 ≤ l[y]?.getD 0) = false := by simp only [fitR, if_true, decide_eq_true_eq] at hf; exact decide_eq_false (by omega)
                clear e1 hf
                go_wp2
                go_quiet (fail)
                go_wp2
                go_roundw
                case rel => exact ⟨k + 1, by omega, by go_num, HSTEP.out, hq.drewN _⟩
                case measure => simp [intOf]; omega
              | false =>
                rw [hf] at e1
                have HNO : Hid (ordB l true s = false) := ordB_no (k := k) (by rw [← HS.out]; exact hlt) (fun hh => by have := (hh.2.2 hk0).2; rw [e1] at this; cases this)
                have i2 : l[x]?.getD 0 ≤ l[y]?.getD 0 := by simp only [fitR, if_true, decide_eq_false_iff_not] at hf; omega
                clear e1 hf
                go_wp2
                go_quiet (fail)
                go_wp2
                go_ret
                exact ⟨by rw [HNO.out]; rfl, hq.drewN _⟩
          · have d4 : decide ((0 : Int) < (k : Int)) = false := decide_eq_false (by omega)
            have HSTEP : Hid (Ord l true s (k + 1)) := ho.out.step (by rw [HX.out]; omega) (by rw [HX.out, ← H.out]; omega) (fun hh => absurd hh hk0)
            go_wp2
            go_quiet (fail)
            go_wp2
            go_roundw
            case rel => exact ⟨k + 1, by omega, by go_num, HSTEP.out, hq.drewN _⟩
            case measure => simp [intOf]; omega
    · obtain rfl : k = q := by omega
      have HYES : Hid (ordB l true s = true) := ordB_yes HS.out ho.out
      go_wp2
      go_ret
      exact ⟨by rw [HYES.out]; rfl, hq⟩
end Go.Proofs.Ytdkokpehcmcnpaa
