/- Weighted and its reference. -/
import Derived.Test.YtdkokpehcmcnpaaWRefA
import Derived.Test.YtdkokpehcmcnpaaWBestW
import Derived.Test.YtdkokpehcmcnpaaWLib
import Derived.OwnWalk
namespace Go.Proofs.Ytdkokpehcmcnpaa
open Go.RowKit

def badW (x : Int) : Bool := decide (x < 0 ∨ 1048576 < x)
def anyBad (wt : List Int) : Bool := decide (∃ j, j < wt.length ∧ badW (wt[j]?.getD 0) = true)
/-- What Weighted returns. -/
def wRes (l wt : List Int) : List Int := if 1024 < l.length ∨ wt.length ≠ l.length ∨ anyBad wt = true then [] else heavy l wt
def wSum (l wt : List Int) : Int := if 1024 < l.length ∨ wt.length ≠ l.length ∨ anyBad wt = true then 0 else weight l wt
def wErr (l wt : List Int) : Int := if 1024 < l.length then 4 else if wt.length ≠ l.length then 9 else if anyBad wt = true then 2 else 0
theorem w_long {l wt : List Int} (h : 1024 < l.length) : wRes l wt = [] ∧ wSum l wt = 0 ∧ wErr l wt = 4 := ⟨if_pos (.inl h), if_pos (.inl h), if_pos h⟩
theorem w_len {l wt : List Int} (h1 : ¬ 1024 < l.length) (h : wt.length ≠ l.length) : wRes l wt = [] ∧ wSum l wt = 0 ∧ wErr l wt = 9 := ⟨if_pos (.inr (.inl h)), if_pos (.inr (.inl h)), by rw [wErr, if_neg h1, if_pos h]⟩
theorem w_bad {l wt : List Int} (h1 : ¬ 1024 < l.length) (h : ¬ wt.length ≠ l.length) (h2 : anyBad wt = true) : wRes l wt = [] ∧ wSum l wt = 0 ∧ wErr l wt = 2 := ⟨if_pos (.inr (.inr h2)), if_pos (.inr (.inr h2)), by rw [wErr, if_neg h1, if_neg h, if_pos h2]⟩
theorem w_ok {l wt : List Int} (h1 : ¬ 1024 < l.length) (h : ¬ wt.length ≠ l.length) (h2 : anyBad wt = false) : wRes l wt = heavy l wt ∧ wSum l wt = weight l wt ∧ wErr l wt = 0 := by
  have h3 : ¬ (1024 < l.length ∨ wt.length ≠ l.length ∨ anyBad wt = true) := by
    rintro (h | h' | h')
    · exact h1 h
    · exact h h'
    · rw [h2] at h'; cases h'
  exact ⟨if_neg h3, if_neg h3, by rw [wErr, if_neg h1, if_neg h, if_neg (by rw [h2]; simp)]⟩
theorem light_of {wt : List Int} {n : Nat} (hn : wt.length = n) (h : anyBad wt = false) : Light wt n := by
  refine ⟨hn, fun j => ?_⟩
  by_cases hj : j < wt.length
  · have := of_decide_eq_false h
    by_cases hb : badW (wt[j]?.getD 0) = true
    · exact absurd ⟨j, hj, hb⟩ this
    · simp only [badW, decide_eq_true_eq] at hb; omega
  · rw [List.getElem?_eq_none (by omega)]; decide
theorem bad_at {wt : List Int} {j : Nat} (hj : j < wt.length) (h : badW (wt[j]?.getD 0) = true) : anyBad wt = true := decide_eq_true ⟨j, hj, h⟩
theorem none_bad {wt : List Int} {n : Nat} (hn : n = wt.length) (h : ∀ j, j < n → badW (wt[j]?.getD 0) = false) : anyBad wt = false := decide_eq_false (by rintro ⟨j, hj, hb⟩; rw [h j (by omega)] at hb; cases hb)

theorem bad_any (x : Int) (w : World) : Calls Try.prog 55 #[.int .i64 x] w fun e w' => e = .returned (.bool (badW x)) ∧ w' = w := by
  go_enter Try.func55, Try.ntmps55
  by_cases h0 : x < 0
  · have e : Hid (badW x = true) := decide_eq_true (.inl h0)
    go_wp2
    go_ret
    exact ⟨by rw [e.out]; rfl, rfl⟩
  · have d0 : decide (x < 0) = false := decide_eq_false h0
    by_cases h1 : 1048576 < x
    · have e : Hid (badW x = true) := decide_eq_true (.inr h1)
      go_wp2
      go_ret
      exact ⟨by rw [e.out]; simp, rfl⟩
    · have d1 : decide (1048576 < x) = false := decide_eq_false h1
      have e : Hid (badW x = false) := decide_eq_false (by omega)
      go_wp2
      go_ret
      exact ⟨by rw [e.out]; simp, rfl⟩

set_option maxHeartbeats 400000 in
theorem indexfunc_bad (ab : Option Addr) (q c : Nat) (b : List Int) (w : World) (hb : Ints w ab q c b) :
    Calls Try.prog 53 #[.slice ab q c, .func (.func 55) #[] #[]] w fun e w' => (∃ r : Int, e = .returned (.int .i64 r) ∧ decide (0 ≤ r) = anyBad b) ∧ w' = w := by
  have h8 := hb.bound
  have HN := Lib.hid hb.len
  go_enter Try.func53, Try.ntmps53
  go_wp2
  go_loopw [8] (fun i wr => ∃ k : Nat, k ≤ q ∧ i = .int .i64 k ∧ Hid (∀ j, j < k → badW (b[j]?.getD 0) = false) ∧ wr = w) (fun i _ => q - (intOf i).toNat)
  case atStart => exact ⟨0, Nat.zero_le _, rfl, fun j hj => by omega, rfl⟩
  case round =>
    obtain ⟨k, hk, rfl, hs, rfl⟩ := hrel
    by_cases hlt : k < q
    · obtain ⟨bb, off, rfl, -, hc⟩ := hb.at_ (by omega)
      have c1 := hc.out k (by omega)
      cases hbad : badW (b[k]?.getD 0) with
      | true =>
        have F : Hid (∀ w, Calls Try.prog 55 #[.int .i64 (b[k]?.getD 0)] w fun e w' => e = .returned (.bool true) ∧ w' = w) := fun w => by rw [← hbad]; exact bad_any _ w
        have e : Hid (anyBad b = true) := bad_at (by rw [← HN.out]; exact hlt) hbad
        clear hbad
        go_wp2_with (go_at_call 55; refine (F.out _).mono ?_; rintro e w' ⟨rfl, rfl⟩)
        go_ret
        exact ⟨⟨k, rfl, by rw [e.out]; simp⟩, rfl⟩
      | false =>
        have F : Hid (∀ w, Calls Try.prog 55 #[.int .i64 (b[k]?.getD 0)] w fun e w' => e = .returned (.bool false) ∧ w' = w) := fun w => by rw [← hbad]; exact bad_any _ w
        have HBAD := Lib.hid hbad
        clear hbad
        go_wp2_with (go_at_call 55; refine (F.out _).mono ?_; rintro e w' ⟨rfl, rfl⟩)
        go_roundw
        case rel => exact ⟨k + 1, by omega, by go_num, (fun j hj => by
          by_cases e : j = k
          · rw [e]; exact HBAD.out
          · exact hs.out j (by omega)), trivial⟩
        case measure => simp [intOf]; omega
    · obtain rfl : k = q := by omega
      have e : Hid (anyBad b = false) := none_bad HN.out hs.out
      go_wp2
      go_ret
      exact ⟨⟨-1, rfl, by rw [e.out]; rfl⟩, rfl⟩
theorem contains_bad (ab : Option Addr) (q c : Nat) (b : List Int) (w : World) (hb : Ints w ab q c b) :
    Calls Try.prog 30 #[.slice ab q c, .func (.func 55) #[] #[]] w fun e w' => e = .returned (.bool (anyBad b)) ∧ w' = w := by
  go_enter Try.func30, Try.ntmps30
  go_wp2_with fail
  refine (indexfunc_bad ab q c b w hb).mono ?_
  rintro e w' ⟨⟨r, rfl, hr⟩, rfl⟩
  have HR := Lib.hid hr
  clear hr
  go_wp2
  go_ret
  exact ⟨by rw [← HR.out]; rfl, rfl⟩

theorem heavy_ints {w : World} {B : Nat} {a : Option Addr} {q cap n : Nat} {l wt : List Int} (h : OwnI w B a q cap (heavy l wt)) (hn : n = l.length) (hm : n ≤ 1024) : Ints w a q cap (heavy l wt) := by
  have h1 := h.len
  have h2 := heavy_length l wt
  exact h.ints (by omega) (heavy_i64 _ _ (by omega))

set_option maxHeartbeats 1000000 in
theorem weighted_any (a av : Option Addr) (n cap m capw : Nat) (l wt : List Int) (w : World) (h : Ints w a n cap l) (hv : Ints w av m capw wt) :
    Calls Try.prog 35 #[.slice a n cap, .slice av m capw] w fun e w' => ∃ (a' : Option Addr) (q cap' : Nat), e = .returned (.tuple #[.slice a' q cap', .int .i64 (wSum l wt), .int .i64 (wErr l wt)]) ∧ Ints w' a' q cap' (wRes l wt) ∧ Below w.heap.size w w' := by
  have H := Lib.hid h.len
  have HV := Lib.hid hv.len
  have h8 := h.bound
  have h9 := hv.bound
  have D0 := (Below.refl w.heap.size w).alloc (Nat.le_refl _) (.cells #[.slice av m capw] 22)
  have hbw : (w.alloc (.cells #[.slice av m capw] 22)).cell? ⟨w.heap.size, 0, none⟩ = some (.slice av m capw) := by rw [World.cell?_alloc_at _ _ _ _ rfl]; rfl
  have h1 := h.alloc (.cells #[.slice av m capw] 22)
  have hv1 := hv.alloc (.cells #[.slice av m capw] 22)
  by_cases hlong : 1024 < n
  · obtain ⟨e1, e2, e3⟩ := w_long (l := l) (wt := wt) (by rw [← H.out]; exact hlong)
    rw [e1, e2, e3]
    clear e1 e2 e3
    go_enter Try.func35, Try.ntmps35
    go_wp2
    go_ret3
    exact ⟨none, 0, 0, rfl, Ints.nil _, D0⟩
  · by_cases hnm : n = m
    · subst hnm
      have enm : ((n : Int) != (n : Int)) = false := by simp
      cases hbad : anyBad wt with
      | true =>
        obtain ⟨e1, e2, e3⟩ := w_bad (l := l) (wt := wt) (by rw [← H.out]; exact hlong) (by rw [← H.out, ← HV.out]; simp) hbad
        rw [e1, e2, e3]
        have F : Hid (∀ w, Ints w av n capw wt → Calls Try.prog 30 #[.slice av n capw, .func (.func 55) #[] #[]] w fun e w' => e = .returned (.bool true) ∧ w' = w) := fun w hw => by rw [← hbad]; exact contains_bad _ _ _ _ w hw
        clear hbad e1 e2 e3
        go_enter Try.func35, Try.ntmps35
        go_wp2_with (go_at_call 30; refine (F.out _ hv1).mono ?_; rintro e w' ⟨rfl, rfl⟩)
        go_ret3
        exact ⟨none, 0, 0, rfl, Ints.nil _, D0⟩
      | false =>
        obtain ⟨e1, e2, e3⟩ := w_ok (l := l) (wt := wt) (by rw [← H.out]; exact hlong) (by rw [← H.out, ← HV.out]; simp) hbad
        have HL : Hid (Light wt n) := light_of HV.out.symm hbad
        rw [e1, e2, e3]
        have F : Hid (∀ w, Ints w av n capw wt → Calls Try.prog 30 #[.slice av n capw, .func (.func 55) #[] #[]] w fun e w' => e = .returned (.bool false) ∧ w' = w) := fun w hw => by rw [← hbad]; exact contains_bad _ _ _ _ w hw
        clear hbad e1 e2 e3
        go_enter Try.func35, Try.ntmps35
        go_wp2_with fail
        refine (F.out _ hv1).mono ?_
        rintro e w' ⟨rfl, rfl⟩
        go_wp2_with fail
        refine (best_weights a n cap l wt _ h1 (by omega) HL.out w.heap.size av capw hbw hv1).mono ?_
        rintro e w2 ⟨S, a', q, cap', rfl, hS, ho, hB⟩
        have eS := hS.unique (sums_spec l wt)
        have HS := Lib.hid eS
        clear eS hS
        go_wp2
        go_ret3
        refine ⟨a', q, cap', by rw [HS.out]; rfl, ?_, D0.trans (hB.mono (by simp))⟩
        rw [HS.out, H.out] at ho
        exact heavy_ints ho H.out (by omega)
    · obtain ⟨e1, e2, e3⟩ := w_len (l := l) (wt := wt) (by rw [← H.out]; exact hlong) (by rw [← H.out, ← HV.out]; exact fun e => hnm e.symm)
      rw [e1, e2, e3]
      have enm : ((n : Int) != (m : Int)) = true := by simp; omega
      clear e1 e2 e3
      go_enter Try.func35, Try.ntmps35
      go_wp2
      go_ret3
      exact ⟨none, 0, 0, rfl, Ints.nil _, D0⟩

set_option maxHeartbeats 1000000 in
theorem ref_weighted_any (a av : Option Addr) (n cap m capw : Nat) (l wt : List Int) (w : World) (h : Ints w a n cap l) (hv : Ints w av m capw wt) :
    Calls Try.prog 36 #[.slice a n cap, .slice av m capw] w fun e w' => ∃ (a' : Option Addr) (q cap' : Nat), e = .returned (.tuple #[.slice a' q cap', .int .i64 (wSum l wt), .int .i64 (wErr l wt)]) ∧ Ints w' a' q cap' (wRes l wt) ∧ Below w.heap.size w w' := by
  have H := Lib.hid h.len
  have HV := Lib.hid hv.len
  have h8 := h.bound
  have h9 := hv.bound
  by_cases hlong : 1024 < n
  · obtain ⟨e1, e2, e3⟩ := w_long (l := l) (wt := wt) (by rw [← H.out]; exact hlong)
    rw [e1, e2, e3]
    clear e1 e2 e3
    go_enter Try.func36, Try.ntmps36
    go_wp2
    go_ret3
    exact ⟨none, 0, 0, rfl, Ints.nil _, Below.refl _ _⟩
  · by_cases hnm : n = m
    · subst hnm
      have enm : ((n : Int) != (n : Int)) = false := by simp
      go_enter Try.func36, Try.ntmps36
      go_wp2
      go_loopw [7] (fun i wr => ∃ k : Nat, k ≤ n ∧ i = .int .i64 k ∧ Hid (∀ j, j < k → badW (wt[j]?.getD 0) = false) ∧ wr = w) (fun i _ => n - (intOf i).toNat)
      case atStart => exact ⟨0, Nat.zero_le _, rfl, fun j hj => by omega, rfl⟩
      case round =>
        obtain ⟨k, hk, rfl, hs, rfl⟩ := hrel
        by_cases hlt : k < n
        · obtain ⟨bb, off, rfl, -, hc⟩ := hv.at_ (by omega)
          have c1 := hc.out k (by omega)
          cases hbad : badW (wt[k]?.getD 0) with
          | true =>
            obtain ⟨e1, e2, e3⟩ := w_bad (l := l) (wt := wt) (by rw [← H.out]; exact hlong) (by rw [← H.out, ← HV.out]; simp) (bad_at (by rw [← HV.out]; exact hlt) hbad)
            have E1 := Lib.hid e1
            have E2 := Lib.hid e2
            have E3 := Lib.hid e3
            clear e1 e2 e3
            simp only [badW, decide_eq_true_eq] at hbad
            by_cases hx : wt[k]?.getD 0 < 0
            · clear hbad
              go_wp2
              go_ret3
              exact ⟨none, 0, 0, by rw [E2.out, E3.out]; rfl, by rw [E1.out]; exact Ints.nil _, Below.refl _ _⟩
            · have hx1 : 1048576 < wt[k]?.getD 0 := by omega
              have hx0 : decide (wt[k]?.getD 0 < 0) = false := decide_eq_false hx
              clear hbad
              go_wp2
              go_ret3
              exact ⟨none, 0, 0, by rw [E2.out, E3.out]; rfl, by rw [E1.out]; exact Ints.nil _, Below.refl _ _⟩
          | false =>
            have HBAD := Lib.hid hbad
            simp only [badW, decide_eq_false_iff_not] at hbad
            have hx0 : decide (wt[k]?.getD 0 < 0) = false := decide_eq_false (by omega)
            have hx1 : decide (1048576 < wt[k]?.getD 0) = false := decide_eq_false (by omega)
            clear hbad
            go_wp2
            go_roundw
            case rel => exact ⟨k + 1, by omega, by go_num, (fun j hj => by
              by_cases e : j = k
              · rw [e]; exact HBAD.out
              · exact hs.out j (by omega)), trivial⟩
            case measure => simp [intOf]; omega
        · obtain rfl : k = n := by omega
          have hbad : anyBad wt = false := none_bad HV.out hs.out
          obtain ⟨e1, e2, e3⟩ := w_ok (l := l) (wt := wt) (by rw [← H.out]; exact hlong) (by rw [← H.out, ← HV.out]; simp) hbad
          have HL : Hid (Light wt k) := light_of HV.out.symm hbad
          have E1 := Lib.hid e1
          have E2 := Lib.hid e2
          have E3 := Lib.hid e3
          clear hbad e1 e2 e3
          go_wp2_with fail
          refine (first_any a av k cap capw l wt wr h hv (by omega) HL.out).mono ?_
          rintro e w2 ⟨S, a', q, cap', rfl, hS, ho, hB⟩
          have eS := hS.unique (sums_spec l wt)
          have HS := Lib.hid eS
          clear eS hS
          go_wp2
          go_ret3
          refine ⟨a', q, cap', by rw [E2.out, E3.out, HS.out]; rfl, ?_, hB⟩
          rw [E1.out]
          rw [HS.out, H.out] at ho
          exact heavy_ints ho H.out (by omega)
    · obtain ⟨e1, e2, e3⟩ := w_len (l := l) (wt := wt) (by rw [← H.out]; exact hlong) (by rw [← H.out, ← HV.out]; exact fun e => hnm e.symm)
      rw [e1, e2, e3]
      have enm : ((m : Int) != (n : Int)) = true := by simp; omega
      clear e1 e2 e3
      go_enter Try.func36, Try.ntmps36
      go_wp2
      go_ret3
      exact ⟨none, 0, 0, rfl, Ints.nil _, Below.refl _ _⟩
end Go.Proofs.Ytdkokpehcmcnpaa
