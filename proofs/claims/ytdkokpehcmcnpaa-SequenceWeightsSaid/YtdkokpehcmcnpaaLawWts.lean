/- The law SequenceWeights returns true, for every input, and writes nothing that was there. -/
import Derived.Test.YtdkokpehcmcnpaaWVer
import Derived.Test.YtdkokpehcmcnpaaWRVer
import Derived.Test.YtdkokpehcmcnpaaWWgt
import Derived.Test.YtdkokpehcmcnpaaWRefN
import Derived.Test.YtdkokpehcmcnpaaWAwake
import Derived.Test.YtdkokpehcmcnpaaRow
namespace Go.Proofs.Ytdkokpehcmcnpaa
open Go.RowKit

theorem IsRow.below {k : IntKind} {w w' : World} {a : Option Addr} {n cap : Nat} {zs : List Int} (h : IsRow k w a n cap zs) (hb : Below w.heap.size w w') : IsRow k w' a n cap zs := by
  rcases h with h | ⟨x, h1, h2, h3, h4, h5, h6⟩
  · exact .inl h
  · exact .inr ⟨x, h1, h2, h3, h4, fun i hi => cell_later hb (h5 i hi), h6⟩
/-- A row that came in, as it was opened. -/
abbrev InRow := Option Addr × Nat × Nat × List Int
def IsRows (w : World) (a : Option Addr) (n cap : Nat) (R : Nat → InRow) : Prop :=
  n ≤ cap ∧ cap ≤ maxLen ∧ ∀ r, r < n → ∃ b off, a = some ⟨b, off, none⟩ ∧ w.cell? ⟨b, off + r, none⟩ = some (.slice (R r).1 (R r).2.1 (R r).2.2.1) ∧ IsRow .i64 w (R r).1 (R r).2.1 (R r).2.2.1 (R r).2.2.2
theorem IsRows.below {w w' : World} {a : Option Addr} {n cap : Nat} {R : Nat → InRow} (h : IsRows w a n cap R) (hb : Below w.heap.size w w') : IsRows w' a n cap R :=
  ⟨h.1, h.2.1, fun r hr => by
    obtain ⟨b, off, e, hc, hi⟩ := h.2.2 r hr
    exact ⟨b, off, e, cell_later hb hc, hi.below hb⟩⟩
theorem IsRows.at_ {w : World} {a : Option Addr} {n cap : Nat} {R : Nat → InRow} (h : IsRows w a n cap R) (hn : 0 < n) : ∃ b off, a = some ⟨b, off, none⟩ ∧ Hid (∀ r, r < n → w.cell? ⟨b, off + r, none⟩ = some (.slice (R r).1 (R r).2.1 (R r).2.2.1)) := by
  obtain ⟨b, off, e, _, _⟩ := h.2.2 0 hn
  refine ⟨b, off, e, fun r hr => ?_⟩
  obtain ⟨b', off', e', hc, _⟩ := h.2.2 r hr
  rw [e] at e'; cases e'
  exact hc
def listsOf (n : Nat) (R : Nat → InRow) : List (List Int) := (List.range n).map fun r => (R r).2.2.2.take (R r).2.1
theorem listsOf_len (n : Nat) (R : Nat → InRow) : (listsOf n R).length = n := by simp [listsOf]
theorem IsRow.len_take {w : World} {a : Option Addr} {n cap : Nat} {zs : List Int} (h : IsRow .i64 w a n cap zs) : (zs.take n).length = n := by
  rcases h with ⟨rfl, rfl, rfl, rfl⟩ | ⟨x, rfl, hl, hm, hz, hc, hw⟩
  · rfl
  · simp [hz]; omega
theorem IsRows.intss {w : World} {a : Option Addr} {n cap : Nat} {R : Nat → InRow} (h : IsRows w a n cap R) (hn : n ≤ 1000) (hr : ∀ r, r < n → (R r).2.1 ≤ 1000) : Intss w a n cap (listsOf n R) := by
  refine ⟨by simp [listsOf], h.1, by omega, fun j hj => ?_⟩
  obtain ⟨b, off, e, hc, hi⟩ := h.2.2 j hj
  refine ⟨b, off, _, _, _, e, hc, ?_⟩
  have e2 : (listsOf n R)[j]?.getD [] = (R j).2.2.2.take (R j).2.1 := by simp [listsOf, hj]
  rw [e2]
  exact hi.ints (by have := hr j hj; omega)
theorem IsRows.small {w : World} {a : Option Addr} {n cap : Nat} {R : Nat → InRow} (h : IsRows w a n cap R) (hr : ∀ r, r < n → (R r).2.1 ≤ 12) : ∀ s ∈ listsOf n R, s.length ≤ 12 := by
  intro s hs
  obtain ⟨r, hr', rfl⟩ := List.mem_map.1 hs
  have hrn := List.mem_range.1 hr'
  obtain ⟨_, _, _, _, hi⟩ := h.2.2 r hrn
  rw [hi.len_take]; exact hr r hrn

set_option maxHeartbeats 400000 in
theorem greatlists_any (a : Option Addr) (n cap : Nat) (R : Nat → InRow) (w : World) (h : IsRows w a n cap R) :
    Calls Try.prog 34 #[.slice a n cap] w fun e w' => (∃ g, e = .returned (.bool g) ∧ (g = false → n ≤ 12 ∧ ∀ r, r < n → (R r).2.1 ≤ 12)) ∧ w' = w := by
  have hm := h.2.1
  have hc0 := h.1
  unfold maxLen at hm
  go_enter Try.func34, Try.ntmps34
  go_wp2
  go_loopw [3] (fun i wr => ∃ k : Nat, k ≤ n ∧ i = .int .i64 k ∧ Hid (∀ r, r < k → (R r).2.1 ≤ 12) ∧ wr = w) (fun i _ => n - (intOf i).toNat)
  case atStart => exact ⟨0, Nat.zero_le _, rfl, (fun r hr => by omega), rfl⟩
  case round =>
    obtain ⟨k, hk, rfl, hs, rfl⟩ := hrel
    by_cases hlt : k < n
    · obtain ⟨b, off, rfl, hc⟩ := h.at_ (by omega)
      have c1 := hc.out k hlt
      have hrl : Hid ((R k).2.1 = (R k).2.1) := rfl
      obtain ⟨ra, hra⟩ : ∃ ra, ra = (R k).1 := ⟨_, rfl⟩
      obtain ⟨rn, hrn⟩ : ∃ rn, rn = (R k).2.1 := ⟨_, rfl⟩
      obtain ⟨rc, hrc⟩ : ∃ rc, rc = (R k).2.2.1 := ⟨_, rfl⟩
      rw [← hra, ← hrn, ← hrc] at c1
      have HRN := Lib.hid hrn
      clear hra hrn hrc hrl
      by_cases h12 : 12 < rn
      · have i12 : (12 : Int) < (rn : Int) := by omega
        go_wp2
        go_ret
        exact ⟨⟨true, rfl, by simp⟩, rfl⟩
      · go_wp2
        go_roundw
        case rel => exact ⟨k + 1, by omega, by go_num, (fun r hr => by
          by_cases e : r = k
          · rw [e, ← HRN.out]; omega
          · exact hs.out r (by omega)), trivial⟩
        case measure => simp [intOf]; omega
    · obtain rfl : k = n := by omega
      by_cases h12 : 12 < k
      · have HD : Hid (decide ((12 : Int) < (k : Int)) = true) := decide_eq_true (by omega)
        go_wp2
        go_ret
        exact ⟨⟨true, by first | rfl | (rw [HD.out]; rfl), by simp⟩, rfl⟩
      · have HD : Hid (decide ((12 : Int) < (k : Int)) = false) := decide_eq_false (by omega)
        go_wp2
        go_ret
        exact ⟨⟨false, by first | rfl | (rw [HD.out]; rfl), fun _ => ⟨by omega, hs.out⟩⟩, rfl⟩

set_option maxHeartbeats 2000000 in
theorem law_weights (a av ac : Option Addr) (n cap m capw nc cc : Nat) (l wt : List Int) (R : Nat → InRow) (w : World) (h : n ≤ 1027 → Ints w a n cap l) (hv : m ≤ 1027 → Ints w av m capw wt) (hc : IsRows w ac nc cc R) :
    Calls Try.prog 7 #[.slice a n cap, .slice av m capw, .slice ac nc cc] w fun e w' => e = .returned (.bool true) ∧ Below w.heap.size w w' := by
  go_enter Try.func7, Try.ntmps7
  go_wp2_with fail
  refine (great_any a n cap l w h).mono ?_
  rintro e w0 ⟨⟨g, rfl, hg⟩, d0⟩
  have D0 : Below w.heap.size w w0 := d0.below _
  cases g with
  | true =>
    clear hg
    go_wp2_with (go_at_call 11; refine (awake_any _).mono ?_; rintro e w' ⟨rfl, hb⟩)
    go_ret
    exact ⟨rfl, D0.trans (hb.mono D0.size)⟩
  | false =>
    have hn : n ≤ 1027 := by have := hg rfl; omega
    have i0 := (h hn).below D0
    clear hg h
    go_wp2_with fail
    refine (great_any av m capw wt w0 (fun hm => (hv hm).below D0)).mono ?_
    rintro e w1 ⟨⟨g, rfl, hg⟩, d1⟩
    have D1 := D0.trans (d1.below _)
    cases g with
    | true =>
      clear hg
      go_wp2_with (go_at_call 11; refine (awake_any _).mono ?_; rintro e w' ⟨rfl, hb⟩)
      go_ret
      exact ⟨rfl, D1.trans (hb.mono D1.size)⟩
    | false =>
      have hm : m ≤ 1027 := by have := hg rfl; omega
      have i1 := i0.drews d1
      have v1 := (hv hm).below D1
      have r1 := hc.below D1
      clear hg hv i0 hc d0 d1 D0
      go_wp2_with fail
      refine (greatlists_any ac nc cc R w1 r1).mono ?_
      rintro e w2 ⟨⟨g, rfl, hg⟩, rfl⟩
      cases g with
      | true =>
        clear hg
        go_wp2_with (go_at_call 11; refine (awake_any _).mono ?_; rintro e w' ⟨rfl, hb⟩)
        go_ret
        exact ⟨rfl, D1.trans (hb.mono D1.size)⟩
      | false =>
        obtain ⟨hnc, hrs⟩ := hg rfl
        have c1 := r1.intss (by omega) (fun r hr => by have := hrs r hr; omega)
        have hsm := r1.small hrs
        have HSM : Hid (∀ s ∈ listsOf nc R, s.length ≤ 2000) := fun s hs => by have := hsm s hs; omega
        clear hg hrs r1 hsm
        generalize listsOf nc R = cov at *
        have HV := Lib.hid (verify_any a av ac n cap m capw nc cc l wt cov)
        have HW := Lib.hid (ref_verify_any a av ac n cap m capw nc cc l wt cov)
        go_wp2_with fail
        refine (weighted_any a av n cap m capw l wt w2 i1 v1).mono ?_
        rintro e w3 ⟨a3, q3, c3, rfl, s3, b3⟩
        have D3 := D1.trans (b3.mono D1.size)
        have i3 := i1.below b3
        have v3 := v1.below b3
        have k3 := c1.below b3
        clear b3 i1 v1 c1 D1
        go_wp2_with fail
        refine (ref_weighted_any a av n cap m capw l wt w3 i3 v3).mono ?_
        rintro e w4 ⟨a4, q4, c4, rfl, s4, b4⟩
        have D4 := D3.trans (b4.mono D3.size)
        have i4 := i3.below b4
        have v4 := v3.below b4
        have k4 := k3.below b4
        replace s3 := s3.below b4
        clear b4 i3 v3 k3 D3
        generalize wSum l wt = W1 at *
        generalize wErr l wt = W2 at *
        go_wp2_with fail
        refine (equal_any a3 a4 q3 c3 q4 c4 _ _ w4 s3 s4).mono ?_
        rintro e w5 ⟨rfl, d5⟩
        rw [decide_eq_true rfl]
        have D5 := D4.trans (d5.below _)
        have i5 := i4.drews d5
        have v5 := v4.drews d5
        have k5 := k4.drews d5
        clear d5 i4 v4 k4 D4 s3 s4
        have e1 : (W1 == W1) = true := by simp
        have e2 : (W2 == W2) = true := by simp
        generalize verE l wt cov = V at *
        have e3 : (V == V) = true := by simp
        go_wp2_with fail
        refine (HV.out w5 i5 v5 k5).mono ?_
        rintro e w6 ⟨rfl, b6⟩
        have D6 := D5.trans (b6.mono D5.size)
        go_wp2_with fail
        refine (HW.out w6 (i5.below b6) (v5.below b6) (k5.below b6) HSM.out (by omega)).mono ?_
        rintro e w7 ⟨rfl, b7⟩
        have D7 := D6.trans (b7.mono D6.size)
        clear b6 b7 i5 v5 k5 D5
        go_wp2_with (go_at_call 11; refine (awake_any _).mono ?_; rintro e w' ⟨rfl, hb⟩)
        go_ret
        exact ⟨rfl, D7.trans (hb.mono D7.size)⟩
end Go.Proofs.Ytdkokpehcmcnpaa
