/- slices.Compare on []int; slices.ContainsFunc with the closure that looks for an index out of range. -/
import Derived.Test.YtdkokpehcmcnpaaPure7
import Derived.Test.YtdkokpehcmcnpaaWLib
namespace Go.Proofs.Ytdkokpehcmcnpaa
open Go.RowKit

def cmp1 (x y : Int) : Int := if x < y then -1 else if y < x then 1 else 0
theorem compare1_any (x y : Int) (w : World) : Calls Try.prog 54 #[.int .i64 x, .int .i64 y] w fun e w' => e = .returned (.int .i64 (cmp1 x y)) ∧ w' = w := by
  go_enter Try.func54, Try.ntmps54
  go_wp2_with fail
  refine (isnan_any _ _).mono ?_
  rintro e w1 ⟨rfl, rfl⟩
  go_wp2_with fail
  refine (isnan_any _ _).mono ?_
  rintro e w1 ⟨rfl, rfl⟩
  by_cases h1 : x < y
  · have e1 : Hid (cmp1 x y = -1) := if_pos h1
    go_wp2
    go_ret
    exact ⟨by rw [e1.out]; rfl, rfl⟩
  · by_cases h2 : y < x
    · have e1 : Hid (cmp1 x y = 1) := by show cmp1 x y = 1; rw [cmp1, if_neg h1, if_pos h2]
      go_wp2
      go_ret
      exact ⟨by rw [e1.out]; rfl, rfl⟩
    · have e1 : Hid (cmp1 x y = 0) := by show cmp1 x y = 0; rw [cmp1, if_neg h1, if_neg h2]
      go_wp2
      go_ret
      exact ⟨by rw [e1.out]; rfl, rfl⟩

theorem cmpL_lt' {l m : List Int} {k : Nat} (h1 : k < l.length) (h2 : k < m.length) (h : l[k]?.getD 0 < m[k]?.getD 0) : cmpL (l.drop k) (m.drop k) = -1 := by
  rw [List.drop_eq_getElem_cons h1, List.drop_eq_getElem_cons h2]
  rw [List.getElem?_eq_getElem h1, List.getElem?_eq_getElem h2] at h
  simp only [Option.getD_some] at h
  rw [cmpL, if_pos h]
theorem cmpL_gt' {l m : List Int} {k : Nat} (h1 : k < l.length) (h2 : k < m.length) (h : m[k]?.getD 0 < l[k]?.getD 0) : cmpL (l.drop k) (m.drop k) = 1 := by
  rw [List.drop_eq_getElem_cons h1, List.drop_eq_getElem_cons h2]
  rw [List.getElem?_eq_getElem h1, List.getElem?_eq_getElem h2] at h
  simp only [Option.getD_some] at h
  rw [cmpL, if_neg (by omega), if_pos h]
theorem cmpL_eq' {l m : List Int} {k : Nat} (h1 : k < l.length) (h2 : k < m.length) (h3 : ¬ l[k]?.getD 0 < m[k]?.getD 0) (h4 : ¬ m[k]?.getD 0 < l[k]?.getD 0) : cmpL (l.drop k) (m.drop k) = cmpL (l.drop (k + 1)) (m.drop (k + 1)) := by
  rw [List.drop_eq_getElem_cons h1, List.drop_eq_getElem_cons h2]
  rw [List.getElem?_eq_getElem h1, List.getElem?_eq_getElem h2] at h3 h4
  simp only [Option.getD_some] at h3 h4
  rw [cmpL, if_neg h3, if_neg h4]
theorem cmpL_more {l m : List Int} {k : Nat} (h1 : k < l.length) (h2 : m.length ≤ k) : cmpL (l.drop k) (m.drop k) = 1 := by
  rw [List.drop_eq_getElem_cons h1, List.drop_eq_nil_of_le h2]; rfl
theorem cmpL_less {l m : List Int} {k : Nat} (h1 : l.length ≤ k) (h2 : k < m.length) : cmpL (l.drop k) (m.drop k) = -1 := by
  rw [List.drop_eq_nil_of_le h1, List.drop_eq_getElem_cons h2]; rfl
theorem cmpL_same {l m : List Int} {k : Nat} (h1 : l.length ≤ k) (h2 : m.length ≤ k) : cmpL (l.drop k) (m.drop k) = 0 := by
  rw [List.drop_eq_nil_of_le h1, List.drop_eq_nil_of_le h2]; rfl

set_option maxHeartbeats 1000000 in
theorem compare_any (a a' : Option Addr) (n cap n' cap' : Nat) (l m : List Int) (w : World) (h : Ints w a n cap l) (h' : Ints w a' n' cap' m) :
    Calls Try.prog 33 #[.slice a n cap, .slice a' n' cap'] w fun e w' => e = .returned (.int .i64 (cmpL l m)) ∧ Drew w w' := by
  have H := Lib.hid h.len
  have H' := Lib.hid h'.len
  have h8 := h.bound
  have h9 := h'.bound
  go_enter Try.func33, Try.ntmps33
  go_wp2
  go_loopw [11] (fun i wr => ∃ k : Nat, k ≤ n ∧ k ≤ n' ∧ i = .int .i64 k ∧ Hid (cmpL l m = cmpL (l.drop k) (m.drop k)) ∧ Drew w wr) (fun i _ => n - (intOf i).toNat)
  case atStart => exact ⟨0, Nat.zero_le _, Nat.zero_le _, rfl, rfl, Drew.refl _⟩
  case round =>
    obtain ⟨k, hk, hk', rfl, hs, hq⟩ := hrel
    by_cases hlt : k < n
    · obtain ⟨b, off, rfl, -, hc⟩ := (h.drews hq).at_ (by omega)
      have c1 := hc.out k (by omega)
      by_cases hlt' : k < n'
      · obtain ⟨b', off', rfl, -, hc'⟩ := (h'.drews hq).at_ (by omega)
        have c2 := hc'.out k (by omega)
        by_cases h1 : l[k]?.getD 0 < m[k]?.getD 0
        · have e1 : Hid (cmp1 (l[k]?.getD 0) (m[k]?.getD 0) = -1) := if_pos h1
          have e2 : Hid (cmpL l m = -1) := hs.out.trans (cmpL_lt' (by rw [← H.out]; exact hlt) (by rw [← H'.out]; exact hlt') h1)
          go_wp2_with (go_at_call 54; refine (compare1_any _ _ _).mono ?_; rintro e w' ⟨rfl, rfl⟩; rw [e1.out])
          go_ret
          exact ⟨by rw [e2.out]; rfl, hq⟩
        · by_cases h2 : m[k]?.getD 0 < l[k]?.getD 0
          · have e1 : Hid (cmp1 (l[k]?.getD 0) (m[k]?.getD 0) = 1) := by show cmp1 _ _ = 1; rw [cmp1, if_neg h1, if_pos h2]
            have e2 : Hid (cmpL l m = 1) := hs.out.trans (cmpL_gt' (by rw [← H.out]; exact hlt) (by rw [← H'.out]; exact hlt') h2)
            go_wp2_with (go_at_call 54; refine (compare1_any _ _ _).mono ?_; rintro e w' ⟨rfl, rfl⟩; rw [e1.out])
            go_ret
            exact ⟨by rw [e2.out]; rfl, hq⟩
          · have e1 : Hid (cmp1 (l[k]?.getD 0) (m[k]?.getD 0) = 0) := by show cmp1 _ _ = 0; rw [cmp1, if_neg h1, if_neg h2]
            have e2 : Hid (cmpL l m = cmpL (l.drop (k + 1)) (m.drop (k + 1))) := hs.out.trans (cmpL_eq' (by rw [← H.out]; exact hlt) (by rw [← H'.out]; exact hlt') h1 h2)
            go_wp2_with (go_at_call 54; refine (compare1_any _ _ _).mono ?_; rintro e w' ⟨rfl, rfl⟩; rw [e1.out])
            go_roundw
            case rel => exact ⟨k + 1, by omega, by omega, by go_num, e2.out, hq⟩
            case measure => simp [intOf]; omega
      · have e2 : Hid (cmpL l m = 1) := hs.out.trans (cmpL_more (by rw [← H.out]; exact hlt) (by rw [← H'.out]; omega))
        go_wp2
        go_ret
        exact ⟨by rw [e2.out]; rfl, hq⟩
    · by_cases hlt' : n < n'
      · have e2 : Hid (cmpL l m = -1) := hs.out.trans (cmpL_less (by rw [← H.out]; omega) (by rw [← H'.out]; omega))
        go_wp2
        go_ret
        exact ⟨by rw [e2.out]; rfl, hq⟩
      · have e2 : Hid (cmpL l m = 0) := hs.out.trans (cmpL_same (by rw [← H.out]; omega) (by rw [← H'.out]; omega))
        go_wp2
        go_ret
        exact ⟨by rw [e2.out]; rfl, hq⟩

theorem outside_any (bl : Nat) (a : Option Addr) (n cap : Nat) (x : Int) (w : World) (hbl : w.cell? ⟨bl, 0, none⟩ = some (.slice a n cap)) (h0 : 0 ≤ x) (h1 : x < n) :
    Calls Try.prog 31 #[.int .i64 x, .pointer (some ⟨bl, 0, none⟩)] w fun e w' => e = .returned (.bool false) ∧ w' = w := by
  have d0 : decide (x < 0) = false := decide_eq_false (by omega)
  have d1 : decide ((n : Int) ≤ x) = false := decide_eq_false (by omega)
  go_enter Try.func31, Try.ntmps31
  go_wp2
  go_ret
  exact ⟨rfl, rfl⟩

set_option maxHeartbeats 400000 in
theorem indexfunc_outside (bl : Nat) (a ab : Option Addr) (n cap q c : Nat) (b : List Int) (w : World) (hb : Ints w ab q c b) (hbl : w.cell? ⟨bl, 0, none⟩ = some (.slice a n cap))
    (hin : ∀ j, j < q → 0 ≤ b[j]?.getD 0 ∧ b[j]?.getD 0 < n) :
    Calls Try.prog 53 #[.slice ab q c, .func (.func 31) #[] #[.pointer (some ⟨bl, 0, none⟩)]] w fun e w' => e = .returned (.int .i64 (-1)) ∧ w' = w := by
  have HIN := Lib.hid hin
  have h8 := hb.bound
  clear hin
  go_enter Try.func53, Try.ntmps53
  go_wp2
  go_loopw [8] (fun i wr => ∃ k : Nat, k ≤ q ∧ i = .int .i64 k ∧ wr = w) (fun i _ => q - (intOf i).toNat)
  case atStart => exact ⟨0, Nat.zero_le _, rfl, rfl⟩
  case round =>
    obtain ⟨k, hk, rfl, rfl⟩ := hrel
    by_cases hlt : k < q
    · obtain ⟨bb, off, rfl, -, hc⟩ := hb.at_ (by omega)
      have c1 := hc.out k (by omega)
      have F := Lib.hid (outside_any bl a n cap _ wr hbl (HIN.out k hlt).1 (HIN.out k hlt).2)
      go_wp2_with (go_at_call 31; refine F.out.mono ?_; rintro e w' ⟨rfl, rfl⟩)
      go_roundw
      case rel => exact ⟨k + 1, by omega, by go_num, trivial⟩
      case measure => simp [intOf]; omega
    · go_wp2
      go_ret
      exact ⟨rfl, rfl⟩
theorem contains_outside (bl : Nat) (a ab : Option Addr) (n cap q c : Nat) (b : List Int) (w : World) (hb : Ints w ab q c b) (hbl : w.cell? ⟨bl, 0, none⟩ = some (.slice a n cap))
    (hin : ∀ j, j < q → 0 ≤ b[j]?.getD 0 ∧ b[j]?.getD 0 < n) :
    Calls Try.prog 30 #[.slice ab q c, .func (.func 31) #[] #[.pointer (some ⟨bl, 0, none⟩)]] w fun e w' => e = .returned (.bool false) ∧ w' = w := by
  have F := Lib.hid (indexfunc_outside bl a ab n cap q c b w hb hbl hin)
  clear hin
  go_enter Try.func30, Try.ntmps30
  go_wp2_with (go_at_call 53; refine F.out.mono ?_; rintro e w' ⟨rfl, rfl⟩)
  go_ret
  exact ⟨rfl, rfl⟩
end Go.Proofs.Ytdkokpehcmcnpaa
