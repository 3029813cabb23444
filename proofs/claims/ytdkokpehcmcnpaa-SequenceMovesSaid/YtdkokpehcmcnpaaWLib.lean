/- cmp.Less, slices.IsSorted, slices.Clone and slices.Reverse on []int. -/
import Derived.Test.YtdkokpehcmcnpaaPure1
import Derived.Laws.AppendOwnNone
import Derived.BigRegion
namespace Go.Proofs.Ytdkokpehcmcnpaa
open Go.RowKit

theorem isnan_any (x : Int) (w : World) : Calls Try.prog 68 #[.int .i64 x] w fun e w' => e = .returned (.bool false) ∧ w = w' := by
  have h : (x != x) = false := by simp
  go_enter Try.func68, Try.ntmps68
  go_wp2
  go_ret
  exact ⟨rfl, rfl⟩
theorem less_any (x y : Int) (w : World) : Calls Try.prog 52 #[.int .i64 x, .int .i64 y] w fun e w' => e = .returned (.bool (decide (x < y))) ∧ w' = w := by
  go_enter Try.func52, Try.ntmps52
  go_wp2_with (go_at_call 68; refine (isnan_any _ _).mono ?_; rintro e w' ⟨rfl, rfl⟩)
  go_ret
  exact ⟨by simp, rfl⟩

/-- No element is less than the one before it. -/
def sortedB (l : List Int) : Bool := decide (∀ j, j < l.length → 0 < j → l[j - 1]?.getD 0 ≤ l[j]?.getD 0)

set_option maxHeartbeats 400000 in
theorem issorted_any (a : Option Addr) (n cap : Nat) (l : List Int) (w : World) (h : Ints w a n cap l) :
    Calls Try.prog 29 #[.slice a n cap] w fun e w' => e = .returned (.bool (sortedB l)) ∧ Drew w w' := by
  have HN := Lib.hid h.len
  have h8 := h.bound
  go_enter Try.func29, Try.ntmps29
  go_wp2
  go_loopw [3] (fun i wr => ∃ k : Nat, k ≤ n ∧ i = .int .i64 ((k : Int) - 1) ∧ Hid (∀ j, k ≤ j → j < n → 0 < j → l[j - 1]?.getD 0 ≤ l[j]?.getD 0) ∧ Drew w wr) (fun i _ => (intOf i).toNat)
  case atStart => exact ⟨n, Nat.le_refl _, rfl, fun j h1 h2 => by omega, Drew.refl _⟩
  case round =>
    obtain ⟨k, hk, rfl, hs, hq⟩ := hrel
    by_cases hk1 : 1 < k
    · obtain ⟨m, rfl⟩ : ∃ m, k = m + 1 := ⟨k - 1, by omega⟩
      rw [show ((m + 1 : Nat) : Int) - 1 = (m : Int) from by omega]
      have hm0 : 0 < m := by omega
      obtain ⟨b, off, rfl, -, hc⟩ := (h.drews hq).at_ (by omega)
      have c1 := hc.out m (by omega)
      have c2 := hc.out (m - 1) (by omega)
      clear hk1
      by_cases hx : l[m]?.getD 0 < l[m - 1]?.getD 0
      · have hno : Hid (sortedB l = false) := decide_eq_false fun hall => by have := hall m (by rw [← HN.out]; omega) hm0; omega
        go_wp2
        go_quiet ((go_at_call 52; exact Calls.quiet_of_same (less_any _ _ _)))
        go_wp2
        go_ret
        exact ⟨by rw [hno.out]; rfl, hq.drewN _⟩
      · have HX := Lib.hid (Int.not_lt.1 hx)
        go_wp2
        go_quiet ((go_at_call 52; exact Calls.quiet_of_same (less_any _ _ _)))
        go_wp2
        go_roundw
        case rel => exact ⟨m, by omega, rfl, fun j h1 h2 h3 => by
          by_cases e : j = m
          · rw [e]; exact HX.out
          · exact hs.out j (by omega) h2 h3, hq.drewN _⟩
        case measure => simp [intOf]; omega
    · have hyes : Hid (sortedB l = true) := decide_eq_true fun j h1 h2 => hs.out j (by omega) (by rw [HN.out]; exact h1) h2
      have hk2 : ¬ ((0 : Int) < (k : Int) - 1) := by omega
      go_wp2
      go_ret
      exact ⟨by rw [hyes.out]; rfl, hq⟩

set_option maxHeartbeats 400000 in
theorem clone_any (a : Option Addr) (n cap : Nat) (l : List Int) (w : World) (h : Ints w a n cap l) :
    Calls Try.prog 27 #[.slice a n cap] w fun e w' => ∃ (a' : Option Addr) (cap' : Nat), e = .returned (.slice a' n cap') ∧ OwnI w' w.heap.size a' n cap' l ∧ Below w.heap.size w w' := by
  have HN := Lib.hid h.len
  have h8 := h.bound
  have hq : ∀ (w : World) (ad : Option Addr) (p q : Nat), (binOp .eql 22 (.slice ad p q) (.slice none 0 0)).run Try.prog w = .ok (.bool ad.isNone) w := fun w ad p q => Lib.run_eql_slice_nil w _ _ ad p q 0 0 Try.underlying22
  obtain ⟨i0, hi, hz0, hz1, hz2⟩ := info_parts Try.infoInt
  cases a with
  | none =>
    have hn0 : n = 0 := by
      rcases Nat.eq_zero_or_pos n with h0 | h0
      · exact h0
      · obtain ⟨b, off, e, _⟩ := h.at_ h0; cases e
    subst hn0
    have hl : Hid (l = []) := List.eq_nil_of_length_eq_zero HN.out.symm
    go_enter Try.func27, Try.ntmps27
    go_wp2
    go_ret
    exact ⟨none, 0, rfl, by rw [hl.out]; exact OwnI.nil _ _, Below.refl _ _⟩
  | some x =>
    have hnews : Hid (∀ j u, (l.map (Value.int .i64))[j]? = some u → (w.alloc (.cells #[] 3)).cell? (x.add j) = some u) := by
      intro j u hu
      have hj : j < l.length := by simpa using (List.getElem?_eq_some_iff.1 hu).1
      obtain ⟨b, off, e, hb, hc⟩ := h.at_ (by rw [HN.out]; omega)
      cases e
      rw [Addr.add_lit, World.cell?_alloc_past _ _ _ hb, hc.out j (by rw [HN.out]; exact hj)]
      rw [List.getElem?_map] at hu
      rw [List.getElem?_eq_getElem hj] at hu ⊢
      simpa using hu
    go_enter Try.func27, Try.ntmps27
    go_wp2_with (at_builtin; refine wpList_append_own _ rfl _ _ 22 rfl w.heap.size 3 i0 (.int .i64 0) 1 8 Try.underlying22 hi hz0 hz1 hz2 rfl (by decide) _ _ _ rfl (World.ownsRow_made w #[] 0 (Nat.le_refl _) (Nat.zero_le _) rfl) x n cap (l.map (Value.int .i64)) rfl (by simp [HN.out]) hnews.out (ints_oneCell _ _) (by unfold maxLen; omega) (by omega) (by simp) ?_; intro v' w1 hown' hgrow _; obtain ⟨a', cap', rfl, hO⟩ := OwnI.appended (l := []) (m := l) (n := 0) (by rw [← HN.out]; exact hown') rfl)
    go_ret
    rw [← HN.out, Nat.zero_add] at hO
    exact ⟨a', cap', by rw [HN.out]; rfl, hO, ((Below.refl _ w).alloc (Nat.le_refl _) _).grown hgrow (by simp) (fun k e => by cases e; exact Nat.le_refl _)⟩

/-- The list with its first k and last k elements exchanged. -/
def swapped (l : List Int) (k : Nat) : List Int := (List.range l.length).map fun t => if t < k ∨ l.length - k ≤ t then l[l.length - 1 - t]?.getD 0 else l[t]?.getD 0
theorem swapped_length (l : List Int) (k : Nat) : (swapped l k).length = l.length := by simp [swapped]
theorem swapped_at {l : List Int} {k t : Nat} (ht : t < l.length) : (swapped l k)[t]?.getD 0 = if t < k ∨ l.length - k ≤ t then l[l.length - 1 - t]?.getD 0 else l[t]?.getD 0 := by
  simp [swapped, ht]
theorem ext_getD {l m : List Int} (h1 : l.length = m.length) (h : ∀ j, j < l.length → l[j]?.getD 0 = m[j]?.getD 0) : l = m := by
  apply List.ext_getElem h1
  intro i a b
  have := h i a
  simpa [List.getElem?_eq_getElem, a, b] using this
theorem swapped_zero (l : List Int) : swapped l 0 = l := by
  apply ext_getD (swapped_length _ _)
  intro j hj
  rw [swapped_length] at hj
  rw [swapped_at hj, if_neg (by omega)]
theorem swapped_end {l : List Int} {k : Nat} (h : l.length ≤ 2 * k + 1) : swapped l k = l.reverse := by
  apply ext_getD (by simp [swapped_length])
  intro j hj
  rw [swapped_length] at hj
  have hr : l.reverse[j]?.getD 0 = l[l.length - 1 - j]?.getD 0 := by rw [List.getElem?_reverse hj]
  rw [swapped_at hj, hr]
  split
  · rfl
  · congr 2; omega
theorem swapped_step {l : List Int} {k : Nat} (h : k < l.length - 1 - k) : ((swapped l k).set k (l[l.length - 1 - k]?.getD 0)).set (l.length - 1 - k) (l[k]?.getD 0) = swapped l (k + 1) := by
  apply ext_getD (by simp [swapped_length])
  intro j hj
  simp only [List.length_set, swapped_length] at hj
  rw [swapped_at hj]
  by_cases e : j = l.length - 1 - k
  · rw [e, List.getElem?_set_self (by simp [swapped_length]; omega), if_pos (by omega)]
    simp only [Option.getD_some]
    congr 2; omega
  · rw [List.getElem?_set_ne (by omega)]
    by_cases e2 : j = k
    · rw [e2, List.getElem?_set_self (by simp [swapped_length]; omega), if_pos (by omega)]
      rfl
    · rw [List.getElem?_set_ne (by omega), swapped_at hj]
      by_cases c : j < k ∨ l.length - k ≤ j
      · rw [if_pos c, if_pos (by omega)]
      · rw [if_neg c, if_neg (by omega)]

set_option maxHeartbeats 1000000 in
theorem reverse_any (g n cap : Nat) (B : Nat) (l : List Int) (w : World) (h : OwnI w B (some ⟨g, 0, none⟩) n cap l) (h8 : n * 8 ≤ 140737488355328) :
    Calls Try.prog 28 #[.slice (some ⟨g, 0, none⟩) n cap] w fun e w' => e = .returned (.tuple #[]) ∧ OwnI w' B (some ⟨g, 0, none⟩) n cap l.reverse ∧ w.grownBy w' (some g) := by
  have HN := Lib.hid h.len
  go_enter Try.func28, Try.ntmps28
  go_wp2
  go_loopw [2, 3] (fun i j wr => ∃ k : Nat, 2 * k ≤ n ∧ i = .int .i64 (k : Int) ∧ j = .int .i64 ((n : Int) - 1 - (k : Int)) ∧ OwnI wr B (some ⟨g, 0, none⟩) n cap (swapped l k) ∧ w.grownBy wr (some g)) (fun i _ _ => n - (intOf i).toNat)
  case atStart => exact ⟨0, by omega, rfl, by go_num, by rw [swapped_zero]; exact h, World.grownBy.refl _ _⟩
  case round =>
    obtain ⟨k, hk, rfl, rfl, ho, hg⟩ := hrel
    by_cases hlt : 2 * k + 1 < n
    · obtain ⟨m, hm⟩ : ∃ m, n - 1 - k = m := ⟨_, rfl⟩
      have hkm : k < m := by omega
      have hmn : m < n := by omega
      rw [show (n : Int) - 1 - (k : Int) = (m : Int) from by omega]
      have c1 := ho.cell k (by omega)
      have c2 := ho.cell m (by omega)
      have f1 := ho.free k
      have f2 := ho.free m
      have hkn : k < n := by omega
      rw [swapped_at (by rw [← HN.out]; omega), if_neg (by rw [← HN.out]; omega)] at c1
      rw [swapped_at (by rw [← HN.out]; omega), if_neg (by rw [← HN.out]; omega)] at c2
      have HM := Lib.hid hm
      clear hm
      go_wp2
      go_region
      go_wp2
      go_roundw
      case rel =>
        have e := swapped_step (l := l) (k := k) (by have := HN.out; have := HM.out; omega)
        have hm' : l.length - 1 - k = m := by rw [← HN.out]; exact HM.out
        rw [hm'] at e
        have o1 := ho.stored k (l[m]?.getD 0)
        have o2 := o1.stored m (l[k]?.getD 0)
        have g2 : wr.grownBy ((wr.setCell ⟨g, k, none⟩ (.int .i64 (l[m]?.getD 0))).setCell ⟨g, m, none⟩ (.int .i64 (l[k]?.getD 0))) (some g) := (ho.2.stored k _).2.trans (o1.2.stored m _).2
        exact ⟨k + 1, by have := HM.out; omega, by go_num, by have := HM.out; go_num, by rw [← e]; exact o2.drew, (hg.trans g2).trans ⟨rfl, rfl, rfl, Nat.le_refl _, fun _ _ _ => rfl⟩⟩
      case measure => simp [intOf]; omega
    · have e := swapped_end (l := l) (k := k) (by rw [← HN.out]; omega)
      have hk2 : ¬ ((k : Int) < (n : Int) - 1 - (k : Int)) := by omega
      go_wp2
      go_end0
      exact ⟨rfl, by rw [← e]; exact ho, hg⟩
end Go.Proofs.Ytdkokpehcmcnpaa
