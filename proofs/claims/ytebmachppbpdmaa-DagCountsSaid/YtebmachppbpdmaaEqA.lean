/- slices.Equal on []int. -/
import Derived.Test.YtebmachppbpdmaaDBase
namespace Go.Proofs.Ytebmachppbpdmaa
open Go.RowKit

theorem eq_of_upto {l m : List Int} {n : Nat} (h1 : n = l.length) (h2 : n = m.length) (h : ∀ j, j < n → l[j]?.getD 0 = m[j]?.getD 0) : l = m := by
  apply List.ext_getElem (by omega)
  intro i a b
  have := h i (by omega)
  simpa [List.getElem?_eq_getElem, a, b] using this
theorem ne_of_at {l m : List Int} {j : Nat} (h : ¬ l[j]?.getD 0 = m[j]?.getD 0) : l ≠ m := fun e => h (by rw [e])
theorem ne_of_len {α : Type} {l m : List α} {a b : Nat} (h1 : a = l.length) (h2 : b = m.length) (h : ¬ a = b) : l ≠ m := fun e => h (by rw [h1, h2, e])
theorem eqs_of_upto {l m : List (List Int)} {n : Nat} (h1 : n = l.length) (h2 : n = m.length) (h : ∀ j, j < n → l[j]?.getD [] = m[j]?.getD []) : l = m := by
  apply List.ext_getElem (by omega)
  intro i a b
  have := h i (by omega)
  simpa [List.getElem?_eq_getElem, a, b] using this

set_option maxHeartbeats 400000 in
theorem equal_any (a a' : Option Addr) (n cap n' cap' : Nat) (l m : List Int) (w : World) (h : Ints w a n cap l) (h' : Ints w a' n' cap' m) :
    Calls Try.prog 23 #[.slice a n cap, .slice a' n' cap'] w fun e w' => e = .returned (.bool (decide (l = m))) ∧ Drew w w' := by
  have H := Lib.hid h.len
  have H' := Lib.hid h'.len
  by_cases hn : n = n'
  · subst hn
    have hb := h.bound
    go_enter Try.func23, Try.ntmps23
    go_wp2
    go_loopw [13] (fun i wr => ∃ k : Nat, k ≤ n ∧ i = .int .i64 k ∧ Hid (∀ j, j < k → l[j]?.getD 0 = m[j]?.getD 0) ∧ Drew w wr) (fun i _ => n - (intOf i).toNat)
    case atStart => exact ⟨0, Nat.zero_le _, rfl, fun j hj => by omega, Drew.refl _⟩
    case round =>
      obtain ⟨k, hk, rfl, hs, hq⟩ := hrel
      by_cases hlt : k < n
      · obtain ⟨b, off, rfl, -, hc⟩ := (h.drews hq).at_ (by omega)
        obtain ⟨b', off', rfl, -, hc'⟩ := (h'.drews hq).at_ (by omega)
        have c1 := hc.out k (by omega)
        have c2 := hc'.out k (by omega)
        by_cases he : l[k]?.getD 0 = m[k]?.getD 0
        · have he1 : (l[k]?.getD 0 == m[k]?.getD 0) = true := by simp [he]
          have HE := Lib.hid he
          clear he
          have he2 : (l[k]?.getD 0 != m[k]?.getD 0) = false := by simp [HE.out]
          go_wp2
          go_quiet (fail)
          go_wp2
          go_roundw
          case rel => exact ⟨k + 1, by omega, by go_num, fun j hj => by
            by_cases hj' : j = k
            · rw [hj']; exact HE.out
            · exact hs.out j (by omega), hq.drewN _⟩
          case measure => simp [intOf]; omega
        · have he1 : (l[k]?.getD 0 == m[k]?.getD 0) = false := by simp [he]
          have he2 : (l[k]?.getD 0 != m[k]?.getD 0) = true := by simp [he]
          have hne := Lib.hid (ne_of_at he)
          clear he
          go_wp2
          go_quiet (fail)
          go_wp2
          go_ret
          exact ⟨by simp [hne.out], hq.drewN _⟩
      · go_wp2
        go_ret
        obtain rfl : k = n := by omega
        exact ⟨by simp [eq_of_upto H.out H'.out hs.out], hq⟩
  · have hne : Hid (l ≠ m) := ne_of_len H.out H'.out hn
    have h1 : ((n : Int) == n') = false := by simp; omega
    have h2 : ((n : Int) != n') = true := by simp; omega
    go_enter Try.func23, Try.ntmps23
    go_wp2
    go_ret
    exact ⟨by simp [hne.out], Drew.refl _⟩

end Go.Proofs.Ytebmachppbpdmaa
