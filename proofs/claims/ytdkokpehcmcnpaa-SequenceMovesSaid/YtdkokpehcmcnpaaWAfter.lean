/- sequence.best$1: the greatest sum that may follow index i. -/
import Derived.Test.YtdkokpehcmcnpaaPure2
namespace Go.Proofs.Ytdkokpehcmcnpaa
open Go.RowKit

set_option maxHeartbeats 400000 in
theorem after_any (bl bv bs : Nat) (a : Option Addr) (n cap i : Nat) (l S : List Int) (w : World) (h : Ints w a n cap l) (hi : i < n)
    (hbl : w.cell? ⟨bl, 0, none⟩ = some (.slice a n cap)) (hbv : w.cell? ⟨bv, 0, none⟩ = some (.slice (some ⟨bs, 0, none⟩) n n))
    (hS : ∀ j, j < n → w.cell? ⟨bs, j, none⟩ = some (.int .i64 (S[j]?.getD 0))) :
    Calls Try.prog 66 #[.int .i64 i, .pointer (some ⟨bl, 0, none⟩), .pointer (some ⟨bv, 0, none⟩)] w fun e w' => e = .returned (.int .i64 (aft l S i (l.length - 1 - i))) ∧ Drew w w' := by
  have H := Lib.hid h.len
  have HS := Lib.hid hS
  clear hS
  have hb := h.bound
  go_enter Try.func66, Try.ntmps66
  go_wp2
  go_loopw [5, 6] (fun m k wr => ∃ c : Nat, i + 1 + c ≤ n ∧ k = .int .i64 (i + 1 + c : Nat) ∧ m = .int .i64 (aft l S i c) ∧ Drew w wr) (fun _ k _ => n - (intOf k).toNat)
  case atStart => exact ⟨0, by omega, by go_num, rfl, Drew.refl _⟩
  case round =>
    obtain ⟨c, hc, rfl, rfl, hq⟩ := hrel
    have h1 := hq.below w.heap.size
    have hbl' := cell_later h1 hbl
    have hbv' := cell_later h1 hbv
    clear hbl hbv
    obtain ⟨k, hk⟩ : ∃ k, k = i + 1 + c := ⟨_, rfl⟩
    rw [← hk]
    have HK := Lib.hid hk
    have hik : i < k := by omega
    have hkn : k ≤ n := by omega
    clear hk hc
    by_cases hlt : k < n
    · obtain ⟨b, off, rfl, -, hcl⟩ := (h.drews hq).at_ (by omega)
      have c1 := hcl.out i (by omega)
      have c2 := hcl.out k (by omega)
      have c3 := cell_later h1 (HS.out k (by omega))
      by_cases hx : l[i]?.getD 0 < l[k]?.getD 0
      · have e1 : Hid (aft l S i (c + 1) = max (aft l S i c) (S[k]?.getD 0)) := by have := HK.out; subst this; exact aft_yes hx
        go_wp2
        go_quiet (fail)
        go_wp2
        go_roundw
        case rel => exact ⟨c + 1, by have := HK.out; omega, by have := HK.out; go_num, by rw [e1.out, go_max], hq.drewN _⟩
        case measure => simp [intOf]; omega
      · have e1 : Hid (aft l S i (c + 1) = aft l S i c) := by have := HK.out; subst this; exact aft_no hx
        go_wp2
        go_quiet (fail)
        go_wp2
        go_roundw
        case rel => exact ⟨c + 1, by have := HK.out; omega, by have := HK.out; go_num, by rw [e1.out], hq.drewN _⟩
        case measure => simp [intOf]; omega
    · go_wp2
      go_ret
      have e : l.length - 1 - i = c := by have := HK.out; have := H.out; omega
      exact ⟨by rw [e]; rfl, hq⟩
end Go.Proofs.Ytdkokpehcmcnpaa
