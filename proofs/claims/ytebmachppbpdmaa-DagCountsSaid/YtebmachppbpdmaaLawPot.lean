/- DagPotentials. -/
import Derived.Test.YtebmachppbpdmaaDAwk
import Derived.Test.YtebmachppbpdmaaDRow
namespace Go.Proofs.Ytebmachppbpdmaa
open Go.RowKit

theorem chk2_of {k : Nat} {ll : List Lk} (hc : chkE k ll = 0) {s t : Nat} (hs : s < k) (ht : t < k) : chk2 k ll s t = 0 := by
  unfold chk2
  rw [if_neg (by omega), if_neg (by omega)]
theorem sh_at {k : Nat} {ll : List Lk} (hc : chkE k ll = 0) {s t : Nat} (hs : s < k) (ht : t < k) :
    shErr k ll s t = (if (pots ll k t)[s]?.getD 0 < 0 then 6 else 0) ∧ shCost k ll s t = max 0 ((pots ll k t)[s]?.getD 0) := by
  have h := chk2_of hc hs ht
  unfold shErr shCost
  rw [if_pos h, if_pos h]
  exact ⟨rfl, rfl⟩
set_option maxHeartbeats 1000000 in
theorem law_pot_no (n : Int) (a : Option Addr) (m cap : Nat) (ll : List Lk) (t : Int) (w : World) (hl : ll.length = m) (h8 : m ≤ 9223372036854775807) (h : m * 24 ≤ 140737488355328 → Links w a m cap ll) (hf : fineB n ll = false) :
    Calls Try.prog 3 #[.int .i64 n, .slice a m cap, .int .u8 t] w fun e w' => e = .returned (.bool true) ∧ Below w.heap.size w w' := by
  have F := Lib.hid (fine_no n a m cap ll t t w hl h8 h hf)
  clear hf hl h8 h
  go_enter Try.func3, Try.ntmps3
  go_wp2_with (first | (go_at_call 11; refine F.out.mono ?_; rintro e w1 ⟨rfl, b1⟩) | (go_at_call 12; refine (awake_any _).mono ?_; rintro e w2 ⟨rfl, b2⟩))
  go_ret
  exact ⟨rfl, b1.trans (b2.mono b1.size)⟩
set_option maxHeartbeats 1000000 in
theorem law_pot (k : Nat) (a : Option Addr) (m cap : Nat) (ll : List Lk) (t : Nat) (w : World) (h : Links w a m cap ll) (hf : fineB k ll = true) (ht : t < 256) :
    Calls Try.prog 3 #[.int .i64 k, .slice a m cap, .int .u8 t] w fun e w' => e = .returned (.bool true) ∧ Below w.heap.size w w' := by
  have F := Lib.hid (fine_yes k a m cap ll t t w h hf ht ht)
  obtain ⟨k', e, hk1, hk2, hll, hv, hc⟩ := fineB_ok hf
  obtain rfl : k = k' := by omega
  clear e hf
  have hb : t % k < k := Nat.mod_lt _ (by omega)
  generalize t % k = b at *
  clear ht
  have hW : Hid (Within (pots ll k b) 4398046511105) := pots_within hv (by omega) hb
  have hP : Hid ((pots ll k b).length = k) := (pots_ok hv hb).len
  have HC := Lib.hid hc
  have HV : Hid (Valid k ll) := hv
  have hcb := chk2_of hc hb hb
  clear hc hv
  have hbi : I64 (b : Int) := I64.small (by omega) (by omega)
  go_enter Try.func3, Try.ntmps3
  go_wp2_with (go_at_call 11; refine F.out.mono ?_; rintro e w1 ⟨rfl, b1⟩)
  refine (potentials_any k a m cap b ll w1 (h.below b1) hbi).mono ?_
  rintro e w2 ⟨a2, q2, c2, rfl, i2, b2⟩
  rw [hcb] at i2 ⊢
  rw [if_pos rfl] at i2
  replace i2 : Ints w2 a2 q2 c2 (pots ll k b) := i2
  have hq : q2 = k := by rw [i2.len]; exact hP.out
  subst hq
  have b3 := b1.trans (b2.mono b1.size)
  have hsz3 := b3.size
  have h3 := h.below b3
  clear b1 b2 F h
  generalize hpe : pots ll q2 b = p at *
  have HPE := Lib.hid hpe
  clear hpe
  go_wp2
  go_loopw [46] (fun i wr => ∃ j : Nat, j ≤ q2 ∧ i = .int .i64 j ∧ Below w2.heap.size w2 wr) (fun i _ => q2 - (intOf i).toNat)
  case atStart => exact ⟨0, Nat.zero_le _, rfl, Below.refl _ _⟩
  case round =>
    obtain ⟨j, hj, rfl, hB⟩ := hrel
    by_cases hlt : j < q2
    · have hI := i2.below hB
      obtain ⟨g, off, rfl, -, hcr⟩ := hI.at_ (by omega)
      have c4 := hcr.out j hlt
      have hS := Lib.hid (shortest_any q2 a m cap j b ll wr (h3.below hB) (I64.small (by omega) (by omega)) hbi)
      obtain ⟨z1, z2⟩ := sh_at HC.out hlt hb
      rw [HPE.out] at z1 z2
      rw [z1, z2] at hS
      have hw := hW.out j
      clear z1 z2
      generalize p[j]?.getD 0 = x at *
      by_cases hx : x < 0
      · have e0 : x = -1 := by omega
        subst e0
        rw [if_pos (by decide), show max (0 : Int) (-1) = 0 from rfl] at hS
        go_wp2_with (go_at_call 14; refine hS.out.mono ?_; rintro e w4 ⟨a4, q4, c4', r4, rfl, i4, s4, b4⟩)
        go_roundw
        case rel => exact ⟨j + 1, by omega, by go_num, hB.trans (b4.mono hB.size)⟩
        case measure => simp [intOf]; omega
      · rw [if_neg hx, show max (0 : Int) x = x by omega] at hS
        have e0 : (x == x) = true := by simp
        go_wp2_with (go_at_call 14; refine hS.out.mono ?_; rintro e w4 ⟨a4, q4, c4', r4, rfl, i4, s4, b4⟩)
        go_roundw
        case rel => exact ⟨j + 1, by omega, by go_num, hB.trans (b4.mono hB.size)⟩
        case measure => simp [intOf]; omega
    · go_wp2_with (go_at_call 12; refine (awake_any _).mono ?_; rintro e w5 ⟨rfl, b5⟩)
      go_ret
      exact ⟨rfl, b3.trans ((hB.trans (b5.mono hB.size)).mono hsz3)⟩
theorem law_pot_all (n : Int) (a : Option Addr) (m cap : Nat) (ll : List Lk) (t : Int) (w : World) (h : LRow w a m cap ll) (ht : 0 ≤ t ∧ t ≤ 255) :
    Calls Try.prog 3 #[.int .i64 n, .slice a m cap, .int .u8 t] w fun e w' => e = .returned (.bool true) ∧ Below w.heap.size w w' := by
  obtain ⟨t', rfl⟩ : ∃ t' : Nat, t = (t' : Int) := ⟨t.toNat, by omega⟩
  by_cases hf : fineB n ll = true
  · obtain ⟨k, rfl, _, _, hll, _⟩ := fineB_ok hf
    exact law_pot k a m cap ll t' w (h.2.2 (by have := h.2.1; omega)) hf (by omega)
  · exact law_pot_no n a m cap ll t' w h.2.1 h.1 h.2.2 (by simpa using hf)
end Go.Proofs.Ytebmachppbpdmaa
