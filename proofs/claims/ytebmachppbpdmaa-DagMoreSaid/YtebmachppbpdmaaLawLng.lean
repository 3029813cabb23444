/- DagLongest. -/
import Derived.Test.YtebmachppbpdmaaLawPot
import Derived.Test.YtebmachppbpdmaaDPure5
namespace Go.Proofs.Ytebmachppbpdmaa
open Go.RowKit

theorem long_at {k : Nat} {ll : List Lk} (hc : chkE k ll = 0) {s t : Nat} (hs : s < k) (ht : t < k) :
    longE k ll s t = (if (longs ll k t)[s]?.getD 0 < 0 then 6 else 0) ∧ longN k ll s t = max 0 ((longs ll k t)[s]?.getD 0) := by
  have h := chk2_of hc hs ht
  unfold longE longN
  rw [if_pos h, if_pos h]
  exact ⟨rfl, rfl⟩
theorem longs_ok {n : Nat} {ll : List Lk} (hv : Valid n ll) {t : Nat} (ht : t < n) : FoldOk longW ll n t 0 (longs ll n t) := foldL_ok hv ht
theorem longs_within {n : Nat} {ll : List Lk} (hv : Valid n ll) (hn : n ≤ 4096) {t : Nat} (ht : t < n) : Within (longs ll n t) 4398046511105 := fold_small longW_tame hv hn ht ⟨by omega, by omega⟩
theorem small_nat {k : Nat} (h : k ≤ 4096) : I64 (k : Int) := I64.small (by omega) (by omega)
set_option maxHeartbeats 1000000 in
theorem law_long_no (n : Int) (a : Option Addr) (m cap : Nat) (ll : List Lk) (s t : Int) (w : World) (hl : ll.length = m) (h8 : m ≤ 9223372036854775807) (h : m * 24 ≤ 140737488355328 → Links w a m cap ll) (hf : fineB n ll = false) :
    Calls Try.prog 4 #[.int .i64 n, .slice a m cap, .int .u8 s, .int .u8 t] w fun e w' => e = .returned (.bool true) ∧ Below w.heap.size w w' := by
  have F := Lib.hid (fine_no n a m cap ll s t w hl h8 h hf)
  clear hf hl h8 h
  go_enter Try.func4, Try.ntmps4
  go_wp2_with (first | (go_at_call 11; refine F.out.mono ?_; rintro e w1 ⟨rfl, b1⟩) | (go_at_call 12; refine (awake_any _).mono ?_; rintro e w2 ⟨rfl, b2⟩))
  go_ret
  exact ⟨rfl, b1.trans (b2.mono b1.size)⟩
set_option maxRecDepth 10000 in
set_option maxHeartbeats 4000000 in
theorem law_long (k : Nat) (a : Option Addr) (m cap : Nat) (ll : List Lk) (s t : Nat) (w : World) (h : Links w a m cap ll) (hf : fineB k ll = true) (hs : s < 256) (ht : t < 256) :
    Calls Try.prog 4 #[.int .i64 k, .slice a m cap, .int .u8 s, .int .u8 t] w fun e w' => e = .returned (.bool true) ∧ Below w.heap.size w w' := by
  have F := Lib.hid (fine_yes k a m cap ll s t w h hf hs ht)
  obtain ⟨k', e, hk1, hk2, hll, hv, hc⟩ := fineB_ok hf
  obtain rfl : k = k' := by omega
  clear e hf
  have ha : s % k < k := Nat.mod_lt _ (by omega)
  have hb : t % k < k := Nat.mod_lt _ (by omega)
  generalize s % k = u at *
  generalize t % k = b at *
  clear hs ht
  have hWL : Hid (Within (longs ll k b) 4398046511105) := longs_within hv (by omega) hb
  have hOL : Hid (FoldOk longW ll k b 0 (longs ll k b)) := longs_ok hv hb
  have hPL := pot_long hv (pots_ok hv hb) (longs_ok hv hb) ha
  have HC := Lib.hid hc
  have HV : Hid (Valid k ll) := hv
  have H := Lib.hid h.len
  obtain ⟨l1, l2⟩ := long_at hc ha hb
  obtain ⟨z1, z2⟩ := sh_at hc ha hb
  have HLA : Hid (∀ s, s < k → longE k ll s b = (if (longs ll k b)[s]?.getD 0 < 0 then 6 else 0) ∧ longN k ll s b = max 0 ((longs ll k b)[s]?.getD 0)) := fun s hs => long_at hc hs hb
  clear hc hv
  have hui : I64 (u : Int) := small_nat (by omega)
  have hbi : I64 (b : Int) := small_nat (by omega)
  have G1 : Hid (∀ w', Below w.heap.size w w' → Calls Try.prog 15 #[.int .i64 k, .slice a m cap, .int .i64 u, .int .i64 b] w' fun e w'' => e = .returned (.tuple #[.int .i64 (longN k ll u b), .int .i64 (longE k ll u b)]) ∧ Below w'.heap.size w' w'') := fun w' hb' => longest_any k a m cap u b ll w' (h.below hb') hui hbi
  have G2 : Hid (∀ w', Below w.heap.size w w' → Calls Try.prog 14 #[.int .i64 k, .slice a m cap, .int .i64 u, .int .i64 b] w' fun e w'' => ∃ (a' : Option Addr) (q c' : Nat), e = .returned (.tuple #[.slice a' q c', .int .i64 (shCost k ll u b), .int .i64 (shErr k ll u b)]) ∧ Below w'.heap.size w' w'') := fun w' hb' => (shortest_any k a m cap u b ll w' (h.below hb') hui hbi).mono (fun _ _ ⟨a', q, c', _, e, _, _, bb⟩ => ⟨a', q, c', e, bb⟩)
  have G3 : Hid (∀ (j : Nat) w', j ≤ 4096 → Below w.heap.size w w' → Calls Try.prog 15 #[.int .i64 k, .slice a m cap, .int .i64 j, .int .i64 b] w' fun e w'' => e = .returned (.tuple #[.int .i64 (longN k ll j b), .int .i64 (longE k ll j b)]) ∧ Below w'.heap.size w' w'') := fun j w' hj hb' => longest_any k a m cap j b ll w' (h.below hb') (small_nat hj) hbi
  rw [l1, l2] at G1
  rw [z1, z2] at G2
  clear l1 l2 z1 z2
  have hlb := hOL.out.at_
  have hrow : u ≠ b → (longs ll k b)[u]?.getD 0 = frow longW ll (longs ll k b) u := fun hne => hOL.out.row_all HV.out ha hne
  have hwu := hWL.out u
  generalize pots ll k b = p at *
  generalize longs ll k b = q at *
  -- the two results of the head
  obtain ⟨L, hL⟩ : ∃ L, L = q[u]?.getD 0 := ⟨_, rfl⟩
  obtain ⟨D, hD⟩ : ∃ D, D = p[u]?.getD 0 := ⟨_, rfl⟩
  rw [← hL, ← hD] at hPL
  rw [← hL] at G1 hrow hwu
  rw [← hD] at G2
  obtain ⟨E, cN, dN, hE1, hE2, hG1, hG2⟩ : ∃ E cN dN : Int, ((L < 0 ∧ E = 6 ∧ cN = 0) ∨ (0 ≤ L ∧ E = 0 ∧ cN = L)) ∧ (E = 0 → dN ≤ cN) ∧
      Hid (∀ w', Below w.heap.size w w' → Calls Try.prog 15 #[.int .i64 k, .slice a m cap, .int .i64 u, .int .i64 b] w' fun e w'' => e = .returned (.tuple #[.int .i64 cN, .int .i64 E]) ∧ Below w'.heap.size w' w'') ∧
      Hid (∀ w', Below w.heap.size w w' → Calls Try.prog 14 #[.int .i64 k, .slice a m cap, .int .i64 u, .int .i64 b] w' fun e w'' => ∃ (a' : Option Addr) (q c' : Nat), e = .returned (.tuple #[.slice a' q c', .int .i64 dN, .int .i64 E]) ∧ Below w'.heap.size w' w'') := by
    rcases hPL with ⟨e1, e2⟩ | ⟨e1, e2⟩
    · rw [if_pos (by omega), show max 0 L = 0 by omega] at G1
      rw [if_pos (by omega), show max 0 D = 0 by omega] at G2
      exact ⟨6, 0, 0, by omega, by omega, G1, G2⟩
    · rw [if_neg (by omega), show max 0 L = L by omega] at G1
      rw [if_neg (by omega), show max 0 D = D by omega] at G2
      exact ⟨0, L, D, by omega, by omega, G1, G2⟩
  clear G1 G2 hPL
  have hEE : (E != E) = false := by simp
  go_enter Try.func4, Try.ntmps4
  go_wp2_with (go_at_call 11; refine F.out.mono ?_; rintro e w1 ⟨rfl, b1⟩)
  refine (hG1.out w1 b1).mono ?_
  rintro e w2 ⟨rfl, b2⟩
  have b3 := b1.trans (b2.mono b1.size)
  clear b1 b2 F hG1
  go_wp2_with fail
  refine (hG2.out w2 b3).mono ?_
  rintro e w3 ⟨a3, q3, c3, rfl, b4⟩
  have b5 := b3.trans (b4.mono b3.size)
  have hsz5 := b5.size
  clear b3 b4 hG2
  by_cases hub : u = b
  · subst hub
    have hL0 : L = 0 := by rw [hL]; exact hlb
    obtain ⟨rfl, rfl⟩ : E = 0 ∧ cN = 0 := by omega
    have hd : decide ((0 : Int) < dN) = false := by simp; exact hE2 rfl
    clear hE1 hE2
    go_wp2_with (go_at_call 12; refine (awake_any _).mono ?_; rintro e w5 ⟨rfl, b6⟩)
    go_ret
    exact ⟨rfl, b5.trans (b6.mono hsz5)⟩
  · have hne : ((u : Int) == (b : Int)) = false := by simp; omega
    have HFR := Lib.hid (hrow hub)
    clear hrow hub hlb
    have hd : E = 0 → decide (cN < dN) = false := fun e => by simp; exact hE2 e
    have hEx : E = 0 ∨ E = 6 := by omega
    have h5 := h.below b5
    have hm14 : m ≤ 14 := by rw [h.len]; exact hll
    rcases hEx with rfl | rfl
    all_goals
      first
        | (have hd0 := hd rfl; have hlx : 0 ≤ L ∧ cN = L := by omega)
        | (have hlx : L < 0 := by omega)
      clear hE1 hE2 hd hL hD
      try (obtain ⟨hl0, hcl⟩ := hlx; subst hcl)
      go_wp2
      go_loopw [77, 17] (fun i o wr => ∃ (j : Nat) (x : Int), i = .int .i64 j ∧ o = .int .i64 x ∧ j ≤ m ∧ Hid (x = frowTo longW ll q u j) ∧ -1 ≤ x ∧ x ≤ 8796093022210 ∧ Below w3.heap.size w3 wr) (fun i _ _ => m - (intOf i).toNat)
      case atStart => exact ⟨0, -1, rfl, rfl, Nat.zero_le _, rfl, by omega, by omega, Below.refl _ _⟩
      case round =>
        obtain ⟨j, x, rfl, rfl, hj, hx, hx1, hx2, hB⟩ := hrel
        by_cases hlt : j < m
        · obtain ⟨f, tt0, c, hxx, -, -, -, bb, off, rfl, hbl, k1, k2, k3⟩ := (h5.below hB).get hlt
          dsimp only at k1 k2 k3
          have hxl : lkAt ll j = (f, tt0, c) := by rw [lkAt, hxx]; rfl
          obtain ⟨f', tt, e1, e2, e3, e4, e5, e6⟩ := HV.out j (by rw [← H.out]; exact hlt)
          rw [hxl] at e1 e2 e5 e6
          dsimp only at e1 e2 e5 e6
          subst e1 e2
          have hB' := hB.alloc hB.size (.cells #[.int .i64 (f' : Int), .int .i64 (tt : Int), .int .i64 c] 36)
          have hBB : Below w.heap.size w (wr.alloc (.cells #[.int .i64 (f' : Int), .int .i64 (tt : Int), .int .i64 c] 36)) := b5.trans (hB'.mono hsz5)
          by_cases hfu : f' = u
          · subst hfu
            have d1 : ((f' : Int) != (f' : Int)) = false := by simp
            have hqt : -1 ≤ q[tt]?.getD 0 ∧ q[tt]?.getD 0 ≤ 4398046511105 := hWL.out tt
            obtain ⟨t1, t2⟩ := HLA.out tt e4
            have hT := G3.out tt _ (by omega) hBB
            rw [t1, t2] at hT
            have hdst : dst ll j = tt := by rw [dst, hxl]; rfl
            have hcst : cst ll j = c := by rw [cst, hxl]
            have hst : frowTo longW ll q f' (j + 1) = if 0 ≤ q[tt]?.getD 0 then longW x c (q[tt]?.getD 0) else x := by
              rw [frowTo_yes (by rw [hxl]), ← hx.out, fstep, hdst, hcst]
            have HST := Lib.hid hst
            clear t1 t2 hst hxl hxx hdst hcst
            generalize q[tt]?.getD 0 = v at *
            by_cases hv0 : v < 0
            · rw [if_pos hv0, show max 0 v = 0 by omega] at hT
              have HT := Lib.hid hT
              have hst2 : Hid (x = frowTo longW ll q f' (j + 1)) := by show _ = _; rw [HST.out, if_neg (by omega)]
              clear hT
              go_wp2_with (go_at_call 15; refine HT.out.mono ?_; rintro e w6 ⟨rfl, b6⟩)
              go_roundw
              case rel => exact ⟨j + 1, x, by go_num, rfl, by omega, hst2.out, hx1, hx2, hB'.trans (b6.mono hB'.size)⟩
              case measure => simp [intOf]; omega
            · rw [if_neg hv0, show max 0 v = v by omega] at hT
              have HT := Lib.hid hT
              have hst2 : Hid (max x (c + v) = frowTo longW ll q f' (j + 1)) := by show _ = _; rw [HST.out, if_pos (by omega)]; rfl
              have sw : IntKind.i64.wrap (c + v) = c + v := IntWalk.i64_in _ (by omega)
              have y2 : (wr.alloc (.cells #[.int .i64 (f' : Int), .int .i64 (tt : Int), .int .i64 c] 36)).cell? ⟨wr.heap.size, 2, none⟩ = some (.int .i64 c) := by simp [World.cell?_alloc_at]
              clear hT
              go_wp2_with (go_at_call 15; refine HT.out.mono ?_; rintro e w6 ⟨rfl, b6⟩; have y3 := cell_later b6 y2)
              go_roundw
              case rel => exact ⟨j + 1, max x (c + v), by go_num, rfl, by omega, hst2.out, by omega, by omega, hB'.trans (b6.mono hB'.size)⟩
              case measure => simp [intOf]; omega
          · have d1 : ((f' : Int) != (u : Int)) = true := by simp; omega
            have hst2 : Hid (x = frowTo longW ll q u (j + 1)) := by show _ = _; rw [frowTo_no (by rw [hxl]; show (f' : Int) ≠ u; omega)]; exact hx.out
            clear hxl hxx
            go_wp2
            go_roundw
            case rel => exact ⟨j + 1, x, by go_num, rfl, by omega, hst2.out, hx1, hx2, hB'⟩
            case measure => simp [intOf]; omega
        · obtain rfl : m = j := by omega
          have hxL := (show x = frow longW ll q u from by show x = frowTo longW ll q u ll.length; rw [← H.out]; exact hx.out).trans HFR.out.symm
          clear hx HFR
          subst hxL
          first
            | (have hdx : decide (x < 0) = false := by simp; omega)
            | (have hdx : decide (x < 0) = true := by simp; omega)
          have hcc : (x == x) = true := by simp
          go_wp2_with (go_at_call 12; refine (awake_any _).mono ?_; rintro e w5 ⟨rfl, b6⟩)
          go_ret
          exact ⟨rfl, b5.trans ((hB.trans (b6.mono hB.size)).mono hsz5)⟩
theorem law_long_all (n : Int) (a : Option Addr) (m cap : Nat) (ll : List Lk) (s t : Int) (w : World) (h : LRow w a m cap ll) (hs : 0 ≤ s ∧ s ≤ 255) (ht : 0 ≤ t ∧ t ≤ 255) :
    Calls Try.prog 4 #[.int .i64 n, .slice a m cap, .int .u8 s, .int .u8 t] w fun e w' => e = .returned (.bool true) ∧ Below w.heap.size w w' := by
  obtain ⟨t', rfl⟩ : ∃ t' : Nat, t = (t' : Int) := ⟨t.toNat, by omega⟩
  obtain ⟨s', rfl⟩ : ∃ t' : Nat, s = (t' : Int) := ⟨s.toNat, by omega⟩
  by_cases hf : fineB n ll = true
  · obtain ⟨k, rfl, _, _, hll, _⟩ := fineB_ok hf
    exact law_long k a m cap ll s' t' w (h.2.2 (by have := h.2.1; omega)) hf (by omega) (by omega)
  · exact law_long_no n a m cap ll s' t' w h.2.1 h.1 h.2.2 (by simpa using hf)
end Go.Proofs.Ytebmachppbpdmaa
