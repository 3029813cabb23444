/- DagMore. -/
import Derived.Test.YtebmachppbpdmaaLawLng
import Derived.Test.YtebmachppbpdmaaDCln
import Derived.Test.YtebmachppbpdmaaHead2
namespace Go.Proofs.Ytebmachppbpdmaa
open Go.RowKit

theorem ownsRow_mono {w : World} {B B' size n : Nat} {e : TypeId} {v : Value} {xs : List Value} (h : w.ownsRow B e size v n xs) (hB : B' ≤ B) : w.ownsRow B' e size v n xs := by
  refine ⟨h.1, ?_⟩
  rcases h.2 with hn | ⟨g, cap, cur, hv, hb, rest⟩
  · exact .inl hn
  · exact .inr ⟨g, cap, cur, hv, Nat.le_trans hB hb, rest⟩
theorem more_nums {k : Nat} {ll : List Lk} {x : Lk} (h1 : fineB k ll = true) (h2 : fineB k (ll ++ [x]) = true) {u b : Nat} (hu : u < k) (hb : b < k) :
    chk2 k ll u b = 0 ∧ chk2 k (ll ++ [x]) u b = 0 ∧ cntN k ll u b ≤ cntN k (ll ++ [x]) u b ∧ (shErr k ll u b = 0 ∨ shErr k ll u b = 6) ∧
      (shErr k ll u b = 0 → shErr k (ll ++ [x]) u b = 0 ∧ longE k ll u b = 0 ∧ longE k (ll ++ [x]) u b = 0 ∧ shCost k (ll ++ [x]) u b ≤ shCost k ll u b ∧ longN k ll u b ≤ longN k (ll ++ [x]) u b) := by
  obtain ⟨k', e, _, _, _, hv, hc⟩ := fineB_ok h1
  obtain rfl : k = k' := by omega
  obtain ⟨k', e', _, _, _, hv', hc'⟩ := fineB_ok h2
  obtain rfl : k = k' := by omega
  obtain ⟨l1, l2⟩ := long_at hc hu hb
  obtain ⟨m1, m2⟩ := long_at hc' hu hb
  obtain ⟨p1, p2⟩ := sh_at hc hu hb
  obtain ⟨q1, q2⟩ := sh_at hc' hu hb
  have z1 := chk2_of hc hu hb
  have z2 := chk2_of hc' hu hb
  have hcn : cntN k ll u b ≤ cntN k (ll ++ [x]) u b := by
    rw [cntN, cntN, if_pos z1, if_pos z2, Int.toNat_natCast, Int.toNat_natCast, Int.toNat_natCast]
    have := cnt_more hv hv' (foldL_ok hv hb (wth := cntW) (first := 1)) (foldL_ok hv' hb (wth := cntW) (first := 1)) hu
    show max 0 ((foldL cntW ll k b 1)[u]?.getD 0) ≤ max 0 ((foldL cntW (ll ++ [x]) k b 1)[u]?.getD 0)
    omega
  have hpl := pot_long hv (pots_ok hv hb) (longs_ok hv hb) hu
  have hpl' := pot_long hv' (pots_ok hv' hb) (longs_ok hv' hb) hu
  have hpm := pot_more hv hv' (pots_ok hv hb) (pots_ok hv' hb) hu
  have hlm := long_more hv hv' (longs_ok hv hb) (longs_ok hv' hb) hu
  refine ⟨z1, z2, hcn, by rw [p1]; split <;> omega, fun he => ?_⟩
  rw [p1] at he
  have h0 : 0 ≤ (pots ll k b)[u]?.getD 0 := by
    rcases Int.lt_or_le ((pots ll k b)[u]?.getD 0) 0 with e | e
    · rw [if_pos e] at he; cases he
    · exact e
  have hq := hpm h0
  rw [q1, l1, m1, q2, p2, l2, m2]
  refine ⟨if_neg (by omega), if_neg (by omega), if_neg (by omega), by omega, by omega⟩
theorem fine_all (n : Int) (a : Option Addr) (m cap : Nat) (ll : List Lk) (s t : Nat) (w : World) (hl : ll.length = m) (h : Links w a m cap ll) (hs : s < 256) (ht : t < 256) :
    ∃ (ok : Bool) (a1 b1 : Int), (ok = true → fineB n ll = true ∧ ∃ k : Nat, n = (k : Int) ∧ 1 ≤ k ∧ a1 = ((s % k : Nat) : Int) ∧ b1 = ((t % k : Nat) : Int)) ∧ Hid (∀ w', Below w.heap.size w w' → Calls Try.prog 11 #[.int .i64 n, .slice a m cap, .int .u8 (s : Int), .int .u8 (t : Int)] w' fun e w'' => e = .returned (.tuple #[.int .i64 a1, .int .i64 b1, .bool ok]) ∧ Below w'.heap.size w' w'') := by
  by_cases hf : fineB n ll = true
  · obtain ⟨k, rfl, hk, _⟩ := fineB_ok hf
    exact ⟨true, _, _, fun _ => ⟨hf, k, rfl, hk, rfl, rfl⟩, fun w' hb => fine_yes k a m cap ll s t w' (h.below hb) hf hs ht⟩
  · have := h.bound
    exact ⟨false, 0, 0, (fun e => by cases e), fun w' hb => fine_no n a m cap ll s t w' hl (by omega) (fun _ => h.below hb) (by simpa using hf)⟩
set_option maxRecDepth 10000 in
set_option maxHeartbeats 4000000 in
theorem law_more (n : Int) (a : Option Addr) (m cap : Nat) (ll : List Lk) (s t : Int) (x y z : Int) (w : World) (hl : ll.length = m) (h : Links w a m cap ll) (hm : (m + 1) * 24 ≤ 140737488355328) (hs : 0 ≤ s ∧ s ≤ 255) (ht : 0 ≤ t ∧ t ≤ 255) (hx : I64 x ∧ I64 y ∧ I64 z) :
    Calls Try.prog 5 #[.int .i64 n, .slice a m cap, .int .u8 s, .int .u8 t, .agg #[.int .i64 x, .int .i64 y, .int .i64 z]] w fun e w' => e = .returned (.bool true) ∧ Below w.heap.size w w' := by
  obtain ⟨t, rfl⟩ : ∃ t' : Nat, t = (t' : Int) := ⟨t.toNat, by omega⟩
  obtain ⟨s, rfl⟩ : ∃ t' : Nat, s = (t' : Int) := ⟨s.toNat, by omega⟩
  obtain ⟨ok1, a1, b1, hr1, hf1⟩ := fine_all n a m cap ll s t w hl h (by omega) (by omega)
  go_enter Try.func5, Try.ntmps5
  go_wp2_with (go_at_call 11; refine (hf1.out _ ((Below.refl _ w).alloc (Nat.le_refl _) _)).mono ?_; rintro e w1 ⟨rfl, hb1⟩)
  clear hf1
  have c0 : w1.cell? ⟨w.heap.size, 0, none⟩ = some (.int .i64 x) := cell_later hb1 (by rw [World.cell?_alloc_at _ _ _ _ rfl]; rfl)
  have c1 : w1.cell? ⟨w.heap.size, 1, none⟩ = some (.int .i64 y) := cell_later hb1 (by rw [World.cell?_alloc_at _ _ _ _ rfl]; rfl)
  have c2 : w1.cell? ⟨w.heap.size, 2, none⟩ = some (.int .i64 z) := cell_later hb1 (by rw [World.cell?_alloc_at _ _ _ _ rfl]; rfl)
  have b1w : Below w.heap.size w w1 := ((Below.refl _ w).alloc (Nat.le_refl _) (.cells #[.int .i64 x, .int .i64 y, .int .i64 z] 36)).trans (hb1.mono (by simp))
  have hsz1 := b1w.size
  have CL : Hid (∀ w', Below w.heap.size w w' → Calls Try.prog 16 #[.slice a m cap] w' fun e w'' => ∃ v', e = .returned v' ∧ w''.ownsRow w'.heap.size 36 3 v' m (flat ll) ∧ Below w'.heap.size w' w'') := fun w' hb => clone_links a m cap ll w' (h.below hb)
  obtain ⟨i0, hi, hz0, hz1, hz2⟩ := info_parts Try.infoLink
  obtain ⟨X, Wf, hX, hS1, hS2⟩ := family (fun w' => w'.cell? ⟨w.heap.size, 0, none⟩ = some (.int .i64 x) ∧ w'.cell? ⟨w.heap.size, 1, none⟩ = some (.int .i64 y) ∧ w'.cell? ⟨w.heap.size, 2, none⟩ = some (.int .i64 z)) w1.drew ⟨c0, c1, c2⟩
  have d0 : ∀ j, (Wf j).cell? ⟨w.heap.size, 0, none⟩ = some (.int .i64 x) := fun j => (hS1 j).1
  have d1 : ∀ j, (Wf j).cell? ⟨w.heap.size, 1, none⟩ = some (.int .i64 y) := fun j => (hS1 j).2.1
  have d2 : ∀ j, (Wf j).cell? ⟨w.heap.size, 2, none⟩ = some (.int .i64 z) := fun j => (hS1 j).2.2
  have HS2 := Lib.hid hS2
  clear hS1 hS2
  refine wp_region_reads2 (Wf := Wf) 5 [0, 2] 1 3 [4] (by kernel_rfl) (by kernel_rfl) (fun _ _ d _ _ h => by cases d <;> exact h) (HS2.out _ ⟨c0, c1, c2⟩) ?_
  simp only [pickOps, List.filterMap_cons, List.filterMap_nil, List.getElem?_cons_zero, List.getElem?_cons_succ]
  repeat (refine wpReads_step (fun K hK => ?_); unfold rOp; go_simp; (refine hK _ ?_; clear hK K))
  refine wpReads_nil ⟨wpActs_cons ?o1, wpActs_cons ?o2⟩
  case' o1 =>
    go_wp2_with (go_at_call 16; refine (CL.out _ b1w.drew).mono ?_; rintro e w2 ⟨v2, rfl, ho2, hb2⟩)
    have f0 := cell_later hb2 c0
    have f1 := cell_later hb2 c1
    have f2 := cell_later hb2 c2
    refine ⟨HS2.out _ ⟨f0, f1, f2⟩, wpActs_cons ?_⟩
    go_wp2
    obtain ⟨WA, hWA⟩ : ∃ WA, WA = w2.alloc (.cells #[.int .i64 x, .int .i64 y, .int .i64 z] 36) := ⟨_, rfl⟩
    obtain ⟨LA, hLA⟩ : ∃ LA, LA = w2.heap.size := ⟨_, rfl⟩
    have hb2' : Below w1.heap.size w1 w2 := (Below.refl _ w1).drew.trans hb2
    have hA1 : WA.ownsRow w1.heap.size 36 3 v2 m (flat ll) := by rw [hWA]; exact World.ownsRow.alloc ho2 _
    have hA3 : Below w1.heap.size w1 WA := by rw [hWA]; exact hb2'.alloc hb2'.size _
    have hA2 : ∀ j u, [(.int .i64 x : Value), .int .i64 y, .int .i64 z][j]? = some u → WA.cell? ((⟨LA, 0, none⟩ : Addr).add j) = some u := by
      intro j u hj
      rw [Addr.add_lit, Nat.zero_add, hWA, World.cell?_alloc_at _ _ _ _ hLA]
      simpa using hj
    have hA4 : w1.heap.size ≤ WA.heap.size := hA3.size
    have g0 := cell_later hA3 c0
    have g1 := cell_later hA3 c1
    have g2 := cell_later hA3 c2
    rw [← hWA, ← hLA]
    refine ⟨HS2.out _ ⟨g0, g1, g2⟩, wpActs_cons ?_⟩
    clear hWA hLA ho2 hb2 hb2' f0 f1 f2 CL
    go_wp2_with (at_builtin; refine wpList_append_own_at _ rfl _ _ 22 rfl w1.heap.size 36 i0 (.agg #[.int .i64 0, .int .i64 0, .int .i64 0]) 3 24 Try.underlying22 hi hz0 hz1 hz2 rfl (by decide) v2 m (flat ll) rfl hA1 ⟨LA, 0, none⟩ 1 1 [.int .i64 x, .int .i64 y, .int .i64 z] rfl rfl hA2 (by simp [Value.oneCell']) (by unfold maxLen; omega) hm hA4 ?_; intro v3 w3 ho3 hg3 _ hat3)
  case' o2 =>
    go_wp2
    obtain ⟨LA, hLA⟩ : ∃ LA, LA = w1.heap.size := ⟨_, rfl⟩
    obtain ⟨wl, hwl⟩ : ∃ wl, wl = (w1.alloc (.cells #[.int .i64 x, .int .i64 y, .int .i64 z] 36)).drew := ⟨_, rfl⟩
    have hbl : Below w1.heap.size w1 wl := by rw [hwl]; exact ((Below.refl _ w1).alloc (Nat.le_refl _) _).drew
    have hl2 : ∀ j u, [(.int .i64 x : Value), .int .i64 y, .int .i64 z][j]? = some u → wl.cell? ((⟨LA, 0, none⟩ : Addr).add j) = some u := by
      intro j u hj
      rw [Addr.add_lit, Nat.zero_add, hwl]
      show (w1.alloc _).cell? _ = _
      rw [World.cell?_alloc_at _ _ _ _ hLA]
      simpa using hj
    rw [← hwl, ← hLA]
    refine ⟨HS2.out _ ⟨cell_later hbl c0, cell_later hbl c1, cell_later hbl c2⟩, wpActs_cons ?_⟩
    clear hwl hLA
    go_wp2_with (go_at_call 16; refine (CL.out _ (b1w.trans (hbl.mono hsz1))).mono ?_; rintro e WA ⟨v2, rfl, ho2, hb2⟩)
    have hA3 : Below w1.heap.size w1 WA := hbl.trans (hb2.mono hbl.size)
    have hA1 : WA.ownsRow w1.heap.size 36 3 v2 m (flat ll) := ownsRow_mono ho2 hbl.size
    have hA2 : ∀ j u, [(.int .i64 x : Value), .int .i64 y, .int .i64 z][j]? = some u → WA.cell? ((⟨LA, 0, none⟩ : Addr).add j) = some u := fun j u hj => cell_later hb2 (hl2 j u hj)
    have hA4 : w1.heap.size ≤ WA.heap.size := hA3.size
    have g0 := cell_later hA3 c0
    have g1 := cell_later hA3 c1
    have g2 := cell_later hA3 c2
    refine ⟨HS2.out _ ⟨g0, g1, g2⟩, wpActs_cons ?_⟩
    clear ho2 hb2 hbl hl2 CL
    go_wp2_with (at_builtin; refine wpList_append_own_at _ rfl _ _ 22 rfl w1.heap.size 36 i0 (.agg #[.int .i64 0, .int .i64 0, .int .i64 0]) 3 24 Try.underlying22 hi hz0 hz1 hz2 rfl (by decide) v2 m (flat ll) rfl hA1 ⟨LA, 0, none⟩ 1 1 [.int .i64 x, .int .i64 y, .int .i64 z] rfl rfl hA2 (by simp [Value.oneCell']) (by unfold maxLen; omega) hm hA4 ?_; intro v3 w3 ho3 hg3 _ hat3)
  all_goals
    have hB13 : Below w1.heap.size w1 w3 := hA3.grown hg3 hA4 (fun k e => (hA1.lt k e).1)
    have hw1 : w.heap.size < w1.heap.size := by have := hb1.size; simp at this; omega
    have hBx : some w.heap.size ≠ v2.ownBlock := fun e => by have := (hA1.lt _ e.symm).1; omega
    have q0 := hg3.cell g0 hBx
    have q1 := hg3.cell g1 hBx
    have q2 := hg3.cell g2 hBx
    obtain ⟨a3, c3, rfl, hL3⟩ := ownsRow_links (ll := ll ++ [(x, y, z)]) (by rw [flat_append]; exact ho3) (by simp; omega) hm (fun l hl => by
      rcases List.mem_append.1 hl with e | e
      · exact h.2.2.2.1 l e
      · rw [List.mem_singleton.1 e]; exact hx)
    have hB3 : Below w.heap.size w w3 := b1w.trans (hB13.mono hsz1)
    have hsz3 := hB3.size
    have h3 := h.below hB3
    refine ⟨HS2.out _ ⟨q0, q1, q2⟩, wpActs_nil ?_⟩
    clear hB13 hw1 hBx q0 q1 q2 ho3 hg3 hat3 hA1 hA2 hA3 hA4 g0 g1 g2 c0 c1 c2 d0 d1 d2 HS2 hX hb1 b1w
    obtain ⟨ok2, a2, b2, hr2, hf2⟩ := fine_all n a3 (m + 1) c3 (ll ++ [(x, y, z)]) s t w3 (by simp; omega) hL3 (by omega) (by omega)
    cases ok1 with
    | false =>
      clear hr1 hr2
      go_wp2_with (first | (go_at_call 11; refine (hf2.out _ (Below.refl _ _)).mono ?_; rintro e w4 ⟨rfl, hb4⟩) | (go_at_call 12; refine (awake_any _).mono ?_; rintro e w5 ⟨rfl, hb5⟩))
      go_ret
      exact ⟨rfl, hB3.trans ((hb4.trans (hb5.mono hb4.size)).mono hsz3)⟩
    | true =>
      cases ok2 with
      | false =>
        clear hr1 hr2
        go_wp2_with (first | (go_at_call 11; refine (hf2.out _ (Below.refl _ _)).mono ?_; rintro e w4 ⟨rfl, hb4⟩) | (go_at_call 12; refine (awake_any _).mono ?_; rintro e w5 ⟨rfl, hb5⟩))
        go_ret
        exact ⟨rfl, hB3.trans ((hb4.trans (hb5.mono hb4.size)).mono hsz3)⟩
      | true =>
        obtain ⟨y1, k, rfl, hk, rfl, rfl⟩ := hr1 rfl
        obtain ⟨y2, k', ek, _, e2, e3⟩ := hr2 rfl
        have hk8 : k ≤ 8 := by obtain ⟨k2, e, _, hk8, _⟩ := fineB_ok y1; omega
        have hua : s % k < k := Nat.mod_lt _ hk
        have hub : t % k < k := Nat.mod_lt _ hk
        clear hr1 hr2 ek e2 e3
        generalize s % k = u at *
        generalize t % k = b at *
        obtain ⟨n1, n2, n3, n4, n5⟩ := more_nums y1 y2 hua hub
        have hui := small_nat (k := u) (by omega)
        have hbi := small_nat (k := b) (by omega)
        have S1 : Hid (∀ w', Below w3.heap.size w3 w' → _) := fun w' hb => shortest_any k a m cap u b ll w' (h3.below hb) hui hbi
        have S2 : Hid (∀ w', Below w3.heap.size w3 w' → _) := fun w' hb => shortest_any k a3 (m + 1) c3 u b (ll ++ [(x, y, z)]) w' (hL3.below hb) hui hbi
        have S3 : Hid (∀ w', Below w3.heap.size w3 w' → _) := fun w' hb => longest_any k a m cap u b ll w' (h3.below hb) hui hbi
        have S4 : Hid (∀ w', Below w3.heap.size w3 w' → _) := fun w' hb => longest_any k a3 (m + 1) c3 u b (ll ++ [(x, y, z)]) w' (hL3.below hb) hui hbi
        have S5 : Hid (∀ w', Below w3.heap.size w3 w' → _) := fun w' hb => count_any k a m cap u b ll w' (h3.below hb) hui hbi
        have S6 : Hid (∀ w', Below w3.heap.size w3 w' → _) := fun w' hb => count_any k a3 (m + 1) c3 u b (ll ++ [(x, y, z)]) w' (hL3.below hb) hui hbi
        rw [n1] at S5
        rw [n2] at S6
        clear n1 n2 y1 y2
        generalize shErr k ll u b = E1 at *
        generalize shCost k ll u b = C1 at *
        generalize shErr k (ll ++ [(x, y, z)]) u b = E2 at *
        generalize shCost k (ll ++ [(x, y, z)]) u b = C2 at *
        generalize longN k ll u b = L1 at *
        generalize longE k ll u b = F1 at *
        generalize longN k (ll ++ [(x, y, z)]) u b = L2 at *
        generalize longE k (ll ++ [(x, y, z)]) u b = F2 at *
        generalize cntN k ll u b = K1 at *
        generalize cntN k (ll ++ [(x, y, z)]) u b = K2 at *
        have dk : decide (K2 < K1) = false := by simp; omega
        have N5 := Lib.hid n5
        clear n5 h3 hL3 h
        go_wp2_with (go_at_call 11; refine (hf2.out _ (Below.refl _ _)).mono ?_; rintro e w4 ⟨rfl, hb4⟩)
        refine (S1.out w4 hb4).mono ?_
        rintro e w5 ⟨a5, q5, c5, r5, rfl, -, -, hb5⟩
        have hc5 := hb4.trans (hb5.mono hb4.size)
        go_wp2_with fail
        refine (S2.out w5 hc5).mono ?_
        rintro e w6 ⟨a6, q6, c6, r6, rfl, -, -, hb6⟩
        have hc6 := hc5.trans (hb6.mono hc5.size)
        go_wp2_with fail
        refine (S3.out w6 hc6).mono ?_
        rintro e w7 ⟨rfl, hb7⟩
        have hc7 := hc6.trans (hb7.mono hc6.size)
        go_wp2_with fail
        refine (S4.out w7 hc7).mono ?_
        rintro e w8 ⟨rfl, hb8⟩
        have hc8 := hc7.trans (hb8.mono hc7.size)
        go_wp2_with fail
        refine (S5.out w8 hc8).mono ?_
        rintro e w9 ⟨rfl, hb9⟩
        have hc9 := hc8.trans (hb9.mono hc8.size)
        go_wp2_with fail
        refine (S6.out w9 hc9).mono ?_
        rintro e wa ⟨rfl, hba⟩
        have hca := hc9.trans (hba.mono hc9.size)
        clear hb4 hb5 hb6 hb7 hb8 hb9 hba hc5 hc6 hc7 hc8 hc9 S1 S2 S3 S4 S5 S6 hf2
        rcases n4 with rfl | rfl
        · obtain ⟨p1, p2, p3, p4, p5⟩ := N5.out rfl
          subst p1 p2 p3
          clear N5
          have dc : decide (C2 ≤ C1) = true := by simpa using p4
          have dl : decide (L1 ≤ L2) = true := by simpa using p5
          go_wp2_with (go_at_call 12; refine (awake_any _).mono ?_; rintro e wb ⟨rfl, hbb⟩)
          go_ret
          exact ⟨rfl, hB3.trans ((hca.trans (hbb.mono hca.size)).mono hsz3)⟩
        · clear N5
          go_wp2_with (go_at_call 12; refine (awake_any _).mono ?_; rintro e wb ⟨rfl, hbb⟩)
          go_ret
          exact ⟨rfl, hB3.trans ((hca.trans (hbb.mono hca.size)).mono hsz3)⟩
end Go.Proofs.Ytebmachppbpdmaa
