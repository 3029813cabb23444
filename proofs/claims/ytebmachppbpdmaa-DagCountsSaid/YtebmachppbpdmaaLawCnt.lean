/- DagCounts. -/
import Derived.Test.YtebmachppbpdmaaDCntP
import Derived.Test.YtebmachppbpdmaaDPaths
import Derived.Test.YtebmachppbpdmaaDCmp
import Derived.Test.YtebmachppbpdmaaLawPth
namespace Go.Proofs.Ytebmachppbpdmaa
open Go.RowKit

theorem contains_int (a : Option Addr) (n cap : Nat) (l : List Int) (x : Int) (w : World) (h : Ints w a n cap l) :
    Calls Try.prog 37 #[.slice a n cap, .int .i64 x] w fun e w' => e = .returned (.bool (l.contains x)) ∧ w' = w := by
  have hl := h.len
  by_cases h0 : n = 0
  · subst h0
    rw [List.eq_nil_of_length_eq_zero hl.symm]
    exact Try.slices_Contains_int_empty a cap x w
  · obtain ⟨b, off, rfl, -, hc⟩ := h.at_ (by omega)
    have := Try.slices_Contains_int b off n cap l x w (by omega) (by have := h.bound; omega) (fun j hj => by rw [hc.out j (by omega), List.getD_eq_getElem?_getD])
    rw [List.take_of_length_le (by omega)] at this
    exact this
set_option maxHeartbeats 1000000 in
theorem law_counts_no (n : Int) (a : Option Addr) (m cap : Nat) (ll : List Lk) (s t : Int) (w : World) (hl : ll.length = m) (h8 : m ≤ 9223372036854775807) (h : m * 24 ≤ 140737488355328 → Links w a m cap ll) (hf : fineB n ll = false) :
    Calls Try.prog 10 #[.int .i64 n, .slice a m cap, .int .u8 s, .int .u8 t] w fun e w' => e = .returned (.bool true) ∧ Below w.heap.size w w' := by
  have F := Lib.hid (fine_no n a m cap ll s t w hl h8 h hf)
  clear hf hl h8 h
  go_enter Try.func10, Try.ntmps10
  go_wp2_with (first | (go_at_call 11; refine F.out.mono ?_; rintro e w1 ⟨rfl, b1⟩) | (go_at_call 12; refine (awake_any _).mono ?_; rintro e w2 ⟨rfl, b2⟩))
  go_ret
  exact ⟨rfl, b1.trans (b2.mono b1.size)⟩
set_option maxRecDepth 10000 in
set_option maxHeartbeats 4000000 in
theorem law_counts (k : Nat) (a : Option Addr) (m cap : Nat) (ll : List Lk) (s t : Nat) (w : World) (h : Links w a m cap ll) (hf : fineB k ll = true) (hs : s < 256) (ht : t < 256) :
    Calls Try.prog 10 #[.int .i64 k, .slice a m cap, .int .u8 s, .int .u8 t] w fun e w' => e = .returned (.bool true) ∧ Below w.heap.size w w' := by
  have F := Lib.hid (fine_yes k a m cap ll s t w h hf hs ht)
  have H := Lib.hid h.len
  have HF := Lib.hid hf
  obtain ⟨k', e, hk1, hk2, hll, hv, hc⟩ := fineB_ok hf
  obtain rfl : k = k' := by omega
  have ha : s % k < k := Nat.mod_lt _ (by omega)
  have hb : t % k < k := Nat.mod_lt _ (by omega)
  generalize s % k = u at *
  generalize t % k = b at *
  clear e hs ht
  have hui : I64 (u : Int) := I64.small (by omega) (by omega)
  have hbi : I64 (b : Int) := I64.small (by omega) (by omega)
  have HV : Hid (Valid k ll) := hv
  have HLL := Lib.hid hll
  have hmm : m ≤ 14 := by rw [h.len]; exact hll
  have C1 : Hid (∀ (w' : World) (v : Nat), v < k → Below w.heap.size w w' → Calls Try.prog 17 #[.int .i64 k, .slice a m cap, .int .i64 v, .int .i64 b] w' fun e w'' => e = .returned (.tuple #[.int .i64 ((pathsL ll k v b).length : Nat), .int .i64 0]) ∧ Below w'.heap.size w' w'') := fun w' v hvk hb' => by
    have := count_any k a m cap v b ll w' (h.below hb') (I64.small (by omega) (by omega)) hbi
    rw [cntN_len hf hvk hb, chk2_of hc hvk hb] at this
    exact this
  have R1 : Hid (∀ (w' : World), Below w.heap.size w w' → Calls Try.prog 21 #[.int .i64 k, .slice a m cap, .int .i64 u] w' fun e w'' => ∃ (a' : Option Addr) (q c' : Nat), e = .returned (.tuple #[.slice a' q c', .int .i64 0]) ∧ Ints w'' a' q c' (reachL ll k u) ∧ Below w'.heap.size w' w'') := fun w' hb' => by
    have := reach_any k a m cap u ll w' (h.below hb') hui
    unfold reL at this
    rw [chk2_of hc ha ha] at this
    exact this
  have P1 : Hid (∀ (w' : World), Below w.heap.size w w' → Calls Try.prog 30 #[.slice a m cap, .int .i64 u, .int .i64 b] w' fun e w'' => ∃ (a' : Option Addr) (q c' : Nat), e = .returned (.slice a' q c') ∧ Intss w'' a' q c' (pathsL ll k u b) ∧ Below w'.heap.size w' w'') := fun w' hb' => paths_any hv hll hk2 ha hb a m cap w' (h.below hb')
  have hsm := pathsL_small hv hll u b
  have hmem := mem_reachL hv ha hb
  have hpb : ((pathsL ll k u b).length = 0 ∧ (reachL ll k u).contains (b : Int) = false) ∨ (0 < (pathsL ll k u b).length ∧ (reachL ll k u).contains (b : Int) = true) := by
    by_cases e : pathsL ll k u b = []
    · refine .inl ⟨by rw [e]; rfl, ?_⟩
      rw [← Bool.not_eq_true, List.contains_iff_mem]
      exact fun hx => hmem.1 hx e
    · refine .inr ⟨List.length_pos_iff.2 e, ?_⟩
      rw [List.contains_iff_mem]
      exact hmem.2 e
  have HPB := Lib.hid hpb
  have HST := Lib.hid (marked_sorted (reachF ll k u) k)
  have HFU : Hid (cntTo ll k u b m = ((pathsL ll k u b).length : Int)) := by show _ = _; rw [h.len]; exact cntTo_full hv ha
  have HC0 : Hid (cntTo ll k u b 0 = if u = b then 1 else 0) := by show _ = _; simp [cntTo, idxTo_zero, sumL_nil]
  clear hv hc hf hll hmem hpb
  go_enter Try.func10, Try.ntmps10
  go_wp2_with (first | (go_at_call 11; refine F.out.mono ?_; rintro e w1 ⟨rfl, b1⟩))
  refine (C1.out w1 u ha b1).mono ?_
  rintro e w2 ⟨rfl, b2⟩
  have hb2 := b1.trans (b2.mono b1.size)
  generalize hK : (pathsL ll k u b).length = K at *
  have HK := Lib.hid hK
  clear hK b1 b2 F
  go_wp2_with fail
  refine (R1.out w2 hb2).mono ?_
  rintro e w3 ⟨a3, q3, c3, rfl, i3, b3⟩
  have hb3 := hb2.trans (b3.mono hb2.size)
  clear b3 hb2 R1
  go_wp2_with fail
  refine (P1.out w3 hb3).mono ?_
  rintro e w4 ⟨a4, q4, c4, rfl, i4, b4⟩
  have hb4 := hb3.trans (b4.mono hb3.size)
  have j3 := i3.below b4
  have hq4 : q4 = K := by rw [i4.len]; exact HK.out
  subst hq4
  clear i3 i4 b4 hb3 P1
  have CO := Lib.hid (contains_int a3 q3 c3 _ b w4 j3)
  have SO := Lib.hid (sorted_any a3 q3 c3 _ w4 j3 HST.out)
  have d0 : ((q4 : Int) != q4) = false := by simp
  have hs4 := hb4.size
  have hgo : Hid (∀ x y : Bool, (x != y) = false → x = y) := by intro x y; cases x <;> cases y <;> simp
  rcases HPB.out with ⟨hz, hcn⟩ | ⟨hz, hcn⟩
  all_goals
    rw [hcn] at CO
    clear hcn HPB
    first
      | (have d1 : decide (0 < q4) = true := by simp; omega)
      | (have d1 : decide (0 < q4) = false := by simp; omega)
    clear hz
    by_cases hub : u = b
    all_goals
      first
        | (have de : ((u : Int) == (b : Int)) = true := by simp; omega)
        | (have de : ((u : Int) == (b : Int)) = false := by simp; omega)
      first
        | (have HI : Hid (cntTo ll k u b 0 = 1) := by show _ = _; rw [HC0.out, if_pos hub])
        | (have HI : Hid (cntTo ll k u b 0 = 0) := by show _ = _; rw [HC0.out, if_neg hub])
      clear hub HC0
      go_wp2_with (first | (go_at_call 37; refine CO.out.mono ?_; rintro e w' ⟨rfl, rfl⟩) | (go_at_call 38; refine SO.out.mono ?_; rintro e w5 ⟨rfl, hd5⟩))
      have hb5 := hb4.trans (hd5.below _)
      go_loopw [81, 16] (fun i o wr => ∃ (j : Nat) (x : Int), i = .int .i64 j ∧ o = .int .i64 x ∧ j ≤ m ∧ Hid (x = cntTo ll k u b j) ∧ Below w.heap.size w wr) (fun i _ _ => m - (intOf i).toNat)
      case atStart => exact ⟨0, _, rfl, rfl, Nat.zero_le _, HI.out.symm, hb5⟩
      case round =>
        obtain ⟨j, x, rfl, rfl, hj, hx, hB⟩ := hrel
        by_cases hlt : j < m
        · obtain ⟨f, tt0, c, hxx, -, -, -, bb, off, rfl, hbl, k1, k2, k3⟩ := (h.below hB).get hlt
          dsimp only at k1 k2 k3
          have hxl : lkAt ll j = (f, tt0, c) := by rw [lkAt, hxx]; rfl
          obtain ⟨f', tt, e1, e2, e3, e4, e5, e6⟩ := HV.out j (by rw [← H.out]; exact hlt)
          rw [hxl] at e1 e2 e5 e6
          dsimp only at e1 e2 e5 e6
          subst e1 e2
          have hB' := hB.alloc hB.size (.cells #[.int .i64 (f' : Int), .int .i64 (tt : Int), .int .i64 c] 36)
          by_cases hfu : f' = u
          · subst hfu
            have d1 : ((f' : Int) != (f' : Int)) = false := by simp
            have T := Lib.hid (C1.out _ tt e4 hB')
            have hdst : dst ll j = tt := by rw [dst, hxl]; rfl
            have hst := cntTo_yes (ll := ll) (n := k) (u := f') (b := b) (j := j) (by rw [hxl])
            rw [← hx.out, hdst] at hst
            have hbd := cntTo_small (b := b) HV.out HLL.out ha (j := j + 1) (by rw [← H.out]; omega)
            have hbd0 := cntTo_small (b := b) HV.out HLL.out ha (j := j) (by rw [← H.out]; omega)
            rw [hst] at hbd
            rw [← hx.out] at hbd0
            have HST2 := Lib.hid hst.symm
            clear hst hxl hxx hdst
            generalize (pathsL ll k tt b).length = M at *
            have sw : IntKind.i64.wrap (x + (M : Int)) = x + (M : Int) := IntWalk.i64_in _ (by omega)
            go_wp2_with (go_at_call 17; refine T.out.mono ?_; rintro e w6 ⟨rfl, b6⟩)
            go_roundw
            case rel => exact ⟨j + 1, x + M, by go_num, rfl, by omega, HST2.out, hB'.trans (b6.mono hB'.size)⟩
            case measure => simp [intOf]; omega
          · have d1 : ((f' : Int) != (u : Int)) = true := by simp; omega
            have hst2 : Hid (x = cntTo ll k u b (j + 1)) := by show _ = _; rw [cntTo_no (by rw [hxl]; show (f' : Int) ≠ u; omega)]; exact hx.out
            clear hxl hxx
            go_wp2
            go_roundw
            case rel => exact ⟨j + 1, x, by go_num, rfl, by omega, hst2.out, hB'⟩
            case measure => simp [intOf]; omega
        · obtain rfl : m = j := by omega
          have hxq : x = (q4 : Int) := by rw [hx.out, HFU.out]
          clear hx
          subst hxq
          have dq : ((q4 : Int) == q4) = true := by simp
          go_wp2_with (go_at_call 12; refine (awake_any _).mono ?_; rintro e w7 ⟨rfl, b7⟩)
          go_ret
          exact ⟨rfl, hB.trans (b7.mono hB.size)⟩
theorem law_counts_all (n : Int) (a : Option Addr) (m cap : Nat) (ll : List Lk) (s t : Int) (w : World) (h : LRow w a m cap ll) (hs : 0 ≤ s ∧ s ≤ 255) (ht : 0 ≤ t ∧ t ≤ 255) :
    Calls Try.prog 10 #[.int .i64 n, .slice a m cap, .int .u8 s, .int .u8 t] w fun e w' => e = .returned (.bool true) ∧ Below w.heap.size w w' := by
  obtain ⟨t', rfl⟩ : ∃ t' : Nat, t = (t' : Int) := ⟨t.toNat, by omega⟩
  obtain ⟨s', rfl⟩ : ∃ t' : Nat, s = (t' : Int) := ⟨s.toNat, by omega⟩
  by_cases hf : fineB n ll = true
  · obtain ⟨k, rfl, _, _, hll, _⟩ := fineB_ok hf
    exact law_counts k a m cap ll s' t' w (h.2.2 (by have := h.2.1; omega)) hf (by omega) (by omega)
  · exact law_counts_no n a m cap ll s' t' w h.2.1 h.1 h.2.2 (by simpa using hf)
end Go.Proofs.Ytebmachppbpdmaa
