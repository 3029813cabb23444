/- DagShortest. -/
import Derived.Test.YtebmachppbpdmaaDCont
import Derived.Test.YtebmachppbpdmaaLawPth
namespace Go.Proofs.Ytebmachppbpdmaa
open Go.RowKit

/-- What DagShortest asks of the paths. -/
theorem short_facts {k : Nat} {ll : List Lk} (hf : fineB k ll = true) {u b : Nat} (hu : u < k) (hb : b < k) {r : List Int} (h : ShPath k ll u b r) :
    (shErr k ll u b = 6 ∧ shCost k ll u b = 0 ∧ r = [] ∧ pathsL ll k u b = []) ∨
    (shErr k ll u b = 0 ∧ pathsL ll k u b ≠ [] ∧ costP ll r = shCost k ll u b ∧ (∀ x ∈ r, 0 ≤ x ∧ x < ll.length) ∧ r.length ≤ 8 ∧ (pathsL ll k u b).any (fun q => decide (r = q)) = true ∧ (pathsL ll k u b).any (betterB ll (shCost k ll u b) r) = false) := by
  obtain ⟨k', e, _, hk8, _, hv, hc⟩ := fineB_ok hf
  obtain rfl : k = k' := by omega
  have hge : ∀ j : Nat, -1 ≤ (pots ll k b)[j]?.getD 0 := fun j => (pots_within hv (by omega) hb j).1
  have hok := pots_ok hv hb
  rcases sh_cases hf hu hb h with ⟨e1, e2, e3, hneg⟩ | ⟨e1, e2, e3, hg⟩
  · exact .inl ⟨e1, e2, e3, (pathsL_nil hv hok hge hu).2 hneg⟩
  · have hmem := gpath_mem hv hok r u hu hg
    have hwk := gpath_walk hv hok r u 0 hg
    obtain ⟨c1, c2⟩ := walk_cost r u 0 b _ hwk
    refine .inr ⟨e1, (fun e => by rw [e] at hmem; cases hmem), by omega, c2, Nat.le_trans (pathsF_row k u r hmem).1 hk8, List.any_eq_true.2 ⟨r, hmem, by simp⟩, ?_⟩
    refine List.any_eq_false.2 fun q hq => ?_
    obtain ⟨l1, l2⟩ := pathsL_least hv hok hge hu hq
    unfold betterB
    simp only [Bool.or_eq_true, Bool.and_eq_true, decide_eq_true_eq]
    rintro (h1 | ⟨h1, h2⟩)
    · omega
    · have := gpath_first hv hok hge r q u hu hg hq (by omega)
      omega
set_option maxHeartbeats 1000000 in
theorem law_short_no (n : Int) (a : Option Addr) (m cap : Nat) (ll : List Lk) (s t : Int) (w : World) (hl : ll.length = m) (h8 : m ≤ 9223372036854775807) (h : m * 24 ≤ 140737488355328 → Links w a m cap ll) (hf : fineB n ll = false) :
    Calls Try.prog 8 #[.int .i64 n, .slice a m cap, .int .u8 s, .int .u8 t] w fun e w' => e = .returned (.bool true) ∧ Below w.heap.size w w' := by
  have hb0 : Below w.heap.size w (w.alloc (.cells #[.slice a m cap] 22)) := (Below.refl _ w).alloc (Nat.le_refl _) _
  have F := Lib.hid (fine_no n a m cap ll s t (w.alloc (.cells #[.slice a m cap] 22)) hl h8 (fun hx => (h hx).below hb0) hf)
  clear hf hl h8 h
  go_enter Try.func8, Try.ntmps8
  go_wp2_with (first | (go_at_call 11; refine F.out.mono ?_; rintro e w1 ⟨rfl, b1⟩) | (go_at_call 12; refine (awake_any _).mono ?_; rintro e w2 ⟨rfl, b2⟩))
  go_ret
  have hb1 := hb0.trans (b1.mono hb0.size)
  exact ⟨rfl, hb1.trans (b2.mono hb1.size)⟩
set_option maxRecDepth 10000 in
set_option maxHeartbeats 4000000 in
theorem law_short (k : Nat) (a : Option Addr) (m cap : Nat) (ll : List Lk) (s t : Nat) (w : World) (h : Links w a m cap ll) (hf : fineB k ll = true) (hs : s < 256) (ht : t < 256) :
    Calls Try.prog 8 #[.int .i64 k, .slice a m cap, .int .u8 s, .int .u8 t] w fun e w' => e = .returned (.bool true) ∧ Below w.heap.size w w' := by
  have hb0 : Below w.heap.size w (w.alloc (.cells #[.slice a m cap] 22)) := (Below.refl _ w).alloc (Nat.le_refl _) _
  have hc0 : (w.alloc (.cells #[.slice a m cap] 22)).cell? ⟨w.heap.size, 0, none⟩ = some (.slice a m cap) := cell_lit1 _ _ _ rfl
  have F := Lib.hid (fine_yes k a m cap ll s t (w.alloc (.cells #[.slice a m cap] 22)) (h.below hb0) hf hs ht)
  obtain ⟨k', e, hk1, hk2, hll, hv, hc⟩ := fineB_ok hf
  obtain rfl : k = k' := by omega
  have ha : s % k < k := Nat.mod_lt _ (by omega)
  have hb : t % k < k := Nat.mod_lt _ (by omega)
  generalize s % k = u at *
  generalize t % k = b at *
  clear e hs ht
  have hui : I64 (u : Int) := I64.small (by omega) (by omega)
  have hbi : I64 (b : Int) := I64.small (by omega) (by omega)
  have HV : Hid (Valid k ll) := hv
  have SF : Hid (∀ r, ShPath k ll u b r → _) := fun r hr => short_facts hf ha hb (r := r) hr
  have HLL := Lib.hid hll
  clear hv hc hf hll
  go_enter Try.func8, Try.ntmps8
  go_wp2_with (go_at_call 11; refine F.out.mono ?_; rintro e w1 ⟨rfl, b1⟩; have c1 := cell_later b1 hc0)
  have hb1 := hb0.trans (b1.mono hb0.size)
  have hs1 := hb1.size
  have hsz1 : w.heap.size < w1.heap.size := by have := b1.size; simp at this; omega
  clear F b1 hc0 hb0
  refine (shortest_any k a m cap u b ll w1 (h.below hb1) hui hbi).mono ?_
  rintro e w2 ⟨a2, q2, c2, r, rfl, i2, sp, b2⟩
  have hb2 := hb1.trans (b2.mono hb1.size)
  have c2' := cell_later b2 c1
  have hsz2 : w.heap.size < w2.heap.size := by have := b2.size; omega
  have SF2 := SF.out r sp
  generalize shErr k ll u b = E at *
  generalize shCost k ll u b = C at *
  have hB3 : Below w.heap.size w ((w2.alloc (.cells #[.slice a2 q2 c2] 26)).alloc (.cells #[.int .i64 C] 3)) := (hb2.alloc (by omega) _).alloc (by simp; omega) _
  have P := Lib.hid (paths_any HV.out HLL.out hk2 ha hb a m cap _ (h.below hB3))
  have SFF := Lib.hid SF2
  clear SF2 sp SF
  go_wp2_with fail
  have x2 : ((w2.alloc (.cells #[.slice a2 q2 c2] 26)).alloc (.cells #[.int .i64 C] 3)).cell? ⟨w2.heap.size, 0, none⟩ = some (.slice a2 q2 c2) := by
    rw [World.cell?_alloc_past _ _ _ (by simp)]; exact cell_lit1 _ _ _ rfl
  have x3 : ((w2.alloc (.cells #[.slice a2 q2 c2] 26)).alloc (.cells #[.int .i64 C] 3)).cell? ⟨w2.heap.size + 1, 0, none⟩ = some (.int .i64 C) := cell_lit1 _ _ _ (by simp)
  have x1 : ((w2.alloc (.cells #[.slice a2 q2 c2] 26)).alloc (.cells #[.int .i64 C] 3)).cell? ⟨w.heap.size, 0, none⟩ = some (.slice a m cap) := by
    rw [World.cell?_alloc_past _ _ _ (by simp; omega), World.cell?_alloc_past _ _ _ (by omega)]; exact c2'
  have i3 : Ints ((w2.alloc (.cells #[.slice a2 q2 c2] 26)).alloc (.cells #[.int .i64 C] 3)) a2 q2 c2 r := (i2.alloc _).alloc _
  generalize (w2.alloc (.cells #[.slice a2 q2 c2] 26)).alloc (.cells #[.int .i64 C] 3) = w3 at *
  clear c1 c2' b2 i2
  refine P.out.mono ?_
  rintro e w4 ⟨a4, q4, c4, rfl, i4, b4⟩
  have hb4 := hB3.trans (b4.mono hB3.size)
  have y1 := cell_later b4 x1
  have y2 := cell_later b4 x2
  have y3 := cell_later b4 x3
  have j3 := i3.below b4
  have hq4 := Lib.hid i4.len
  have hq2 := Lib.hid j3.len
  clear P b4 x1 x2 x3 i3 hB3 hb1 hb2
  have hs4 := hb4.size
  rcases SFF.out with ⟨rfl, rfl, rfl, hnil⟩ | ⟨rfl, hne, hcost, hin, hrl, hmem, hbet⟩
  · have hq0 : q2 = 0 := hq2.out
    have hq4' : q4 = 0 := by rw [hq4.out, hnil]; rfl
    clear hq2 hq4 SFF hnil
    subst hq0 hq4'
    go_wp2_with (go_at_call 12; refine (awake_any _).mono ?_; rintro e w5 ⟨rfl, b5⟩)
    go_ret
    exact ⟨rfl, hb4.trans (b5.mono hs4)⟩
  · have hd4 : ((q4 : Int) == 0) = false := by
      simp
      intro e
      exact hne (List.eq_nil_of_length_eq_zero (by rw [← hq4.out]; exact e))
    have hq1000 : q2 ≤ 1000 := by rw [hq2.out]; omega
    have hC2 : ((C : Int) != C) = false := by simp
    have hll := h.below hb4
    have M1 : Hid (∀ w', Drew w4 w' → Calls Try.prog 31 #[.slice a4 q4 c4, .func (.func 32) #[] #[.pointer (some ⟨w2.heap.size, 0, none⟩)]] w' fun e w'' => e = .returned (.bool true) ∧ Drew w' w'') := fun w' hd => by
      have := contains_eq w2.heap.size (fun q => decide (r = q)) a4 q4 c4 _ w' (i4.drews hd) (fun w'' a' n' c' q hd' hq hi => lit_eq w2.heap.size a' a2 n' c' q2 c2 q r w'' hi (j3.drews (hd.trans hd')) (cell_later ((hd.trans hd').below _) y2))
      rw [hmem] at this
      exact this
    have M2 : Hid (∀ w', Drew w4 w' → Calls Try.prog 31 #[.slice a4 q4 c4, .func (.func 34) #[] #[.pointer (some ⟨w.heap.size, 0, none⟩), .pointer (some ⟨w2.heap.size + 1, 0, none⟩), .pointer (some ⟨w2.heap.size, 0, none⟩)]] w' fun e w'' => e = .returned (.bool false) ∧ Drew w' w'') := fun w' hd => by
      have := contains_better w.heap.size (w2.heap.size + 1) w2.heap.size (betterB ll C r) a4 q4 c4 _ w' (i4.drews hd) (fun w'' a' n' c' q hd' hq hi => by
        have hr := pathsF_row k u q hq
        exact lit_better k w.heap.size (w2.heap.size + 1) w2.heap.size a' a a2 n' c' m cap q2 c2 ll C q r w'' (hll.drews (hd.trans hd')) hi (j3.drews (hd.trans hd')) HV.out (by have := hi.len; omega) hr.2 (cell_later ((hd.trans hd').below _) y1) (cell_later ((hd.trans hd').below _) y3) (cell_later ((hd.trans hd').below _) y2))
      rw [hbet] at this
      exact this
    have M3 : Hid (∀ w', Drew w4 w' → Calls Try.prog 33 #[.slice a m cap, .slice a2 q2 c2] w' fun e w'' => e = .returned (.int .i64 C) ∧ Drew w' w'') := fun w' hd => by
      have := cost_any k a a2 m cap q2 c2 ll r w' (hll.drews hd) (j3.drews hd) HV.out hq1000 hin
      rw [hcost] at this
      exact this
    clear hne hcost hin hmem hbet SFF
    go_wp2
    go_quiet ((first | (go_at_call 31; exact Drew.quiet (M1.out _ ⟨_, rfl⟩)) | (go_at_call 33; exact Drew.quiet (M3.out _ ⟨_, rfl⟩))))
    have hd4' : Drew w4 (w4.drewN nq) := ⟨nq, rfl⟩
    have hb5 := hb4.trans (hd4'.below _)
    have M4 := Lib.hid (M2.out _ hd4')
    clear hd4'
    go_wp2_with fail
    refine M4.out.mono ?_
    rintro e w6 ⟨rfl, hd6⟩
    have hb6 := hb5.trans (hd6.below _)
    go_wp2_with (go_at_call 12; refine (awake_any _).mono ?_; rintro e w7 ⟨rfl, b7⟩)
    go_ret
    exact ⟨rfl, hb6.trans (b7.mono hb6.size)⟩
theorem law_short_all (n : Int) (a : Option Addr) (m cap : Nat) (ll : List Lk) (s t : Int) (w : World) (h : LRow w a m cap ll) (hs : 0 ≤ s ∧ s ≤ 255) (ht : 0 ≤ t ∧ t ≤ 255) :
    Calls Try.prog 8 #[.int .i64 n, .slice a m cap, .int .u8 s, .int .u8 t] w fun e w' => e = .returned (.bool true) ∧ Below w.heap.size w w' := by
  obtain ⟨t', rfl⟩ : ∃ t' : Nat, t = (t' : Int) := ⟨t.toNat, by omega⟩
  obtain ⟨s', rfl⟩ : ∃ t' : Nat, s = (t' : Int) := ⟨s.toNat, by omega⟩
  by_cases hf : fineB n ll = true
  · obtain ⟨k, rfl, _, _, hll, _⟩ := fineB_ok hf
    exact law_short k a m cap ll s' t' w (h.2.2 (by have := h.2.1; omega)) hf (by omega) (by omega)
  · exact law_short_no n a m cap ll s' t' w h.2.1 h.1 h.2.2 (by simpa using hf)
end Go.Proofs.Ytebmachppbpdmaa
