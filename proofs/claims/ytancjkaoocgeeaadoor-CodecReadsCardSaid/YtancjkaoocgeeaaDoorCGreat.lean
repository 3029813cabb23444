/- The reference: Size, Great. -/
import Derived.Test.YtancjkaoocgeeaaDoorCChk
namespace Go.Proofs.YtancjkaoocgeeaaDoor
open Go.RowKit

theorem chkV_meas {v : V} (h : chkV v = 0) : ∃ y, measR 64 65536 v = some y ∧ sizV v = y := by
  unfold chkV at h
  cases hm : measR 64 65536 v with
  | none => rw [hm, if_pos rfl] at h; cases h
  | some y =>
    refine ⟨y, rfl, ?_⟩
    rw [sizV, if_pos (by unfold chkV; exact h), hm]; rfl
set_option maxRecDepth 100000 in
set_option maxHeartbeats 2000000 in
theorem size_ref (S : Nat → Prop) : ∀ (v : Vl) (w : World), Rd S w v →
    Calls Tryd.prog 15 #[v.val] w fun e w' => e = .returned (.tuple #[.int .i64 (sizV v.er), .int .i64 (chkV v.er)]) ∧ Below w.heap.size w w'
  | .mk k nn t a c l, w, h => by
    have hB := boxed S w _ h
    have hBE := hB.below
    have hlt := hB.lt
    have F := check_ref S (Vl.mk k nn t a c l) _ hB.rd
    have A1 : Hid (∀ W, Below (w.alloc (.cells (Vl.mk k nn t a c l).cells 24)).heap.size (w.alloc (.cells (Vl.mk k nn t a c l).cells 24)) W → Calls Tryd.prog 43 #[.agg #[.int .i64 k, .int .i64 nn, .string t, .slice a l.length c], .int .i64 (64 : Nat), .int .i64 65536] W fun e w' => e = .returned (.tuple #[.int .i64 (mgot (measR 64 65536 (Vl.mk k nn t a c l).er)), .bool (mbad (measR 64 65536 (Vl.mk k nn t a c l).er))]) ∧ Below W.heap.size W w') := fun W hb => measure_ref 64 S (Vl.mk k nn t a c l) W 65536 (by omega) (by omega) (by omega) (hB.later hb).rd
    change Hid (∀ W, Below (w.alloc (.cells #[.int .i64 k, .int .i64 nn, .string t, .slice a l.length c] 24)).heap.size (w.alloc (.cells #[.int .i64 k, .int .i64 nn, .string t, .slice a l.length c] 24)) W → _) at A1
    change Boxed S w (w.alloc (.cells #[.int .i64 k, .int .i64 nn, .string t, .slice a l.length c] 24)) _ _ at hB
    change Below _ w (w.alloc (.cells #[.int .i64 k, .int .i64 nn, .string t, .slice a l.length c] 24)) at hBE
    change w.heap.size ≤ (w.alloc (.cells #[.int .i64 k, .int .i64 nn, .string t, .slice a l.length c] 24)).heap.size at hlt
    have HF := Lib.hid F
    dsimp only [Vl.val, Vl.cells, Vl.kind, Vl.num, Vl.text, Vl.sl, Vl.addr, Vl.items, Vl.cap] at HF
    have hsz : Hid (chkV (Vl.mk k nn t a c l).er = 0 → ∃ y, measR 64 65536 (Vl.mk k nn t a c l).er = some y ∧ sizV (Vl.mk k nn t a c l).er = y) := chkV_meas
    have hs0 : Hid (sizV (Vl.mk k nn t a c l).er = if chkV (Vl.mk k nn t a c l).er = 0 then (measR 64 65536 (Vl.mk k nn t a c l).er).getD 0 else 0) := rfl
    clear F
    change Calls _ _ #[.agg #[.int .i64 k, .int .i64 nn, .string t, .slice a l.length c]] _ _
    generalize measR 64 65536 (Vl.mk k nn t a c l).er = M at *
    generalize chkV (Vl.mk k nn t a c l).er = R at *
    generalize sizV (Vl.mk k nn t a c l).er = Z at *
    by_cases hr : R = 0
    · subst hr
      obtain ⟨y, rfl, rfl⟩ := hsz.out rfl
      dsimp only [mgot, mbad, Option.getD, Option.isNone] at A1
      clear hsz hs0
      go_enter Tryd.func15, Tryd.ntmps15
      go_wp2_with fail
      generalize w.alloc (.cells #[.int .i64 k, .int .i64 nn, .string t, .slice a l.length c] 24) = W1 at *
      refine HF.out.mono ?_
      rintro e W2 ⟨rfl, hb2⟩
      have hB2 := hB.later hb2
      obtain ⟨c1, c2, c3, c4⟩ := hB2.at_
      change W2.cell? ⟨w.heap.size, 0, none⟩ = some (.int .i64 k) at c1
      change W2.cell? ⟨w.heap.size, 1, none⟩ = some (.int .i64 nn) at c2
      change W2.cell? ⟨w.heap.size, 2, none⟩ = some (.string t) at c3
      change W2.cell? ⟨w.heap.size, 3, none⟩ = some (.slice a l.length c) at c4
      have A2 := Lib.hid (A1.out W2 hb2)
      clear A1 hb2
      go_wp2_with (go_at_call 43; refine A2.out.mono ?_; rintro e W3 ⟨rfl, hb3⟩)
      go_ret2
      exact ⟨rfl, hB2.below.trans (hb3.mono hB2.lt)⟩
    · have HX : Hid (Z = 0) := by show _ = _; rw [hs0.out, if_neg hr]
      have dr : ((R : Int) != 0) = true := by simp [hr]
      clear hsz hs0 A1 hr
      go_enter Tryd.func15, Tryd.ntmps15
      go_wp2_with fail
      generalize w.alloc (.cells #[.int .i64 k, .int .i64 nn, .string t, .slice a l.length c] 24) = W1 at *
      refine HF.out.mono ?_
      rintro e W2 ⟨rfl, hb2⟩
      go_wp2
      go_ret2
      exact ⟨by rw [HX.out]; rfl, hBE.trans (hb2.mono hlt)⟩
set_option maxRecDepth 100000 in
set_option maxHeartbeats 2000000 in
theorem great_any (S : Nat → Prop) : ∀ (v : Vl) (w : World), Rd S w v →
    Calls Tryd.prog 10 #[v.val] w fun e w' => e = .returned (.bool (greatV v.er)) ∧ Below w.heap.size w w'
  | .mk k nn t a c l, w, h => by
    have hB := boxed S w _ h
    have hBE := hB.below
    have hlt := hB.lt
    have hL := hB.rd.vals.2.2.1
    have F := count_any 70 S (Vl.mk k nn t a c l) _ (by omega) hB.rd
    have A1 : Hid (∀ W, Below (w.alloc (.cells (Vl.mk k nn t a c l).cells 24)).heap.size (w.alloc (.cells (Vl.mk k nn t a c l).cells 24)) W → Calls Tryd.prog 32 #[.agg #[.int .i64 k, .int .i64 nn, .string t, .slice a l.length c], .int .i64 (70 : Nat)] W fun e w' => e = .returned (.bool (longV 70 (Vl.mk k nn t a c l).er)) ∧ Below W.heap.size W w') := fun W hb => long_any 70 S (Vl.mk k nn t a c l) W (by omega) (hB.later hb).rd
    change Hid (∀ W, Below (w.alloc (.cells #[.int .i64 k, .int .i64 nn, .string t, .slice a l.length c] 24)).heap.size (w.alloc (.cells #[.int .i64 k, .int .i64 nn, .string t, .slice a l.length c] 24)) W → _) at A1
    change Boxed S w (w.alloc (.cells #[.int .i64 k, .int .i64 nn, .string t, .slice a l.length c] 24)) _ _ at hB
    change Below _ w (w.alloc (.cells #[.int .i64 k, .int .i64 nn, .string t, .slice a l.length c] 24)) at hBE
    change w.heap.size ≤ (w.alloc (.cells #[.int .i64 k, .int .i64 nn, .string t, .slice a l.length c] 24)).heap.size at hlt
    change l.length * 56 ≤ _ at hL
    have HF := Lib.hid F
    dsimp only [Vl.val, Vl.cells, Vl.kind, Vl.num, Vl.text, Vl.sl, Vl.addr, Vl.items, Vl.cap] at HF
    have hE : Hid (greatV (Vl.mk k nn t a c l).er = if l.length ≤ 4096 ∨ 4100 ≤ l.length then decide (60 < cntV 60 70 (Vl.mk k nn t a c l).er) || longV 70 (Vl.mk k nn t a c l).er else (l.map Vl.er).any (fun u => decide (0 < u.items.length)) || longV 70 (Vl.mk k nn t a c l).er) := by
      show _ = _; rw [greatV, Vl.er_items, List.length_map]; rfl
    clear F
    change Calls _ _ #[.agg #[.int .i64 k, .int .i64 nn, .string t, .slice a l.length c]] _ _
    generalize cntV 60 70 (Vl.mk k nn t a c l).er = C at *
    generalize longV 70 (Vl.mk k nn t a c l).er = L at *
    generalize greatV (Vl.mk k nn t a c l).er = G at *
    by_cases hl : l.length ≤ 4096 ∨ 4100 ≤ l.length
    · have HX : Hid (G = (decide (60 < C) || L)) := by show _ = _; rw [hE.out, if_pos hl]
      clear hE
      by_cases hc : 60 < C
      · have HX2 : Hid (G = true) := by show _ = _; rw [HX.out]; simp [hc]
        clear HX
        rcases (show l.length ≤ 4096 ∨ (4096 < l.length ∧ 4100 ≤ l.length) by omega) with h1 | ⟨h1, h2⟩
        all_goals
          clear hl
          go_enter Tryd.func10, Tryd.ntmps10
          go_wp2_with fail
          generalize w.alloc (.cells #[.int .i64 k, .int .i64 nn, .string t, .slice a l.length c] 24) = W1 at *
          refine HF.out.mono ?_
          rintro e W2 ⟨rfl, hb2⟩
          go_wp2
          go_ret
          exact ⟨by rw [HX2.out]; rfl, hBE.trans (hb2.mono hlt)⟩
      · have HX2 : Hid (G = L) := by show _ = _; rw [HX.out]; simp [hc]
        have dc : decide (60 < C) = false := by simp; omega
        clear HX
        rcases (show l.length ≤ 4096 ∨ (4096 < l.length ∧ 4100 ≤ l.length) by omega) with h1 | ⟨h1, h2⟩
        all_goals
          clear hl
          go_enter Tryd.func10, Tryd.ntmps10
          go_wp2_with fail
          generalize w.alloc (.cells #[.int .i64 k, .int .i64 nn, .string t, .slice a l.length c] 24) = W1 at *
          refine HF.out.mono ?_
          rintro e W2 ⟨rfl, hb2⟩
          have hB2 := hB.later hb2
          obtain ⟨c1, c2, c3, c4⟩ := hB2.at_
          change W2.cell? ⟨w.heap.size, 0, none⟩ = some (.int .i64 k) at c1
          change W2.cell? ⟨w.heap.size, 1, none⟩ = some (.int .i64 nn) at c2
          change W2.cell? ⟨w.heap.size, 2, none⟩ = some (.string t) at c3
          change W2.cell? ⟨w.heap.size, 3, none⟩ = some (.slice a l.length c) at c4
          have A2 := Lib.hid (A1.out W2 hb2)
          clear A1 hb2
          go_wp2_with (go_at_call 32; refine A2.out.mono ?_; rintro e W3 ⟨rfl, hb3⟩)
          go_ret
          exact ⟨by rw [HX2.out]; rfl, hB2.below.trans (hb3.mono hB2.lt)⟩
    · have HX : Hid (G = ((l.map Vl.er).any (fun u => decide (0 < u.items.length)) || L)) := by show _ = _; rw [hE.out, if_neg hl]
      clear hE HF
      have hl1 : 4096 < l.length := by omega
      have hl2 : l.length < 4100 := by omega
      clear hl
      go_enter Tryd.func10, Tryd.ntmps10
      go_wp2
      generalize w.alloc (.cells #[.int .i64 k, .int .i64 nn, .string t, .slice a l.length c] 24) = W1 at *
      go_loopw [3] (fun i wr => ∃ (j : Nat), i = .int .i64 j ∧ j ≤ l.length ∧ Hid (((l.map Vl.er).take j).any (fun u => decide (0 < u.items.length)) = false) ∧ wr = W1) (fun i _ => l.length - (intOf i).toNat)
      case atStart => exact ⟨0, rfl, Nat.zero_le _, rfl, rfl⟩
      case round =>
        obtain ⟨j, rfl, hj, hx, rfl⟩ := hrel
        obtain ⟨c1, c2, c3, k4⟩ := hB.at_
        change wr.cell? ⟨w.heap.size, 0, none⟩ = some (.int .i64 k) at c1
        change wr.cell? ⟨w.heap.size, 1, none⟩ = some (.int .i64 nn) at c2
        change wr.cell? ⟨w.heap.size, 2, none⟩ = some (.string t) at c3
        change wr.cell? ⟨w.heap.size, 3, none⟩ = some (.slice a l.length c) at k4
        by_cases hlj : j < l.length
        · obtain ⟨u, bb, off, hu, -, ea, -, -, ⟨-, -, -, c4⟩, hru⟩ := hB.rd.vals.get hlj
          change a = _ at ea
          change l[j]? = _ at hu
          subst ea
          by_cases h0 : 0 < u.items.length
          · have hst : Hid (G = true) := by
              show _ = _
              rw [HX.out, any_at_yes hu (by rw [decide_eq_true_eq, Vl.er_len]; exact h0)]; rfl
            obtain ⟨uk, un, ut, ua, uc, ul⟩ := u
            dsimp only [Vl.val, Vl.cells, Vl.kind, Vl.num, Vl.text, Vl.sl, Vl.addr, Vl.items, Vl.cap] at c4
            change 0 < ul.length at h0
            clear hx hru hu
            go_wp2
            go_ret
            exact ⟨by rw [hst.out]; rfl, hBE⟩
          · have hst : Hid (((l.map Vl.er).take (j + 1)).any (fun u => decide (0 < u.items.length)) = false) := any_take_no hu hx.out (by rw [decide_eq_false_iff_not, Vl.er_len]; exact h0)
            obtain ⟨uk, un, ut, ua, uc, ul⟩ := u
            dsimp only [Vl.val, Vl.cells, Vl.kind, Vl.num, Vl.text, Vl.sl, Vl.addr, Vl.items, Vl.cap] at c4
            change ¬ 0 < ul.length at h0
            have d0 : decide (0 < ul.length) = false := decide_eq_false h0
            clear hx hru hu
            go_wp2
            go_roundw
            case rel => exact ⟨j + 1, by go_num, by omega, hst.out, trivial⟩
            case measure => simp [intOf]; omega
        · obtain rfl : j = l.length := by omega
          have hst : Hid (G = L) := by
            show _ = _
            have := hx.out
            rw [List.take_of_length_le (by simp)] at this
            rw [HX.out, this]; rfl
          have A2 := Lib.hid (A1.out wr (Below.refl _ _))
          clear hx
          go_wp2_with (go_at_call 32; refine A2.out.mono ?_; rintro e W3 ⟨rfl, hb3⟩)
          go_ret
          exact ⟨by rw [hst.out]; rfl, hBE.trans (hb3.mono hlt)⟩
end Go.Proofs.YtancjkaoocgeeaaDoor
