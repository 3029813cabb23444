/- slices.ContainsFunc over values at two functions; fine. -/
import Derived.Test.YtancjkaoocgeeaaDoorCGreat
import Derived.Test.YtancjkaoocgeeaaDoorCEnc
namespace Go.Proofs.YtancjkaoocgeeaaDoor
open Go.RowKit

/-- Too great, or not valid. -/
def badV (v : V) : Bool := greatV v || decide (chkV v ≠ 0)
set_option maxRecDepth 100000 in
set_option maxHeartbeats 2000000 in
theorem fine1_any (S : Nat → Prop) : ∀ (v : Vl) (w : World), Rd S w v →
    Calls Tryd.prog 50 #[v.val] w fun e w' => e = .returned (.bool (badV v.er)) ∧ Below w.heap.size w w'
  | .mk k nn t a c l, w, h => by
    have hB := boxed S w _ h
    have hBE := hB.below
    have hlt := hB.lt
    have A1 : Hid (∀ W, Below (w.alloc (.cells (Vl.mk k nn t a c l).cells 24)).heap.size (w.alloc (.cells (Vl.mk k nn t a c l).cells 24)) W → Calls Tryd.prog 10 #[.agg #[.int .i64 k, .int .i64 nn, .string t, .slice a l.length c]] W fun e w' => e = .returned (.bool (greatV (Vl.mk k nn t a c l).er)) ∧ Below W.heap.size W w') := fun W hb => great_any S _ W (hB.rd.below hb)
    have A2 : Hid (∀ W, Below (w.alloc (.cells (Vl.mk k nn t a c l).cells 24)).heap.size (w.alloc (.cells (Vl.mk k nn t a c l).cells 24)) W → Calls Tryd.prog 17 #[.agg #[.int .i64 k, .int .i64 nn, .string t, .slice a l.length c]] W fun e w' => e = .returned (.int .i64 (chkV (Vl.mk k nn t a c l).er)) ∧ Below W.heap.size W w') := fun W hb => check_ref S _ W (hB.rd.below hb)
    have HX : Hid (badV (Vl.mk k nn t a c l).er = (greatV (Vl.mk k nn t a c l).er || decide (chkV (Vl.mk k nn t a c l).er ≠ 0))) := rfl
    change Hid (∀ W, Below (w.alloc (.cells #[.int .i64 k, .int .i64 nn, .string t, .slice a l.length c] 24)).heap.size (w.alloc (.cells #[.int .i64 k, .int .i64 nn, .string t, .slice a l.length c] 24)) W → _) at A1
    change Hid (∀ W, Below (w.alloc (.cells #[.int .i64 k, .int .i64 nn, .string t, .slice a l.length c] 24)).heap.size (w.alloc (.cells #[.int .i64 k, .int .i64 nn, .string t, .slice a l.length c] 24)) W → _) at A2
    change Boxed S w (w.alloc (.cells #[.int .i64 k, .int .i64 nn, .string t, .slice a l.length c] 24)) _ _ at hB
    change Below _ w (w.alloc (.cells #[.int .i64 k, .int .i64 nn, .string t, .slice a l.length c] 24)) at hBE
    change w.heap.size ≤ (w.alloc (.cells #[.int .i64 k, .int .i64 nn, .string t, .slice a l.length c] 24)).heap.size at hlt
    change Calls _ _ #[.agg #[.int .i64 k, .int .i64 nn, .string t, .slice a l.length c]] _ _
    generalize greatV (Vl.mk k nn t a c l).er = G at *
    generalize chkV (Vl.mk k nn t a c l).er = C at *
    generalize badV (Vl.mk k nn t a c l).er = R at *
    obtain ⟨c1, c2, c3, c4⟩ := hB.at_
    change (w.alloc (.cells #[.int .i64 k, .int .i64 nn, .string t, .slice a l.length c] 24)).cell? ⟨w.heap.size, 0, none⟩ = some (.int .i64 k) at c1
    change (w.alloc (.cells #[.int .i64 k, .int .i64 nn, .string t, .slice a l.length c] 24)).cell? ⟨w.heap.size, 1, none⟩ = some (.int .i64 nn) at c2
    change (w.alloc (.cells #[.int .i64 k, .int .i64 nn, .string t, .slice a l.length c] 24)).cell? ⟨w.heap.size, 2, none⟩ = some (.string t) at c3
    change (w.alloc (.cells #[.int .i64 k, .int .i64 nn, .string t, .slice a l.length c] 24)).cell? ⟨w.heap.size, 3, none⟩ = some (.slice a l.length c) at c4
    cases G with
    | true =>
      have HX2 : Hid (R = true) := by show _ = _; rw [HX.out]; rfl
      clear HX A2
      go_enter Tryd.func50, Tryd.ntmps50
      go_wp2_with fail
      generalize w.alloc (.cells #[.int .i64 k, .int .i64 nn, .string t, .slice a l.length c] 24) = W1 at *
      refine (A1.out _ (Below.refl _ _)).mono ?_
      rintro e W2 ⟨rfl, hb2⟩
      go_wp2
      go_ret
      exact ⟨by rw [HX2.out]; rfl, hBE.trans (hb2.mono hlt)⟩
    | false =>
      have HX2 : Hid (R = ((C : Int) != 0)) := by show _ = _; rw [HX.out]; by_cases h9 : C = 0 <;> simp [h9]
      clear HX
      go_enter Tryd.func50, Tryd.ntmps50
      go_wp2_with fail
      generalize w.alloc (.cells #[.int .i64 k, .int .i64 nn, .string t, .slice a l.length c] 24) = W1 at *
      refine (A1.out _ (Below.refl _ _)).mono ?_
      rintro e W2 ⟨rfl, hb2⟩
      have d1 := cell_later hb2 c1
      have d2 := cell_later hb2 c2
      have d3 := cell_later hb2 c3
      have d4 := cell_later hb2 c4
      go_wp2_with (go_at_call 17; refine (A2.out _ hb2).mono ?_; rintro e W3 ⟨rfl, hb3⟩)
      go_ret
      exact ⟨by rw [HX2.out]; rfl, hBE.trans ((hb2.trans (hb3.mono hb2.size)).mono hlt)⟩
set_option maxRecDepth 100000 in
set_option maxHeartbeats 2000000 in
theorem index_fine (S : Nat → Prop) (a : Option Addr) (n c : Nat) (l : List Vl) (w : World) (h : Vals S w a n c l) :
    Calls Tryd.prog 47 #[.slice a n c, .func (.func 50) #[] #[]] w fun e w' => ∃ i : Int, e = .returned (.int .i64 i) ∧ decide (0 ≤ i) = (l.map Vl.er).any badV ∧ Below w.heap.size w w' := by
  have hn := h.1
  have hL := h.2.2.1
  have hE0 : Hid ((l.map Vl.er).any badV = ((l.map Vl.er).drop 0).any badV) := rfl
  have HN := Lib.hid hn
  clear hn
  generalize (l.map Vl.er).any badV = R at *
  go_enter Tryd.func47, Tryd.ntmps47
  go_wp2
  go_loopw [8] (fun i wr => ∃ (j : Nat), i = .int .i64 j ∧ j ≤ n ∧ Hid (R = ((l.map Vl.er).drop j).any badV) ∧ Below w.heap.size w wr) (fun i _ => n - (intOf i).toNat)
  case atStart => exact ⟨0, rfl, Nat.zero_le _, hE0.out, Below.refl _ _⟩
  case round =>
    obtain ⟨j, rfl, hj, hx, hb⟩ := hrel
    by_cases hlj : j < n
    · obtain ⟨u, bb, off, hu, hmem, rfl, -, hbl, ⟨c1, c2, c3, c4⟩, hru⟩ := (h.below hb).get hlj
      have F := fine1_any S u wr hru
      have hst : R = (badV u.er || ((l.map Vl.er).drop (j + 1)).any badV) := by
        rw [hx.out, List.drop_eq_getElem_cons (by rw [List.length_map, ← HN.out]; exact hlj), List.any_cons]
        congr 2
        rw [List.getElem_map]
        congr 1
        exact (List.getElem?_eq_some_iff.1 hu).2
      generalize badV u.er = G at *
      have HST := Lib.hid hst
      obtain ⟨uk, un, ut, ua, uc, ul⟩ := u
      dsimp only [Vl.val, Vl.cells, Vl.kind, Vl.num, Vl.text, Vl.sl, Vl.addr, Vl.items, Vl.cap] at c1 c2 c3 c4 F
      have HF := Lib.hid F
      clear F hst hx hru hu hmem
      cases G with
      | true =>
        have HST2 : Hid (R = true) := by show _ = _; rw [HST.out]; rfl
        clear HST
        go_wp2_with (go_at_call 50; refine HF.out.mono ?_; rintro e w' ⟨rfl, hb'⟩)
        go_ret
        exact ⟨j, by first | rfl | go_num, by rw [HST2.out]; simp, hb.trans (hb'.mono hb.size)⟩
      | false =>
        have HST2 : Hid (R = ((l.map Vl.er).drop (j + 1)).any badV) := by show _ = _; rw [HST.out]; rfl
        clear HST
        go_wp2_with (go_at_call 50; refine HF.out.mono ?_; rintro e w' ⟨rfl, hb'⟩)
        go_roundw
        case rel => exact ⟨j + 1, by go_num, by omega, HST2.out, hb.trans (hb'.mono hb.size)⟩
        case measure => simp [intOf]; omega
    · obtain rfl : j = n := by omega
      have HST2 : Hid (R = false) := by show _ = _; rw [hx.out, List.drop_of_length_le (by rw [List.length_map, ← HN.out]; exact Nat.le_refl _)]; rfl
      go_wp2
      go_ret
      exact ⟨-1, rfl, by rw [HST2.out]; rfl, hb⟩
set_option maxRecDepth 100000 in
theorem contains_fine (S : Nat → Prop) (a : Option Addr) (n c : Nat) (l : List Vl) (w : World) (h : Vals S w a n c l) :
    Calls Tryd.prog 21 #[.slice a n c, .func (.func 50) #[] #[]] w fun e w' => e = .returned (.bool ((l.map Vl.er).any badV)) ∧ Below w.heap.size w w' := by
  have F := Lib.hid (index_fine S a n c l w h)
  generalize (l.map Vl.er).any badV = R at *
  clear h
  go_enter Tryd.func21, Tryd.ntmps21
  go_wp2_with (go_at_call 47; refine F.out.mono ?_; rintro e w' ⟨i, rfl, hi, hb'⟩)
  go_ret
  exact ⟨by rw [← hi]; simp, hb'⟩
set_option maxRecDepth 100000 in
set_option maxHeartbeats 2000000 in
theorem index_great (S : Nat → Prop) (a : Option Addr) (n c : Nat) (l : List Vl) (w : World) (h : Vals S w a n c l) :
    Calls Tryd.prog 47 #[.slice a n c, .func (.func 10) #[] #[]] w fun e w' => ∃ i : Int, e = .returned (.int .i64 i) ∧ decide (0 ≤ i) = (l.map Vl.er).any greatV ∧ Below w.heap.size w w' := by
  have hn := h.1
  have hL := h.2.2.1
  have hE0 : Hid ((l.map Vl.er).any greatV = ((l.map Vl.er).drop 0).any greatV) := rfl
  have HN := Lib.hid hn
  clear hn
  generalize (l.map Vl.er).any greatV = R at *
  go_enter Tryd.func47, Tryd.ntmps47
  go_wp2
  go_loopw [8] (fun i wr => ∃ (j : Nat), i = .int .i64 j ∧ j ≤ n ∧ Hid (R = ((l.map Vl.er).drop j).any greatV) ∧ Below w.heap.size w wr) (fun i _ => n - (intOf i).toNat)
  case atStart => exact ⟨0, rfl, Nat.zero_le _, hE0.out, Below.refl _ _⟩
  case round =>
    obtain ⟨j, rfl, hj, hx, hb⟩ := hrel
    by_cases hlj : j < n
    · obtain ⟨u, bb, off, hu, hmem, rfl, -, hbl, ⟨c1, c2, c3, c4⟩, hru⟩ := (h.below hb).get hlj
      have F := great_any S u wr hru
      have hst : R = (greatV u.er || ((l.map Vl.er).drop (j + 1)).any greatV) := by
        rw [hx.out, List.drop_eq_getElem_cons (by rw [List.length_map, ← HN.out]; exact hlj), List.any_cons]
        congr 2
        rw [List.getElem_map]
        congr 1
        exact (List.getElem?_eq_some_iff.1 hu).2
      generalize greatV u.er = G at *
      have HST := Lib.hid hst
      obtain ⟨uk, un, ut, ua, uc, ul⟩ := u
      dsimp only [Vl.val, Vl.cells, Vl.kind, Vl.num, Vl.text, Vl.sl, Vl.addr, Vl.items, Vl.cap] at c1 c2 c3 c4 F
      have HF := Lib.hid F
      clear F hst hx hru hu hmem
      cases G with
      | true =>
        have HST2 : Hid (R = true) := by show _ = _; rw [HST.out]; rfl
        clear HST
        go_wp2_with (go_at_call 10; refine HF.out.mono ?_; rintro e w' ⟨rfl, hb'⟩)
        go_ret
        exact ⟨j, by first | rfl | go_num, by rw [HST2.out]; simp, hb.trans (hb'.mono hb.size)⟩
      | false =>
        have HST2 : Hid (R = ((l.map Vl.er).drop (j + 1)).any greatV) := by show _ = _; rw [HST.out]; rfl
        clear HST
        go_wp2_with (go_at_call 10; refine HF.out.mono ?_; rintro e w' ⟨rfl, hb'⟩)
        go_roundw
        case rel => exact ⟨j + 1, by go_num, by omega, HST2.out, hb.trans (hb'.mono hb.size)⟩
        case measure => simp [intOf]; omega
    · obtain rfl : j = n := by omega
      have HST2 : Hid (R = false) := by show _ = _; rw [hx.out, List.drop_of_length_le (by rw [List.length_map, ← HN.out]; exact Nat.le_refl _)]; rfl
      go_wp2
      go_ret
      exact ⟨-1, rfl, by rw [HST2.out]; rfl, hb⟩
set_option maxRecDepth 100000 in
theorem contains_great (S : Nat → Prop) (a : Option Addr) (n c : Nat) (l : List Vl) (w : World) (h : Vals S w a n c l) :
    Calls Tryd.prog 21 #[.slice a n c, .func (.func 10) #[] #[]] w fun e w' => e = .returned (.bool ((l.map Vl.er).any greatV)) ∧ Below w.heap.size w w' := by
  have F := Lib.hid (index_great S a n c l w h)
  generalize (l.map Vl.er).any greatV = R at *
  clear h
  go_enter Tryd.func21, Tryd.ntmps21
  go_wp2_with (go_at_call 47; refine F.out.mono ?_; rintro e w' ⟨i, rfl, hi, hb'⟩)
  go_ret
  exact ⟨by rw [← hi]; simp, hb'⟩
set_option maxRecDepth 100000 in
theorem fine_any (S : Nat → Prop) (a : Option Addr) (n c : Nat) (l : List Vl) (w : World) (h : Vals S w a n c l) :
    Calls Tryd.prog 29 #[.slice a n c] w fun e w' => e = .returned (.bool (!(l.map Vl.er).any badV)) ∧ Below w.heap.size w w' := by
  have F := Lib.hid (contains_fine S a n c l w h)
  generalize (l.map Vl.er).any badV = R at *
  clear h
  go_enter Tryd.func29, Tryd.ntmps29
  go_wp2_with (go_at_call 21; refine F.out.mono ?_; rintro e w' ⟨rfl, hb'⟩)
  go_ret
  exact ⟨rfl, hb'⟩
end Go.Proofs.YtancjkaoocgeeaaDoor
