/- The reference: all, Check, Size, Great. -/
import Derived.Test.YtancjkaoocgeeaaDoorCMea
namespace Go.Proofs.YtancjkaoocgeeaaDoor
open Go.RowKit

theorem firstE_no {l : List Vl} {j : Nat} {u : Vl} (hu : l[j]? = some u) (h : firstE (((l.map Vl.er).take j).map allV) = 0) (h0 : allV u.er = 0) : firstE (((l.map Vl.er).take (j + 1)).map allV) = 0 := by
  rw [take_er hu, List.map_append, firstE_append, h]; simp [firstE, h0]
theorem firstE_yes {l : List Vl} {j : Nat} {u : Vl} (hu : l[j]? = some u) (h : firstE (((l.map Vl.er).take j).map allV) = 0) (h0 : allV u.er ≠ 0) : firstE ((l.map Vl.er).map allV) = allV u.er := by
  rw [← List.take_append_drop (j + 1) (l.map Vl.er), List.map_append, firstE_append, take_er hu, List.map_append, firstE_append, h]
  simp [firstE, h0]
set_option maxRecDepth 100000 in
set_option maxHeartbeats 2000000 in
theorem all_ref (v : Vl) : ∀ (S : Nat → Prop) (w : World), Rd S w v →
    Calls Tryd.prog 44 #[v.val] w fun e w' => e = .returned (.int .i64 (allV v.er)) ∧ Below w.heap.size w w' := by
  induction v using Vl.ind with
  | h v ih =>
    intro S w h
    obtain ⟨k, nn, t, a, c, l⟩ := v
    change ∀ u ∈ l, _ at ih
    have IH := Lib.hid ih
    clear ih
    have hB := boxed S w _ h
    have hE : Hid (allV (Vl.mk k nn t a c l).er = if singV (Vl.mk k nn t a c l).er ≠ 0 then singV (Vl.mk k nn t a c l).er else firstE ((l.map Vl.er).map allV)) := by show _ = _; rw [allV_eq, Vl.er_items]; rfl
    have F := single_any S (Vl.mk k nn t a c l) _ hB.rd
    have hL := hB.rd.vals.2.2.1
    have hBE := hB.below
    have hlt := hB.lt
    change l.length * 56 ≤ _ at hL
    change Boxed S w (w.alloc (.cells #[.int .i64 k, .int .i64 nn, .string t, .slice a l.length c] 24)) _ _ at hB
    change Below _ w (w.alloc (.cells #[.int .i64 k, .int .i64 nn, .string t, .slice a l.length c] 24)) at hBE
    change w.heap.size ≤ (w.alloc (.cells #[.int .i64 k, .int .i64 nn, .string t, .slice a l.length c] 24)).heap.size at hlt
    change Calls _ _ #[.agg #[.int .i64 k, .int .i64 nn, .string t, .slice a l.length c]] (w.alloc (.cells #[.int .i64 k, .int .i64 nn, .string t, .slice a l.length c] 24)) _ at F
    change Calls _ _ #[.agg #[.int .i64 k, .int .i64 nn, .string t, .slice a l.length c]] _ _
    have HF := Lib.hid F
    dsimp only [Vl.val, Vl.cells, Vl.kind, Vl.num, Vl.text, Vl.sl, Vl.addr, Vl.items, Vl.cap] at HF
    clear F
    generalize hM : allV (Vl.mk k nn t a c l).er = M at *
    clear hM
    generalize hG : singV (Vl.mk k nn t a c l).er = G at *
    clear hG
    by_cases hg : G = 0
    · subst hg
      have HX : Hid (M = firstE ((l.map Vl.er).map allV)) := by show _ = _; rw [hE.out, if_neg (by simp)]
      clear hE
      go_enter Tryd.func44, Tryd.ntmps44
      go_wp2_with fail
      generalize w.alloc (.cells #[.int .i64 k, .int .i64 nn, .string t, .slice a l.length c] 24) = W1 at *
      refine HF.out.mono ?_
      rintro e W2 ⟨rfl, hb2⟩
      have hB2 := hB.later hb2
      have hlt2 := hB2.lt
      have hBE2 := hB2.below
      clear HF hb2 hB hBE hlt
      go_wp2
      go_loopw [4] (fun i wr => ∃ (j : Nat), i = .int .i64 j ∧ j ≤ l.length ∧ Hid (firstE (((l.map Vl.er).take j).map allV) = 0) ∧ Below W2.heap.size W2 wr) (fun i _ => l.length - (intOf i).toNat)
      case atStart => exact ⟨0, rfl, Nat.zero_le _, rfl, Below.refl _ _⟩
      case round =>
        obtain ⟨j, rfl, hj, hx, hb⟩ := hrel
        have hBr := hB2.later hb
        obtain ⟨-, -, -, k4⟩ := hBr.at_
        change wr.cell? ⟨w.heap.size, 3, none⟩ = some (.slice a l.length c) at k4
        by_cases hlj : j < l.length
        · obtain ⟨u, bb, off, hu, hmem, ea, -, -, ⟨c1, c2, c3, c4⟩, hru⟩ := hBr.rd.vals.get hlj
          change a = _ at ea
          change l[j]? = _ at hu
          change u ∈ l at hmem
          subst ea
          have HF := IH.out u hmem S wr hru
          by_cases h0 : allV u.er = 0
          · rw [h0] at HF
            have hst := Lib.hid (firstE_no hu hx.out h0)
            replace HF := Lib.hid HF
            obtain ⟨uk, un, ut, ua, uc, ul⟩ := u
            dsimp only [Vl.kind, Vl.num, Vl.text, Vl.sl, Vl.addr, Vl.items, Vl.cap] at c1 c2 c3 c4
            dsimp only [Vl.val, Vl.cells, Vl.kind, Vl.num, Vl.text, Vl.sl, Vl.addr, Vl.items, Vl.cap] at HF
            clear hx hru hu h0 hmem
            go_wp2_with (go_at_call 44; refine HF.out.mono ?_; rintro e w' ⟨rfl, hb'⟩)
            go_roundw
            case rel => exact ⟨j + 1, by go_num, by omega, hst.out, hb.trans (hb'.mono hb.size)⟩
            case measure => simp [intOf]; omega
          · have hst : Hid (M = allV u.er) := by show _ = _; rw [HX.out, firstE_yes hu hx.out h0]
            generalize allV u.er = Q at *
            have dq : ((Q : Int) != 0) = true := by simp [h0]
            replace HF := Lib.hid HF
            obtain ⟨uk, un, ut, ua, uc, ul⟩ := u
            dsimp only [Vl.kind, Vl.num, Vl.text, Vl.sl, Vl.addr, Vl.items, Vl.cap] at c1 c2 c3 c4
            dsimp only [Vl.val, Vl.cells, Vl.kind, Vl.num, Vl.text, Vl.sl, Vl.addr, Vl.items, Vl.cap] at HF
            clear hx hru hu h0 hmem
            go_wp2_with (go_at_call 44; refine HF.out.mono ?_; rintro e w' ⟨rfl, hb'⟩)
            go_ret
            exact ⟨by rw [hst.out]; rfl, hBE2.trans ((hb.trans (hb'.mono hb.size)).mono hlt2)⟩
        · obtain rfl : j = l.length := by omega
          have hst : Hid (M = 0) := by
            show _ = _
            have := hx.out
            rw [List.take_of_length_le (by simp)] at this
            rw [HX.out, this]
          clear hx
          go_wp2
          go_ret
          exact ⟨by rw [hst.out]; rfl, hBE2.trans (hb.mono hlt2)⟩
    · have HX : Hid (M = G) := by show _ = _; rw [hE.out, if_pos hg]
      have dg : ((G : Int) != 0) = true := by simp [hg]
      clear hE hg
      go_enter Tryd.func44, Tryd.ntmps44
      go_wp2_with fail
      generalize w.alloc (.cells #[.int .i64 k, .int .i64 nn, .string t, .slice a l.length c] 24) = W1 at *
      refine HF.out.mono ?_
      rintro e W2 ⟨rfl, hb2⟩
      go_wp2
      go_ret
      exact ⟨by rw [HX.out]; rfl, hBE.trans (hb2.mono hlt)⟩

set_option maxRecDepth 100000 in
set_option maxHeartbeats 2000000 in
theorem check_ref (S : Nat → Prop) : ∀ (v : Vl) (w : World), Rd S w v →
    Calls Tryd.prog 17 #[v.val] w fun e w' => e = .returned (.int .i64 (chkV v.er)) ∧ Below w.heap.size w w'
  | .mk k nn t a c l, w, h => by
    have hB := boxed S w _ h
    have F := measure_ref 64 S (Vl.mk k nn t a c l) _ 65536 (by omega) (by omega) (by omega) hB.rd
    have hBE := hB.below
    have hlt := hB.lt
    have hE : Hid (chkV (Vl.mk k nn t a c l).er = if measR 64 65536 (Vl.mk k nn t a c l).er = none then 4 else allV (Vl.mk k nn t a c l).er) := rfl
    have A1 : Hid (∀ W, Below (w.alloc (.cells (Vl.mk k nn t a c l).cells 24)).heap.size (w.alloc (.cells (Vl.mk k nn t a c l).cells 24)) W → Calls Tryd.prog 44 #[.agg #[.int .i64 k, .int .i64 nn, .string t, .slice a l.length c]] W fun e w' => e = .returned (.int .i64 (allV (Vl.mk k nn t a c l).er)) ∧ Below W.heap.size W w') := fun W hb => all_ref (Vl.mk k nn t a c l) S W (hB.later hb).rd
    change Hid (∀ W, Below (w.alloc (.cells #[.int .i64 k, .int .i64 nn, .string t, .slice a l.length c] 24)).heap.size (w.alloc (.cells #[.int .i64 k, .int .i64 nn, .string t, .slice a l.length c] 24)) W → _) at A1
    change Boxed S w (w.alloc (.cells #[.int .i64 k, .int .i64 nn, .string t, .slice a l.length c] 24)) _ _ at hB
    change Below _ w (w.alloc (.cells #[.int .i64 k, .int .i64 nn, .string t, .slice a l.length c] 24)) at hBE
    change w.heap.size ≤ (w.alloc (.cells #[.int .i64 k, .int .i64 nn, .string t, .slice a l.length c] 24)).heap.size at hlt
    change Calls _ _ #[.agg #[.int .i64 k, .int .i64 nn, .string t, .slice a l.length c], _, _] (w.alloc (.cells #[.int .i64 k, .int .i64 nn, .string t, .slice a l.length c] 24)) _ at F
    change Calls _ _ #[.agg #[.int .i64 k, .int .i64 nn, .string t, .slice a l.length c]] _ _
    generalize measR 64 65536 (Vl.mk k nn t a c l).er = M at *
    generalize allV (Vl.mk k nn t a c l).er = Q at *
    generalize chkV (Vl.mk k nn t a c l).er = R at *
    cases M with
    | none =>
      have HX : Hid (R = 4) := by show _ = _; rw [hE.out, if_pos rfl]
      have HF := Lib.hid F
      dsimp only [mgot, mbad, Option.getD, Option.isNone, Vl.val, Vl.cells, Vl.kind, Vl.num, Vl.text, Vl.sl, Vl.addr, Vl.items, Vl.cap] at HF
      clear F hE
      go_enter Tryd.func17, Tryd.ntmps17
      go_wp2_with fail
      generalize w.alloc (.cells #[.int .i64 k, .int .i64 nn, .string t, .slice a l.length c] 24) = W1 at *
      refine HF.out.mono ?_
      rintro e W2 ⟨rfl, hb2⟩
      go_wp2
      go_ret
      exact ⟨by rw [HX.out]; rfl, hBE.trans (hb2.mono hlt)⟩
    | some y =>
      have HX : Hid (R = Q) := by show _ = _; rw [hE.out, if_neg (by simp)]
      have HF := Lib.hid F
      dsimp only [mgot, mbad, Option.getD, Option.isNone, Vl.val, Vl.cells, Vl.kind, Vl.num, Vl.text, Vl.sl, Vl.addr, Vl.items, Vl.cap] at HF
      clear F hE
      go_enter Tryd.func17, Tryd.ntmps17
      go_wp2_with fail
      generalize w.alloc (.cells #[.int .i64 k, .int .i64 nn, .string t, .slice a l.length c] 24) = W1 at *
      refine HF.out.mono ?_
      rintro e W2 ⟨rfl, hb2⟩
      have hB2 := hB.later hb2
      obtain ⟨c1, c2, c3, c4⟩ := hB2.at_
      change W2.cell? ⟨w.heap.size, 0, none⟩ = some (.int .i64 k) at c1
      change W2.cell? ⟨w.heap.size, 1, none⟩ = some (.int .i64 nn) at c2
      change W2.cell? ⟨w.heap.size, 2, none⟩ = some (.string t) at c3
      change W2.cell? ⟨w.heap.size, 3, none⟩ = some (.slice a l.length c) at c4
      have A2 := Lib.hid (A1.out W2 hb2)
      clear A1 hb2
      go_wp2_with (go_at_call 44; refine A2.out.mono ?_; rintro e W3 ⟨rfl, hb3⟩)
      go_ret
      exact ⟨by rw [HX.out]; rfl, hB2.below.trans (hb3.mono hB2.lt)⟩
end Go.Proofs.YtancjkaoocgeeaaDoor
