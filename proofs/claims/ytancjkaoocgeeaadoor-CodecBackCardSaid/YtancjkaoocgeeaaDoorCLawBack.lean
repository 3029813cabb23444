/- CodecBack. -/
import Derived.Test.YtancjkaoocgeeaaDoorCAwk
import Derived.Test.YtancjkaoocgeeaaDoorCLawQ
namespace Go.Proofs.YtancjkaoocgeeaaDoor
open Go.RowKit

set_option maxRecDepth 100000 in
set_option maxHeartbeats 8000000 in
theorem law_back (v : Vl) (w : World) (hr : Rd (fun b => b < w.heap.size) w v) (hE : Env w) :
    Calls Tryd.prog 6 #[v.val] w fun e w' => e = .returned (.bool true) ∧ Below w.heap.size w w' := by
  have HE := Lib.hid hE
  obtain ⟨k, nn, t, a, c, l⟩ := v
  have hN := rd_numOk _ hr
  have hB := boxed _ w _ hr
  have hBE := hB.below
  have hvA : Vals (fun b => b < w.heap.size ∨ b = (w.alloc (.cells (Vl.mk k nn t a c l).cells 24)).heap.size) ((w.alloc (.cells (Vl.mk k nn t a c l).cells 24)).alloc (.cells (Vl.mk k nn t a c l).cells 24)) (some ⟨(w.alloc (.cells (Vl.mk k nn t a c l).cells 24)).heap.size, 0, none⟩) 1 1 [Vl.mk k nn t a c l] := by
    have hB2 := boxed _ (w.alloc (.cells (Vl.mk k nn t a c l).cells 24)) _ hB.rd
    refine ⟨rfl, Nat.le_refl _, by omega, fun j v hj => ?_⟩
    match j, hj with
    | 0, hj => cases hj; exact ⟨⟨_, 0, rfl, .inr rfl, hB2.at_⟩, hB2.rd.mono (fun b hb _ => .inl hb)⟩
  have hsz : (w.alloc (.cells #[.int .i64 k, .int .i64 nn, .string t, .slice a l.length c] 24)).heap.size = w.heap.size + 1 := by simp
  have FN : Calls Tryd.prog 29 #[.slice (some ⟨w.heap.size + 1, 0, none⟩) 1 1] ((w.alloc (.cells #[.int .i64 k, .int .i64 nn, .string t, .slice a l.length c] 24)).alloc (.cells #[.int .i64 k, .int .i64 nn, .string t, .slice a l.length c] 24)) fun e w' => e = .returned (.bool (!badV (Vl.mk k nn t a c l).er)) ∧ Below ((w.alloc (.cells #[.int .i64 k, .int .i64 nn, .string t, .slice a l.length c] 24)).alloc (.cells #[.int .i64 k, .int .i64 nn, .string t, .slice a l.length c] 24)).heap.size ((w.alloc (.cells #[.int .i64 k, .int .i64 nn, .string t, .slice a l.length c] 24)).alloc (.cells #[.int .i64 k, .int .i64 nn, .string t, .slice a l.length c] 24)) w' := by
    have h1 := fine_any _ _ _ _ _ _ hvA
    rw [List.map_cons, List.map_nil, List.any_cons, List.any_nil, Bool.or_false] at h1
    change Calls _ _ #[.slice (some ⟨(w.alloc (.cells #[.int .i64 k, .int .i64 nn, .string t, .slice a l.length c] 24)).heap.size, 0, none⟩) 1 1] _ _ at h1
    rw [hsz] at h1
    exact h1
  have hV2 : Below w.heap.size w ((w.alloc (.cells (Vl.mk k nn t a c l).cells 24)).alloc (.cells (Vl.mk k nn t a c l).cells 24)) := hBE.alloc hBE.size _
  have hcell := hB.at_
  have HR := Lib.hid hB.rd
  have HB := Lib.hid hBE
  have HV := Lib.hid hV2
  change Calls _ _ #[.agg #[.int .i64 k, .int .i64 nn, .string t, .slice a l.length c]] _ _
  change Hid (Below w.heap.size w (w.alloc (.cells #[.int .i64 k, .int .i64 nn, .string t, .slice a l.length c] 24))) at HB
  change Hid (Below w.heap.size w ((w.alloc (.cells #[.int .i64 k, .int .i64 nn, .string t, .slice a l.length c] 24)).alloc (.cells #[.int .i64 k, .int .i64 nn, .string t, .slice a l.length c] 24))) at HV
  change Hid (Rd _ (w.alloc (.cells #[.int .i64 k, .int .i64 nn, .string t, .slice a l.length c] 24)) _) at HR
  obtain ⟨c1, c2, c3, c4⟩ := hcell
  change (w.alloc (.cells #[.int .i64 k, .int .i64 nn, .string t, .slice a l.length c] 24)).cell? ⟨w.heap.size, 0, none⟩ = some (.int .i64 k) at c1
  change (w.alloc (.cells #[.int .i64 k, .int .i64 nn, .string t, .slice a l.length c] 24)).cell? ⟨w.heap.size, 1, none⟩ = some (.int .i64 nn) at c2
  change (w.alloc (.cells #[.int .i64 k, .int .i64 nn, .string t, .slice a l.length c] 24)).cell? ⟨w.heap.size, 2, none⟩ = some (.string t) at c3
  change (w.alloc (.cells #[.int .i64 k, .int .i64 nn, .string t, .slice a l.length c] 24)).cell? ⟨w.heap.size, 3, none⟩ = some (.slice a l.length c) at c4
  by_cases hbad : badV (Vl.mk k nn t a c l).er = true
  · rw [hbad] at FN
    have HFN := Lib.hid FN
    clear hbad FN hN hr hB hBE hvA hV2 hE
    go_enter Tryd.func6, Tryd.ntmps6
    go_wp2_with fail
    generalize (w.alloc (.cells #[.int .i64 k, .int .i64 nn, .string t, .slice a l.length c] 24)).alloc (.cells #[.int .i64 k, .int .i64 nn, .string t, .slice a l.length c] 24) = W2 at *
    refine HFN.out.mono ?_
    rintro e W3 ⟨rfl, hb3⟩
    have hb13 := HV.out.trans (hb3.mono HV.out.size)
    go_wp2_with (go_at_call 11; refine (awake_any _ (HE.out.below hb13)).mono ?_; rintro e W5 ⟨rfl, b5⟩)
    go_ret
    exact ⟨rfl, hb13.trans (b5.mono hb13.size)⟩
  · have hbf : badV (Vl.mk k nn t a c l).er = false := by simpa using hbad
    obtain ⟨hck, hlen⟩ := fine_spec hbf hN
    obtain ⟨he1, he2⟩ := encB_fine hck (by omega)
    have hdec := decode_enc hck hN (by omega)
    rw [hbf] at FN
    have HFN := Lib.hid FN
    have HCK := Lib.hid hck
    have HE1 := Lib.hid he1
    have HE2 := Lib.hid he2
    have HDEC := Lib.hid hdec
    have HLEN := Lib.hid hlen
    clear hbad hbf FN hN hr hB hBE hvA hV2 hE hck hlen he1 he2 hdec
    go_enter Tryd.func6, Tryd.ntmps6
    go_wp2_with fail
    have HW2 : Hid (Below (w.heap.size + 1) (w.alloc (.cells #[.int .i64 k, .int .i64 nn, .string t, .slice a l.length c] 24)) ((w.alloc (.cells #[.int .i64 k, .int .i64 nn, .string t, .slice a l.length c] 24)).alloc (.cells #[.int .i64 k, .int .i64 nn, .string t, .slice a l.length c] 24))) := by
      have := (Below.refl (w.alloc (.cells #[.int .i64 k, .int .i64 nn, .string t, .slice a l.length c] 24)).heap.size (w.alloc (.cells #[.int .i64 k, .int .i64 nn, .string t, .slice a l.length c] 24))).alloc (Nat.le_refl _) (.cells #[.int .i64 k, .int .i64 nn, .string t, .slice a l.length c] 24)
      rw [hsz] at this
      exact this
    generalize (w.alloc (.cells #[.int .i64 k, .int .i64 nn, .string t, .slice a l.length c] 24)).alloc (.cells #[.int .i64 k, .int .i64 nn, .string t, .slice a l.length c] 24) = W2 at *
    refine HFN.out.mono ?_
    rintro e W3 ⟨rfl, hb3⟩
    have hb13 := HV.out.trans (hb3.mono HV.out.size)
    have hbx3 : Below (w.alloc (.cells #[.int .i64 k, .int .i64 nn, .string t, .slice a l.length c] 24)).heap.size (w.alloc (.cells #[.int .i64 k, .int .i64 nn, .string t, .slice a l.length c] 24)) W3 := by
      rw [hsz]
      exact HW2.out.trans (hb3.mono (by have := HW2.out.size; omega))
    have e1 := cell_later hbx3 c1
    have e2 := cell_later hbx3 c2
    have e3 := cell_later hbx3 c3
    have e4 := cell_later hbx3 c4
    have hr3 := HR.out.below hbx3
    have EN := encode_A _ _ _ hr3 (fun b hb => Nat.lt_of_lt_of_le (show b < w.heap.size from hb) (Nat.le_trans (by omega) hbx3.size)) (HE.out.below hb13)
    rw [HE1.out, HE2.out] at EN
    dsimp only [Vl.val, Vl.cells, Vl.kind, Vl.num, Vl.text, Vl.sl, Vl.addr, Vl.items, Vl.cap] at EN
    have HEN := Lib.hid EN
    clear EN hb3
    go_wp2_with fail
    refine HEN.out.mono ?_
    rintro e W4 ⟨rfl, hb4⟩
    have hb14 := hb13.trans (hb4.mono hb13.size)
    have hb34 := hb4
    have DD := decode_any ⟨(encV (Vl.mk k nn t a c l).er).toArray⟩ (by have := HLEN.out; show (encV (Vl.mk k nn t a c l).er).toArray.size ≤ _; rw [List.size_toArray]; omega) W4 (HE.out.below hb14)
    have HDD := Lib.hid DD
    clear DD HEN
    go_wp2_with fail
    refine HDD.out.mono ?_
    rintro e W5 ⟨S, v, he, hv, hr5, hS, hb5⟩
    have hdl : (ByteArray.data ⟨(encV (Vl.mk k nn t a c l).er).toArray⟩).toList = encV (Vl.mk k nn t a c l).er := by simp
    rw [hdl, HDEC.out] at he hv
    obtain ⟨k', nn', t', a', c', l'⟩ := v
    change e = .returned (.tuple #[.agg #[.int .i64 k', .int .i64 nn', .string t', .slice a' l'.length c'], .int .i64 0]) at he
    subst he
    have hb6 : Below W5.heap.size W5 (W5.alloc (.cells #[.int .i64 k', .int .i64 nn', .string t', .slice a' l'.length c'] 24)) := (Below.refl _ _).alloc (Nat.le_refl _) _
    have hb36 := (hb34.trans (hb5.mono hb34.size)).trans (hb6.mono (hb34.trans (hb5.mono hb34.size)).size)
    have hb16 := hb13.trans (hb36.mono hb13.size)
    have hr6 := hr5.below hb6
    have hr6' := hr3.below hb36
    obtain ⟨d0, d1, d2, d3, -⟩ := box_cells (World.alloc_heap_new W5 (.cells #[.int .i64 k', .int .i64 nn', .string t', .slice a' l'.length c'] 24))
    have x1 := cell_later hb36 e1
    have x2 := cell_later hb36 e2
    have x3 := cell_later hb36 e3
    have x4 := cell_later hb36 e4
    have HR6 := Lib.hid hr6
    have HR6' := Lib.hid hr6'
    have HV6 := Lib.hid hv
    have HB16 := Lib.hid hb16
    clear hr5 hr6 hr6' hr3 hb5 hb6 hb34 hb36 hb13 hb14 hb16 hb4 e1 e2 e3 e4 c1 c2 c3 c4 hbx3 hv HDD hdl hS
    go_wp2_with fail
    generalize W5.alloc (.cells #[.int .i64 k', .int .i64 nn', .string t', .slice a' l'.length c'] 24) = W6 at *
    have F1 := same_ref _ _ _ _ W6 HR6'.out HR6.out
    rw [HV6.out, (sameV_iff _ _).2 rfl] at F1
    dsimp only [Vl.val, Vl.cells, Vl.kind, Vl.num, Vl.text, Vl.sl, Vl.addr, Vl.items, Vl.cap] at F1
    have HF1 := Lib.hid F1
    clear F1
    refine HF1.out.mono ?_
    rintro e W7 ⟨rfl, hb7⟩
    have F2 := same_any _ _ _ _ W7 (HR6'.out.below hb7) (HR6.out.below hb7)
    rw [HV6.out, (sameV_iff _ _).2 rfl] at F2
    dsimp only [Vl.val, Vl.cells, Vl.kind, Vl.num, Vl.text, Vl.sl, Vl.addr, Vl.items, Vl.cap] at F2
    have HF2 := Lib.hid F2
    have y1 := cell_later hb7 x1
    have y2 := cell_later hb7 x2
    have y3 := cell_later hb7 x3
    have y4 := cell_later hb7 x4
    have g0 := cell_later hb7 d0
    have g1 := cell_later hb7 d1
    have g2 := cell_later hb7 d2
    have g3 := cell_later hb7 d3
    clear F2 HF1
    go_wp2_with fail
    refine HF2.out.mono ?_
    rintro e W8 ⟨rfl, hb8⟩
    have hb68 := hb7.trans (hb8.mono hb7.size)
    have F3 := check_any _ _ W8 (HR6'.out.below hb68)
    rw [HCK.out] at F3
    dsimp only [Vl.val, Vl.cells, Vl.kind, Vl.num, Vl.text, Vl.sl, Vl.addr, Vl.items, Vl.cap] at F3
    have HF3 := Lib.hid F3
    have z1 := cell_later hb68 x1
    have z2 := cell_later hb68 x2
    have z3 := cell_later hb68 x3
    have z4 := cell_later hb68 x4
    clear F3 HF2 x1 x2 x3 x4 y1 y2 y3 y4 g0 g1 g2 g3 d0 d1 d2 d3
    go_wp2_with fail
    refine HF3.out.mono ?_
    rintro e W9 ⟨rfl, hb9⟩
    have hb69 := hb68.trans (hb9.mono hb68.size)
    have hb19 := HB16.out.trans (hb69.mono HB16.out.size)
    go_wp2_with (go_at_call 11; refine (awake_any _ (HE.out.below hb19)).mono ?_; rintro e W10 ⟨rfl, b10⟩)
    go_ret
    exact ⟨rfl, hb19.trans (b10.mono hb19.size)⟩
end Go.Proofs.YtancjkaoocgeeaaDoor
