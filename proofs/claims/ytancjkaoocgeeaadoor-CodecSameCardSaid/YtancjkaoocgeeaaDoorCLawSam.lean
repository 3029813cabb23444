/- CodecSame. -/
import Derived.Test.YtancjkaoocgeeaaDoorCAwk
import Derived.Test.YtancjkaoocgeeaaDoorCLawQ
import Derived.Deep.QuietTactic
import Derived.BigQuiet
namespace Go.Proofs.YtancjkaoocgeeaaDoor
open Go.RowKit

set_option maxRecDepth 100000 in
set_option maxHeartbeats 8000000 in
theorem law_same (v v' : Vl) (w : World) (hr : Rd (fun b => b < w.heap.size) w v) (hr' : Rd (fun b => b < w.heap.size) w v') (hE : Env w) :
    Calls Tryd.prog 9 #[v.val, v'.val] w fun e w' => e = .returned (.bool true) ∧ Below w.heap.size w w' := by
  have HE := Lib.hid hE
  obtain ⟨k, nn, t, a, c, l⟩ := v
  obtain ⟨k', nn', t', a', c', l'⟩ := v'
  have hN := rd_numOk _ hr
  have hN' := rd_numOk _ hr'
  have hbA : Below w.heap.size w (w.alloc (.cells #[.int .i64 k, .int .i64 nn, .string t, .slice a l.length c] 24)) := (Below.refl _ _).alloc (Nat.le_refl _) _
  have hbB : Below w.heap.size w ((w.alloc (.cells #[.int .i64 k, .int .i64 nn, .string t, .slice a l.length c] 24)).alloc (.cells #[.int .i64 k', .int .i64 nn', .string t', .slice a' l'.length c'] 24)) := hbA.alloc hbA.size _
  have hbC : Below w.heap.size w (((w.alloc (.cells #[.int .i64 k, .int .i64 nn, .string t, .slice a l.length c] 24)).alloc (.cells #[.int .i64 k', .int .i64 nn', .string t', .slice a' l'.length c'] 24)).alloc (.cells #[.int .i64 k, .int .i64 nn, .string t, .slice a l.length c, .int .i64 k', .int .i64 nn', .string t', .slice a' l'.length c'] 24)) := hbB.alloc hbB.size _
  have hbAB : Below (w.alloc (.cells #[.int .i64 k, .int .i64 nn, .string t, .slice a l.length c] 24)).heap.size (w.alloc (.cells #[.int .i64 k, .int .i64 nn, .string t, .slice a l.length c] 24)) ((w.alloc (.cells #[.int .i64 k, .int .i64 nn, .string t, .slice a l.length c] 24)).alloc (.cells #[.int .i64 k', .int .i64 nn', .string t', .slice a' l'.length c'] 24)) := (Below.refl _ _).alloc (Nat.le_refl _) _
  have hbBC : Below ((w.alloc (.cells #[.int .i64 k, .int .i64 nn, .string t, .slice a l.length c] 24)).alloc (.cells #[.int .i64 k', .int .i64 nn', .string t', .slice a' l'.length c'] 24)).heap.size ((w.alloc (.cells #[.int .i64 k, .int .i64 nn, .string t, .slice a l.length c] 24)).alloc (.cells #[.int .i64 k', .int .i64 nn', .string t', .slice a' l'.length c'] 24)) (((w.alloc (.cells #[.int .i64 k, .int .i64 nn, .string t, .slice a l.length c] 24)).alloc (.cells #[.int .i64 k', .int .i64 nn', .string t', .slice a' l'.length c'] 24)).alloc (.cells #[.int .i64 k, .int .i64 nn, .string t, .slice a l.length c, .int .i64 k', .int .i64 nn', .string t', .slice a' l'.length c'] 24)) := (Below.refl _ _).alloc (Nat.le_refl _) _
  have sA : (w.alloc (.cells #[.int .i64 k, .int .i64 nn, .string t, .slice a l.length c] 24)).heap.size = w.heap.size + 1 := by simp
  have sB : ((w.alloc (.cells #[.int .i64 k, .int .i64 nn, .string t, .slice a l.length c] 24)).alloc (.cells #[.int .i64 k', .int .i64 nn', .string t', .slice a' l'.length c'] 24)).heap.size = w.heap.size + 2 := by simp
  have sC : (((w.alloc (.cells #[.int .i64 k, .int .i64 nn, .string t, .slice a l.length c] 24)).alloc (.cells #[.int .i64 k', .int .i64 nn', .string t', .slice a' l'.length c'] 24)).alloc (.cells #[.int .i64 k, .int .i64 nn, .string t, .slice a l.length c, .int .i64 k', .int .i64 nn', .string t', .slice a' l'.length c'] 24)).heap.size = w.heap.size + 3 := by simp
  have hblk := World.alloc_heap_new ((w.alloc (.cells #[.int .i64 k, .int .i64 nn, .string t, .slice a l.length c] 24)).alloc (.cells #[.int .i64 k', .int .i64 nn', .string t', .slice a' l'.length c'] 24)) (.cells #[.int .i64 k, .int .i64 nn, .string t, .slice a l.length c, .int .i64 k', .int .i64 nn', .string t', .slice a' l'.length c'] 24)
  have hvA : Vals (fun b => b < w.heap.size ∨ b = w.heap.size + 2) (((w.alloc (.cells #[.int .i64 k, .int .i64 nn, .string t, .slice a l.length c] 24)).alloc (.cells #[.int .i64 k', .int .i64 nn', .string t', .slice a' l'.length c'] 24)).alloc (.cells #[.int .i64 k, .int .i64 nn, .string t, .slice a l.length c, .int .i64 k', .int .i64 nn', .string t', .slice a' l'.length c'] 24)) (some ⟨w.heap.size + 2, 0, none⟩) 2 2 [(Vl.mk k nn t a c l), (Vl.mk k' nn' t' a' c' l')] := by
    rw [sB] at hblk
    refine ⟨rfl, Nat.le_refl _, by omega, fun j v hj => ?_⟩
    match j, hj with
    | 0, hj => cases hj; exact ⟨⟨_, 0, rfl, .inr rfl, cell_of_block hblk rfl, cell_of_block hblk rfl, cell_of_block hblk rfl, cell_of_block hblk rfl⟩, (hr.below hbC).mono (fun b hb _ => .inl hb)⟩
    | 1, hj => cases hj; exact ⟨⟨_, 0, rfl, .inr rfl, cell_of_block hblk rfl, cell_of_block hblk rfl, cell_of_block hblk rfl, cell_of_block hblk rfl⟩, (hr'.below hbC).mono (fun b hb _ => .inl hb)⟩
  have FN : Calls Tryd.prog 29 #[.slice (some ⟨w.heap.size + 2, 0, none⟩) 2 2] (((w.alloc (.cells #[.int .i64 k, .int .i64 nn, .string t, .slice a l.length c] 24)).alloc (.cells #[.int .i64 k', .int .i64 nn', .string t', .slice a' l'.length c'] 24)).alloc (.cells #[.int .i64 k, .int .i64 nn, .string t, .slice a l.length c, .int .i64 k', .int .i64 nn', .string t', .slice a' l'.length c'] 24)) fun e w' => e = .returned (.bool (!(badV (Vl.mk k nn t a c l).er || badV (Vl.mk k' nn' t' a' c' l').er))) ∧ Below (((w.alloc (.cells #[.int .i64 k, .int .i64 nn, .string t, .slice a l.length c] 24)).alloc (.cells #[.int .i64 k', .int .i64 nn', .string t', .slice a' l'.length c'] 24)).alloc (.cells #[.int .i64 k, .int .i64 nn, .string t, .slice a l.length c, .int .i64 k', .int .i64 nn', .string t', .slice a' l'.length c'] 24)).heap.size (((w.alloc (.cells #[.int .i64 k, .int .i64 nn, .string t, .slice a l.length c] 24)).alloc (.cells #[.int .i64 k', .int .i64 nn', .string t', .slice a' l'.length c'] 24)).alloc (.cells #[.int .i64 k, .int .i64 nn, .string t, .slice a l.length c, .int .i64 k', .int .i64 nn', .string t', .slice a' l'.length c'] 24)) w' := by
    have h1 := fine_any _ _ _ _ _ _ hvA
    rw [List.map_cons, List.map_cons, List.map_nil, List.any_cons, List.any_cons, List.any_nil, Bool.or_false] at h1
    exact h1
  obtain ⟨a1, a2, a3, a4, -⟩ := box_cells (World.alloc_heap_new w (.cells #[.int .i64 k, .int .i64 nn, .string t, .slice a l.length c] 24))
  obtain ⟨b1, b2, b3, b4, -⟩ := box_cells (World.alloc_heap_new (w.alloc (.cells #[.int .i64 k, .int .i64 nn, .string t, .slice a l.length c] 24)) (.cells #[.int .i64 k', .int .i64 nn', .string t', .slice a' l'.length c'] 24))
  rw [sA] at b1 b2 b3 b4
  have p1 := cell_later hbAB a1
  have p2 := cell_later hbAB a2
  have p3 := cell_later hbAB a3
  have p4 := cell_later hbAB a4
  have q1 := cell_later hbBC b1
  have q2 := cell_later hbBC b2
  have q3 := cell_later hbBC b3
  have q4 := cell_later hbBC b4
  have o1 := cell_later hbBC p1
  have o2 := cell_later hbBC p2
  have o3 := cell_later hbBC p3
  have o4 := cell_later hbBC p4
  have HRA := Lib.hid (hr.below hbC)
  have HRB := Lib.hid (hr'.below hbC)
  have HBC := Lib.hid hbC
  change Calls _ _ #[.agg #[.int .i64 k, .int .i64 nn, .string t, .slice a l.length c], .agg #[.int .i64 k', .int .i64 nn', .string t', .slice a' l'.length c']] _ _
  by_cases hbad : (badV (Vl.mk k nn t a c l).er || badV (Vl.mk k' nn' t' a' c' l').er) = true
  · rw [hbad] at FN
    have HFN := Lib.hid FN
    clear hbad FN hN hN' hr hr' hvA hbA hbB hbC hbAB hbBC hE hblk o1 o2 o3 o4 q1 q2 q3 q4 HRA HRB
    go_enter Tryd.func9, Tryd.ntmps9
    go_wp2_with fail
    generalize ((w.alloc (.cells #[.int .i64 k, .int .i64 nn, .string t, .slice a l.length c] 24)).alloc (.cells #[.int .i64 k', .int .i64 nn', .string t', .slice a' l'.length c'] 24)).alloc (.cells #[.int .i64 k, .int .i64 nn, .string t, .slice a l.length c, .int .i64 k', .int .i64 nn', .string t', .slice a' l'.length c'] 24) = W2 at *
    refine HFN.out.mono ?_
    rintro e W3 ⟨rfl, hb3⟩
    have hb13 := HBC.out.trans (hb3.mono HBC.out.size)
    go_wp2_with (go_at_call 11; refine (awake_any _ (HE.out.below hb13)).mono ?_; rintro e W5 ⟨rfl, b5⟩)
    go_ret
    exact ⟨rfl, hb13.trans (b5.mono hb13.size)⟩
  · have hbf : (badV (Vl.mk k nn t a c l).er || badV (Vl.mk k' nn' t' a' c' l').er) = false := by simpa using hbad
    rw [hbf] at FN
    rw [Bool.or_eq_false_iff] at hbf
    obtain ⟨hck, hlen⟩ := fine_spec hbf.1 hN
    obtain ⟨hck', hlen'⟩ := fine_spec hbf.2 hN'
    obtain ⟨he1, he2⟩ := encB_fine hck (by omega)
    obtain ⟨he1', he2'⟩ := encB_fine hck' (by omega)
    have HFN := Lib.hid FN
    have HE1 := Lib.hid he1
    have HE2 := Lib.hid he2
    have HE1' := Lib.hid he1'
    have HE2' := Lib.hid he2'
    have HCK := Lib.hid hck
    have HCK' := Lib.hid hck'
    have HN := Lib.hid hN
    have HN' := Lib.hid hN'
    have HLEN := Lib.hid hlen
    have HLEN' := Lib.hid hlen'
    have HSC := Lib.hid sC
    clear hbad hbf FN hN hN' hr hr' hvA hbA hbB hbC hbAB hbBC hE hck hlen he1 he2 hck' hlen' he1' he2' hblk
    go_enter Tryd.func9, Tryd.ntmps9
    go_wp2_with fail
    clear a1 a2 a3 a4 b1 b2 b3 b4 p1 p2 p3 p4
    generalize ((w.alloc (.cells #[.int .i64 k, .int .i64 nn, .string t, .slice a l.length c] 24)).alloc (.cells #[.int .i64 k', .int .i64 nn', .string t', .slice a' l'.length c'] 24)).alloc (.cells #[.int .i64 k, .int .i64 nn, .string t, .slice a l.length c, .int .i64 k', .int .i64 nn', .string t', .slice a' l'.length c'] 24) = W2 at *
    refine HFN.out.mono ?_
    rintro e W3 ⟨rfl, hb3⟩
    have hb13 := HBC.out.trans (hb3.mono HBC.out.size)
    have ra3 := HRA.out.below hb3
    have rb3 := HRB.out.below hb3
    have hlt3 : w.heap.size ≤ W3.heap.size := hb13.size
    have EN := encode_A _ _ _ ra3 (fun b hb => Nat.lt_of_lt_of_le (show b < w.heap.size from hb) hlt3) (HE.out.below hb13)
    rw [HE1.out, HE2.out] at EN
    dsimp only [Vl.val, Vl.cells, Vl.kind, Vl.num, Vl.text, Vl.sl, Vl.addr, Vl.items, Vl.cap] at EN
    have HEN := Lib.hid EN
    have x1 := cell_later hb3 o1
    have x2 := cell_later hb3 o2
    have x3 := cell_later hb3 o3
    have x4 := cell_later hb3 o4
    have y1 := cell_later hb3 q1
    have y2 := cell_later hb3 q2
    have y3 := cell_later hb3 q3
    have y4 := cell_later hb3 q4
    clear EN o1 o2 o3 o4 q1 q2 q3 q4 hb3
    go_wp2_with fail
    refine HEN.out.mono ?_
    rintro e W4 ⟨rfl, hb4⟩
    have hb14 := hb13.trans (hb4.mono hb13.size)
    have hlt4 : w.heap.size ≤ W4.heap.size := hb14.size
    have EN' := encode_A _ _ _ (rb3.below hb4) (fun b hb => Nat.lt_of_lt_of_le (show b < w.heap.size from hb) hlt4) (HE.out.below hb14)
    rw [HE1'.out, HE2'.out] at EN'
    dsimp only [Vl.val, Vl.cells, Vl.kind, Vl.num, Vl.text, Vl.sl, Vl.addr, Vl.items, Vl.cap] at EN'
    have HEN' := Lib.hid EN'
    have z1 := cell_later hb4 y1
    have z2 := cell_later hb4 y2
    have z3 := cell_later hb4 y3
    have z4 := cell_later hb4 y4
    clear EN' HEN
    go_wp2_with fail
    refine HEN'.out.mono ?_
    rintro e W5 ⟨rfl, hb5⟩
    have hb35 := hb4.trans (hb5.mono hb4.size)
    have hb15 := hb13.trans (hb35.mono hb13.size)
    have ra5 := ra3.below hb35
    have rb5 := rb3.below hb35
    clear HEN' hb14 hb5 hb4 z1 z2 z3 z4
    have hx := fun (X Y : Vl) => same_any (fun b => b < w.heap.size) (fun b => b < w.heap.size) X Y
    have HAB : Hid (∀ W, Below W5.heap.size W5 W → Calls Tryd.prog 18 #[.agg #[.int .i64 k, .int .i64 nn, .string t, .slice a l.length c], .agg #[.int .i64 k', .int .i64 nn', .string t', .slice a' l'.length c']] W fun e w' => e = .returned (.bool (sameV (Vl.mk k nn t a c l).er (Vl.mk k' nn' t' a' c' l').er)) ∧ Below W.heap.size W w') := fun W hb => hx (Vl.mk k nn t a c l) (Vl.mk k' nn' t' a' c' l') W (ra5.below hb) (rb5.below hb)
    have HBA : Hid (∀ W, Below W5.heap.size W5 W → Calls Tryd.prog 18 #[.agg #[.int .i64 k', .int .i64 nn', .string t', .slice a' l'.length c'], .agg #[.int .i64 k, .int .i64 nn, .string t, .slice a l.length c]] W fun e w' => e = .returned (.bool (sameV (Vl.mk k' nn' t' a' c' l').er (Vl.mk k nn t a c l).er)) ∧ Below W.heap.size W w') := fun W hb => hx (Vl.mk k' nn' t' a' c' l') (Vl.mk k nn t a c l) W (rb5.below hb) (ra5.below hb)
    have HAA : Hid (∀ W, Below W5.heap.size W5 W → Calls Tryd.prog 18 #[.agg #[.int .i64 k, .int .i64 nn, .string t, .slice a l.length c], .agg #[.int .i64 k, .int .i64 nn, .string t, .slice a l.length c]] W fun e w' => e = .returned (.bool true) ∧ Below W.heap.size W w') := fun W hb => by
      have := hx (Vl.mk k nn t a c l) (Vl.mk k nn t a c l) W (ra5.below hb) (ra5.below hb)
      rw [(sameV_iff _ _).2 rfl] at this
      exact this
    have HQ1 : Hid (sameV (Vl.mk k nn t a c l).er (Vl.mk k' nn' t' a' c' l').er = ((⟨(encV (Vl.mk k nn t a c l).er).toArray⟩ : ByteArray).toList == (⟨(encV (Vl.mk k' nn' t' a' c' l').er).toArray⟩ : ByteArray).toList)) := by
      show _ = _
      rw [Lib.toList_data, Lib.toList_data, Bool.eq_iff_iff, sameV_iff, beq_iff_eq]
      exact (enc_inj (chkV_all HCK.out) (chkV_all HCK'.out) HN.out HN'.out).symm
    have HQ2 : Hid (sameV (Vl.mk k' nn' t' a' c' l').er (Vl.mk k nn t a c l).er = ((⟨(encV (Vl.mk k nn t a c l).er).toArray⟩ : ByteArray).toList == (⟨(encV (Vl.mk k' nn' t' a' c' l').er).toArray⟩ : ByteArray).toList)) := by
      show _ = _
      rw [← HQ1.out, Bool.eq_iff_iff, sameV_iff, sameV_iff]
      exact eq_comm
    have t1 := cell_later hb35 x1
    have t2 := cell_later hb35 x2
    have t3 := cell_later hb35 x3
    have t4 := cell_later hb35 x4
    have u1 := cell_later hb35 y1
    have u2 := cell_later hb35 y2
    have u3 := cell_later hb35 y3
    have u4 := cell_later hb35 y4
    clear hx x1 x2 x3 x4 y1 y2 y3 y4 ra3 rb3 ra5 rb5 hb13 hb35
    have hq1 := HQ1.out
    have hq2 := HQ2.out
    clear HQ1 HQ2 HE1 HE2 HE1' HE2' HCK HCK' HN HN' HLEN HLEN'
    generalize sameV (Vl.mk k nn t a c l).er (Vl.mk k' nn' t' a' c' l').er = B1 at *
    generalize sameV (Vl.mk k' nn' t' a' c' l').er (Vl.mk k nn t a c l).er = B2 at *
    generalize (⟨(encV (Vl.mk k nn t a c l).er).toArray⟩ : ByteArray) = SA at *
    generalize (⟨(encV (Vl.mk k' nn' t' a' c' l').er).toArray⟩ : ByteArray) = SB at *
    generalize hE9 : (SA.toList == SB.toList) = E at *
    subst hq1 hq2
    have HB15 := Lib.hid hb15
    clear hb15 HRA HRB HBC
    cases B2
    all_goals
      go_wp2_with fail
      refine (HAB.out _ (Below.refl _ _)).mono ?_
      rintro e W6 ⟨rfl, hb6⟩
      have g1 := cell_later hb6 t1
      have g2 := cell_later hb6 t2
      have g3 := cell_later hb6 t3
      have g4 := cell_later hb6 t4
      have k1 := cell_later hb6 u1
      have k2 := cell_later hb6 u2
      have k3 := cell_later hb6 u3
      have k4 := cell_later hb6 u4
      go_wp2_with fail
      refine (HBA.out _ hb6).mono ?_
      rintro e W7 ⟨rfl, hb7⟩
      have hb57 := hb6.trans (hb7.mono hb6.size)
      have m1 := cell_later hb57 t1
      have m2 := cell_later hb57 t2
      have m3 := cell_later hb57 t3
      have m4 := cell_later hb57 t4
      clear g1 g2 g3 g4 k1 k2 k3 k4
      go_wp2_with fail
      refine (HAA.out _ hb57).mono ?_
      rintro e W8 ⟨rfl, hb8⟩
      have hb58 := hb57.trans (hb8.mono hb57.size)
      have hbZ := HB15.out.trans (hb58.mono HB15.out.size)
      go_wp2_with (go_at_call 11; refine (awake_any _ (HE.out.below hbZ)).mono ?_; rintro e WZ ⟨rfl, bz⟩)
      go_ret
      exact ⟨rfl, hbZ.trans (bz.mono hbZ.size)⟩
end Go.Proofs.YtancjkaoocgeeaaDoor
