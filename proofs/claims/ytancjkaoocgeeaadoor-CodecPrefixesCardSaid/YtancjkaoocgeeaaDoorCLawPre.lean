/- CodecPrefixes. -/
import Derived.Test.YtancjkaoocgeeaaDoorCAwk
import Derived.Test.YtancjkaoocgeeaaDoorCLawQ
import Derived.Deep.QuietTactic
import Derived.BigQuiet
namespace Go.Proofs.YtancjkaoocgeeaaDoor
open Go.RowKit

set_option maxRecDepth 100000 in
set_option maxHeartbeats 8000000 in
theorem law_prefixes (v v' : Vl) (w : World) (hr : Rd (fun b => b < w.heap.size) w v) (hr' : Rd (fun b => b < w.heap.size) w v') (hE : Env w) :
    Calls Tryd.prog 8 #[v.val, v'.val] w fun e w' => e = .returned (.bool true) ∧ Below w.heap.size w w' := by
  have HE := Lib.hid hE
  obtain ⟨k, nn, t, a, c, l⟩ := v
  obtain ⟨k', nn', t', a', c', l'⟩ := v'
  have hN := rd_numOk _ hr
  have hN' := rd_numOk _ hr'
  have hbA : Below w.heap.size w (w.alloc (.cells #[.int .i64 k, .int .i64 nn, .string t, .slice a l.length c] 24)) := (Below.refl _ _).alloc (Nat.le_refl _) _
  have hbB : Below w.heap.size w ((w.alloc (.cells #[.int .i64 k, .int .i64 nn, .string t, .slice a l.length c] 24)).alloc (.cells #[.int .i64 k', .int .i64 nn', .string t', .slice a' l'.length c'] 24)) := hbA.alloc hbA.size _
  have hbC : Below w.heap.size w (((w.alloc (.cells #[.int .i64 k, .int .i64 nn, .string t, .slice a l.length c] 24)).alloc (.cells #[.int .i64 k', .int .i64 nn', .string t', .slice a' l'.length c'] 24)).alloc (.cells #[.int .i64 k, .int .i64 nn, .string t, .slice a l.length c, .int .i64 k', .int .i64 nn', .string t', .slice a' l'.length c'] 24)) := hbB.alloc hbB.size _
  have hbAB : Below (w.alloc (.cells #[.int .i64 k, .int .i64 nn, .string t, .slice a l.length c] 24)).heap.size (w.alloc (.cells #[.int .i64 k, .int .i64 nn, .string t, .slice a l.length c] 24)) ((w.alloc (.cells #[.int .i64 k, .int .i64 nn, .string t, .slice a l.length c] 24)).alloc (.cells #[.int .i64 k', .int .i64 nn', .string t', .slice a' l'.length c'] 24)) := (Below.refl _ _).alloc (Nat.le_refl _) _
  have hbBC : Below ((w.alloc (.cells #[.int .i64 k, .int .i64 nn, .string t, .slice a l.length c] 24)).alloc (.cells #[.int .i64 k', .int .i64 nn', .string t', .slice a' l'.length c'] 24)).heap.size ((w.alloc (.cells #[.int .i64 k, .int .i64 nn, .string t, .slice a l.length c] 24)).alloc (.cells #[.int .i64 k', .int .i64 nn', .string t', .slice a' l'.length c'] 24)) (((w.alloc (.cells #[.int .i64 k, .int .i64 nn, .string t, .slice a l.length c] 24)).alloc (.cells #[.int .i64 k', .int .i64 nn', .string t', .slice a' l'.length c'] 24)).alloc (.cells #[.int .i64 k, .int .i64 nn, .string t, .slice a l.length c, .int .i64 k', .int .i64 nn', .string t', .slice a' l'.length c'] 24)) := (Below.refl _ _).alloc (Nat.le_refl _) _
  have sA : (w.alloc (.cells #[.int .i64 k, .int .i64 nn, .string t, .slice a l.length c] 24)).heap.size = w.heap.size + 1 := by simp
  have sB : ((w.alloc (.cells #[.int .i64 k, .int .i64 nn, .string t, .slice a l.length c] 24)).alloc (.cells #[.int .i64 k', .int .i64 nn', .string t', .slice a' l'.length c'] 24)).heap.size = w.heap.size + 2 := by simp
  have sC : (((w.alloc (.cells #[.int .i64 k, .int .i64 nn, .string t, .slice a l.length c] 24)).alloc (.cells #[.int .i64 k', .int .i64 nn', .string t', .slice a' l'.length c'] 24)).alloc (.cells #[.int .i64 k, .int .i64 nn, .string t, .slice a l.length c, .int .i64 k', .int .i64 nn', .string t', .slice a' l'.length c'] 24)).heap.size = w.heap.size + 3 := by simp
  have hblk := World.alloc_heap_new ((w.alloc (.cells #[.int .i64 k, .int .i64 nn, .string t, .slice a l.length c] 24)).alloc (.cells #[.int .i64 k', .int .i64 nn', .string t', .slice a' l'.length c'] 24)) (.cells #[.int .i64 k, .int .i64 nn, .string t, .slice a l.length c, .int .i64 k', .int .i64 nn', .string t', .slice a' l'.length c'] 24)
  have hvA : Vals (fun b => b < w.heap.size ∨ b = w.heap.size + 2) (((w.alloc (.cells #[.int .i64 k, .int .i64 nn, .string t, .slice a l.length c] 24)).alloc (.cells #[.int .i64 k', .int .i64 nn', .string t', .slice a' l'.length c'] 24)).alloc (.cells #[.int .i64 k, .int .i64 nn, .string t, .slice a l.length c, .int .i64 k', .int .i64 nn', .string t', .slice a' l'.length c'] 24)) (some ⟨w.heap.size + 2, 0, none⟩) 2 2 [(Vl.mk k nn t a c l), (Vl.mk k' nn' t' a' c' l')] := by
    rw [sB] at hblk
    refine ⟨rfl, Nat.le_refl _, by omega, fun j v hj => ?_⟩
    match j, hj with
    | 0, hj => cases hj; exact ⟨⟨_, 0, rfl, .inr rfl, cell_of_block hblk rfl, cell_of_block hblk rfl, cell_of_block hblk rfl, cell_of_block hblk rfl⟩, (hr.below hbC).mono (fun b hb _ => .inl hb)⟩
    | 1, hj => cases hj; exact ⟨⟨_, 0, rfl, .inr rfl, cell_of_block hblk rfl, cell_of_block hblk rfl, cell_of_block hblk rfl, cell_of_block hblk rfl⟩, (hr'.below hbC).mono (fun b hb _ => .inl hb)⟩
  have FN : Calls Tryd.prog 29 #[.slice (some ⟨w.heap.size + 2, 0, none⟩) 2 2] (((w.alloc (.cells #[.int .i64 k, .int .i64 nn, .string t, .slice a l.length c] 24)).alloc (.cells #[.int .i64 k', .int .i64 nn', .string t', .slice a' l'.length c'] 24)).alloc (.cells #[.int .i64 k, .int .i64 nn, .string t, .slice a l.length c, .int .i64 k', .int .i64 nn', .string t', .slice a' l'.length c'] 24)) fun e w' => e = .returned (.bool (!(badV (Vl.mk k nn t a c l).er || badV (Vl.mk k' nn' t' a' c' l').er))) ∧ Below (((w.alloc (.cells #[.int .i64 k, .int .i64 nn, .string t, .slice a l.length c] 24)).alloc (.cells #[.int .i64 k', .int .i64 nn', .string t', .slice a' l'.length c'] 24)).alloc (.cells #[.int .i64 k, .int .i64 nn, .string t, .slice a l.length c, .int .i64 k', .int .i64 nn', .string t', .slice a' l'.length c'] 24)).heap.size (((w.alloc (.cells #[.int .i64 k, .int .i64 nn, .string t, .slice a l.length c] 24)).alloc (.cells #[.int .i64 k', .int .i64 nn', .string t', .slice a' l'.length c'] 24)).alloc (.cells #[.int .i64 k, .int .i64 nn, .string t, .slice a l.length c, .int .i64 k', .int .i64 nn', .string t', .slice a' l'.length c'] 24)) w' := by
    have h1 := fine_any _ _ _ _ _ _ hvA
    rw [List.map_cons, List.map_cons, List.map_nil, List.any_cons, List.any_cons, List.any_nil, Bool.or_false] at h1
    exact h1
  obtain ⟨a1, a2, a3, a4, -⟩ := box_cells (World.alloc_heap_new w (.cells #[.int .i64 k, .int .i64 nn, .string t, .slice a l.length c] 24))
  obtain ⟨b1, b2, b3, b4, -⟩ := box_cells (World.alloc_heap_new (w.alloc (.cells #[.int .i64 k, .int .i64 nn, .string t, .slice a l.length c] 24)) (.cells #[.int .i64 k', .int .i64 nn', .string t', .slice a' l'.length c'] 24))
  rw [sA] at b1 b2 b3 b4
  have p1 := cell_later hbAB a1
  have p2 := cell_later hbAB a2
  have p3 := cell_later hbAB a3
  have p4 := cell_later hbAB a4
  have q1 := cell_later hbBC b1
  have q2 := cell_later hbBC b2
  have q3 := cell_later hbBC b3
  have q4 := cell_later hbBC b4
  have o1 := cell_later hbBC p1
  have o2 := cell_later hbBC p2
  have o3 := cell_later hbBC p3
  have o4 := cell_later hbBC p4
  have HRA := Lib.hid (hr.below hbC)
  have HRB := Lib.hid (hr'.below hbC)
  have HBC := Lib.hid hbC
  change Calls _ _ #[.agg #[.int .i64 k, .int .i64 nn, .string t, .slice a l.length c], .agg #[.int .i64 k', .int .i64 nn', .string t', .slice a' l'.length c']] _ _
  by_cases hbad : (badV (Vl.mk k nn t a c l).er || badV (Vl.mk k' nn' t' a' c' l').er) = true
  · rw [hbad] at FN
    have HFN := Lib.hid FN
    clear hbad FN hN hN' hr hr' hvA hbA hbB hbC hbAB hbBC hE hblk o1 o2 o3 o4 q1 q2 q3 q4 HRA HRB
    go_enter Tryd.func8, Tryd.ntmps8
    go_wp2_with fail
    generalize ((w.alloc (.cells #[.int .i64 k, .int .i64 nn, .string t, .slice a l.length c] 24)).alloc (.cells #[.int .i64 k', .int .i64 nn', .string t', .slice a' l'.length c'] 24)).alloc (.cells #[.int .i64 k, .int .i64 nn, .string t, .slice a l.length c, .int .i64 k', .int .i64 nn', .string t', .slice a' l'.length c'] 24) = W2 at *
    refine HFN.out.mono ?_
    rintro e W3 ⟨rfl, hb3⟩
    have hb13 := HBC.out.trans (hb3.mono HBC.out.size)
    go_wp2_with (go_at_call 11; refine (awake_any _ (HE.out.below hb13)).mono ?_; rintro e W5 ⟨rfl, b5⟩)
    go_ret
    exact ⟨rfl, hb13.trans (b5.mono hb13.size)⟩
  · have hbf : (badV (Vl.mk k nn t a c l).er || badV (Vl.mk k' nn' t' a' c' l').er) = false := by simpa using hbad
    rw [hbf] at FN
    rw [Bool.or_eq_false_iff] at hbf
    obtain ⟨hck, hlen⟩ := fine_spec hbf.1 hN
    obtain ⟨hck', hlen'⟩ := fine_spec hbf.2 hN'
    obtain ⟨he1, he2⟩ := encB_fine hck (by omega)
    obtain ⟨he1', he2'⟩ := encB_fine hck' (by omega)
    have HFN := Lib.hid FN
    have HE1 := Lib.hid he1
    have HE2 := Lib.hid he2
    have HE1' := Lib.hid he1'
    have HE2' := Lib.hid he2'
    have HCK := Lib.hid hck
    have HCK' := Lib.hid hck'
    have HN := Lib.hid hN
    have HN' := Lib.hid hN'
    have HLEN := Lib.hid hlen
    have HLEN' := Lib.hid hlen'
    have HSC := Lib.hid sC
    clear hbad hbf FN hN hN' hr hr' hvA hbA hbB hbC hbAB hbBC hE hck hlen he1 he2 hck' hlen' he1' he2' hblk
    go_enter Tryd.func8, Tryd.ntmps8
    go_wp2_with fail
    clear a1 a2 a3 a4 b1 b2 b3 b4 p1 p2 p3 p4
    generalize ((w.alloc (.cells #[.int .i64 k, .int .i64 nn, .string t, .slice a l.length c] 24)).alloc (.cells #[.int .i64 k', .int .i64 nn', .string t', .slice a' l'.length c'] 24)).alloc (.cells #[.int .i64 k, .int .i64 nn, .string t, .slice a l.length c, .int .i64 k', .int .i64 nn', .string t', .slice a' l'.length c'] 24) = W2 at *
    refine HFN.out.mono ?_
    rintro e W3 ⟨rfl, hb3⟩
    have hb13 := HBC.out.trans (hb3.mono HBC.out.size)
    have ra3 := HRA.out.below hb3
    have rb3 := HRB.out.below hb3
    have hlt3 : w.heap.size ≤ W3.heap.size := hb13.size
    have EN := encode_A _ _ _ ra3 (fun b hb => Nat.lt_of_lt_of_le (show b < w.heap.size from hb) hlt3) (HE.out.below hb13)
    rw [HE1.out, HE2.out] at EN
    dsimp only [Vl.val, Vl.cells, Vl.kind, Vl.num, Vl.text, Vl.sl, Vl.addr, Vl.items, Vl.cap] at EN
    have HEN := Lib.hid EN
    have x1 := cell_later hb3 o1
    have x2 := cell_later hb3 o2
    have x3 := cell_later hb3 o3
    have x4 := cell_later hb3 o4
    have y1 := cell_later hb3 q1
    have y2 := cell_later hb3 q2
    have y3 := cell_later hb3 q3
    have y4 := cell_later hb3 q4
    clear EN o1 o2 o3 o4 q1 q2 q3 q4 hb3
    go_wp2_with fail
    refine HEN.out.mono ?_
    rintro e W4 ⟨rfl, hb4⟩
    have hb14 := hb13.trans (hb4.mono hb13.size)
    have hlt4 : w.heap.size ≤ W4.heap.size := hb14.size
    have EN' := encode_A _ _ _ (rb3.below hb4) (fun b hb => Nat.lt_of_lt_of_le (show b < w.heap.size from hb) hlt4) (HE.out.below hb14)
    rw [HE1'.out, HE2'.out] at EN'
    dsimp only [Vl.val, Vl.cells, Vl.kind, Vl.num, Vl.text, Vl.sl, Vl.addr, Vl.items, Vl.cap] at EN'
    have HEN' := Lib.hid EN'
    have z1 := cell_later hb4 y1
    have z2 := cell_later hb4 y2
    have z3 := cell_later hb4 y3
    have z4 := cell_later hb4 y4
    clear EN' HEN
    go_wp2_with fail
    refine HEN'.out.mono ?_
    rintro e W5 ⟨rfl, hb5⟩
    have hb35 := hb4.trans (hb5.mono hb4.size)
    have hb15 := hb13.trans (hb35.mono hb13.size)
    have ra5 := ra3.below hb35
    have rb5 := rb3.below hb35
    clear HEN' hb14 hb5 hb4 z1 z2 z3 z4
    have DD := decode_any (⟨(encV (Vl.mk k nn t a c l).er).toArray⟩ ++ ⟨(encV (Vl.mk k' nn' t' a' c' l').er).toArray⟩) (by have := HLEN.out; have := HLEN'.out; rw [ByteArray.size_append]; show (encV (Vl.mk k nn t a c l).er).toArray.size + (encV (Vl.mk k' nn' t' a' c' l').er).toArray.size ≤ _; rw [List.size_toArray, List.size_toArray]; omega) W5 (HE.out.below hb15)
    have hcat : (ByteArray.data (⟨(encV (Vl.mk k nn t a c l).er).toArray⟩ ++ ⟨(encV (Vl.mk k' nn' t' a' c' l').er).toArray⟩)).toList = encV (Vl.mk k nn t a c l).er ++ encV (Vl.mk k' nn' t' a' c' l').er := by rw [ByteArray.data_append]; simp
    have hd2 := decode_two (t := encV (Vl.mk k' nn' t' a' c' l').er) HCK.out HN.out (encV_ne _) (by have := HLEN.out; have := HLEN'.out; rw [List.length_append]; omega)
    have HDD : Hid (Calls Tryd.prog 20 #[.string (⟨(encV (Vl.mk k nn t a c l).er).toArray⟩ ++ ⟨(encV (Vl.mk k' nn' t' a' c' l').er).toArray⟩)] W5 fun e w' => ∃ u : Vl, e = .returned (.tuple #[u.val, .int .i64 3]) ∧ Below W5.heap.size W5 w') := DD.mono (fun e w' ⟨S, v, he, _, _, _, hb⟩ => by
      rw [hcat, hd2] at he
      exact ⟨v, he, hb⟩)
    have FP : Hid (∀ W, Calls Tryd.prog 30 #[.string ⟨(encV (Vl.mk k' nn' t' a' c' l').er).toArray⟩, .string ⟨(encV (Vl.mk k nn t a c l).er).toArray⟩] W fun e w' => e = .returned (.bool (Lib.hasPrefix (encV (Vl.mk k' nn' t' a' c' l').er) (encV (Vl.mk k nn t a c l).er))) ∧ w' = W) := fun W => by
      have := Tryd.strings_HasPrefix ⟨(encV (Vl.mk k' nn' t' a' c' l').er).toArray⟩ ⟨(encV (Vl.mk k nn t a c l).er).toArray⟩ W
      simpa using this
    have HEQ : Hid (Lib.hasPrefix (encV (Vl.mk k' nn' t' a' c' l').er) (encV (Vl.mk k nn t a c l).er) = ((⟨(encV (Vl.mk k nn t a c l).er).toArray⟩ : ByteArray).toList == (⟨(encV (Vl.mk k' nn' t' a' c' l').er).toArray⟩ : ByteArray).toList)) := by
      show _ = _
      rw [Lib.toList_data, Lib.toList_data, Bool.eq_iff_iff, beq_iff_eq]
      show List.isPrefixOf (encV (Vl.mk k nn t a c l).er) (encV (Vl.mk k' nn' t' a' c' l').er) = true ↔ encV (Vl.mk k nn t a c l).er = encV (Vl.mk k' nn' t' a' c' l').er
      rw [List.isPrefixOf_iff_prefix]
      constructor
      · rintro ⟨r, hr⟩
        rw [(enc_prefix (chkV_all HCK.out) (chkV_all HCK'.out) HN.out HN'.out hr.symm).1]
      · intro h; rw [h]; exact List.prefix_refl _
    have heq := HEQ.out
    have hcc : (⟨(encV (Vl.mk k nn t a c l).er).toArray⟩ : ByteArray).size + (⟨(encV (Vl.mk k' nn' t' a' c' l').er).toArray⟩ : ByteArray).size ≤ 7680 := by have := HLEN.out; have := HLEN'.out; show (encV (Vl.mk k nn t a c l).er).toArray.size + (encV (Vl.mk k' nn' t' a' c' l').er).toArray.size ≤ _; rw [List.size_toArray, List.size_toArray]; omega
    have hcd : ¬ (9223372036854775807 < (⟨(encV (Vl.mk k nn t a c l).er).toArray⟩ : ByteArray).size + (⟨(encV (Vl.mk k' nn' t' a' c' l').er).toArray⟩ : ByteArray).size) := by omega
    clear DD hcat hd2 x1 x2 x3 x4 y1 y2 y3 y4 ra3 rb3 ra5 rb5 hb13 hb35 HEQ HE1 HE2 HE1' HE2' HCK HCK' HN HN' HLEN HLEN'
    generalize Lib.hasPrefix (encV (Vl.mk k' nn' t' a' c' l').er) (encV (Vl.mk k nn t a c l).er) = B1 at *
    generalize (⟨(encV (Vl.mk k nn t a c l).er).toArray⟩ : ByteArray) = SA at *
    generalize (⟨(encV (Vl.mk k' nn' t' a' c' l').er).toArray⟩ : ByteArray) = SB at *
    generalize hE9 : (SA.toList == SB.toList) = E at *
    subst heq
    have HB15 := Lib.hid hb15
    clear hb15 HRA HRB HBC
    cases B1
    all_goals
      go_wp2_with fail
      refine HDD.out.mono ?_
      rintro e W6 ⟨⟨uk, un, ut, ua, uc, ul⟩, he, hb6⟩
      change e = .returned (.tuple #[.agg #[.int .i64 uk, .int .i64 un, .string ut, .slice ua ul.length uc], .int .i64 3]) at he
      subst he
      have hb7 : Below W5.heap.size W5 (W6.alloc (.cells #[.int .i64 uk, .int .i64 un, .string ut, .slice ua ul.length uc] 24)) := hb6.alloc hb6.size _
      have HB7 := Lib.hid hb7
      clear hb6 hb7
      go_wp2_with fail
      generalize W6.alloc (.cells #[.int .i64 uk, .int .i64 un, .string ut, .slice ua ul.length uc] 24) = W7 at *
      refine (FP.out _).mono ?_
      rintro e W8 ⟨rfl, hw8⟩
      obtain rfl := hw8.symm
      have hbZ := HB15.out.trans (HB7.out.mono HB15.out.size)
      go_wp2_with (go_at_call 11; refine (awake_any _ (HE.out.below hbZ)).mono ?_; rintro e WZ ⟨rfl, bz⟩)
      go_ret
      exact ⟨rfl, hbZ.trans (bz.mono hbZ.size)⟩
end Go.Proofs.YtancjkaoocgeeaaDoor
