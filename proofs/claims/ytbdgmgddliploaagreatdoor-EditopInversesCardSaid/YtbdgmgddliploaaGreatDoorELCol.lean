/- The law EditopColumns (printed by gen_elcol.py). -/
import Derived.Test.YtbdgmgddliploaaGreatDoorEFine
import Derived.Test.YtbdgmgddliploaaGreatDoorEAwl
import Derived.Test.YtbdgmgddliploaaGreatDoorEPut
set_option linter.unusedVariables false
set_option linter.unusedSimpArgs false
namespace Go.Proofs.YtbdgmgddliploaaGreatDoor
open Go.RowKit

theorem fine_true {x : Col} {l : List Op} (h : fine x l = true) : Sml x ∧ x.err = 0 ∧ great x = false ∧ ∀ o ∈ l, o.sig.size ≤ 70 ∧ o.text.size ≤ 70 := by
  unfold fine at h
  simp only [Bool.and_eq_true, decide_eq_true_eq, Bool.not_eq_true'] at h
  obtain ⟨⟨h1, h2⟩, h3⟩ := h
  refine ⟨great_sml h1, h2, h1, fun o ho => ?_⟩
  have := List.any_eq_false.1 h3 o ho
  unfold greatOp at this
  simp at this
  omega
set_option maxRecDepth 100000 in
set_option maxHeartbeats 16000000 in
theorem columns_law (S : Nat → Prop) (v : CV) (x : Col) (o : Op) (w : World) (h : RdC S w v x) (hE : Env w) (ho : o.ok) : Calls Tryz.prog 5 #[v.val, o.val] w fun e w' => e = .returned (.bool true) ∧ Below w.heap.size w w' := by
  have HAW : Hid (∀ W, Below w.heap.size w W → Calls Tryz.prog 13 #[] W fun e w' => e = .returned (.bool true) ∧ Below W.heap.size W w') := fun W hb => awake_any W (hE.below hb)
  have HP : Hid (fine x [o] = true → ∀ W, Below w.heap.size w W → Calls Tryz.prog 14 #[v.val, o.val] W (EditPost S x o W)) := fun hf W hb => by
    obtain ⟨h1, h2, h3, h4⟩ := fine_true hf
    exact edit_any S v x o W (h.below hb) h1 (hE.below hb) ho (by have := h4 o (by simp); omega)
  have HX := Lib.hid h
  have HO := Lib.hid ho
  obtain ⟨V, hV⟩ : ∃ V, V = v := ⟨_, rfl⟩
  obtain ⟨O, hO'⟩ : ∃ O, O = o := ⟨_, rfl⟩
  have HF : Hid (∀ W b, Below w.heap.size w W → W.heap[b]? = some (.cells #[.int .i64 o.kind, .string o.sig, .int .i64 o.tok, .int .i64 o.other, .string o.text] 28 (0, 0)) → Calls Tryz.prog 21 #[v.val, .slice (some ⟨b, 0, none⟩) 1 1] W fun e w' => e = .returned (.bool (fine x [o])) ∧ Below W.heap.size W w') := fun W b hb hg =>
    fine_any S (fun _ => True) v x _ 1 1 [o] W (h.below hb) (Sq.lit #[.int .i64 o.kind, .string o.sig, .int .i64 o.tok, .int .i64 o.other, .string o.text] [o] Op.cells hg rfl op_len trivial (by simp) (fun y hy => ⟨rfl, by simp at hy; subst hy; exact ho⟩))
  rw [← hV] at HX
  have hcb : v.cn * 24 ≤ 140737488355328 := h.2.2.2.2.bound
  have hcl : Hid (v.cn = x.cols.length) := h.2.2.2.2.len
  have HL : Hid (opErr x o = 0 → (o.kind = 1 → (opApply x o).cols.length + 1 = x.cols.length) ∧ (o.kind = 2 → (opApply x o).cols.length = x.cols.length + 1) ∧
    (o.kind = 3 → (opApply x o).cols.length = x.cols.length ∨ (opApply x o).cols.length + 1 = x.cols.length) ∧ (o.kind = 4 → (opApply x o).cols = x.cols) ∧ 1 ≤ o.kind ∧ o.kind ≤ 4) := fun h0 => by
    obtain ⟨s, c, F⟩ := fits_of h0
    rw [F.apply]
    obtain ⟨q1, q2, q3, q4⟩ := cols_len F
    exact ⟨q1, q2, q3, q4, F.kind⟩
  have HZ : Hid (opErr x o ≠ 0 → (opApply x o).cols = []) := fun h0 => by rw [opApply_none h0]; rfl
  unfold EditPost at HP
  generalize fine x [o] = FB at *
  generalize opErr x o = E at *
  generalize opApply x o = Y at *
  clear h hE ho
  obtain ⟨sec, sa, sn, sc, ta, tn, tc, ca, cn, cc⟩ := v
  obtain ⟨ok, og, ot, oo, ox⟩ := o
  have hVe : Hid (V = ⟨sec, sa, sn, sc, ta, tn, tc, ca, cn, cc⟩) := hV
  clear hV HO hO'
  dsimp only at hcb hcl
  change Calls _ _ #[.agg #[.string sec, .slice sa sn sc, .slice ta tn tc, .slice ca cn cc], .agg #[.int .i64 ok, .string og, .int .i64 ot, .int .i64 oo, .string ox]] _ _
  change Hid (∀ (W : World) (b : Nat), _ → _ → Calls _ _ #[.agg #[.string sec, .slice sa sn sc, .slice ta tn tc, .slice ca cn cc], _] _ _) at HF
  change Hid (_ → ∀ W, _ → Calls _ _ #[.agg #[.string sec, .slice sa sn sc, .slice ta tn tc, .slice ca cn cc], .agg #[.int .i64 ok, .string og, .int .i64 ot, .int .i64 oo, .string ox]] _ _) at HP
  dsimp only at HF
  obtain ⟨hb0, hsz, hC, hO, hP⟩ := box3 w #[.string sec, .slice sa sn sc, .slice ta tn tc, .slice ca cn cc] #[.int .i64 ok, .string og, .int .i64 ot, .int .i64 oo, .string ox] #[.int .i64 ok, .string og, .int .i64 ot, .int .i64 oo, .string ox] 26 28 28
  have hbx : (((w.alloc (.cells #[.string sec, .slice sa sn sc, .slice ta tn tc, .slice ca cn cc] 26)).alloc (.cells #[.int .i64 ok, .string og, .int .i64 ot, .int .i64 oo, .string ox] 28)).alloc (.cells #[.int .i64 ok, .string og, .int .i64 ot, .int .i64 oo, .string ox] 28)).heap[w.heap.size + 1 + 1]? = some (.cells #[.int .i64 ok, .string og, .int .i64 ot, .int .i64 oo, .string ox] 28 (0, 0)) := by
    have := World.alloc_heap_new ((w.alloc (.cells #[.string sec, .slice sa sn sc, .slice ta tn tc, .slice ca cn cc] 26)).alloc (.cells #[.int .i64 ok, .string og, .int .i64 ot, .int .i64 oo, .string ox] 28)) (.cells #[.int .i64 ok, .string og, .int .i64 ot, .int .i64 oo, .string ox] 28)
    simpa using this
  have c0 := hC 0 _ rfl
  have c1 := hC 1 _ rfl
  have c2 := hC 2 _ rfl
  have c3 := hC 3 _ rfl
  have o0 := hO 0 _ rfl
  have o1 := hO 1 _ rfl
  have o2 := hO 2 _ rfl
  have o3 := hO 3 _ rfl
  have o4 := hO 4 _ rfl
  have HFF := Lib.hid (HF.out _ _ hb0 hbx)
  clear hC hO hP hbx HF hsz
  go_enter Tryz.func5, Tryz.ntmps5
  go_wp2_with fail
  generalize ((w.alloc (.cells #[.string sec, .slice sa sn sc, .slice ta tn tc, .slice ca cn cc] 26)).alloc (.cells #[.int .i64 ok, .string og, .int .i64 ot, .int .i64 oo, .string ox] 28)).alloc (.cells #[.int .i64 ok, .string og, .int .i64 ot, .int .i64 oo, .string ox] 28) = W1 at *
  refine HFF.out.mono ?_
  rintro e W2 ⟨rfl, hb2⟩
  have hb3 := hb0.trans (hb2.mono hb0.size)
  replace c0 := cell_later hb2 c0
  replace c1 := cell_later hb2 c1
  replace c2 := cell_later hb2 c2
  replace c3 := cell_later hb2 c3
  replace o0 := cell_later hb2 o0
  replace o1 := cell_later hb2 o1
  replace o2 := cell_later hb2 o2
  replace o3 := cell_later hb2 o3
  replace o4 := cell_later hb2 o4
  clear HFF hb2 hb0
  cases FB with
  | false =>
    have HA1 := Lib.hid (HAW.out _ hb3)
    clear HP
    go_wp2_with fail
    refine HA1.out.mono ?_
    rintro e W3 ⟨rfl, hb4⟩
    go_wp2
    go_ret
    exact ⟨rfl, hb3.trans (hb4.mono hb3.size)⟩
  | true =>
    have HPP := Lib.hid (HP.out rfl _ hb3)
    clear HP
    go_wp2_with fail
    refine HPP.out.mono ?_
    rintro e W4 ⟨v', he, hR, hb4⟩
    obtain ⟨sec3, sa3, sn3, sc3, ta3, tn3, tc3, ca3, cn3, cc3⟩ := v'
    change e = .returned (.tuple #[.agg #[.string sec3, .slice sa3 sn3 sc3, .slice ta3 tn3 tc3, .slice ca3 cn3 cc3], .int .i64 E]) at he
    subst he
    have hN := hR.2.2.2.2
    change Numss _ W4 ca3 cn3 cc3 Y.cols at hN
    have hal : Below W4.heap.size W4 (W4.alloc (.cells #[.string sec3, .slice sa3 sn3 sc3, .slice ta3 tn3 tc3, .slice ca3 cn3 cc3] 26)) := (Below.refl _ _).alloc (Nat.le_refl _) _
    have hb5 := hb4.trans (hal.mono hb4.size)
    obtain ⟨z0, z1, z2, z3, -⟩ := box_cells4 (World.alloc_heap_new W4 (.cells #[.string sec3, .slice sa3 sn3 sc3, .slice ta3 tn3 tc3, .slice ca3 cn3 cc3] 26))
    have hb6 := hb3.trans (hb5.mono hb3.size)
    have HN := Lib.hid (hN.below (rSl_ok rInt_ok) hal)
    have hnl : Hid (cn3 = Y.cols.length) := hN.len
    have hnb := hN.bound
    replace c0 := cell_later hb5 c0
    replace c1 := cell_later hb5 c1
    replace c2 := cell_later hb5 c2
    replace c3 := cell_later hb5 c3
    replace o0 := cell_later hb5 o0
    replace o1 := cell_later hb5 o1
    replace o2 := cell_later hb5 o2
    replace o3 := cell_later hb5 o3
    replace o4 := cell_later hb5 o4
    clear HPP hR hN hal hb5 hb4 hb3
    have HA1 := Lib.hid (HAW.out _ hb6)
    have HB6 := Lib.hid hb6
    by_cases h0 : E = 0
    · have t0 : ((E : Int) != 0) = false := by simp [h0]
      obtain ⟨q1, q2, q3, q4, k1, k4⟩ := HL.out h0
      have h4 : ok = 1 ∨ ok = 2 ∨ ok = 3 ∨ ok = 4 := by omega
      clear HL HZ h0 k1 k4 hb6
      rcases h4 with rfl | rfl | rfl | rfl
      · have hd : ((cn3 : Int) - (cn : Int)) = -1 := by have := q1 rfl; have := hnl.out; have := hcl.out; omega
        clear q1 q2 q3 q4
        go_wp2_with fail
        refine HA1.out.mono ?_
        rintro e W6 ⟨rfl, hb8⟩
        go_wp2
        go_ret
        exact ⟨rfl, HB6.out.trans (hb8.mono HB6.out.size)⟩
      · have hd : ((cn3 : Int) - (cn : Int)) = 1 := by have := q2 rfl; have := hnl.out; have := hcl.out; omega
        clear q1 q2 q3 q4
        go_wp2_with fail
        refine HA1.out.mono ?_
        rintro e W6 ⟨rfl, hb8⟩
        go_wp2
        go_ret
        exact ⟨rfl, HB6.out.trans (hb8.mono HB6.out.size)⟩
      · have q := q3 rfl
        clear q1 q2 q3 q4
        rcases q with q | q
        · have hd : ((cn3 : Int) - (cn : Int)) = 0 := by have := hnl.out; have := hcl.out; omega
          clear q
          go_wp2_with fail
          refine HA1.out.mono ?_
          rintro e W6 ⟨rfl, hb8⟩
          go_wp2
          go_ret
          exact ⟨rfl, HB6.out.trans (hb8.mono HB6.out.size)⟩
        · have hd : ((cn3 : Int) - (cn : Int)) = -1 := by have := hnl.out; have := hcl.out; omega
          clear q
          go_wp2_with fail
          refine HA1.out.mono ?_
          rintro e W6 ⟨rfl, hb8⟩
          go_wp2
          go_ret
          exact ⟨rfl, HB6.out.trans (hb8.mono HB6.out.size)⟩
      · have q := q4 rfl
        clear q1 q2 q3 q4
        have hd : ((cn3 : Int) - (cn : Int)) = 0 := by have := hnl.out; have := hcl.out; rw [q] at *; omega
        have hXX := (HX.out.below HB6.out).2.2.2.2
        rw [hVe.out] at hXX
        change Numss _ _ ca cn cc _ at hXX
        have HSC := Lib.hid (sameColumns_ref _ _ _ _ _ _ _ _ _ _ _ hXX HN.out)
        rw [q, decide_eq_true rfl] at HSC
        clear q hXX
        go_wp2_with fail
        refine HSC.out.mono ?_
        rintro e W6 ⟨rfl, hdr⟩
        have hb7 := HB6.out.trans (hdr.below _)
        have HA2 := Lib.hid (HAW.out _ hb7)
        go_wp2_with fail
        refine HA2.out.mono ?_
        rintro e W7 ⟨rfl, hb8⟩
        go_wp2
        go_ret
        exact ⟨rfl, hb7.trans (hb8.mono hb7.size)⟩
    · have t0 : ((E : Int) != 0) = true := by simp [h0]
      have hz : cn3 = 0 := by have := hnl.out; rw [HZ.out h0] at this; simpa using this
      clear HL HZ h0
      subst hz
      go_wp2_with fail
      refine HA1.out.mono ?_
      rintro e W6 ⟨rfl, hb8⟩
      go_wp2
      go_ret
      exact ⟨rfl, HB6.out.trans (hb8.mono HB6.out.size)⟩
end Go.Proofs.YtbdgmgddliploaaGreatDoor
