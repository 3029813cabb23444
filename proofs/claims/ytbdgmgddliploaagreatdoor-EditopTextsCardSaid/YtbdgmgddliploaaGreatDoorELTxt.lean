/- The law EditopTexts (printed by gen_elaw.py). -/
import Derived.Test.YtbdgmgddliploaaGreatDoorEWds
import Derived.Test.YtbdgmgddliploaaGreatDoorEAwl
set_option linter.unusedVariables false
set_option linter.unusedSimpArgs false
namespace Go.Proofs.YtbdgmgddliploaaGreatDoor
open Go.RowKit

set_option maxRecDepth 100000 in
set_option maxHeartbeats 16000000 in
theorem texts_law (S : Nat → Prop) (v : CV) (x : Col) (o : Op) (w : World) (h : RdC S w v x) (hE : Env w) (ho : o.ok) : Calls Tryz.prog 7 #[v.val, o.val] w fun e w' => e = .returned (.bool true) ∧ Below w.heap.size w w' := by
  have HAW : Hid (∀ W, Below w.heap.size w W → Calls Tryz.prog 13 #[] W fun e w' => e = .returned (.bool true) ∧ Below W.heap.size W w') := fun W hb => awake_any W (hE.below hb)
  have HP : Hid (fine x [o] = true → ∀ W, Below w.heap.size w W → Calls Tryz.prog 14 #[v.val, o.val] W (EditPost S x o W)) := fun hf W hb => by
    obtain ⟨h1, h2, h3, h4⟩ := fine_true hf
    exact edit_any S v x o W (h.below hb) h1 (hE.below hb) ho (by have := h4 o (by simp); omega)
  have HK : Hid (fine x [o] = true → ∀ W, Below w.heap.size w W → Calls Tryz.prog 18 #[v.val, o.val] W fun e w' => e = .returned (.int .i64 (opErr x o)) ∧ Below W.heap.size W w') := fun hf W hb => by
    obtain ⟨h1, h2, h3, h4⟩ := fine_true hf
    exact echeck_any S v x o W (h.below hb) h1 (hE.below hb) ho (by have := h4 o (by simp); omega)
  have HT : Hid (fine x [o] = true → ∀ W, Below w.heap.size w W → ∀ i : Nat, i < v.sn → Calls Tryz.prog 28 #[v.val, .int .i64 (i : Int)] W fun e w' => ∃ a n c, e = .returned (.tuple #[.slice a n c, .int .i64 0]) ∧ Strs (fun b => W.heap.size ≤ b) w' a n c ((x.tks i).map Tok.text) ∧ Below W.heap.size W w') := fun hf W hb i hi => by
    obtain ⟨h1, h2, h3, h4⟩ := fine_true hf
    exact text_any S v x i W (h.below hb) h1 (hE.below hb) h2 (by rw [← h.2.2.1.len]; exact hi)
  have HY : Hid (fine x [o] = true → opErr x o = 0 → Sml (opApply x o) ∧ (opApply x o).err = 0 ∧ (opApply x o).sec = x.sec ∧ (opApply x o).sigla = x.sigla ∧ ∀ i, ((opApply x o).tks i).map Tok.text = (x.tks i).map Tok.text) := fun hf h0 =>
    ⟨sml_op (fine_true hf).1 (fine_op hf (by simp)).2, apply_valid h0⟩
  have hsb : v.sn * 16 ≤ 140737488355328 := h.2.2.1.bound
  have hsl : Hid (v.sn = x.sigla.length ∧ v.sec = x.sec) := ⟨h.2.2.1.len, h.1⟩
  have HX := Lib.hid h
  have HO := Lib.hid ho
  have HE := Lib.hid hE
  obtain ⟨V, hV⟩ : ∃ V, V = v := ⟨_, rfl⟩
  obtain ⟨O, hO'⟩ : ∃ O, O = o := ⟨_, rfl⟩
  have HF : Hid (∀ W b, Below w.heap.size w W → W.heap[b]? = some (.cells #[.int .i64 o.kind, .string o.sig, .int .i64 o.tok, .int .i64 o.other, .string o.text] 28 (0, 0)) → Calls Tryz.prog 21 #[v.val, .slice (some ⟨b, 0, none⟩) 1 1] W fun e w' => e = .returned (.bool (fine x [o])) ∧ Below W.heap.size W w') := fun W b hb hg =>
    fine_any S (fun _ => True) v x _ 1 1 [o] W (h.below hb) (Sq.lit #[.int .i64 o.kind, .string o.sig, .int .i64 o.tok, .int .i64 o.other, .string o.text] [o] Op.cells hg rfl op_len trivial (by simp) (fun y hy => ⟨rfl, by simp at hy; subst hy; exact ho⟩))
  rw [← hV] at HX
  rw [← hO'] at HO
  generalize fine x [o] = FB at *
  unfold EditPost at HP
  generalize opErr x o = E at *
  generalize opApply x o = Y at *
  clear h hE ho
  obtain ⟨sec, sa, sn, sc, ta, tn, tc, ca, cn, cc⟩ := v
  obtain ⟨ok, og, ot, oo, ox⟩ := o
  have hVe : Hid (V = ⟨sec, sa, sn, sc, ta, tn, tc, ca, cn, cc⟩) := hV
  have hOe : Hid (O = ⟨ok, og, ot, oo, ox⟩) := hO'
  clear hV hO'
  change Calls _ _ #[.agg #[.string sec, .slice sa sn sc, .slice ta tn tc, .slice ca cn cc], .agg #[.int .i64 ok, .string og, .int .i64 ot, .int .i64 oo, .string ox]] _ _
  change Hid (∀ (W : World) (b : Nat), _ → _ → Calls _ _ #[.agg #[.string sec, .slice sa sn sc, .slice ta tn tc, .slice ca cn cc], _] _ _) at HF
  change Hid (_ → ∀ W, _ → Calls _ _ #[.agg #[.string sec, .slice sa sn sc, .slice ta tn tc, .slice ca cn cc], .agg #[.int .i64 ok, .string og, .int .i64 ot, .int .i64 oo, .string ox]] _ _) at HP
  change Hid (_ → ∀ W, _ → Calls _ _ #[.agg #[.string sec, .slice sa sn sc, .slice ta tn tc, .slice ca cn cc], .agg #[.int .i64 ok, .string og, .int .i64 ot, .int .i64 oo, .string ox]] _ _) at HK
  change Hid (_ → ∀ W, _ → ∀ i : Nat, _ → Calls _ _ #[.agg #[.string sec, .slice sa sn sc, .slice ta tn tc, .slice ca cn cc], _] _ _) at HT
  dsimp only at hsb hsl HT
  dsimp only at HF
  obtain ⟨hb0, hsz, hC, hO, hP⟩ := box3 w #[.string sec, .slice sa sn sc, .slice ta tn tc, .slice ca cn cc] #[.int .i64 ok, .string og, .int .i64 ot, .int .i64 oo, .string ox] #[.int .i64 ok, .string og, .int .i64 ot, .int .i64 oo, .string ox] 26 28 28
  have hbx : (((w.alloc (.cells #[.string sec, .slice sa sn sc, .slice ta tn tc, .slice ca cn cc] 26)).alloc (.cells #[.int .i64 ok, .string og, .int .i64 ot, .int .i64 oo, .string ox] 28)).alloc (.cells #[.int .i64 ok, .string og, .int .i64 ot, .int .i64 oo, .string ox] 28)).heap[w.heap.size + 1 + 1]? = some (.cells #[.int .i64 ok, .string og, .int .i64 ot, .int .i64 oo, .string ox] 28 (0, 0)) := by
    have := World.alloc_heap_new ((w.alloc (.cells #[.string sec, .slice sa sn sc, .slice ta tn tc, .slice ca cn cc] 26)).alloc (.cells #[.int .i64 ok, .string og, .int .i64 ot, .int .i64 oo, .string ox] 28)) (.cells #[.int .i64 ok, .string og, .int .i64 ot, .int .i64 oo, .string ox] 28)
    simpa using this
  have c0 := hC 0 _ rfl
  have c1 := hC 1 _ rfl
  have c2 := hC 2 _ rfl
  have c3 := hC 3 _ rfl
  have o0 := hO 0 _ rfl
  have o1 := hO 1 _ rfl
  have o2 := hO 2 _ rfl
  have o3 := hO 3 _ rfl
  have o4 := hO 4 _ rfl
  have HFF := Lib.hid (HF.out _ _ hb0 hbx)
  clear hC hO hP hbx HF hsz
  go_enter Tryz.func7, Tryz.ntmps7
  go_wp2_with fail
  generalize ((w.alloc (.cells #[.string sec, .slice sa sn sc, .slice ta tn tc, .slice ca cn cc] 26)).alloc (.cells #[.int .i64 ok, .string og, .int .i64 ot, .int .i64 oo, .string ox] 28)).alloc (.cells #[.int .i64 ok, .string og, .int .i64 ot, .int .i64 oo, .string ox] 28) = W1 at *
  refine HFF.out.mono ?_
  rintro e W2 ⟨rfl, hb2⟩
  have hb3 := hb0.trans (hb2.mono hb0.size)
  replace c0 := cell_later hb2 c0
  replace c1 := cell_later hb2 c1
  replace c2 := cell_later hb2 c2
  replace c3 := cell_later hb2 c3
  replace o0 := cell_later hb2 o0
  replace o1 := cell_later hb2 o1
  replace o2 := cell_later hb2 o2
  replace o3 := cell_later hb2 o3
  replace o4 := cell_later hb2 o4
  clear HFF hb2 hb0
  cases FB with
  | false =>
    have HA1 := Lib.hid (HAW.out _ hb3)
    go_wp2_with fail
    refine HA1.out.mono ?_
    rintro e W3 ⟨rfl, hb4⟩
    go_wp2
    go_ret
    exact ⟨rfl, hb3.trans (hb4.mono hb3.size)⟩
  | true =>
    have HKQ := Lib.hid (HK.out rfl)
    have HTX := Lib.hid (HT.out rfl)
    have HYQ := Lib.hid (HY.out rfl)
    clear HK HT HY
    have HPP := Lib.hid (HP.out rfl _ hb3)
    clear HP
    go_wp2_with fail
    refine HPP.out.mono ?_
    rintro e W4 ⟨v', he, hR, hb4⟩
    obtain ⟨sec3, sa3, sn3, sc3, ta3, tn3, tc3, ca3, cn3, cc3⟩ := v'
    change e = .returned (.tuple #[.agg #[.string sec3, .slice sa3 sn3 sc3, .slice ta3 tn3 tc3, .slice ca3 cn3 cc3], .int .i64 E]) at he
    subst he
    have hal : Below W4.heap.size W4 (W4.alloc (.cells #[.string sec3, .slice sa3 sn3 sc3, .slice ta3 tn3 tc3, .slice ca3 cn3 cc3] 26)) := (Below.refl _ _).alloc (Nat.le_refl _) _
    have hb5 := hb4.trans (hal.mono hb4.size)
    obtain ⟨z0, z1, z2, z3, -⟩ := box_cells4 (World.alloc_heap_new W4 (.cells #[.string sec3, .slice sa3 sn3 sc3, .slice ta3 tn3 tc3, .slice ca3 cn3 cc3] 26))
    have hb6 := hb3.trans (hb5.mono hb3.size)
    have HR := Lib.hid (hR.below hal)
    replace c0 := cell_later hb5 c0
    replace c1 := cell_later hb5 c1
    replace c2 := cell_later hb5 c2
    replace c3 := cell_later hb5 c3
    replace o0 := cell_later hb5 o0
    replace o1 := cell_later hb5 o1
    replace o2 := cell_later hb5 o2
    replace o3 := cell_later hb5 o3
    replace o4 := cell_later hb5 o4
    clear HPP hR hal hb5 hb4 hb3
    have HB6 := Lib.hid hb6
    have HKK := Lib.hid (HKQ.out _ hb6)
    clear HKQ
    by_cases h0 : E = 0
    · have t0 : ((E : Int) != 0) = false := by simp [h0]
      obtain ⟨y1, y2, y3, y4, y5⟩ := HYQ.out h0
      subst h0
      go_wp2_with fail
      generalize W4.alloc (.cells #[.string sec3, .slice sa3 sn3 sc3, .slice ta3 tn3 tc3, .slice ca3 cn3 cc3] 26) = W5 at *
      refine HKK.out.mono ?_
      rintro e W6 ⟨rfl, hb7⟩
      have hb8 := HB6.out.trans (hb7.mono HB6.out.size)
      replace c0 := cell_later hb7 c0
      replace c1 := cell_later hb7 c1
      replace c2 := cell_later hb7 c2
      replace c3 := cell_later hb7 c3
      replace z0 := cell_later hb7 z0
      replace z1 := cell_later hb7 z1
      replace z2 := cell_later hb7 z2
      replace z3 := cell_later hb7 z3
      have HR6 := Lib.hid (HR.out.below hb7)
      have hcy := check_any _ _ Y W6 HR6.out y1 (HE.out.below hb8)
      rw [y2] at hcy
      have HCY := Lib.hid hcy
      change Hid (Calls _ _ #[.agg #[.string sec3, .slice sa3 sn3 sc3, .slice ta3 tn3 tc3, .slice ca3 cn3 cc3]] W6 _) at HCY
      clear hcy HKK hb7 t0 o0 o1 o2 o3 o4 HR
      go_wp2_with fail
      refine HCY.out.mono ?_
      rintro e W7 ⟨rfl, hb9⟩
      have hb10 := hb8.trans (hb9.mono hb8.size)
      replace c0 := cell_later hb9 c0
      replace c1 := cell_later hb9 c1
      replace c2 := cell_later hb9 c2
      replace c3 := cell_later hb9 c3
      replace z0 := cell_later hb9 z0
      replace z1 := cell_later hb9 z1
      replace z2 := cell_later hb9 z2
      replace z3 := cell_later hb9 z3
      have HR7 := Lib.hid (HR6.out.below hb9)
      have hx7 := HX.out.below hb10
      rw [hVe.out] at hx7
      have hes := eqStrs_any _ _ _ _ _ _ _ _ _ _ W7 HR7.out.2.2.1 hx7.2.2.1
      rw [y4, decide_eq_true rfl] at hes
      have HES := Lib.hid hes
      change Hid (Calls _ _ #[.slice sa3 sn3 sc3, .slice sa sn sc] W7 _) at HES
      have t1 : (sec3.toList == sec.toList) = true := str_yes (by rw [hsl.out.2, ← y3]; exact HR7.out.1)
      have HTY : Hid (∀ W, Below W7.heap.size W7 W → ∀ i : Nat, i < sn → Calls Tryz.prog 28 #[.agg #[.string sec3, .slice sa3 sn3 sc3, .slice ta3 tn3 tc3, .slice ca3 cn3 cc3], .int .i64 (i : Int)] W fun e w' => ∃ a n c, e = .returned (.tuple #[.slice a n c, .int .i64 0]) ∧ Strs (fun b => W.heap.size ≤ b) w' a n c ((x.tks i).map Tok.text) ∧ Below W.heap.size W w') := fun W hb i hi => by
        have := text_any _ _ Y i W (HR7.out.below hb) y1 (HE.out.below (hb10.trans (hb.mono hb10.size))) y2 (by rw [y4, ← hsl.out.1]; exact hi)
        rw [y5] at this; exact this
      have HB10 := Lib.hid hb10
      clear hes hx7 HCY hb9 hb8 hb10 hsl y1 y2 y3 y4 y5 HYQ HR7 HR6 HB6 HX HO hOe hb6
      go_wp2_with fail
      refine HES.out.mono ?_
      rintro e W8 ⟨rfl, hdr⟩
      have hb11 := hdr.below W7.heap.size
      have HB11 := Lib.hid (HB10.out.trans (hb11.mono HB10.out.size))
      have HTZ : Hid (∀ W, Below W8.heap.size W8 W → ∀ i : Nat, i < sn → Calls Tryz.prog 28 #[.agg #[.string sec3, .slice sa3 sn3 sc3, .slice ta3 tn3 tc3, .slice ca3 cn3 cc3], .int .i64 (i : Int)] W fun e w' => ∃ a n c, e = .returned (.tuple #[.slice a n c, .int .i64 0]) ∧ Strs (fun b => W.heap.size ≤ b) w' a n c ((x.tks i).map Tok.text) ∧ Below W.heap.size W w') := fun W hb => HTY.out W (hb11.trans (hb.mono hb11.size))
      replace c0 := cell_later hb11 c0
      replace c1 := cell_later hb11 c1
      replace c2 := cell_later hb11 c2
      replace c3 := cell_later hb11 c3
      replace z0 := cell_later hb11 z0
      replace z1 := cell_later hb11 z1
      replace z2 := cell_later hb11 z2
      replace z3 := cell_later hb11 z3
      clear HTY hb11 HB10
      clear HES hdr t1
      go_wp2_with fail
      go_loopw [61] (fun i wr => ∃ (k : Nat), i = .int .i64 k ∧ k ≤ sn ∧ Below W8.heap.size W8 wr) (fun i _ => sn - (intOf i).toNat)
      case atStart => exact ⟨0, rfl, Nat.zero_le _, Below.refl _ _⟩
      case round =>
        obtain ⟨k, rfl, hk, hb⟩ := hrel
        have hbr := HB11.out.trans (hb.mono HB11.out.size)
        replace c0 := cell_later hb c0
        replace c1 := cell_later hb c1
        replace c2 := cell_later hb c2
        replace c3 := cell_later hb c3
        replace z0 := cell_later hb z0
        replace z1 := cell_later hb z1
        replace z2 := cell_later hb z2
        replace z3 := cell_later hb z3
        by_cases hkl : k < sn
        · have HT1 := Lib.hid (HTX.out _ hbr k hkl)
          clear HTX
          go_wp2_with fail
          refine HT1.out.mono ?_
          rintro e U1 ⟨a1, n1, k1, rfl, hs1, hu1⟩
          have hb12 := hb.trans (hu1.mono hb.size)
          have HT2 := Lib.hid (HTZ.out _ hb12 k hkl)
          have HS1 := Lib.hid hs1
          replace z0 := cell_later hu1 z0
          replace z1 := cell_later hu1 z1
          replace z2 := cell_later hu1 z2
          replace z3 := cell_later hu1 z3
          clear HTZ HT1 hs1 hb hbr c0 c1 c2 c3
          go_wp2_with fail
          refine HT2.out.mono ?_
          rintro e U2 ⟨a2, n2, k2, rfl, hs2, hu2⟩
          have hb13 := hb12.trans (hu2.mono hb12.size)
          have hes := eqStrs_any _ _ _ _ _ _ _ _ _ _ U2 (HS1.out.below rStr_ok hu2) hs2
          rw [decide_eq_true rfl] at hes
          have HES := Lib.hid hes
          clear hes HT2 HS1 hs2 z0 z1 z2 z3 hb12
          go_wp2_with fail
          refine HES.out.mono ?_
          rintro e U3 ⟨rfl, hdr⟩
          have hb14 := hb13.trans ((hdr.below U2.heap.size).mono hb13.size)
          go_wp2_with fail
          go_roundw
          case rel => exact ⟨k + 1, by go_num, by omega, hb14⟩
          case measure => simp [intOf]; omega
        · obtain rfl : sn = k := by omega
          clear HTX HTZ
          have HA1 := Lib.hid (HAW.out _ hbr)
          go_wp2_with fail
          refine HA1.out.mono ?_
          rintro e W9 ⟨rfl, hb9⟩
          go_wp2
          go_ret
          exact ⟨rfl, hbr.trans (hb9.mono hbr.size)⟩
    · have t0 : ((E : Int) != 0) = true := by simp [h0]
      clear HYQ h0
      go_wp2_with fail
      refine HKK.out.mono ?_
      rintro e W6 ⟨rfl, hb8⟩
      have hb7 := HB6.out.trans (hb8.mono HB6.out.size)
      have t1 : ((E : Int) == E) = true := by simp
      have HA1 := Lib.hid (HAW.out _ hb7)
      go_wp2_with fail
      refine HA1.out.mono ?_
      rintro e W9 ⟨rfl, hb9⟩
      go_wp2
      go_ret
      exact ⟨rfl, hb7.trans (hb9.mono hb7.size)⟩
end Go.Proofs.YtbdgmgddliploaaGreatDoor
