/- The law EditopInverses (printed by gen_elaw.py). -/
import Derived.Test.YtbdgmgddliploaaGreatDoorEIn2
import Derived.Test.YtbdgmgddliploaaGreatDoorEAwl
set_option linter.unusedVariables false
set_option linter.unusedSimpArgs false
namespace Go.Proofs.YtbdgmgddliploaaGreatDoor
open Go.RowKit

/-- The operation that leads back is of the sizes asked. -/
theorem inverse_ops {S : Nat → Prop} {w : World} {v : CV} {x : Col} {o : Op} (h : RdC S w v x) (hm : Sml x) (ho : o.ok) (hz : opErr x o = 0) (h0 : (inverse x o).2 = 0) : (inverse x o).1.ok ∧ (inverse x o).1.text.size ≤ 1000000 := by
  obtain ⟨s, c, F⟩ := fits_of hz
  have hs : s < x.toks.length := by rw [F.heads.len]; exact F.ks
  unfold inverse at h0 ⊢
  rw [if_neg (by simp [hz])] at h0 ⊢
  by_cases hk : o.kind = 4
  · rw [if_pos hk, F.place]
    have := hm.2 _ (tks_mem hs) _ (tk_mem F.t0 F.t1)
    exact ⟨⟨ho.1, ho.2.1, ho.2.2.1, ho.2.2.2.1, by have := this.2; show (x.tk s o.tok).norm.size ≤ _; omega⟩, this.2⟩
  · rw [if_neg hk] at h0 ⊢
    split at h0
    · rename_i b hb
      have hmem := List.mem_of_find?_eq_some hb
      have hl : (opAt x o s c).err = 0 := valid_op F
      obtain ⟨i, t, hi, ht, hm', -⟩ := mem_allOps.1 hmem
      obtain ⟨e1, e2, e3, e4⟩ := mem_four.1 hm'
      rw [F.apply] at hi ht e1
      have hlen : ((opAt x o s c).tks i).length ≤ 1024 := tks_le (fun r hr => ((err_iff.1 hl).1.toks r hr).1) i
      have hss : b.sig.size ≤ 140737488355328 := by
        obtain ⟨y, bb, off, h1, -, -, -, -, h2, -⟩ := h.2.2.1.str (j := i) (by rw [h.2.2.1.len]; exact hi)
        have h1' : (opAt x o s c).sigla[i]? = some y := h1
        rw [e1, h1']; exact h2
      show b.ok ∧ b.text.size ≤ 1000000
      exact ⟨⟨⟨by omega, by omega⟩, hss, ⟨by omega, by omega⟩, ⟨by omega, by omega⟩, by rw [e3]; show 0 ≤ _; omega⟩, by rw [e3]; show 0 ≤ _; omega⟩
    · simp at h0

set_option maxRecDepth 100000 in
set_option maxHeartbeats 16000000 in
theorem inverses_law (S : Nat → Prop) (v : CV) (x : Col) (o : Op) (i : Nat) (w : World) (h : RdC S w v x) (hE : Env w) (ho : o.ok) (hi : i < 256) : Calls Tryz.prog 8 #[v.val, o.val, .int .u8 (i : Int)] w fun e w' => e = .returned (.bool true) ∧ Below w.heap.size w w' := by
  have HAW : Hid (∀ W, Below w.heap.size w W → Calls Tryz.prog 13 #[] W fun e w' => e = .returned (.bool true) ∧ Below W.heap.size W w') := fun W hb => awake_any W (hE.below hb)
  have HP : Hid (fine x [o] = true → ∀ W, Below w.heap.size w W → Calls Tryz.prog 14 #[v.val, o.val] W (EditPost S x o W)) := fun hf W hb => by
    obtain ⟨h1, h2, h3, h4⟩ := fine_true hf
    exact edit_any S v x o W (h.below hb) h1 (hE.below hb) ho (by have := h4 o (by simp); omega)
  have HIV : Hid (fine x [o] = true → ∀ W, Below w.heap.size w W → Calls Tryz.prog 29 #[v.val, o.val] W (InvPost x o W)) := fun hf W hb => by
    obtain ⟨h1, h2, h3, h4⟩ := fine_true hf
    exact inverse_any S v x o W (h.below hb) h1 (hE.below hb) ho (by have := h4 o (by simp); omega)
  have HQ : Hid (fine x [o] = true → ∀ (T : Nat → Prop) (u : CV) W, Env W → RdC T W u (opApply x o) → ∀ b : Op, b.ok → b.text.size ≤ 1000000 → Calls Tryz.prog 14 #[u.val, b.val] W (EditPost T (opApply x o) b W)) := fun hf T u W hEW hu b hb hbt =>
    edit_any T u _ b W hu (sml_op (fine_true hf).1 (fine_op hf (by simp)).2) hEW hb hbt
  have HALL : Hid (fine x [o] = true → opErr x o = 0 → ∀ (T : Nat → Prop) (u : CV) W, Env W → RdC T W u (opApply x o) → Calls Tryz.prog 22 #[u.val] W fun e w' => ∃ a n c, e = .returned (.tuple #[.slice a n c, .int .i64 0]) ∧ Opsq (fun b => W.heap.size ≤ b) w' a n c (allOps (opApply x o)) ∧ Below W.heap.size W w' ∧ n ≤ 4096 ∧ ∀ b ∈ allOps (opApply x o), b.ok ∧ b.text = ⟨#[]⟩) := fun hf hz T u W hEW hu => by
    have hv := (apply_valid hz).1
    have hn := fine_opsY hf hz
    refine (all_any T u _ W hu (sml_op (fine_true hf).1 (fine_op hf (by simp)).2) hEW hn).mono ?_
    rintro e w' ⟨a, n, c, he, ho, hb⟩
    rw [if_pos hv] at he ho
    exact ⟨a, n, c, he, ho.sq op_len (by rw [ho.len]; omega) (fun y hy => (ho.lt y hy).1) (fun p hp => ⟨rfl, (allops_okI hu hv p hp).1⟩), hb, by rw [ho.len]; exact hn, allops_okI hu hv⟩
  have HI1 : Hid (fine x [o] = true → opErr x o = 0 → (inverse x o).2 = 0 → opErr (opApply x o) (inverse x o).1 = 0 ∧ opApply (opApply x o) (inverse x o).1 = x ∧ (inverse x o).1.ok ∧ (inverse x o).1.text.size ≤ 1000000) := fun hf hz h0 => by
    obtain ⟨q1, q2⟩ := inverse_ok (p := (inverse x o).1) (by rw [← h0]) hz
    refine ⟨q1, q2, ?_⟩
    exact inverse_ops h (fine_true hf).1 ho hz h0
  have HI2 : Hid (opErr x o = 0 → (inverse x o).2 ≠ 0 → (inverse x o).2 = 6 ∧ o.kind ≠ 4 ∧ ∀ b ∈ allOps (opApply x o), opErr (opApply x o) b = 0 ∧ opApply (opApply x o) b ≠ x) := fun hz h0 => inverse_none h0 hz
  have HI3 : Hid (opErr x o ≠ 0 → (inverse x o).2 = opErr x o) := fun h0 => by unfold inverse; rw [if_pos h0]
  have HX := Lib.hid h
  have HO := Lib.hid ho
  have HE := Lib.hid hE
  obtain ⟨V, hV⟩ : ∃ V, V = v := ⟨_, rfl⟩
  obtain ⟨O, hO'⟩ : ∃ O, O = o := ⟨_, rfl⟩
  have HF : Hid (∀ W b, Below w.heap.size w W → W.heap[b]? = some (.cells #[.int .i64 o.kind, .string o.sig, .int .i64 o.tok, .int .i64 o.other, .string o.text] 28 (0, 0)) → Calls Tryz.prog 21 #[v.val, .slice (some ⟨b, 0, none⟩) 1 1] W fun e w' => e = .returned (.bool (fine x [o])) ∧ Below W.heap.size W w') := fun W b hb hg =>
    fine_any S (fun _ => True) v x _ 1 1 [o] W (h.below hb) (Sq.lit #[.int .i64 o.kind, .string o.sig, .int .i64 o.tok, .int .i64 o.other, .string o.text] [o] Op.cells hg rfl op_len trivial (by simp) (fun y hy => ⟨rfl, by simp at hy; subst hy; exact ho⟩))
  rw [← hV] at HX
  rw [← hO'] at HO
  generalize fine x [o] = FB at *
  unfold EditPost at HP
  unfold InvPost at HIV
  generalize inverse x o = IR at *
  generalize opErr x o = E at *
  generalize opApply x o = Y at *
  obtain ⟨⟨p1, p2, p3, p4, p5⟩, G⟩ := IR
  dsimp only at HI1 HI2 HI3 HIV
  clear h hE ho
  obtain ⟨sec, sa, sn, sc, ta, tn, tc, ca, cn, cc⟩ := v
  obtain ⟨ok, og, ot, oo, ox⟩ := o
  have hVe : Hid (V = ⟨sec, sa, sn, sc, ta, tn, tc, ca, cn, cc⟩) := hV
  have hOe : Hid (O = ⟨ok, og, ot, oo, ox⟩) := hO'
  clear hV hO'
  change Calls _ _ #[.agg #[.string sec, .slice sa sn sc, .slice ta tn tc, .slice ca cn cc], .agg #[.int .i64 ok, .string og, .int .i64 ot, .int .i64 oo, .string ox], .int .u8 (i : Int)] _ _
  change Hid (∀ (W : World) (b : Nat), _ → _ → Calls _ _ #[.agg #[.string sec, .slice sa sn sc, .slice ta tn tc, .slice ca cn cc], _] _ _) at HF
  change Hid (_ → ∀ W, _ → Calls _ _ #[.agg #[.string sec, .slice sa sn sc, .slice ta tn tc, .slice ca cn cc], .agg #[.int .i64 ok, .string og, .int .i64 ot, .int .i64 oo, .string ox]] _ _) at HP
  change Hid (_ → ∀ W, _ → Calls _ _ #[.agg #[.string sec, .slice sa sn sc, .slice ta tn tc, .slice ca cn cc], .agg #[.int .i64 ok, .string og, .int .i64 ot, .int .i64 oo, .string ox]] _ fun e w' => e = .returned (.tuple #[.agg #[.int .i64 p1, .string p2, .int .i64 p3, .int .i64 p4, .string p5], .int .i64 G]) ∧ _) at HIV
  dsimp only at HI2
  dsimp only at HF
  obtain ⟨hb0, hsz, hC, hO, hP⟩ := box3 w #[.string sec, .slice sa sn sc, .slice ta tn tc, .slice ca cn cc] #[.int .i64 ok, .string og, .int .i64 ot, .int .i64 oo, .string ox] #[.int .i64 ok, .string og, .int .i64 ot, .int .i64 oo, .string ox] 26 28 28
  have hbx : (((w.alloc (.cells #[.string sec, .slice sa sn sc, .slice ta tn tc, .slice ca cn cc] 26)).alloc (.cells #[.int .i64 ok, .string og, .int .i64 ot, .int .i64 oo, .string ox] 28)).alloc (.cells #[.int .i64 ok, .string og, .int .i64 ot, .int .i64 oo, .string ox] 28)).heap[w.heap.size + 1 + 1]? = some (.cells #[.int .i64 ok, .string og, .int .i64 ot, .int .i64 oo, .string ox] 28 (0, 0)) := by
    have := World.alloc_heap_new ((w.alloc (.cells #[.string sec, .slice sa sn sc, .slice ta tn tc, .slice ca cn cc] 26)).alloc (.cells #[.int .i64 ok, .string og, .int .i64 ot, .int .i64 oo, .string ox] 28)) (.cells #[.int .i64 ok, .string og, .int .i64 ot, .int .i64 oo, .string ox] 28)
    simpa using this
  have c0 := hC 0 _ rfl
  have c1 := hC 1 _ rfl
  have c2 := hC 2 _ rfl
  have c3 := hC 3 _ rfl
  have o0 := hO 0 _ rfl
  have o1 := hO 1 _ rfl
  have o2 := hO 2 _ rfl
  have o3 := hO 3 _ rfl
  have o4 := hO 4 _ rfl
  have HFF := Lib.hid (HF.out _ _ hb0 hbx)
  clear hC hO hP hbx HF hsz
  go_enter Tryz.func8, Tryz.ntmps8
  go_wp2_with fail
  generalize ((w.alloc (.cells #[.string sec, .slice sa sn sc, .slice ta tn tc, .slice ca cn cc] 26)).alloc (.cells #[.int .i64 ok, .string og, .int .i64 ot, .int .i64 oo, .string ox] 28)).alloc (.cells #[.int .i64 ok, .string og, .int .i64 ot, .int .i64 oo, .string ox] 28) = W1 at *
  refine HFF.out.mono ?_
  rintro e W2 ⟨rfl, hb2⟩
  have hb3 := hb0.trans (hb2.mono hb0.size)
  replace c0 := cell_later hb2 c0
  replace c1 := cell_later hb2 c1
  replace c2 := cell_later hb2 c2
  replace c3 := cell_later hb2 c3
  replace o0 := cell_later hb2 o0
  replace o1 := cell_later hb2 o1
  replace o2 := cell_later hb2 o2
  replace o3 := cell_later hb2 o3
  replace o4 := cell_later hb2 o4
  clear HFF hb2 hb0
  cases FB with
  | false =>
    have HA1 := Lib.hid (HAW.out _ hb3)
    go_wp2_with fail
    refine HA1.out.mono ?_
    rintro e W3 ⟨rfl, hb4⟩
    go_wp2
    go_ret
    exact ⟨rfl, hb3.trans (hb4.mono hb3.size)⟩
  | true =>
    have HIVQ := Lib.hid (HIV.out rfl)
    have HQQ := Lib.hid (HQ.out rfl)
    have HALQ := Lib.hid (HALL.out rfl)
    have HI1Q := Lib.hid (HI1.out rfl)
    clear HIV HQ HALL HI1
    have HPP := Lib.hid (HP.out rfl _ hb3)
    clear HP
    go_wp2_with fail
    refine HPP.out.mono ?_
    rintro e W4 ⟨v', he, hR, hb4⟩
    obtain ⟨sec3, sa3, sn3, sc3, ta3, tn3, tc3, ca3, cn3, cc3⟩ := v'
    change e = .returned (.tuple #[.agg #[.string sec3, .slice sa3 sn3 sc3, .slice ta3 tn3 tc3, .slice ca3 cn3 cc3], .int .i64 E]) at he
    subst he
    have hal : Below W4.heap.size W4 (W4.alloc (.cells #[.string sec3, .slice sa3 sn3 sc3, .slice ta3 tn3 tc3, .slice ca3 cn3 cc3] 26)) := (Below.refl _ _).alloc (Nat.le_refl _) _
    have hb5 := hb4.trans (hal.mono hb4.size)
    obtain ⟨z0, z1, z2, z3, -⟩ := box_cells4 (World.alloc_heap_new W4 (.cells #[.string sec3, .slice sa3 sn3 sc3, .slice ta3 tn3 tc3, .slice ca3 cn3 cc3] 26))
    have hb6 := hb3.trans (hb5.mono hb3.size)
    have HR := Lib.hid (hR.below hal)
    replace c0 := cell_later hb5 c0
    replace c1 := cell_later hb5 c1
    replace c2 := cell_later hb5 c2
    replace c3 := cell_later hb5 c3
    replace o0 := cell_later hb5 o0
    replace o1 := cell_later hb5 o1
    replace o2 := cell_later hb5 o2
    replace o3 := cell_later hb5 o3
    replace o4 := cell_later hb5 o4
    clear HPP hR hal hb5 hb4 hb3
    have HB6 := Lib.hid hb6
    have HII := Lib.hid (HIVQ.out _ hb6)
    clear hb6 HIVQ
    go_wp2_with fail
    generalize W4.alloc (.cells #[.string sec3, .slice sa3 sn3 sc3, .slice ta3 tn3 tc3, .slice ca3 cn3 cc3] 26) = W5 at *
    refine HII.out.mono ?_
    rintro e W6 ⟨rfl, hb7⟩
    have hal : Below W6.heap.size W6 (W6.alloc (.cells #[.int .i64 p1, .string p2, .int .i64 p3, .int .i64 p4, .string p5] 28)) := (Below.refl _ _).alloc (Nat.le_refl _) _
    obtain ⟨q0, q1, q2, q3, q4⟩ := box_cells5 (World.alloc_heap_new W6 (.cells #[.int .i64 p1, .string p2, .int .i64 p3, .int .i64 p4, .string p5] 28))
    have hb8 := hb7.trans (hal.mono hb7.size)
    replace c0 := cell_later hb8 c0
    replace c1 := cell_later hb8 c1
    replace c2 := cell_later hb8 c2
    replace c3 := cell_later hb8 c3
    replace o0 := cell_later hb8 o0
    replace z0 := cell_later hb8 z0
    replace z1 := cell_later hb8 z1
    replace z2 := cell_later hb8 z2
    replace z3 := cell_later hb8 z3
    have hb9 := HB6.out.trans (hb8.mono HB6.out.size)
    have HR8 := Lib.hid (HR.out.below hb8)
    have HB9 := Lib.hid hb9
    clear hal hb7 hb8 HII HR o1 o2 o3 o4 HB6
    by_cases h0 : E = 0
    · have t0 : ((E : Int) != 0) = false := by simp [h0]
      by_cases g0 : G = 0
      · have t1 : ((G : Int) == 0) = true := by simp [g0]
        obtain ⟨i1, i2, i3, i4⟩ := HI1Q.out h0 g0
        have hap := HQQ.out _ _ _ (HE.out.below hb9) HR8.out ⟨p1, p2, p3, p4, p5⟩ i3 i4
        unfold EditPost at hap
        rw [i1, i2] at hap
        have HAP := Lib.hid hap
        change Hid (Calls _ _ #[.agg #[.string sec3, .slice sa3 sn3 sc3, .slice ta3 tn3 tc3, .slice ca3 cn3 cc3], .agg #[.int .i64 p1, .string p2, .int .i64 p3, .int .i64 p4, .string p5]] _ _) at HAP
        clear hap i1 i2 i3 i4 HI1Q HI2 HI3 HQQ HALQ
        subst h0 g0
        go_wp2_with fail
        generalize W6.alloc (.cells #[.int .i64 p1, .string p2, .int .i64 p3, .int .i64 p4, .string p5] 28) = W7 at *
        refine HAP.out.mono ?_
        rintro e U1 ⟨v4, he, hR4, hu1⟩
        obtain ⟨sec4, sa4, sn4, sc4, ta4, tn4, tc4, ca4, cn4, cc4⟩ := v4
        change e = .returned (.tuple #[.agg #[.string sec4, .slice sa4 sn4 sc4, .slice ta4 tn4 tc4, .slice ca4 cn4 cc4], .int .i64 0]) at he
        subst he
        have hal : Below U1.heap.size U1 (U1.alloc (.cells #[.string sec4, .slice sa4 sn4 sc4, .slice ta4 tn4 tc4, .slice ca4 cn4 cc4] 26)) := (Below.refl _ _).alloc (Nat.le_refl _) _
        obtain ⟨x0, x1, x2, x3, -⟩ := box_cells4 (World.alloc_heap_new U1 (.cells #[.string sec4, .slice sa4 sn4 sc4, .slice ta4 tn4 tc4, .slice ca4 cn4 cc4] 26))
        have hu2 := hu1.trans (hal.mono hu1.size)
        replace c0 := cell_later hu2 c0
        replace c1 := cell_later hu2 c1
        replace c2 := cell_later hu2 c2
        replace c3 := cell_later hu2 c3
        have hb10 := hb9.trans (hu2.mono hb9.size)
        have hxr := HX.out.below hb10
        rw [hVe.out] at hxr
        have hsm := sameC_any _ _ ⟨sec4, sa4, sn4, sc4, ta4, tn4, tc4, ca4, cn4, cc4⟩ ⟨sec, sa, sn, sc, ta, tn, tc, ca, cn, cc⟩ x x _ (hR4.below hal) hxr
        rw [decide_eq_true rfl] at hsm
        have HSM := Lib.hid hsm
        change Hid (Calls _ _ #[.agg #[.string sec4, .slice sa4 sn4 sc4, .slice ta4 tn4 tc4, .slice ca4 cn4 cc4], .agg #[.string sec, .slice sa sn sc, .slice ta tn tc, .slice ca cn cc]] _ _) at HSM
        clear hsm hxr hal hu1 hu2 hR4 HAP
        go_wp2_with fail
        generalize U1.alloc (.cells #[.string sec4, .slice sa4 sn4 sc4, .slice ta4 tn4 tc4, .slice ca4 cn4 cc4] 26) = U2 at *
        refine HSM.out.mono ?_
        rintro e U3 ⟨rfl, hu3⟩
        have hb11 := hb10.trans (hu3.mono hb10.size)
        have HA1 := Lib.hid (HAW.out _ hb11)
        go_wp2_with fail
        refine HA1.out.mono ?_
        rintro e U9 ⟨rfl, hu9⟩
        go_wp2
        go_ret
        exact ⟨rfl, hb11.trans (hu9.mono hb11.size)⟩
      · have t1 : ((G : Int) == 0) = false := by simpa using g0
        obtain ⟨j1, j2, j3⟩ := HI2.out h0 g0
        have t2 : ((ok : Int) == 4) = false := by simpa using j2
        have HJ3 := Lib.hid j3
        have HAL := Lib.hid (HALQ.out h0 _ _ _ (HE.out.below hb9) HR8.out)
        change Hid (Calls _ _ #[.agg #[.string sec3, .slice sa3 sn3 sc3, .slice ta3 tn3 tc3, .slice ca3 cn3 cc3]] _ _) at HAL
        subst h0 j1
        clear HI1Q HI2 HI3 HALQ g0 j2 j3
        go_wp2_with fail
        generalize W6.alloc (.cells #[.int .i64 p1, .string p2, .int .i64 p3, .int .i64 p4, .string p5] 28) = W7 at *
        refine HAL.out.mono ?_
        rintro e U1 ⟨a, n, c, rfl, hO, hu1, hn, hok⟩
        replace c0 := cell_later hu1 c0
        replace c1 := cell_later hu1 c1
        replace c2 := cell_later hu1 c2
        replace c3 := cell_later hu1 c3
        replace o0 := cell_later hu1 o0
        replace z0 := cell_later hu1 z0
        replace z1 := cell_later hu1 z1
        replace z2 := cell_later hu1 z2
        replace z3 := cell_later hu1 z3
        have hb10 := hb9.trans (hu1.mono hb9.size)
        have HOK := Lib.hid hok
        have HR9 := Lib.hid (HR8.out.below hu1)
        clear HAL hu1 hok HR8 q0 q1 q2 q3 q4
        by_cases n0 : n = 0
        · subst n0
          clear hO HOK HJ3
          have HA1 := Lib.hid (HAW.out _ hb10)
          go_wp2_with fail
          refine HA1.out.mono ?_
          rintro e U9 ⟨rfl, hu9⟩
          go_wp2
          go_ret
          exact ⟨rfl, hb10.trans (hu9.mono hb10.size)⟩
        · have n1 : 0 < n := by omega
          have n2 : ¬ n = 0 := n0
          obtain ⟨k, hkv, hk⟩ : ∃ k : Nat, (IntKind.i64.wrap (i : Int)).tmod (n : Int) = (k : Int) ∧ k < n := ⟨i % n, by rw [show IntKind.i64.wrap (i : Int) = i by rw [IntKind.wrap_i64]; omega, Int.tmod_eq_emod_of_nonneg (by omega)]; omega, Nat.mod_lt _ n1⟩
          obtain ⟨d, b, off, hu, hmem, ea, -, hbl, hdo, ⟨e0, e1, e2, e3, e4⟩⟩ := hO.op hk
          subst ea
          have hnb := hO.bound
          obtain ⟨j4, j5⟩ := HJ3.out d hmem
          obtain ⟨k1, k2⟩ := HOK.out d hmem
          have HAPF : Hid (∀ W, Below U1.heap.size U1 W → Calls Tryz.prog 14 #[.agg #[.string sec3, .slice sa3 sn3 sc3, .slice ta3 tn3 tc3, .slice ca3 cn3 cc3], d.val] W fun e w' => ∃ v' : CV, e = .returned (.tuple #[v'.val, .int .i64 0]) ∧ RdC (fun _ => True) w' v' (opApply Y d) ∧ Below W.heap.size W w') := fun W hbW => by
            have := HQQ.out _ ⟨sec3, sa3, sn3, sc3, ta3, tn3, tc3, ca3, cn3, cc3⟩ W (HE.out.below (hb10.trans (hbW.mono hb10.size))) (HR9.out.below hbW) d k1 (by rw [k2]; show 0 ≤ _; omega)
            unfold EditPost at this
            rw [j4] at this
            exact this.mono (fun e w' ⟨v', q1, q2, q3⟩ => ⟨v', q1, q2.mono (fun _ _ _ => trivial), q3⟩)
          have HAPG : Hid (∀ W, Below U1.heap.size U1 W → Calls Tryz.prog 14 #[.agg #[.string sec3, .slice sa3 sn3 sc3, .slice ta3 tn3 tc3, .slice ca3 cn3 cc3], d.val] W fun e w' => ∃ v' : CV, e = .returned (.tuple #[v'.val, .int .i64 0]) ∧ RdC (fun b => b < U1.heap.size ∨ W.heap.size ≤ b) w' v' (opApply Y d) ∧ Below W.heap.size W w') := fun W hbW => by
            have := HQQ.out _ ⟨sec3, sa3, sn3, sc3, ta3, tn3, tc3, ca3, cn3, cc3⟩ W (HE.out.below (hb10.trans (hbW.mono hb10.size))) ((HR9.out.mono (S' := fun b => b < U1.heap.size) (fun b _ h => h)).below hbW) d k1 (by rw [k2]; show 0 ≤ _; omega)
            unfold EditPost at this
            rw [j4] at this
            exact this
          have hne : decide (opApply Y d = x) = false := decide_eq_false j5
          obtain ⟨d1, d2, d3, d4, d5⟩ := d
          dsimp only at e0 e1 e2 e3 e4
          change Hid (∀ W, _ → Calls _ _ #[_, .agg #[.int .i64 d1, .string d2, .int .i64 d3, .int .i64 d4, .string d5]] _ _) at HAPF
          change Hid (∀ W, _ → Calls _ _ #[_, .agg #[.int .i64 d1, .string d2, .int .i64 d3, .int .i64 d4, .string d5]] _ _) at HAPG
          have HNE := Lib.hid hne
          clear HOK HJ3 hO hu hmem hdo j4 j5 k1 k2 n0 hne HQQ
          go_wp2_with fail
          obtain ⟨X, Wf, hX, hS1, hS2⟩ := family (fun V => Below U1.heap.size U1 V) U1 (Below.refl _ _)
          have HS2 := Lib.hid hS2
          have q_z0 := fun x => cell_later (hS1 x) z0
          have q_z1 := fun x => cell_later (hS1 x) z1
          have q_z2 := fun x => cell_later (hS1 x) z2
          have q_z3 := fun x => cell_later (hS1 x) z3
          have q_e0 := fun x => cell_later (hS1 x) e0
          have q_e1 := fun x => cell_later (hS1 x) e1
          have q_e2 := fun x => cell_later (hS1 x) e2
          have q_e3 := fun x => cell_later (hS1 x) e3
          have q_e4 := fun x => cell_later (hS1 x) e4
          clear hS1 hS2
          have hd0 : Below U1.heap.size U1 U1.drew := (Below.refl _ _).drew
          refine wp_region_treeN (Wf := Wf) 15 (.read 0 (.read 1 (.read 2 (.read 3 (.read 4 (.read 5 (.read 6 (.read 7 (.read 8 (.two 9 (.read 10 (.read 11 (.read 12 (.act 13 (.act 14 .fin))))) 13 (.act 9 (.read 10 (.read 11 (.read 12 (.act 14 .fin))))))))))))))) (by kernel_rfl) (by kernel_rfl) (HS2.out _ hd0) ?_
          refine wpTree_read _ rfl (fun K hK => ?_); unfold rOp; go_simp; (refine hK _ ?_; clear hK K)
          refine wpTree_read _ rfl (fun K hK => ?_); unfold rOp; go_simp; (refine hK _ ?_; clear hK K)
          refine wpTree_read _ rfl (fun K hK => ?_); unfold rOp; go_simp; (refine hK _ ?_; clear hK K)
          refine wpTree_read _ rfl (fun K hK => ?_); unfold rOp; go_simp; (refine hK _ ?_; clear hK K)
          refine wpTree_read _ rfl (fun K hK => ?_); unfold rOp; go_simp; (refine hK _ ?_; clear hK K)
          refine wpTree_read _ rfl (fun K hK => ?_); unfold rOp; go_simp; (refine hK _ ?_; clear hK K)
          refine wpTree_read _ rfl (fun K hK => ?_); unfold rOp; go_simp; (refine hK _ ?_; clear hK K)
          refine wpTree_read _ rfl (fun K hK => ?_); unfold rOp; go_simp; (refine hK _ ?_; clear hK K)
          refine wpTree_read _ rfl (fun K hK => ?_); unfold rOp; go_simp; (refine hK _ ?_; clear hK K)
          clear q_z0 q_z1 q_z2 q_z3 q_e0 q_e1 q_e2 q_e3 q_e4
          generalize hW2 : U1.drew = U2 at *
          clear hW2 e0 e1 e2 e3 e4 z0 z1 z2 z3
          refine wpTree_two ?_ ?_
          · refine wpTree_act _ rfl ?_
            have HAP := Lib.hid (HAPF.out _ hd0)
            go_wp2_with fail
            refine HAP.out.mono ?_
            rintro e U3 ⟨v4, he, hR4, hu3⟩
            obtain ⟨sec4, sa4, sn4, sc4, ta4, tn4, tc4, ca4, cn4, cc4⟩ := v4
            change e = .returned (.tuple #[.agg #[.string sec4, .slice sa4 sn4 sc4, .slice ta4 tn4 tc4, .slice ca4 cn4 cc4], .int .i64 0]) at he
            subst he
            have hd1 := hd0.trans (hu3.mono hd0.size)
            go_wp2_with fail
            refine ⟨HS2.out _ hd1, ?_⟩
            refine wpTree_read _ rfl (fun K hK => ?_); unfold rOp; go_simp; (refine hK _ ?_; clear hK K)
            refine wpTree_read _ rfl (fun K hK => ?_); unfold rOp; go_simp; (refine hK _ ?_; clear hK K)
            refine wpTree_read _ rfl (fun K hK => ?_); unfold rOp; go_simp; (refine hK _ ?_; clear hK K)
            refine wpTree_act _ rfl ?_
            have hal : Below U3.heap.size U3 (U3.alloc (.cells #[.string ⟨#[]⟩, .slice none 0 0, .slice none 0 0, .slice none 0 0] 26)) := (Below.refl _ _).alloc (Nat.le_refl _) _
            have gz := World.alloc_heap_new U3 (.cells #[.string ⟨#[]⟩, .slice none 0 0, .slice none 0 0, .slice none 0 0] 26)
            have hgl := hd1.size
            have hd2 := hd1.trans (hal.mono hd1.size)
            have hR5 := (hR4.mono (S' := fun b => b < U3.heap.size) (fun b _ h => h)).below hal
            go_wp2_with fail
            generalize U3.alloc (.cells #[.string ⟨#[]⟩, .slice none 0 0, .slice none 0 0, .slice none 0 0] 26) = U4 at *
            refine ⟨HS2.out _ hd2, ?_⟩
            obtain ⟨w0, w1, w2, w3, wf⟩ := box_cells4 gz
            have wf0 := wf 0
            have wf1 := wf 1
            have wf2 := wf 2
            have wf3 := wf 3
            clear wf
            refine wpTree_act _ rfl ?_
            go_wp2_with fail
            change (∃ x, put4 U4 U3.heap.size (.string sec4) (.slice sa4 sn4 sc4) (.slice ta4 tn4 tc4) (.slice ca4 cn4 cc4) = Wf x) ∧ wpTree _ _ _ _ _ _ _ (put4 U4 U3.heap.size (.string sec4) (.slice sa4 sn4 sc4) (.slice ta4 tn4 tc4) (.slice ca4 cn4 cc4))
            have hd9 : Below U1.heap.size U1 (put4 U4 U3.heap.size (.string sec4) (.slice sa4 sn4 sc4) (.slice ta4 tn4 tc4) (.slice ca4 cn4 cc4)) := put4_below hd2 (by omega) _ _ _ _
            have hR9 := hR5.keep (w' := put4 U4 U3.heap.size (.string sec4) (.slice sa4 sn4 sc4) (.slice ta4 tn4 tc4) (.slice ca4 cn4 cc4)) (put4_keep (by omega) _ _ _ _)
            obtain ⟨r0, r1, r2, r3, -⟩ := box_cells4 (put4_at gz (.string sec4) (.slice sa4 sn4 sc4) (.slice ta4 tn4 tc4) (.slice ca4 cn4 cc4))
            clear w0 w1 w2 w3 wf0 wf1 wf2 wf3 gz hR5 hR4
            generalize put4 U4 U3.heap.size (.string sec4) (.slice sa4 sn4 sc4) (.slice ta4 tn4 tc4) (.slice ca4 cn4 cc4) = U9 at *
            refine ⟨HS2.out _ hd9, wpTree_fin ?_⟩
            replace c0 := cell_later hd9 c0
            replace c1 := cell_later hd9 c1
            replace c2 := cell_later hd9 c2
            replace c3 := cell_later hd9 c3
            have hb11 := hb10.trans (hd9.mono hb10.size)
            have hxr := HX.out.below hb11
            rw [hVe.out] at hxr
            have hsm := sameC_any _ _ ⟨sec4, sa4, sn4, sc4, ta4, tn4, tc4, ca4, cn4, cc4⟩ ⟨sec, sa, sn, sc, ta, tn, tc, ca, cn, cc⟩ _ x _ hR9 hxr
            rw [HNE.out] at hsm
            have HSM := Lib.hid hsm
            change Hid (Calls _ _ #[.agg #[.string sec4, .slice sa4 sn4 sc4, .slice ta4 tn4 tc4, .slice ca4 cn4 cc4], .agg #[.string sec, .slice sa sn sc, .slice ta tn tc, .slice ca cn cc]] _ _) at HSM
            clear hsm hxr hR9 HAP HS2
            go_wp2
            rw [noPanic_normal]
            go_wp2_with fail
            refine HSM.out.mono ?_
            rintro e V1 ⟨rfl, hv1⟩
            have hb12 := hb11.trans (hv1.mono hb11.size)
            have HA1 := Lib.hid (HAW.out _ hb12)
            go_wp2_with fail
            refine HA1.out.mono ?_
            rintro e V2 ⟨rfl, hv2⟩
            go_wp2
            go_ret
            exact ⟨rfl, hb12.trans (hv2.mono hb12.size)⟩
          · refine wpTree_act _ rfl ?_
            have hal : Below U2.heap.size U2 (U2.alloc (.cells #[.string ⟨#[]⟩, .slice none 0 0, .slice none 0 0, .slice none 0 0] 26)) := (Below.refl _ _).alloc (Nat.le_refl _) _
            have gz := World.alloc_heap_new U2 (.cells #[.string ⟨#[]⟩, .slice none 0 0, .slice none 0 0, .slice none 0 0] 26)
            have hgs : U2.heap.size < (U2.alloc (.cells #[.string ⟨#[]⟩, .slice none 0 0, .slice none 0 0, .slice none 0 0] 26)).heap.size := by simp
            have hgl := hd0.size
            have hd1 := hd0.trans (hal.mono hd0.size)
            go_wp2_with fail
            generalize U2.alloc (.cells #[.string ⟨#[]⟩, .slice none 0 0, .slice none 0 0, .slice none 0 0] 26) = U3 at *
            refine ⟨HS2.out _ hd1, ?_⟩
            refine wpTree_act _ rfl ?_
            have HAP := Lib.hid (HAPG.out _ hd1)
            go_wp2_with fail
            refine HAP.out.mono ?_
            rintro e U4 ⟨v4, he, hR4, hu4⟩
            obtain ⟨sec4, sa4, sn4, sc4, ta4, tn4, tc4, ca4, cn4, cc4⟩ := v4
            change e = .returned (.tuple #[.agg #[.string sec4, .slice sa4 sn4 sc4, .slice ta4 tn4 tc4, .slice ca4 cn4 cc4], .int .i64 0]) at he
            subst he
            have hd2 := hd1.trans (hu4.mono hd1.size)
            replace gz := (hu4.block _ hgs).trans gz
            have hR5 := hR4
            go_wp2_with fail
            refine ⟨HS2.out _ hd2, ?_⟩
            refine wpTree_read _ rfl (fun K hK => ?_); unfold rOp; go_simp; (refine hK _ ?_; clear hK K)
            refine wpTree_read _ rfl (fun K hK => ?_); unfold rOp; go_simp; (refine hK _ ?_; clear hK K)
            refine wpTree_read _ rfl (fun K hK => ?_); unfold rOp; go_simp; (refine hK _ ?_; clear hK K)
            obtain ⟨w0, w1, w2, w3, wf⟩ := box_cells4 gz
            have wf0 := wf 0
            have wf1 := wf 1
            have wf2 := wf 2
            have wf3 := wf 3
            clear wf
            refine wpTree_act _ rfl ?_
            go_wp2_with fail
            change (∃ x, put4 U4 U2.heap.size (.string sec4) (.slice sa4 sn4 sc4) (.slice ta4 tn4 tc4) (.slice ca4 cn4 cc4) = Wf x) ∧ wpTree _ _ _ _ _ _ _ (put4 U4 U2.heap.size (.string sec4) (.slice sa4 sn4 sc4) (.slice ta4 tn4 tc4) (.slice ca4 cn4 cc4))
            have hd9 : Below U1.heap.size U1 (put4 U4 U2.heap.size (.string sec4) (.slice sa4 sn4 sc4) (.slice ta4 tn4 tc4) (.slice ca4 cn4 cc4)) := put4_below hd2 (by omega) _ _ _ _
            have hR9 := hR5.keep (w' := put4 U4 U2.heap.size (.string sec4) (.slice sa4 sn4 sc4) (.slice ta4 tn4 tc4) (.slice ca4 cn4 cc4)) (put4_keep (by rintro (q | q) <;> omega) _ _ _ _)
            obtain ⟨r0, r1, r2, r3, -⟩ := box_cells4 (put4_at gz (.string sec4) (.slice sa4 sn4 sc4) (.slice ta4 tn4 tc4) (.slice ca4 cn4 cc4))
            clear w0 w1 w2 w3 wf0 wf1 wf2 wf3 gz hR5 hR4
            generalize put4 U4 U2.heap.size (.string sec4) (.slice sa4 sn4 sc4) (.slice ta4 tn4 tc4) (.slice ca4 cn4 cc4) = U9 at *
            refine ⟨HS2.out _ hd9, wpTree_fin ?_⟩
            replace c0 := cell_later hd9 c0
            replace c1 := cell_later hd9 c1
            replace c2 := cell_later hd9 c2
            replace c3 := cell_later hd9 c3
            have hb11 := hb10.trans (hd9.mono hb10.size)
            have hxr := HX.out.below hb11
            rw [hVe.out] at hxr
            have hsm := sameC_any _ _ ⟨sec4, sa4, sn4, sc4, ta4, tn4, tc4, ca4, cn4, cc4⟩ ⟨sec, sa, sn, sc, ta, tn, tc, ca, cn, cc⟩ _ x _ hR9 hxr
            rw [HNE.out] at hsm
            have HSM := Lib.hid hsm
            change Hid (Calls _ _ #[.agg #[.string sec4, .slice sa4 sn4 sc4, .slice ta4 tn4 tc4, .slice ca4 cn4 cc4], .agg #[.string sec, .slice sa sn sc, .slice ta tn tc, .slice ca cn cc]] _ _) at HSM
            clear hsm hxr hR9 HAP HS2
            go_wp2
            rw [noPanic_normal]
            go_wp2_with fail
            refine HSM.out.mono ?_
            rintro e V1 ⟨rfl, hv1⟩
            have hb12 := hb11.trans (hv1.mono hb11.size)
            have HA1 := Lib.hid (HAW.out _ hb12)
            go_wp2_with fail
            refine HA1.out.mono ?_
            rintro e V2 ⟨rfl, hv2⟩
            go_wp2
            go_ret
            exact ⟨rfl, hb12.trans (hv2.mono hb12.size)⟩
    · have t0 : ((E : Int) != 0) = true := by simpa using h0
      have t1 : ((G : Int) == E) = true := by rw [HI3.out h0]; simp
      clear HI1Q HI2 HI3 HQQ HALQ h0
      have HA1 := Lib.hid (HAW.out _ hb9)
      go_wp2_with fail
      refine HA1.out.mono ?_
      rintro e U9 ⟨rfl, hu9⟩
      go_wp2
      go_ret
      exact ⟨rfl, hb9.trans (hu9.mono hb9.size)⟩
end Go.Proofs.YtbdgmgddliploaaGreatDoor
