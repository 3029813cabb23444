/- The law EditopAll (printed by gen_elaw.py). -/
import Derived.Test.YtbdgmgddliploaaGreatDoorEWds
import Derived.Test.YtbdgmgddliploaaGreatDoorECon
import Derived.Test.YtbdgmgddliploaaGreatDoorEAwl
set_option linter.unusedVariables false
set_option linter.unusedSimpArgs false
namespace Go.Proofs.YtbdgmgddliploaaGreatDoor
open Go.RowKit

theorem allops_ok {S : Nat → Prop} {w : World} {v : CV} {x : Col} (h : RdC S w v x) (hv : x.err = 0) (p : Op) (hp : p ∈ allOps x) : p.ok ∧ p.text = ⟨#[]⟩ := by
  obtain ⟨i, t, hi, ht, hm, -⟩ := mem_allOps.1 hp
  obtain ⟨e1, e2, e3, e4⟩ := mem_four.1 hm
  have hl : (x.tks i).length ≤ 1024 := tks_le (fun r hr => ((err_iff.1 hv).1.toks r hr).1) i
  have hs : p.sig.size ≤ 140737488355328 := by
    obtain ⟨y, b, off, h1, -, -, -, -, h2, -⟩ := h.2.2.1.str (j := i) (by rw [h.2.2.1.len]; exact hi)
    rw [e1, h1]; exact h2
  refine ⟨⟨⟨by omega, by omega⟩, hs, ⟨by omega, by omega⟩, ⟨by omega, by omega⟩, by rw [e3]; show 0 ≤ _; omega⟩, e3⟩
theorem nodup_take {α : Type} {l : List α} (h : l.Nodup) {k : Nat} {p : α} (hp : l[k]? = some p) : p ∉ l.take k := by
  intro hm
  obtain ⟨hk, e⟩ := List.getElem?_eq_some_iff.1 hp
  obtain ⟨j, hj, ej⟩ := List.getElem_of_mem hm
  have hjk : j < k := by rw [List.length_take] at hj; omega
  rw [List.getElem_take] at ej
  exact (List.pairwise_iff_getElem.1 h) j k (by omega) hk hjk (by rw [ej, e])

set_option maxRecDepth 100000 in
set_option maxHeartbeats 16000000 in
theorem all_law (S : Nat → Prop) (v : CV) (x : Col) (o : Op) (w : World) (h : RdC S w v x) (hE : Env w) (ho : o.ok) : Calls Tryz.prog 4 #[v.val, o.val] w fun e w' => e = .returned (.bool true) ∧ Below w.heap.size w w' := by
  have HAW : Hid (∀ W, Below w.heap.size w W → Calls Tryz.prog 13 #[] W fun e w' => e = .returned (.bool true) ∧ Below W.heap.size W w') := fun W hb => awake_any W (hE.below hb)
  have HK : Hid (fine x [o] = true → ∀ W, Below w.heap.size w W → Calls Tryz.prog 18 #[v.val, o.val] W fun e w' => e = .returned (.int .i64 (opErr x o)) ∧ Below W.heap.size W w') := fun hf W hb => by
    obtain ⟨h1, h2, h3, h4⟩ := fine_true hf
    exact echeck_any S v x o W (h.below hb) h1 (hE.below hb) ho (by have := h4 o (by simp); omega)
  have HAL : Hid (fine x [o] = true → ∀ W, Below w.heap.size w W → Calls Tryz.prog 22 #[v.val] W fun e w' => ∃ a n c, e = .returned (.tuple #[.slice a n c, .int .i64 0]) ∧ Opsq (fun b => W.heap.size ≤ b) w' a n c (allOps x) ∧ n ≤ 4096 ∧ Below W.heap.size W w') := fun hf W hb => by
    obtain ⟨h1, h2, h3, h4⟩ := fine_true hf
    refine (all_any S v x W (h.below hb) h1 (hE.below hb) (fine_ops hf)).mono ?_
    rintro e w' ⟨a, n, c, he, ho, hb⟩
    rw [if_pos h2] at he ho
    have hn := fine_ops hf
    exact ⟨a, n, c, he, ho.sq op_len (by rw [ho.len]; omega) (fun y hy => (ho.lt y hy).1) (fun p hp => ⟨rfl, (allops_ok h h2 p hp).1⟩), by rw [ho.len]; exact hn, hb⟩
  have HKP : Hid (fine x [o] = true → ∀ p : Op, p ∈ allOps x → ∀ W, Below w.heap.size w W → Calls Tryz.prog 18 #[v.val, p.val] W fun e w' => e = .returned (.int .i64 0) ∧ Below W.heap.size W w') := fun hf p hp W hb => by
    obtain ⟨h1, h2, h3, h4⟩ := fine_true hf
    have := echeck_any S v x p W (h.below hb) h1 (hE.below hb) (allops_ok h h2 p hp).1 (by rw [(allops_ok h h2 p hp).2]; show 0 ≤ _; omega)
    rw [all_zero hp] at this; exact this
  have HP4 : Hid (∀ p : Op, p ∈ allOps x → p.kind ≠ 4) := fun p hp => all_kind hp
  have HND : Hid (fine x [o] = true → ∀ (k : Nat) (p : Op), (allOps x)[k]? = some p → p ∉ (allOps x).take k) := fun hf k p hp => nodup_take (all_nodup (err_iff.1 (fine_true hf).2.1).1.nodup) hp
  have HMO : Hid (o.kind ≠ 4 → decide (o ∈ allOps x) = decide (opErr x o = 0)) := fun hk => decide_eq_decide.2 ⟨all_zero, fun h0 => all_of h0 hk⟩
  have HX := Lib.hid h
  have HO := Lib.hid ho
  have HE := Lib.hid hE
  obtain ⟨V, hV⟩ : ∃ V, V = v := ⟨_, rfl⟩
  obtain ⟨O, hO'⟩ : ∃ O, O = o := ⟨_, rfl⟩
  have HF : Hid (∀ W b, Below w.heap.size w W → W.heap[b]? = some (.cells #[.int .i64 o.kind, .string o.sig, .int .i64 o.tok, .int .i64 o.other, .string o.text] 28 (0, 0)) → Calls Tryz.prog 21 #[v.val, .slice (some ⟨b, 0, none⟩) 1 1] W fun e w' => e = .returned (.bool (fine x [o])) ∧ Below W.heap.size W w') := fun W b hb hg =>
    fine_any S (fun _ => True) v x _ 1 1 [o] W (h.below hb) (Sq.lit #[.int .i64 o.kind, .string o.sig, .int .i64 o.tok, .int .i64 o.other, .string o.text] [o] Op.cells hg rfl op_len trivial (by simp) (fun y hy => ⟨rfl, by simp at hy; subst hy; exact ho⟩))
  rw [← hV] at HX
  rw [← hO'] at HO
  generalize fine x [o] = FB at *
  generalize opErr x o = E at *
  generalize allOps x = L at *
  clear h hE ho
  obtain ⟨sec, sa, sn, sc, ta, tn, tc, ca, cn, cc⟩ := v
  obtain ⟨ok, og, ot, oo, ox⟩ := o
  have hVe : Hid (V = ⟨sec, sa, sn, sc, ta, tn, tc, ca, cn, cc⟩) := hV
  have hOe : Hid (O = ⟨ok, og, ot, oo, ox⟩) := hO'
  clear hV hO'
  change Calls _ _ #[.agg #[.string sec, .slice sa sn sc, .slice ta tn tc, .slice ca cn cc], .agg #[.int .i64 ok, .string og, .int .i64 ot, .int .i64 oo, .string ox]] _ _
  change Hid (∀ (W : World) (b : Nat), _ → _ → Calls _ _ #[.agg #[.string sec, .slice sa sn sc, .slice ta tn tc, .slice ca cn cc], _] _ _) at HF
  change Hid (_ → ∀ W, _ → Calls _ _ #[.agg #[.string sec, .slice sa sn sc, .slice ta tn tc, .slice ca cn cc], .agg #[.int .i64 ok, .string og, .int .i64 ot, .int .i64 oo, .string ox]] _ _) at HK
  change Hid (_ → ∀ W, _ → Calls _ _ #[.agg #[.string sec, .slice sa sn sc, .slice ta tn tc, .slice ca cn cc]] _ _) at HAL
  change Hid (_ → ∀ p : Op, _ → ∀ W, _ → Calls _ _ #[.agg #[.string sec, .slice sa sn sc, .slice ta tn tc, .slice ca cn cc], _] _ _) at HKP
  dsimp only at HMO
  dsimp only at HF
  obtain ⟨hb0, hsz, hC, hO, hP⟩ := box3 w #[.string sec, .slice sa sn sc, .slice ta tn tc, .slice ca cn cc] #[.int .i64 ok, .string og, .int .i64 ot, .int .i64 oo, .string ox] #[.int .i64 ok, .string og, .int .i64 ot, .int .i64 oo, .string ox] 26 28 28
  have hbx : (((w.alloc (.cells #[.string sec, .slice sa sn sc, .slice ta tn tc, .slice ca cn cc] 26)).alloc (.cells #[.int .i64 ok, .string og, .int .i64 ot, .int .i64 oo, .string ox] 28)).alloc (.cells #[.int .i64 ok, .string og, .int .i64 ot, .int .i64 oo, .string ox] 28)).heap[w.heap.size + 1 + 1]? = some (.cells #[.int .i64 ok, .string og, .int .i64 ot, .int .i64 oo, .string ox] 28 (0, 0)) := by
    have := World.alloc_heap_new ((w.alloc (.cells #[.string sec, .slice sa sn sc, .slice ta tn tc, .slice ca cn cc] 26)).alloc (.cells #[.int .i64 ok, .string og, .int .i64 ot, .int .i64 oo, .string ox] 28)) (.cells #[.int .i64 ok, .string og, .int .i64 ot, .int .i64 oo, .string ox] 28)
    simpa using this
  have c0 := hC 0 _ rfl
  have c1 := hC 1 _ rfl
  have c2 := hC 2 _ rfl
  have c3 := hC 3 _ rfl
  have o0 := hO 0 _ rfl
  have o1 := hO 1 _ rfl
  have o2 := hO 2 _ rfl
  have o3 := hO 3 _ rfl
  have o4 := hO 4 _ rfl
  have HFF := Lib.hid (HF.out _ _ hb0 hbx)
  clear hC hO hP hbx HF hsz
  go_enter Tryz.func4, Tryz.ntmps4
  go_wp2_with fail
  generalize ((w.alloc (.cells #[.string sec, .slice sa sn sc, .slice ta tn tc, .slice ca cn cc] 26)).alloc (.cells #[.int .i64 ok, .string og, .int .i64 ot, .int .i64 oo, .string ox] 28)).alloc (.cells #[.int .i64 ok, .string og, .int .i64 ot, .int .i64 oo, .string ox] 28) = W1 at *
  refine HFF.out.mono ?_
  rintro e W2 ⟨rfl, hb2⟩
  have hb3 := hb0.trans (hb2.mono hb0.size)
  replace c0 := cell_later hb2 c0
  replace c1 := cell_later hb2 c1
  replace c2 := cell_later hb2 c2
  replace c3 := cell_later hb2 c3
  replace o0 := cell_later hb2 o0
  replace o1 := cell_later hb2 o1
  replace o2 := cell_later hb2 o2
  replace o3 := cell_later hb2 o3
  replace o4 := cell_later hb2 o4
  clear HFF hb2 hb0
  cases FB with
  | false =>
    have HA1 := Lib.hid (HAW.out _ hb3)
    go_wp2_with fail
    refine HA1.out.mono ?_
    rintro e W3 ⟨rfl, hb4⟩
    go_wp2
    go_ret
    exact ⟨rfl, hb3.trans (hb4.mono hb3.size)⟩
  | true =>
    have HPP := Lib.hid (HAL.out rfl _ hb3)
    have HKQ := Lib.hid (HKP.out rfl)
    have HKK := Lib.hid (HK.out rfl)
    have HNN := Lib.hid (HND.out rfl)
    clear HAL HKP HK HND
    go_wp2_with fail
    refine HPP.out.mono ?_
    rintro e W4 ⟨a, n, c, rfl, hO, hn, hb4⟩
    have hb5 := hb3.trans (hb4.mono hb3.size)
    replace c0 := cell_later hb4 c0
    replace c1 := cell_later hb4 c1
    replace c2 := cell_later hb4 c2
    replace c3 := cell_later hb4 c3
    replace o0 := cell_later hb4 o0
    replace o1 := cell_later hb4 o1
    replace o2 := cell_later hb4 o2
    replace o3 := cell_later hb4 o3
    replace o4 := cell_later hb4 o4
    have HB5 := Lib.hid hb5
    have HCN : Hid (∀ (W : World) (p : Op) (k : Nat), Below W4.heap.size W4 W → k ≤ n → Calls Tryz.prog 23 #[.slice a k c, p.val] W fun e w' => e = .returned (.bool (decide (p ∈ L.take k))) ∧ Below W.heap.size W w') := fun W p k hb hk => contains_op _ a k c _ p W ((hO.below rOpn_ok hb).take hk (Nat.le_trans hk hO.le))
    have HLN := Lib.hid hO.len
    have HO4 := Lib.hid hO
    have hnc : n ≤ c := hO.le
    clear HPP hO hb3 hb4 hb5
    go_wp2_with fail
    go_loopw [24] (fun i wr => ∃ (k : Nat), i = .int .i64 k ∧ k ≤ n ∧ Below W4.heap.size W4 wr) (fun i _ => n - (intOf i).toNat)
    case atStart => exact ⟨0, rfl, Nat.zero_le _, Below.refl _ _⟩
    case round =>
      obtain ⟨k, rfl, hk, hb⟩ := hrel
      replace c0 := cell_later hb c0
      replace c1 := cell_later hb c1
      replace c2 := cell_later hb c2
      replace c3 := cell_later hb c3
      replace o0 := cell_later hb o0
      replace o1 := cell_later hb o1
      replace o2 := cell_later hb o2
      replace o3 := cell_later hb o3
      replace o4 := cell_later hb o4
      have hbr := HB5.out.trans (hb.mono HB5.out.size)
      have HBR := Lib.hid hbr
      by_cases hkl : k < n
      · obtain ⟨p, b, off, hu, hmem, ea, -, hbl, -, d0⟩ := (HO4.out.below rOpn_ok hb).op hkl
        subst ea
        have hp4 := HP4.out p hmem
        have hnm : decide (p ∈ L.take k) = false := decide_eq_false (HNN.out k p hu)
        have HKp := Lib.hid (HKQ.out p hmem)
        have HCp : Hid (∀ W, Below W4.heap.size W4 W → Calls Tryz.prog 23 #[.slice (some ⟨b, off, none⟩) k c, p.val] W fun e w' => e = .returned (.bool false) ∧ Below W.heap.size W w') := fun W hbW => by
          have := HCN.out W p k hbW hk
          rw [hnm] at this; exact this
        obtain ⟨pk, pg, pt, po, px⟩ := p
        change Hid (∀ W, _ → Calls _ _ #[.agg #[.string sec, .slice sa sn sc, .slice ta tn tc, .slice ca cn cc], .agg #[.int .i64 pk, .string pg, .int .i64 pt, .int .i64 po, .string px]] _ _) at HKp
        change Hid (∀ W, _ → Calls _ _ #[_, .agg #[.int .i64 pk, .string pg, .int .i64 pt, .int .i64 po, .string px]] _ _) at HCp
        obtain ⟨d1, d2, d3, d4, d5⟩ := d0
        dsimp only at d1 d2 d3 d4 d5 hp4
        have t4 : ((pk : Int) == 4) = false := by simp [hp4]
        clear hu hmem hnm HMO HP4 HKQ HKK HNN HCN HLN HO4
        have hkc : k ≤ c := Nat.le_trans hk hnc
        have hal : Below wr.heap.size wr (wr.alloc (.cells #[.int .i64 pk, .string pg, .int .i64 pt, .int .i64 po, .string px] 28)) := (Below.refl _ _).alloc (Nat.le_refl _) _
        obtain ⟨p0, p1, p2, p3, p4⟩ := box_cells5 (World.alloc_heap_new wr (.cells #[.int .i64 pk, .string pg, .int .i64 pt, .int .i64 po, .string px] 28))
        replace c0 := cell_later hal c0
        replace c1 := cell_later hal c1
        replace c2 := cell_later hal c2
        replace c3 := cell_later hal c3
        have hb6 := hb.trans (hal.mono hb.size)
        have hb7 := hbr.trans (hal.mono hbr.size)
        go_wp2_with fail
        generalize wr.alloc (.cells #[.int .i64 pk, .string pg, .int .i64 pt, .int .i64 po, .string px] 28) = W5 at *
        obtain ⟨X, Wf, hX, hS1, hS2⟩ := family (fun V => Below W5.heap.size W5 V) W5 (Below.refl _ _)
        have HS2 := Lib.hid hS2
        have q_c0 := fun x => cell_later (hS1 x) c0
        have q_c1 := fun x => cell_later (hS1 x) c1
        have q_c2 := fun x => cell_later (hS1 x) c2
        have q_c3 := fun x => cell_later (hS1 x) c3
        have q_p0 := fun x => cell_later (hS1 x) p0
        have q_p1 := fun x => cell_later (hS1 x) p1
        have q_p2 := fun x => cell_later (hS1 x) p2
        have q_p3 := fun x => cell_later (hS1 x) p3
        have q_p4 := fun x => cell_later (hS1 x) p4
        clear hS1 hS2
        have hd0 : Below W5.heap.size W5 W5.drew := (Below.refl _ _).drew
        refine wp_region_tree (Wf := Wf) 15 (.read 0 (.read 1 (.act 2 (.read 3 (.read 4 (.read 5 (.read 6 (.read 7 (.read 8 (.read 9 (.read 10 (.read 11 (.read 12 (.read 13 (.act 14 .fin))))))))))))))) (by kernel_rfl) (by kernel_rfl) (fun _ _ d _ _ h => by cases d <;> exact h) (HS2.out _ hd0) ?_
        refine wpTree_read _ rfl (fun K hK => ?_); unfold rOp; go_simp; (refine hK _ ?_; clear hK K)
        refine wpTree_read _ rfl (fun K hK => ?_); unfold rOp; go_simp; (refine hK _ ?_; clear hK K)
        refine wpTree_act _ rfl ?_
        have HKC := Lib.hid (HKp.out _ (hb7.trans (hd0.mono hb7.size)))
        go_wp2_with fail
        refine HKC.out.mono ?_
        rintro e W6 ⟨rfl, hb8⟩
        have hd1 := hd0.trans (hb8.mono hd0.size)
        go_wp2_with fail
        refine ⟨HS2.out _ hd1, ?_⟩
        refine wpTree_read _ rfl (fun K hK => ?_); unfold rOp; go_simp; (refine hK _ ?_; clear hK K)
        refine wpTree_read _ rfl (fun K hK => ?_); unfold rOp; go_simp; (refine hK _ ?_; clear hK K)
        refine wpTree_read _ rfl (fun K hK => ?_); unfold rOp; go_simp; (refine hK _ ?_; clear hK K)
        refine wpTree_read _ rfl (fun K hK => ?_); unfold rOp; go_simp; (refine hK _ ?_; clear hK K)
        refine wpTree_read _ rfl (fun K hK => ?_); unfold rOp; go_simp; (refine hK _ ?_; clear hK K)
        refine wpTree_read _ rfl (fun K hK => ?_); unfold rOp; go_simp; (refine hK _ ?_; clear hK K)
        refine wpTree_read _ rfl (fun K hK => ?_); unfold rOp; go_simp; (refine hK _ ?_; clear hK K)
        refine wpTree_read _ rfl (fun K hK => ?_); unfold rOp; go_simp; (refine hK _ ?_; clear hK K)
        refine wpTree_read _ rfl (fun K hK => ?_); unfold rOp; go_simp; (refine hK _ ?_; clear hK K)
        refine wpTree_read _ rfl (fun K hK => ?_); unfold rOp; go_simp; (refine hK _ ?_; clear hK K)
        refine wpTree_read _ rfl (fun K hK => ?_); unfold rOp; go_simp; (refine hK _ ?_; clear hK K)
        refine wpTree_act _ rfl ?_
        have HCC := Lib.hid (HCp.out _ (hb6.trans (hd1.mono hb6.size)))
        go_wp2_with fail
        refine HCC.out.mono ?_
        rintro e W7 ⟨rfl, hb9⟩
        have hd2 := hd1.trans (hb9.mono hd1.size)
        go_wp2_with fail
        refine ⟨HS2.out _ hd2, wpTree_fin ?_⟩
        have hb10 := hb6.trans (hd2.mono hb6.size)
        clear HKC HCC HS2 hd0 hd1 hd2 hb8 hb9
        go_wp2_with fail
        go_roundw
        case rel => exact ⟨k + 1, by go_num, by omega, hb10⟩
        case measure => simp [intOf]; omega
      · obtain rfl : n = k := by omega
        have hCo : Hid (∀ W, Below W4.heap.size W4 W → Calls Tryz.prog 23 #[.slice a n c, .agg #[.int .i64 ok, .string og, .int .i64 ot, .int .i64 oo, .string ox]] W fun e w' => e = .returned (.bool (decide ((⟨ok, og, ot, oo, ox⟩ : Op) ∈ L))) ∧ Below W.heap.size W w') := fun W hbW => by
          have := HCN.out W ⟨ok, og, ot, oo, ox⟩ n hbW (Nat.le_refl _)
          rw [HLN.out, List.take_length, ← HLN.out] at this
          exact this
        have hM := HMO.out
        generalize decide ((⟨ok, og, ot, oo, ox⟩ : Op) ∈ L) = D at *
        clear HP4 HKQ HNN HCN HLN HO4 HMO
        go_wp2_with fail
        obtain ⟨X, Wf, hX, hS1, hS2⟩ := family (fun V => Below wr.heap.size wr V) wr (Below.refl _ _)
        have HS2 := Lib.hid hS2
        have q_c0 := fun x => cell_later (hS1 x) c0
        have q_c1 := fun x => cell_later (hS1 x) c1
        have q_c2 := fun x => cell_later (hS1 x) c2
        have q_c3 := fun x => cell_later (hS1 x) c3
        have q_o0 := fun x => cell_later (hS1 x) o0
        have q_o1 := fun x => cell_later (hS1 x) o1
        have q_o2 := fun x => cell_later (hS1 x) o2
        have q_o3 := fun x => cell_later (hS1 x) o3
        have q_o4 := fun x => cell_later (hS1 x) o4
        clear hS1 hS2
        have hd0 : Below wr.heap.size wr wr.drew := (Below.refl _ _).drew
        refine wp_region_tree (Wf := Wf) 16 (.read 0 (.read 1 (.read 2 (.read 3 (.read 4 (.read 5 (.read 7 (.read 8 (.act 6 (.act 9 (.read 10 (.read 11 (.read 12 (.read 13 (.act 14 (.read 15 .fin)))))))))))))))) (by kernel_rfl) (by kernel_rfl) (fun _ _ d _ _ h => by cases d <;> exact h) (HS2.out _ hd0) ?_
        by_cases h4 : ok = 4
        · have t4 : ((ok : Int) == 4) = true := by simp [h4]
          clear hM hCo HKK
          refine wpTree_read _ rfl (fun K hK => ?_); unfold rOp; go_simp; (refine hK _ ?_; clear hK K)
          refine wpTree_read _ rfl (fun K hK => ?_); unfold rOp; go_simp; (refine hK _ ?_; clear hK K)
          refine wpTree_read _ rfl (fun K hK => ?_); unfold rOp; go_simp; (refine hK _ ?_; clear hK K)
          refine wpTree_read _ rfl (fun K hK => ?_); unfold rOp; go_simp; (refine hK _ ?_; clear hK K)
          refine wpTree_read _ rfl (fun K hK => ?_); unfold rOp; go_simp; (refine hK _ ?_; clear hK K)
          refine wpTree_read _ rfl (fun K hK => ?_); unfold rOp; go_simp; (refine hK _ ?_; clear hK K)
          refine wpTree_read _ rfl (fun K hK => ?_); unfold rOp; go_simp; (refine hK _ ?_; clear hK K)
          refine wpTree_read _ rfl (fun K hK => ?_); unfold rOp; go_simp; (refine hK _ ?_; clear hK K)
          refine wpTree_act _ rfl ?_
          go_wp2_with fail
          refine ⟨HS2.out _ hd0, ?_⟩
          refine wpTree_act _ rfl ?_
          go_wp2_with fail
          refine ⟨HS2.out _ hd0, ?_⟩
          refine wpTree_read _ rfl (fun K hK => ?_); unfold rOp; go_simp; (refine hK _ ?_; clear hK K)
          refine wpTree_read _ rfl (fun K hK => ?_); unfold rOp; go_simp; (refine hK _ ?_; clear hK K)
          refine wpTree_read _ rfl (fun K hK => ?_); unfold rOp; go_simp; (refine hK _ ?_; clear hK K)
          refine wpTree_read _ rfl (fun K hK => ?_); unfold rOp; go_simp; (refine hK _ ?_; clear hK K)
          refine wpTree_act _ rfl ?_
          have HA1 := Lib.hid (HAW.out _ (HBR.out.trans (hd0.mono HBR.out.size)))
          go_wp2_with fail
          refine HA1.out.mono ?_
          rintro e W6 ⟨rfl, hb8⟩
          have hd1 := hd0.trans (hb8.mono hd0.size)
          go_wp2_with fail
          refine ⟨HS2.out _ hd1, ?_⟩
          refine wpTree_read _ rfl (fun K hK => ?_); unfold rOp; go_simp; (refine hK _ ?_; clear hK K)
          refine wpTree_fin ?_
          go_wp2
          go_ret
          exact ⟨rfl, HBR.out.trans (hd1.mono HBR.out.size)⟩
        · have t4 : ((ok : Int) == 4) = false := by simp [h4]
          have hD := hM h4
          rw [hD] at hCo
          have HCD := Lib.hid (hCo.out _ (hb.trans (hd0.mono hb.size)))
          have te : ((E : Int) == 0) = decide (E = 0) := by simp [Bool.beq_eq_decide_eq]
          clear hM hCo hD h4
          generalize decide (E = 0) = D2 at *
          refine wpTree_read _ rfl (fun K hK => ?_); unfold rOp; go_simp; (refine hK _ ?_; clear hK K)
          refine wpTree_read _ rfl (fun K hK => ?_); unfold rOp; go_simp; (refine hK _ ?_; clear hK K)
          refine wpTree_read _ rfl (fun K hK => ?_); unfold rOp; go_simp; (refine hK _ ?_; clear hK K)
          refine wpTree_read _ rfl (fun K hK => ?_); unfold rOp; go_simp; (refine hK _ ?_; clear hK K)
          refine wpTree_read _ rfl (fun K hK => ?_); unfold rOp; go_simp; (refine hK _ ?_; clear hK K)
          refine wpTree_read _ rfl (fun K hK => ?_); unfold rOp; go_simp; (refine hK _ ?_; clear hK K)
          refine wpTree_read _ rfl (fun K hK => ?_); unfold rOp; go_simp; (refine hK _ ?_; clear hK K)
          refine wpTree_read _ rfl (fun K hK => ?_); unfold rOp; go_simp; (refine hK _ ?_; clear hK K)
          refine wpTree_act _ rfl ?_
          go_wp2_with fail
          refine HCD.out.mono ?_
          rintro e W6 ⟨rfl, hb8⟩
          have hd1 := hd0.trans (hb8.mono hd0.size)
          go_wp2_with fail
          refine ⟨HS2.out _ hd1, ?_⟩
          refine wpTree_act _ rfl ?_
          have HKc := Lib.hid (HKK.out _ (HBR.out.trans (hd1.mono HBR.out.size)))
          go_wp2_with fail
          refine HKc.out.mono ?_
          rintro e W7 ⟨rfl, hb9⟩
          have hd2 := hd1.trans (hb9.mono hd1.size)
          go_wp2_with fail
          refine ⟨HS2.out _ hd2, ?_⟩
          have tq : (D2 == D2) = true := by cases D2 <;> rfl
          refine wpTree_read _ rfl (fun K hK => ?_); unfold rOp; go_simp; (refine hK _ ?_; clear hK K)
          refine wpTree_read _ rfl (fun K hK => ?_); unfold rOp; go_simp; (refine hK _ ?_; clear hK K)
          refine wpTree_read _ rfl (fun K hK => ?_); unfold rOp; go_simp; (refine hK _ ?_; clear hK K)
          refine wpTree_read _ rfl (fun K hK => ?_); unfold rOp; go_simp; (refine hK _ ?_; clear hK K)
          refine wpTree_act _ rfl ?_
          have HA1 := Lib.hid (HAW.out _ (HBR.out.trans (hd2.mono HBR.out.size)))
          go_wp2_with fail
          refine HA1.out.mono ?_
          rintro e W8 ⟨rfl, hb10⟩
          have hd3 := hd2.trans (hb10.mono hd2.size)
          go_wp2_with fail
          refine ⟨HS2.out _ hd3, ?_⟩
          refine wpTree_read _ rfl (fun K hK => ?_); unfold rOp; go_simp; (refine hK _ ?_; clear hK K)
          refine wpTree_fin ?_
          go_wp2
          go_ret
          exact ⟨rfl, HBR.out.trans (hd3.mono HBR.out.size)⟩
end Go.Proofs.YtbdgmgddliploaaGreatDoor
