/- Joined: OSqr, OTr1. -/
import Derived.Test.YtfdipkhbemgojaaGreatDoorR39
import Derived.Test.YtfdipkhbemgojaaGreatDoorR34
set_option linter.unusedVariables false
set_option linter.unusedSimpArgs false
set_option maxRecDepth 100000
set_option maxHeartbeats 16000000
namespace Go.Proofs.YtfdipkhbemgojaaGreatDoor
open Go.RowKit

theorem squeeze_ref (S : Nat -> Prop) (v : LV) (l : Lg) (w : World) (h : RdL S w v l) (hm : SmL l) (hE : Env w) : Calls Tryz.prog 51 #[v.val] w (LogPost S l.squeeze w) := by
  have h2 : RdL (fun b => S b /\ b < w.heap.size) w v l := h.mono (fun b q q' => ⟨q, q'⟩)
  have HC : Hid (∀ W, Below w.heap.size w W -> Calls Tryz.prog 21 #[v.val] W fun e w' => e = .returned (.int .i64 l.err) /\ Below W.heap.size W w') := fun W hb => lck_ref S v l W (h.below hb) hm (hE.below hb)
  have HS0 : Hid (l.err ≠ 0 -> l.squeeze = (Lg.none, 1)) := fun q => by unfold Lg.squeeze; rw [if_pos q]
  have HS1 : Hid (l.err = 0 -> l.squeeze = (⟨l.start, keepN l.ops l.und l.ops.length, List.replicate (keepN l.ops l.und l.ops.length).length false⟩, 0)) := fun q => by unfold Lg.squeeze; rw [if_neg (by simp [q])]
  have HX : Hid (∀ W, Below w.heap.size w W -> RdL (fun b => S b /\ b < w.heap.size) W v l) := fun W hb => h2.below hb
  have HLE : Hid (l.err = 0 -> l.ops.length = l.und.length /\ l.ops.length <= 256) := fun q => (err_zero.1 q).1.2
  have HON : Hid (v.on = l.ops.length) := h.2.1.len
  have HUN : Hid (v.un = l.und.length) := h.2.2.len
  have hok : Hid (∀ o ∈ l.ops, o.ok) := opsq_ok h.2.1
  have hob := h.2.1.bound
  obtain ⟨V, hV⟩ : ∃ V, V = v := ⟨_, rfl⟩
  rw [<- hV] at HX
  unfold LogPost
  generalize l.squeeze = R at *
  generalize l.err = E at *
  clear h h2 hm hE
  obtain ⟨⟨sec, sa, sn, sc, ta, tn, tc, ca, cn, cc⟩, oa, on, oc, ua, un, uc⟩ := v
  have hVe : Hid (V = ⟨⟨sec, sa, sn, sc, ta, tn, tc, ca, cn, cc⟩, oa, on, oc, ua, un, uc⟩) := hV
  clear hV
  dsimp only at HON HUN hob
  change Calls _ _ #[.agg #[.string sec, .slice sa sn sc, .slice ta tn tc, .slice ca cn cc, .slice oa on oc, .slice ua un uc]] _ _
  change Hid (∀ W, _ -> Calls _ _ #[.agg #[.string sec, .slice sa sn sc, .slice ta tn tc, .slice ca cn cc, .slice oa on oc, .slice ua un uc]] _ _) at HC
  obtain ⟨W1, hW1, hb, hs1, gX, gR⟩ := box2r w #[.string sec, .slice sa sn sc, .slice ta tn tc, .slice ca cn cc, .slice oa on oc, .slice ua un uc] #[.string ⟨#[]⟩, .slice none 0 0, .slice none 0 0, .slice none 0 0, .slice none 0 0, .slice none 0 0] 30 30
  have HCC := hiq (HC.out _ hb)
  obtain ⟨c0, c1, c2, c3, c4, c5⟩ := box_cells6 gX
  rw [hW1] at c0 c1 c2 c3 c4 c5
  clear HC
  go_enter Tryz.func51, Tryz.ntmps51
  go_wp2_with fail
  rw [<- hW1] at *
  clear hW1
  refine HCC.out.mono ?_
  rintro e W2 ⟨rfl, hb2⟩
  replace c0 := clq hb2 c0; replace c1 := clq hb2 c1; replace c2 := clq hb2 c2; replace c3 := clq hb2 c3; replace c4 := clq hb2 c4; replace c5 := clq hb2 c5
  replace gX := (hb2.block _ (by omega)).trans gX
  replace gR := (hb2.block _ (by omega)).trans gR
  replace hb := hb.trans (hb2.mono hb.size)
  have hs2 := hb2.size
  clear HCC hb2
  by_cases e0 : E = 0
  · have t0 : ((E : Int) != 0) = false := by simp [e0]
    have HEQ := hiq (HS1.out e0)
    have hle := HLE.out e0
    have HLL := hiq hle
    have hon : on <= 256 /\ on = un := by have := HON.out; have := HUN.out; omega
    obtain ⟨hon1, hon2⟩ := hon
    have HOU := hiq hon2
    clear HS0 HS1 HLE hle hon2
    have hal : Below W2.heap.size W2 (W2.alloc (.cells #[.string sec, .slice sa sn sc, .slice ta tn tc, .slice ca cn cc, .slice none 0 0, .slice none 0 0] 30)) := (Below.refl _ _).alloc (Nat.le_refl _) _
    have gB : (W2.alloc (.cells #[.string sec, .slice sa sn sc, .slice ta tn tc, .slice ca cn cc, .slice none 0 0, .slice none 0 0] 30)).heap[W2.heap.size]? = some (.cells #[.string sec, .slice sa sn sc, .slice ta tn tc, .slice ca cn cc, .slice none 0 0, .slice none 0 0] 30 (0, 0)) := World.alloc_heap_new W2 (.cells #[.string sec, .slice sa sn sc, .slice ta tn tc, .slice ca cn cc, .slice none 0 0, .slice none 0 0] 30)
    have gX3 := (hal.block _ (by omega)).trans gX
    have gR3 := (hal.block _ (by omega)).trans gR
    have hb3 := hb.trans (hal.mono hb.size)
    have hs3 : (W2.alloc (.cells #[.string sec, .slice sa sn sc, .slice ta tn tc, .slice ca cn cc, .slice none 0 0, .slice none 0 0] 30)).heap.size = W2.heap.size + 1 := by simp
    have HBLD : Bld W2.heap.size (W2.heap.size + 1) sec sa sn sc ta tn tc ca cn cc (keepN l.ops l.und 0) (List.replicate (keepN l.ops l.und 0).length false) (W2.alloc (.cells #[.string sec, .slice sa sn sc, .slice ta tn tc, .slice ca cn cc, .slice none 0 0, .slice none 0 0] 30)) none 0 0 none 0 0 := ⟨gB, OwnQ.nil _ _ _ _ _, OwnQ.nil _ _ _ _ _, fun y z h => by cases h⟩
    have HG3 := hiq (And.intro gX3 (And.intro gR3 (And.intro hb3 (And.intro hs3 HBLD))))
    clear hal gB gX3 gR3 hb3 hs3 HBLD gX gR hb
    go_wp2
    obtain ⟨gX3, gR3, hb3, hs3, HBLD⟩ := HG3.out
    clear HG3
    generalize W2.alloc (.cells #[.string sec, .slice sa sn sc, .slice ta tn tc, .slice ca cn cc, .slice none 0 0, .slice none 0 0] 30) = W3 at *
    obtain ⟨l0, l1, l2, l3, l4, l5⟩ := box_cells6 gX3
    have HB3 := hiq hb3
    have hs3H := hiq hs3
    clear c0 c1 c2 c3 c4 c5 hb3 hs3
    go_loopw [5] (fun i wr => ∃ (k : Nat) (a1 : Option Addr) (n1 k1 : Nat) (a2 : Option Addr) (n2 k2 : Nat), i = .int .i64 k /\ k <= on /\ Hid (Bld W2.heap.size (W2.heap.size + 1) sec sa sn sc ta tn tc ca cn cc (keepN l.ops l.und k) (List.replicate (keepN l.ops l.und k).length false) wr a1 n1 k1 a2 n2 k2) /\ Below W2.heap.size W3 wr /\ W2.heap.size + 1 <= wr.heap.size) (fun i _ => on - (intOf i).toNat)
    case atStart => exact ⟨0, none, 0, 0, none, 0, 0, rfl, Nat.zero_le _, HBLD, (Below.refl W3.heap.size W3).mono (by have := hs3H.out; omega), by have := hs3H.out; omega⟩
    case round =>
      clear HBLD
      obtain ⟨k, a1, n1, k1, a2, n2, k2, rfl, hk, hB, hbl, hsr⟩ := hrel
      have hsw := HB3.out.size
      have hs3 := hs3H.out
      have m4 := cell_out hbl l4 (by show w.heap.size < _; omega)
      have m5 := cell_out hbl l5 (by show w.heap.size < _; omega)
      have hbw : Hid (Below w.heap.size w wr) := HB3.out.trans (hbl.mono (by omega))
      by_cases hkl : k < on
      · have hRd := HX.out wr hbw.out
        rw [hVe.out] at hRd
        obtain ⟨o, bo, off, eo, -, eoa, hSo, hblo, -, d0, d1, d2, d3, d4⟩ := hRd.2.1.op hkl
        have hku : k < un := by rw [<- HOU.out]; exact hkl
        obtain ⟨u, bu, ofu, eu, -, eua, -, -, du⟩ := hRd.2.2.flg hku
        have hunk : Hid (unK l.und k = u) := by show _ = _; unfold unK; rw [eu]; rfl
        have hopk : Hid (opK l.ops k = o) := by show _ = _; unfold opK; rw [eo]; rfl
        have hbo : bo < w.heap.size := hSo.2
        clear eo eu hRd hblo hSo
        cases u with
        | true =>
          have hKN : Hid (keepN l.ops l.und (k + 1) = keepN l.ops l.und k) := by show _ = _; rw [keepN, if_pos hunk.out]
          obtain ⟨ok, og, ot, oo, ox⟩ := o
          clear d0 d1 d2 d3 d4
          subst eua
          go_wp2
          go_roundw
          case rel => exact ⟨k + 1, a1, n1, k1, a2, n2, k2, by go_num, by omega, by rw [hKN.out]; exact hB, hbl, hsr⟩
          case measure => simp [intOf]; omega
        | false =>
          have hKN : Hid (keepN l.ops l.und (k + 1) = keepN l.ops l.und k ++ [o]) := by show _ = _; rw [keepN, if_neg (by simp [hunk.out]), hopk.out]
          have hKL := keepN_len l.ops l.und k
          have HKL := hiq hKL
          clear hKL
          obtain ⟨O, hO'⟩ : ∃ O, O = o := ⟨_, rfl⟩
          have hOe : Hid (O = o) := hO'
          rw [<- hO'] at hKN
          clear hO'
          obtain ⟨ok, og, ot, oo, ox⟩ := o
          dsimp only at d0 d1 d2 d3 d4
          have hg := hB.out
          have hn1 : n1 <= k := by have := hg.ops.len; have := HKL.out; omega
          have hn2 : n2 <= k := by have := hg.und.len; rw [List.length_replicate] at this; have := HKL.out; omega
          obtain ⟨-, -, -, -, b4, b5⟩ := box_cells6 hg.box
          have gb := hg.box
          have hNE := hg.ne
          have hO := hg.ops
          have hU := hg.und
          clear hg
          subst eua
          subst eoa
          go_wp2_with fail
          obtain ⟨X, Wf, hX, hS1, hS2⟩ := family (fun V => Below (W2.heap.size + 1) wr V) wr.drew ((Below.refl _ _).drew.mono hsr)
          have HS2 := hiq hS2
          have q_m4 := fun x => cell_out (hS1 x) m4 (by show w.heap.size < _; omega)
          have q_b4 := fun x => cell_out (hS1 x) b4 (by show W2.heap.size < _; omega)
          have q_d0 := fun x => cell_out (hS1 x) d0 (by show bo < _; omega)
          have q_d1 := fun x => cell_out (hS1 x) d1 (by show bo < _; omega)
          have q_d2 := fun x => cell_out (hS1 x) d2 (by show bo < _; omega)
          have q_d3 := fun x => cell_out (hS1 x) d3 (by show bo < _; omega)
          have q_d4 := fun x => cell_out (hS1 x) d4 (by show bo < _; omega)
          clear hS1 hS2
          have hd : Below (W2.heap.size + 1) wr wr.drew := (Below.refl _ _).drew.mono hsr
          have hsd : wr.heap.size <= wr.drew.heap.size := Nat.le_refl _
          replace hO : OwnQ 32 5 Op.cells wr.drew (W2.heap.size + 1) a1 n1 k1 (keepN l.ops l.und k) := hO
          replace hU : OwnQ 4 1 encB wr.drew (W2.heap.size + 1) a2 n2 k2 (List.replicate (keepN l.ops l.und k).length false) := hU
          replace gb : wr.drew.heap[W2.heap.size]? = some (.cells #[.string sec, .slice sa sn sc, .slice ta tn tc, .slice ca cn cc, .slice a1 n1 k1, .slice a2 n2 k2] 30 (0, 0)) := gb
          refine wp_region_tree (Wf := Wf) 10 (.read 0 (.read 1 (.read 2 (.read 3 (.read 4 (.read 5 (.read 6 (.act 7 (.act 8 (.read 9 .fin)))))))))) (by kernel_rfl) (by kernel_rfl) (fun _ _ d _ _ h => by cases d <;> exact h) (HS2.out _ hd) ?_
          refine wpTree_read _ rfl (fun K hK => ?_); unfold rOp; go_simp; (refine hK _ ?_; clear hK K)
          refine wpTree_read _ rfl (fun K hK => ?_); unfold rOp; go_simp; (refine hK _ ?_; clear hK K)
          refine wpTree_read _ rfl (fun K hK => ?_); unfold rOp; go_simp; (refine hK _ ?_; clear hK K)
          refine wpTree_read _ rfl (fun K hK => ?_); unfold rOp; go_simp; (refine hK _ ?_; clear hK K)
          refine wpTree_read _ rfl (fun K hK => ?_); unfold rOp; go_simp; (refine hK _ ?_; clear hK K)
          refine wpTree_read _ rfl (fun K hK => ?_); unfold rOp; go_simp; (refine hK _ ?_; clear hK K)
          refine wpTree_read _ rfl (fun K hK => ?_); unfold rOp; go_simp; (refine hK _ ?_; clear hK K)
          clear q_m4 q_b4 q_d0 q_d1 q_d2 q_d3 q_d4 d0 d1 d2 d3 d4 b4 b5 m4 m5
          generalize wr.drew = V at *
          have HIO := infoO
          have HIB := infoB
          refine wpTree_act (k := 7) _ rfl ?_
          have hst : Below V.heap.size V (V.alloc (.cells #[.int .i64 ok, .string og, .int .i64 ot, .int .i64 oo, .string ox] 32)) := (Below.refl _ _).alloc (Nat.le_refl _) _
          have hLo : ∀ j u, (([O] : List Op).flatMap Op.cells)[j]? = some u -> (V.alloc (.cells #[.int .i64 ok, .string og, .int .i64 ot, .int .i64 oo, .string ox] 32)).cell? ((⟨V.heap.size, 0, none⟩ : Addr).add j) = some u := fun j u hj => lit_cells (by rw [hOe.out] at hj; exact hj)
          replace hO := hO.below hst
          replace hU := hU.below hst
          replace gb := (hst.block _ (Array.getElem?_eq_some_iff.1 gb).1).trans gb
          replace hd := hd.trans (hst.mono (Nat.le_trans hsr hd.size))
          clear hst
          go_wp2_with fail
          generalize V.heap.size = bL at *
          generalize V.alloc (.cells #[.int .i64 ok, .string og, .int .i64 ot, .int .i64 oo, .string ox] 32) = V at *
          refine ⟨HS2.out _ hd, wpTree_act (k := 8) _ rfl ?_⟩
          go_wp2_with (at_builtin; refine wpList_appQ (w0 := wr) (l := keepN l.ops l.und k) (ys := [O]) HIO Tryz.underlying27 rfl (by decide) op_len op_one rfl _ _ rfl rfl rfl hO rfl hLo (by unfold maxLen; omega) (by omega) (Nat.le_trans hsr hd.size) hd ?_; intro b1 j1 V2 hO2 hb2 hg2 hz2)
          have hNE2 : ∀ z u, b1 = some z -> a2 = some u -> z.block ≠ u.block := fun z u hz hu => by
            subst hz
            rcases hz2 with e | e
            · cases a1 with
              | none => cases e
              | some t => have q : z.block = t.block := Option.some.inj e; rw [q]; exact hNE t u rfl hu
            · have q : z.block = V.heap.size := Option.some.inj e
              have := (hU.lt u hu).2; omega
          have hU2 := hU.kept hg2 (fun u hu e => by cases a1 with | none => cases e | some z => exact hNE z u rfl hu (Option.some.inj e).symm)
          have gb2 := (hg2.block _ (Array.getElem?_eq_some_iff.1 gb).1 (by cases a1 with | none => intro e; cases e | some z => intro e; have q : W2.heap.size = z.block := Option.some.inj e; have := (hO.lt z rfl).1; omega)).trans gb
          clear hO hU gb hd hg2 hz2 hNE hLo
          refine ⟨HS2.out _ hb2, ?_⟩
          refine wpTree_read _ rfl (fun K hK => ?_); unfold rOp; go_simp; (refine hK _ ?_; clear hK K)
          refine wpTree_fin ?_
          have f4 := frozen5 gb2 4
          obtain ⟨x0, x1, x2, x3, x4, x5⟩ := box_cells6 gb2
          have gb4 := heap_set_at (j := 4) gb2 (.slice b1 (n1 + 1) j1)
          have hoth : ∀ b, b ≠ W2.heap.size -> (V2.setCell ⟨W2.heap.size, 4, none⟩ (.slice b1 (n1 + 1) j1)).heap[b]? = V2.heap[b]? := fun b hb => heap_setCell_other hb _
          have hO4 := hO2.same (w' := V2.setCell ⟨W2.heap.size, 4, none⟩ (.slice b1 (n1 + 1) j1)) (fun y hy => hoth _ (by have := (hO2.lt y hy).1; omega))
          have hU4 := hU2.same (w' := V2.setCell ⟨W2.heap.size, 4, none⟩ (.slice b1 (n1 + 1) j1)) (fun y hy => hoth _ (by have := (hU2.lt y hy).1; omega))
          have hs4 : (V2.setCell ⟨W2.heap.size, 4, none⟩ (.slice b1 (n1 + 1) j1)).heap.size = V2.heap.size := by simp [World.setCell]
          have hb4 : Below W2.heap.size W3 (V2.setCell ⟨W2.heap.size, 4, none⟩ (.slice b1 (n1 + 1) j1)) := below_setc (hbl.trans (hb2.mono (by omega))) (Nat.le_refl _) 4 _
          have hsV := hb2.size
          have y5 := (box_cells6 gb4).2.2.2.2.2
          have hst : Below (V2.setCell ⟨W2.heap.size, 4, none⟩ (.slice b1 (n1 + 1) j1)).heap.size (V2.setCell ⟨W2.heap.size, 4, none⟩ (.slice b1 (n1 + 1) j1)) ((V2.setCell ⟨W2.heap.size, 4, none⟩ (.slice b1 (n1 + 1) j1)).alloc (.cells #[.bool false] 4)) := (Below.refl _ _).alloc (Nat.le_refl _) _
          have hLf : ∀ j u, (([false] : List Bool).flatMap encB)[j]? = some u -> ((V2.setCell ⟨W2.heap.size, 4, none⟩ (.slice b1 (n1 + 1) j1)).alloc (.cells #[.bool false] 4)).cell? ((⟨V2.heap.size, 0, none⟩ : Addr).add j) = some u := fun j u hj => by
            have := lit_cells (w := V2.setCell ⟨W2.heap.size, 4, none⟩ (.slice b1 (n1 + 1) j1)) (e := 4) (cs := #[.bool false]) (j := j) (u := u) hj
            rw [hs4] at this; exact this
          have hO5 := hO4.below hst
          have hU5 := hU4.below hst
          have gb5 := (hst.block _ (Array.getElem?_eq_some_iff.1 gb4).1).trans gb4
          have hb5 := hb4.trans (hst.mono (by omega))
          have hs5 : ((V2.setCell ⟨W2.heap.size, 4, none⟩ (.slice b1 (n1 + 1) j1)).alloc (.cells #[.bool false] 4)).heap.size = V2.heap.size + 1 := by simp [World.setCell]
          have f5 := frozen5 gb5 5
          have y55 := (box_cells6 gb5).2.2.2.2.2
          have H5 := hiq (And.intro hO5 (And.intro hU5 (And.intro gb5 (And.intro hb5 (And.intro hs5 hLf)))))
          clear hoth hO4 hU4 gb4 hb4 hst hLf hO5 hU5 gb5 hb5 gb2 hO2 hU2 hb2 HS2
          go_wp2_with (at_builtin; refine wpList_appQ (w0 := (V2.setCell ⟨W2.heap.size, 4, none⟩ (.slice b1 (n1 + 1) j1)).alloc (.cells #[.bool false] 4)) (B := W2.heap.size + 1) (l := List.replicate (keepN l.ops l.und k).length false) (ys := [false]) HIB Tryz.underlying28 rfl (by decide) (fun _ => rfl) one_b rfl _ _ rfl rfl rfl H5.out.2.1 rfl H5.out.2.2.2.2.2 (by unfold maxLen; omega) (by omega) (by omega) ((Below.refl _ _).mono (by omega)) ?_; intro b2 j2 W6 hU6 hb6 hg6 hz6; have gb6 := (hb6.block W2.heap.size (by omega)).trans H5.out.2.2.1; have f65 := frozen5 gb6 5; have y65 := (box_cells6 gb6).2.2.2.2.2)
          obtain ⟨hO5, hU5, gb5, hb5, hs5, -⟩ := H5.out
          have hO6 := hO5.kept hg6 (fun z hz e => by cases a2 with | none => cases e | some u => exact hNE2 z u hz rfl (Option.some.inj e))
          have gb7 := heap_set_at (j := 5) gb6 (.slice b2 (n2 + 1) j2)
          have hoth : ∀ b, b ≠ W2.heap.size -> (W6.setCell ⟨W2.heap.size, 5, none⟩ (.slice b2 (n2 + 1) j2)).heap[b]? = W6.heap[b]? := fun b hb => heap_setCell_other hb _
          have hO7 := hO6.same (w' := W6.setCell ⟨W2.heap.size, 5, none⟩ (.slice b2 (n2 + 1) j2)) (fun y hy => hoth _ (by have := (hO6.lt y hy).1; omega))
          have hU7 := hU6.same (w' := W6.setCell ⟨W2.heap.size, 5, none⟩ (.slice b2 (n2 + 1) j2)) (fun y hy => hoth _ (by have := (hU6.lt y hy).1; omega))
          have hb7 : Below W2.heap.size W3 (W6.setCell ⟨W2.heap.size, 5, none⟩ (.slice b2 (n2 + 1) j2)) := below_setc (hb5.trans (hb6.mono (by omega))) (Nat.le_refl _) 5 _
          have hs7 : (W6.setCell ⟨W2.heap.size, 5, none⟩ (.slice b2 (n2 + 1) j2)).heap.size = W6.heap.size := by simp [World.setCell]
          have hs6 := hb6.size
          have hne7 : ∀ z u, b1 = some z -> b2 = some u -> z.block ≠ u.block := fun z u hz hu => by
            subst hu
            rcases hz6 with e | e
            · cases a2 with
              | none => cases e
              | some t => have q : u.block = t.block := Option.some.inj e; rw [q]; exact hNE2 z t hz rfl
            · have q : u.block = ((V2.setCell ⟨W2.heap.size, 4, none⟩ (.slice b1 (n1 + 1) j1)).alloc (.cells #[.bool false] 4)).heap.size := Option.some.inj e
              have := (hO5.lt z hz).2; omega
          have hBLD : Hid (Bld W2.heap.size (W2.heap.size + 1) sec sa sn sc ta tn tc ca cn cc (keepN l.ops l.und (k + 1)) (List.replicate (keepN l.ops l.und (k + 1)).length false) (W6.setCell ⟨W2.heap.size, 5, none⟩ (.slice b2 (n2 + 1) j2)) b1 (n1 + 1) j1 b2 (n2 + 1) j2) := by
            show Bld _ _ _ _ _ _ _ _ _ _ _ _ _ _ _ _ _ _ _ _ _
            rw [hKN.out]
            refine ⟨gb7, hO7, ?_, hne7⟩
            rw [List.length_append, List.length_singleton, List.replicate_succ']
            exact hU7
          clear hO5 hU5 gb5 hb5 hO6 gb7 hoth hO7 hU7 gb6 hU6 hb6 hg6 hz6 hne7 H5
          go_wp2
          go_roundw
          case rel => exact ⟨k + 1, b1, n1 + 1, j1, b2, n2 + 1, j2, by go_num, by omega, hBLD, hb7, by omega⟩
          case measure => simp [intOf]; omega
      · obtain rfl : on = k := by omega
        have hg := hB.out
        have gb := hg.box
        obtain ⟨b0, b1, b2, b3, b4, b5⟩ := box_cells6 gb
        have gRr := (hbl.block _ (by omega)).trans gR3
        obtain ⟨y0, y1, y2, y3, y4, y5⟩ := box_cells6 gRr
        have yf0 := frozen5 gRr 0
        have yf1 := frozen5 gRr 1
        have yf2 := frozen5 gRr 2
        have yf3 := frozen5 gRr 3
        have yf4 := frozen5 gRr 4
        have yf5 := frozen5 gRr 5
        have hln : n1 <= 256 /\ n2 <= 256 := by
          have := hg.ops.len
          have := hg.und.len
          rw [List.length_replicate] at this
          have := keepN_len l.ops l.und on
          omega
        have HLN := hiq hln
        have hkm : Hid (∀ o ∈ keepN l.ops l.und l.ops.length, o.ok) := fun o ho => hok.out o (keepN_mem _ (Nat.le_refl _) ho)
        have hO7 := hg.ops.same (w' := put6 wr (w.heap.size + 1) (.string sec) (.slice sa sn sc) (.slice ta tn tc) (.slice ca cn cc) (.slice a1 n1 k1) (.slice a2 n2 k2)) (fun y hy => put6_other (by have := (hg.ops.lt y hy).1; omega) _ _ _ _ _ _)
        have hU7 := hg.und.same (w' := put6 wr (w.heap.size + 1) (.string sec) (.slice sa sn sc) (.slice ta tn tc) (.slice ca cn cc) (.slice a1 n1 k1) (.slice a2 n2 k2)) (fun y hy => put6_other (by have := (hg.und.lt y hy).1; omega) _ _ _ _ _ _)
        have hbf := put6_below hbw.out (b := w.heap.size + 1) (by omega) (.string sec) (.slice sa sn sc) (.slice ta tn tc) (.slice ca cn cc) (.slice a1 n1 k1) (.slice a2 n2 k2)
        have HALL := hiq (And.intro (put6_at gRr (.string sec) (.slice sa sn sc) (.slice ta tn tc) (.slice ca cn cc) (.slice a1 n1 k1) (.slice a2 n2 k2)) (And.intro hbf (And.intro hO7 hU7)))
        clear hg gb gRr hO7 hU7 hbf hln hB
        go_wp2
        change bodyPost _ _ _ _ _ (put6 wr (w.heap.size + 1) (.string sec) (.slice sa sn sc) (.slice ta tn tc) (.slice ca cn cc) (.slice a1 n1 k1) (.slice a2 n2 k2))
        obtain ⟨gRf, hbf, hO7, hU7⟩ := HALL.out
        obtain ⟨r0, r1, r2, r3, r4, r5⟩ := box_cells6 gRf
        generalize put6 wr (w.heap.size + 1) (.string sec) (.slice sa sn sc) (.slice ta tn tc) (.slice ca cn cc) (.slice a1 n1 k1) (.slice a2 n2 k2) = WF at *
        refine bodyPost_ret (v := .tuple #[.agg #[.string sec, .slice sa sn sc, .slice ta tn tc, .slice ca cn cc, .slice a1 n1 k1, .slice a2 n2 k2], .int .i64 0]) (by simp [results, Tryz.results51, go_sem, r0, r1, r2, r3, r4, r5]) rfl ?_
        rw [HEQ.out]
        rw [HON.out] at hO7 hU7
        have hV := HX.out WF hbf
        rw [hVe.out] at hV
        have hl := HLN.out
        exact ⟨⟨⟨sec, sa, sn, sc, ta, tn, tc, ca, cn, cc⟩, a1, n1, k1, a2, n2, k2⟩, rfl, ⟨hV.1.mono (fun b q _ => .inl q.1), hO7.opsq (by omega) (fun b q _ => .inr (by omega)) hkm.out, hU7.flgs (by omega) (fun b q _ => .inr (by omega))⟩, hbf⟩
  · have t0 : ((E : Int) != 0) = true := by simpa using e0
    have HEQ := hiq (HS0.out e0)
    obtain ⟨y0, y1, y2, y3, y4, y5⟩ := box_cells6 gR
    have yf0 := frozen5 gR 0
    have yf1 := frozen5 gR 1
    have yf2 := frozen5 gR 2
    have yf3 := frozen5 gR 3
    have yf4 := frozen5 gR 4
    have yf5 := frozen5 gR 5
    have HALL := hiq (And.intro (put6_at gR (.string ⟨#[]⟩) (.slice none 0 0) (.slice none 0 0) (.slice none 0 0) (.slice none 0 0) (.slice none 0 0)) (put6_below hb (b := w.heap.size + 1) (by omega) (.string ⟨#[]⟩) (.slice none 0 0) (.slice none 0 0) (.slice none 0 0) (.slice none 0 0) (.slice none 0 0)))
    clear HS0 HS1 HLE HX gR gX hb c0 c1 c2 c3 c4 c5
    go_wp2
    change bodyPost _ _ _ _ _ (put6 W2 (w.heap.size + 1) (.string ⟨#[]⟩) (.slice none 0 0) (.slice none 0 0) (.slice none 0 0) (.slice none 0 0) (.slice none 0 0))
    obtain ⟨gRf, hbf⟩ := HALL.out
    obtain ⟨r0, r1, r2, r3, r4, r5⟩ := box_cells6 gRf
    generalize put6 W2 (w.heap.size + 1) (.string ⟨#[]⟩) (.slice none 0 0) (.slice none 0 0) (.slice none 0 0) (.slice none 0 0) (.slice none 0 0) = WF at *
    refine bodyPost_ret (v := .tuple #[.agg #[.string ⟨#[]⟩, .slice none 0 0, .slice none 0 0, .slice none 0 0, .slice none 0 0, .slice none 0 0], .int .i64 1]) (by simp [results, Tryz.results51, go_sem, r0, r1, r2, r3, r4, r5]) rfl ?_
    rw [HEQ.out]
    exact ⟨⟨⟨⟨#[]⟩, none, 0, 0, none, 0, 0, none, 0, 0⟩, none, 0, 0, none, 0, 0⟩, rfl, rdL_none _ _, hbf⟩
end Go.Proofs.YtfdipkhbemgojaaGreatDoor
namespace Go.Proofs.YtfdipkhbemgojaaGreatDoor
open Go.RowKit

theorem undo_ref (S : Nat -> Prop) (v : LV) (l : Lg) (i : Int) (w : World) (h : RdL S w v l) (hm : SmL l) (hE : Env w) : Calls Tryz.prog 47 #[v.val, .int .i64 i] w (LogPost S (l.turn i true) w) := by
  have h2 : RdL (fun b => S b /\ b < w.heap.size) w v l := h.mono (fun b q q' => ⟨q, q'⟩)
  have HIX : Hid (∀ W, Below w.heap.size w W -> Calls Tryz.prog 78 #[v.val, .int .i64 i] W fun e w' => e = .returned (.int .i64 (l.idx i)) /\ Below W.heap.size W w') := fun W hb => idx_ref S v l i W (h.below hb) hm (hE.below hb)
  have HU := hiq h2.2.2
  have hub := h2.2.2.bound
  by_cases i0 : l.idx i = 0
  · obtain ⟨k, rfl, hk1, hk2⟩ := idx_nat i0
    have hkn : k < v.un := by rw [h2.2.2.len]; exact hk2
    have HT1 : Hid (unK l.und k ≠ true -> l.turn (k : Int) true = l.changed k true) := turn_changed i0
    have HT2 : Hid (unK l.und k = true -> l.turn (k : Int) true = (Lg.none, 7)) := fun q => turn_same i0 q
    obtain ⟨u, bu, ofu, eu, -, eua, -, hbu, du⟩ := h2.2.2.flg hkn
    have hun : unK l.und k = u := by unfold unK; rw [eu]; rfl
    rw [hun] at HT1 HT2
    rw [i0] at HIX
    have HSET : Hid (∀ W, Below w.heap.size w W -> Calls Tryz.prog 79 #[v.val, .int .i64 (k : Int), .bool true] W (SetPost (fun b => S b /\ b < w.heap.size) l k true W)) := fun W hb => set_ref _ v l k true W (h2.below hb) hk2
    have HCK : Hid (∀ (T : Nat -> Prop) (u : LV) W, Below w.heap.size w W -> RdL T W u (l.set k true) -> Calls Tryz.prog 21 #[u.val] W fun e w' => e = .returned (.int .i64 (l.set k true).err) /\ Below W.heap.size W w') := fun T u W hb hu => lck_ref T u _ W hu (sml_set hm) (hE.below hb)
    have E0 : Hid ((l.set k true).err ≠ 0 -> l.changed k true = (Lg.none, 17)) := fun q => by unfold Lg.changed; rw [if_pos q]
    have E1 : Hid ((l.set k true).err = 0 -> l.changed k true = (l.set k true, 0)) := fun q => by unfold Lg.changed; rw [if_neg (by simp [q])]
    unfold SetPost at HSET
    unfold LogPost
    generalize l.turn (k : Int) true = R at *
    generalize l.changed k true = CR at *
    generalize l.set k true = M at *
    generalize M.err = ME at *
    clear h h2 hm hE HU i0 eu hun hk1 hk2
    obtain ⟨⟨sec, sa, sn, sc, ta, tn, tc, ca, cn, cc⟩, oa, on, oc, ua, un, uc⟩ := v
    dsimp only at hkn hub eua
    subst eua
    change Calls _ _ #[.agg #[.string sec, .slice sa sn sc, .slice ta tn tc, .slice ca cn cc, .slice oa on oc, .slice (some ⟨bu, ofu, none⟩) un uc], _] _ _
    change Hid (∀ W, _ -> Calls _ _ #[.agg #[.string sec, .slice sa sn sc, .slice ta tn tc, .slice ca cn cc, .slice oa on oc, .slice (some ⟨bu, ofu, none⟩) un uc], _] _ _) at HIX
    change Hid (∀ W, _ -> Calls _ _ #[.agg #[.string sec, .slice sa sn sc, .slice ta tn tc, .slice ca cn cc, .slice oa on oc, .slice (some ⟨bu, ofu, none⟩) un uc], _, _] _ _) at HSET
    obtain ⟨W1, hW1, hb, hs1, gX, gR⟩ := box2r w #[.string sec, .slice sa sn sc, .slice ta tn tc, .slice ca cn cc, .slice oa on oc, .slice (some ⟨bu, ofu, none⟩) un uc] #[.string ⟨#[]⟩, .slice none 0 0, .slice none 0 0, .slice none 0 0, .slice none 0 0, .slice none 0 0] 30 30
    have HIQ := hiq (HIX.out _ hb)
    obtain ⟨c0, c1, c2, c3, c4, c5⟩ := box_cells6 gX
    rw [hW1] at c0 c1 c2 c3 c4 c5
    clear HIX
    go_enter Tryz.func47, Tryz.ntmps47
    go_wp2_with fail
    rw [<- hW1] at *
    clear hW1 gX
    refine HIQ.out.mono ?_
    rintro e W2 ⟨rfl, hb2⟩
    replace c0 := clq hb2 c0; replace c1 := clq hb2 c1; replace c2 := clq hb2 c2; replace c3 := clq hb2 c3; replace c4 := clq hb2 c4; replace c5 := clq hb2 c5
    replace gR := (hb2.block _ (by omega)).trans gR
    replace hb := hb.trans (hb2.mono hb.size)
    replace du := clq hb du
    have hs2 := hb2.size
    clear HIQ hb2
    cases u with
    | true =>
      have HEQ := hiq (HT2.out rfl)
      clear HT1 HT2
      obtain ⟨y0, y1, y2, y3, y4, y5⟩ := box_cells6 gR
      have yf0 := frozen5 gR 0
      have yf1 := frozen5 gR 1
      have yf2 := frozen5 gR 2
      have yf3 := frozen5 gR 3
      have yf4 := frozen5 gR 4
      have yf5 := frozen5 gR 5
      have HALL := hiq (And.intro gR hb)
      clear gR hb 
      go_wp2
      change bodyPost _ _ _ _ _ (put6 W2 (w.heap.size + 1) (.string ⟨#[]⟩) (.slice none 0 0) (.slice none 0 0) (.slice none 0 0) (.slice none 0 0) (.slice none 0 0))
      obtain ⟨gR, hb⟩ := HALL.out
      obtain ⟨r0, r1, r2, r3, r4, r5⟩ := box_cells6 (put6_at gR (.string ⟨#[]⟩) (.slice none 0 0) (.slice none 0 0) (.slice none 0 0) (.slice none 0 0) (.slice none 0 0))
      have hbf := put6_below hb (b := w.heap.size + 1) (by omega) (.string ⟨#[]⟩) (.slice none 0 0) (.slice none 0 0) (.slice none 0 0) (.slice none 0 0) (.slice none 0 0)
      generalize put6 W2 (w.heap.size + 1) (.string ⟨#[]⟩) (.slice none 0 0) (.slice none 0 0) (.slice none 0 0) (.slice none 0 0) (.slice none 0 0) = WF at *
      refine bodyPost_ret (v := .tuple #[.agg #[.string ⟨#[]⟩, .slice none 0 0, .slice none 0 0, .slice none 0 0, .slice none 0 0, .slice none 0 0], .int .i64 7]) (by simp [results, Tryz.results47, go_sem, r0, r1, r2, r3, r4, r5]) rfl ?_
      rw [HEQ.out]
      exact ⟨⟨⟨⟨#[]⟩, none, 0, 0, none, 0, 0, none, 0, 0⟩, none, 0, 0, none, 0, 0⟩, rfl, rdL_none _ _, hbf⟩
    | false =>
      have HEQ := hiq (HT1.out (by simp))
      clear HT1 HT2
      have HSQ := hiq (HSET.out _ hb)
      go_wp2_with fail
      refine HSQ.out.mono ?_
      rintro e W3 ⟨v2, he, hR3, hb4⟩
      obtain ⟨⟨sec2, sa2, sn2, sc2, ta2, tn2, tc2, ca2, cn2, cc2⟩, oa2, on2, oc2, ua2, un2, uc2⟩ := v2
      change e = .returned (.agg #[.string sec2, .slice sa2 sn2 sc2, .slice ta2 tn2 tc2, .slice ca2 cn2 cc2, .slice oa2 on2 oc2, .slice ua2 un2 uc2]) at he
      subst he
      have hal : Below W3.heap.size W3 (W3.alloc (.cells #[.string sec2, .slice sa2 sn2 sc2, .slice ta2 tn2 tc2, .slice ca2 cn2 cc2, .slice oa2 on2 oc2, .slice ua2 un2 uc2] 30)) := (Below.refl _ _).alloc (Nat.le_refl _) _
      have hb5 := hb4.trans (hal.mono hb4.size)
      obtain ⟨z0, z1, z2, z3, z4, z5⟩ := box_cells6 (World.alloc_heap_new W3 (.cells #[.string sec2, .slice sa2 sn2 sc2, .slice ta2 tn2 tc2, .slice ca2 cn2 cc2, .slice oa2 on2 oc2, .slice ua2 un2 uc2] 30))
      replace gR := (hb5.block _ (by omega)).trans gR
      have hRV := hR3.below hal
      have hsz := hb5.size
      replace hb := hb.trans (hb5.mono hb.size)
      have HCQ := hiq (HCK.out _ ⟨⟨sec2, sa2, sn2, sc2, ta2, tn2, tc2, ca2, cn2, cc2⟩, oa2, on2, oc2, ua2, un2, uc2⟩ _ hb hRV)
      change Hid (Calls _ _ #[.agg #[.string sec2, .slice sa2 sn2 sc2, .slice ta2 tn2 tc2, .slice ca2 cn2 cc2, .slice oa2 on2 oc2, .slice ua2 un2 uc2]] _ _) at HCQ
      have HRV0 := hiq hRV
      have hs3 := hb4.size
      clear hR3 hb4 hb5 hal HSQ hRV HCK HSET
      go_wp2_with fail
      generalize W3.alloc (.cells #[.string sec2, .slice sa2 sn2 sc2, .slice ta2 tn2 tc2, .slice ca2 cn2 cc2, .slice oa2 on2 oc2, .slice ua2 un2 uc2] 30) = W4 at *
      refine HCQ.out.mono ?_
      rintro e W5 ⟨rfl, hb6⟩
      replace z0 := clq hb6 z0; replace z1 := clq hb6 z1; replace z2 := clq hb6 z2; replace z3 := clq hb6 z3; replace z4 := clq hb6 z4; replace z5 := clq hb6 z5
      replace gR := (hb6.block _ (by omega)).trans gR
      replace hb := hb.trans (hb6.mono hb.size)
      have HRV := hiq (HRV0.out.below hb6)
      have hs5 := hb6.size
      clear HCQ HRV0 hb6
      by_cases m0 : ME = 0
      · have t9 : ((ME : Int) != 0) = false := by simp [m0]
        obtain ⟨y0, y1, y2, y3, y4, y5⟩ := box_cells6 gR
        have yf0 := frozen5 gR 0
        have yf1 := frozen5 gR 1
        have yf2 := frozen5 gR 2
        have yf3 := frozen5 gR 3
        have yf4 := frozen5 gR 4
        have yf5 := frozen5 gR 5
        have HALL := hiq (And.intro gR hb)
        clear gR hb 
        go_wp2
        change bodyPost _ _ _ _ _ (put6 W5 (w.heap.size + 1) (.string sec2) (.slice sa2 sn2 sc2) (.slice ta2 tn2 tc2) (.slice ca2 cn2 cc2) (.slice oa2 on2 oc2) (.slice ua2 un2 uc2))
        obtain ⟨gR, hb⟩ := HALL.out
        obtain ⟨r0, r1, r2, r3, r4, r5⟩ := box_cells6 (put6_at gR (.string sec2) (.slice sa2 sn2 sc2) (.slice ta2 tn2 tc2) (.slice ca2 cn2 cc2) (.slice oa2 on2 oc2) (.slice ua2 un2 uc2))
        have hbf := put6_below hb (b := w.heap.size + 1) (by omega) (.string sec2) (.slice sa2 sn2 sc2) (.slice ta2 tn2 tc2) (.slice ca2 cn2 cc2) (.slice oa2 on2 oc2) (.slice ua2 un2 uc2)
        have hRf := HRV.out.keep (put6_keep (W := W5) (b := w.heap.size + 1) (by rintro (⟨-, q⟩ | q) <;> omega) (.string sec2) (.slice sa2 sn2 sc2) (.slice ta2 tn2 tc2) (.slice ca2 cn2 cc2) (.slice oa2 on2 oc2) (.slice ua2 un2 uc2))
        generalize put6 W5 (w.heap.size + 1) (.string sec2) (.slice sa2 sn2 sc2) (.slice ta2 tn2 tc2) (.slice ca2 cn2 cc2) (.slice oa2 on2 oc2) (.slice ua2 un2 uc2) = WF at *
        refine bodyPost_ret (v := .tuple #[.agg #[.string sec2, .slice sa2 sn2 sc2, .slice ta2 tn2 tc2, .slice ca2 cn2 cc2, .slice oa2 on2 oc2, .slice ua2 un2 uc2], .int .i64 0]) (by simp [results, Tryz.results47, go_sem, r0, r1, r2, r3, r4, r5]) rfl ?_
        rw [HEQ.out, E1.out m0]
        exact ⟨⟨⟨sec2, sa2, sn2, sc2, ta2, tn2, tc2, ca2, cn2, cc2⟩, oa2, on2, oc2, ua2, un2, uc2⟩, rfl, hRf.mono (fun b q _ => by rcases q with q | q; exact .inl q.1; exact .inr (by omega)), hbf⟩
      · have t9 : ((ME : Int) != 0) = true := by simpa using m0
        obtain ⟨y0, y1, y2, y3, y4, y5⟩ := box_cells6 gR
        have yf0 := frozen5 gR 0
        have yf1 := frozen5 gR 1
        have yf2 := frozen5 gR 2
        have yf3 := frozen5 gR 3
        have yf4 := frozen5 gR 4
        have yf5 := frozen5 gR 5
        have HALL := hiq (And.intro gR hb)
        clear gR hb 
        go_wp2
        change bodyPost _ _ _ _ _ (put6 W5 (w.heap.size + 1) (.string ⟨#[]⟩) (.slice none 0 0) (.slice none 0 0) (.slice none 0 0) (.slice none 0 0) (.slice none 0 0))
        obtain ⟨gR, hb⟩ := HALL.out
        obtain ⟨r0, r1, r2, r3, r4, r5⟩ := box_cells6 (put6_at gR (.string ⟨#[]⟩) (.slice none 0 0) (.slice none 0 0) (.slice none 0 0) (.slice none 0 0) (.slice none 0 0))
        have hbf := put6_below hb (b := w.heap.size + 1) (by omega) (.string ⟨#[]⟩) (.slice none 0 0) (.slice none 0 0) (.slice none 0 0) (.slice none 0 0) (.slice none 0 0)
        generalize put6 W5 (w.heap.size + 1) (.string ⟨#[]⟩) (.slice none 0 0) (.slice none 0 0) (.slice none 0 0) (.slice none 0 0) (.slice none 0 0) = WF at *
        refine bodyPost_ret (v := .tuple #[.agg #[.string ⟨#[]⟩, .slice none 0 0, .slice none 0 0, .slice none 0 0, .slice none 0 0, .slice none 0 0], .int .i64 17]) (by simp [results, Tryz.results47, go_sem, r0, r1, r2, r3, r4, r5]) rfl ?_
        rw [HEQ.out, E0.out m0]
        exact ⟨⟨⟨⟨#[]⟩, none, 0, 0, none, 0, 0, none, 0, 0⟩, none, 0, 0, none, 0, 0⟩, rfl, rdL_none _ _, hbf⟩
  · have HEQ : Hid (l.turn i true = (Lg.none, l.idx i)) := turn_err i0
    have t0 : ((l.idx i : Int) != 0) = true := by simpa using i0
    unfold LogPost
    generalize l.turn i true = R at *
    generalize l.idx i = I at *
    clear h h2 hm hE HU i0
    obtain ⟨⟨sec, sa, sn, sc, ta, tn, tc, ca, cn, cc⟩, oa, on, oc, ua, un, uc⟩ := v
    change Calls _ _ #[.agg #[.string sec, .slice sa sn sc, .slice ta tn tc, .slice ca cn cc, .slice oa on oc, .slice ua un uc], _] _ _
    change Hid (∀ W, _ -> Calls _ _ #[.agg #[.string sec, .slice sa sn sc, .slice ta tn tc, .slice ca cn cc, .slice oa on oc, .slice ua un uc], _] _ _) at HIX
    obtain ⟨W1, hW1, hb, hs1, gX, gR⟩ := box2r w #[.string sec, .slice sa sn sc, .slice ta tn tc, .slice ca cn cc, .slice oa on oc, .slice ua un uc] #[.string ⟨#[]⟩, .slice none 0 0, .slice none 0 0, .slice none 0 0, .slice none 0 0, .slice none 0 0] 30 30
    have HIQ := hiq (HIX.out _ hb)
    obtain ⟨c0, c1, c2, c3, c4, c5⟩ := box_cells6 gX
    rw [hW1] at c0 c1 c2 c3 c4 c5
    clear HIX
    go_enter Tryz.func47, Tryz.ntmps47
    go_wp2_with fail
    rw [<- hW1] at *
    clear hW1 gX
    refine HIQ.out.mono ?_
    rintro e W2 ⟨rfl, hb2⟩
    replace gR := (hb2.block _ (by omega)).trans gR
    replace hb := hb.trans (hb2.mono hb.size)
    have hs2 := hb2.size
    clear HIQ hb2 c0 c1 c2 c3 c4 c5
    obtain ⟨y0, y1, y2, y3, y4, y5⟩ := box_cells6 gR
    have yf0 := frozen5 gR 0
    have yf1 := frozen5 gR 1
    have yf2 := frozen5 gR 2
    have yf3 := frozen5 gR 3
    have yf4 := frozen5 gR 4
    have yf5 := frozen5 gR 5
    have HALL := hiq (And.intro gR hb)
    clear gR hb 
    go_wp2
    change bodyPost _ _ _ _ _ (put6 W2 (w.heap.size + 1) (.string ⟨#[]⟩) (.slice none 0 0) (.slice none 0 0) (.slice none 0 0) (.slice none 0 0) (.slice none 0 0))
    obtain ⟨gR, hb⟩ := HALL.out
    obtain ⟨r0, r1, r2, r3, r4, r5⟩ := box_cells6 (put6_at gR (.string ⟨#[]⟩) (.slice none 0 0) (.slice none 0 0) (.slice none 0 0) (.slice none 0 0) (.slice none 0 0))
    have hbf := put6_below hb (b := w.heap.size + 1) (by omega) (.string ⟨#[]⟩) (.slice none 0 0) (.slice none 0 0) (.slice none 0 0) (.slice none 0 0) (.slice none 0 0)
    generalize put6 W2 (w.heap.size + 1) (.string ⟨#[]⟩) (.slice none 0 0) (.slice none 0 0) (.slice none 0 0) (.slice none 0 0) (.slice none 0 0) = WF at *
    refine bodyPost_ret (v := .tuple #[.agg #[.string ⟨#[]⟩, .slice none 0 0, .slice none 0 0, .slice none 0 0, .slice none 0 0, .slice none 0 0], .int .i64 I]) (by simp [results, Tryz.results47, go_sem, r0, r1, r2, r3, r4, r5]) rfl ?_
    rw [HEQ.out]
    exact ⟨⟨⟨⟨#[]⟩, none, 0, 0, none, 0, 0, none, 0, 0⟩, none, 0, 0, none, 0, 0⟩, rfl, rdL_none _ _, hbf⟩
end Go.Proofs.YtfdipkhbemgojaaGreatDoor
