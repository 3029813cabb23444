/- Joined: ERA3. -/
import Derived.Test.YtbdgmgddliploaaGreatDoorJ27
set_option linter.unusedVariables false
set_option linter.unusedSimpArgs false
set_option maxRecDepth 100000
set_option maxHeartbeats 16000000
namespace Go.Proofs.YtbdgmgddliploaaGreatDoor
open Go.RowKit

theorem heap_setCell_at' {W : World} {b j : Nat} {cs : Array Value} {t : TypeId} {fr : Nat × Nat} (h : W.heap[b]? = some (.cells cs t fr)) (v : Value) : (W.setCell ⟨b, j, none⟩ v).heap[b]? = some (.cells (cs.setIfInBounds j v) t fr) := by
  simp [World.setCell, Array.getElem?_modify, h]
/-- What the reference's result reads as: its columns are rows of an own slice. -/
theorem refd_reads {x : Col} {o : Op} {s c : Nat} (F : Fits x o s c) {S' : Nat -> Prop} {w' : World} {sec : ByteArray} {sa ta ca : Option Addr} {sn sc tn tc cn cc B : Nat} {ps : List (Row × List Int)}
    (hsec : sec = x.sec) (hsz : sec.size <= 140737488355328) (h2 : Strs S' w' sa sn sc x.sigla) (h3 : Tokss S' w' ta tn tc (opToks x o s)) (hB : ∀ b, B <= b -> S' b) (h4 : OwnQ 61 1 encR w' B ca cn cc (ps.map (·.1))) (hr : ∀ p ∈ ps, Nums S' w' p.1.1 p.1.2.1 p.1.2.2 p.2) (hm : ps.map (·.2) = opCols x o s c) :
    RdC S' w' ⟨sec, sa, sn, sc, ta, tn, tc, ca, cn, cc⟩ (opAt x o s c) := by
  have hv := valid_op F
  have hb := cols_bound hv
  have hc : (opAt x o s c).cols = ps.map (·.2) := hm.symm
  refine ⟨hsec, hsz, h2, h3, ?_⟩
  show Numss _ _ _ _ _ (opAt x o s c).cols
  rw [hc]
  have hlen : cn = ps.length := by have := h4.len; rwa [List.length_map] at this
  refine h4.sqRows (by rw [hc, List.length_map] at hb; omega) (fun y hy => hB _ (h4.lt y hy).1) (by simp) fun j r hj => ?_
  rw [List.getElem?_map] at hj
  cases e : ps[j]? with
  | none => rw [e] at hj; cases hj
  | some p =>
    rw [e] at hj
    cases hj
    exact ⟨p.2, by rw [List.getElem?_map, e]; rfl, hr p (List.mem_of_getElem? e)⟩
theorem rap_3 (S : Nat -> Prop) (v : CV) (x : Col) (o : Op) (w : World) (h : RdC S w v x) (hm : Sml x) (he : opErr x o = 0) (hk : o.kind = 3) (ho : o.ok) : Calls Tryz.prog 15 #[v.val, o.val] w (EditPost S x o w) := by
  have HRC : Hid (∀ W, Below w.heap.size w W -> Calls Tryz.prog 19 #[v.val, o.val] W fun e w' => e = .returned (.int .i64 0) /\ Below W.heap.size W w') := fun W hb => by
    have := rcheck_ref S v x o W (h.below hb) hm
    rw [he] at this; exact this
  obtain ⟨s, c, F⟩ := fits_of he
  have HCP : Hid (∀ W, Below w.heap.size w W -> Calls Tryz.prog 42 #[v.val] W (CopPost v x W)) := fun W hb => copied_ref S v x W (h.below hb)
  have HSO : Hid (∀ W, Below w.heap.size w W -> Calls Tryz.prog 43 #[v.val, .string o.sig] W fun e w' => e = .returned (.int .i64 (s : Int)) /\ Below W.heap.size W w') := fun W hb => by
    have := source_ref S v x o.sig W (h.below hb)
    rw [F.src] at this; exact this
  have HCO : Hid (∀ W, Below w.heap.size w W -> Calls Tryz.prog 44 #[v.val, .int .i64 (s : Int), .int .i64 o.tok] W fun e w' => e = .returned (.int .i64 (c : Int)) /\ Below W.heap.size W w') := fun W hb => by
    have := column_ref S v x s o.tok W (h.below hb) F.valid F.ks
    rw [F.at_] at this; exact this
  unfold EditPost
  rw [he, F.apply]
  have HF := hiq F
  have HH := hiq h
  have HOK := hiq ho
  have hkc : c < x.cols.length := F.kc
  have hkt : s < x.toks.length := by rw [F.heads.len]; exact F.ks
  have HT0 : Hid (0 <= o.tok /\ o.tok < ((x.tks s).length : Int)) := ⟨F.t0, F.t1⟩
  have hcb := h.2.2.2.2.bound
  have htb := h.2.2.2.1.bound
  have hcn : v.cn = x.cols.length := h.2.2.2.2.len
  have htn : v.tn = x.toks.length := h.2.2.2.1.len
  obtain ⟨V, hV⟩ : ∃ V, V = v := ⟨_, rfl⟩
  obtain ⟨O, hO⟩ : ∃ O, O = o := ⟨_, rfl⟩
  rw [<- hV] at HH
  rw [<- hO] at HOK HF
  generalize hOA : opAt x o s c = OA
  rw [<- hO] at hOA
  unfold CopPost at HCP
  clear h hm he F ho
  obtain ⟨sec, sa, sn, sc, ta, tn, tc, ca, cn, cc⟩ := v
  obtain ⟨ok, og, ot, oo, ox⟩ := o
  have hVe : Hid (V = ⟨sec, sa, sn, sc, ta, tn, tc, ca, cn, cc⟩) := hV
  dsimp only at hk hcb htb hcn htn
  subst hk
  have hOe : Hid (O = ⟨3, og, ot, oo, ox⟩) := hO
  dsimp only at HCP HT0 HSO HCO
  clear hV hO
  have HOA := hiq hOA
  have HNN := hiq (And.intro hcn htn)
  have hcl : c < cn := by omega
  have hsl : s < tn := by omega
  clear hOA hcn htn
  change Calls _ _ #[.agg #[.string sec, .slice sa sn sc, .slice ta tn tc, .slice ca cn cc], .agg #[.int .i64 3, .string og, .int .i64 ot, .int .i64 oo, .string ox]] _ _
  change Hid (∀ W, _ -> Calls _ _ #[.agg #[.string sec, .slice sa sn sc, .slice ta tn tc, .slice ca cn cc], .agg #[.int .i64 3, .string og, .int .i64 ot, .int .i64 oo, .string ox]] _ _) at HRC
  change Hid (∀ W, _ -> Calls _ _ #[.agg #[.string sec, .slice sa sn sc, .slice ta tn tc, .slice ca cn cc]] _ _) at HCP
  change Hid (∀ W, _ -> Calls _ _ #[.agg #[.string sec, .slice sa sn sc, .slice ta tn tc, .slice ca cn cc], _] _ _) at HSO
  change Hid (∀ W, _ -> Calls _ _ #[.agg #[.string sec, .slice sa sn sc, .slice ta tn tc, .slice ca cn cc], _, _] _ _) at HCO
  obtain ⟨W1, hW1, hb0, hs1, gX, gO, gR⟩ := box3r w #[.string sec, .slice sa sn sc, .slice ta tn tc, .slice ca cn cc] #[.int .i64 3, .string og, .int .i64 ot, .int .i64 oo, .string ox] #[.string ⟨#[]⟩, .slice none 0 0, .slice none 0 0, .slice none 0 0] 26 28 26
  have HCC := hiq (HRC.out _ hb0)
  obtain ⟨c0, c1, c2, c3, -⟩ := box_cells4 gX
  obtain ⟨o0, o1, o2, o3, o4⟩ := box_cells5 gO
  rw [hW1] at c0 c1 c2 c3 o0 o1 o2 o3 o4
  clear HRC
  go_enter Tryz.func15, Tryz.ntmps15
  go_wp2_with fail
  rw [<- hW1] at *
  clear hW1
  refine HCC.out.mono ?_
  rintro e W2 ⟨rfl, hb2⟩
  have hb3 := hb0.trans (hb2.mono hb0.size)
  have HB3 := hiq hb3
  replace gR := (hb2.block _ (by omega)).trans gR
  replace gX := (hb2.block _ (by omega)).trans gX
  replace gO := (hb2.block _ (by omega)).trans gO
  obtain ⟨c0, c1, c2, c3, -⟩ := box_cells4 gX
  obtain ⟨o0, o1, o2, o3, o4⟩ := box_cells5 gO
  have hs2 : w.heap.size + 3 <= W2.heap.size := by have := hb2.size; omega
  have HCQ := hiq (HCP.out _ hb3)
  clear HCC hb2 hb3 hb0 HCP
  go_wp2_with fail
  refine HCQ.out.mono ?_
  rintro e W3 ⟨ta', tc', ca', cc', pt, pc, M, rfl, hOT, hpt, hIT, hM1, hM2, hOC, hpc, hb4⟩
  have hal : Below W3.heap.size W3 (W3.alloc (.cells #[.string sec, .slice sa sn sc, .slice ta' tn tc', .slice ca' cn cc'] 26)) := (Below.refl _ _).alloc (Nat.le_refl _) _
  have gY := World.alloc_heap_new W3 (.cells #[.string sec, .slice sa sn sc, .slice ta' tn tc', .slice ca' cn cc'] 26)
  have hb5 := hb4.trans (hal.mono hb4.size)
  have hs4 : (W3.alloc (.cells #[.string sec, .slice sa sn sc, .slice ta' tn tc', .slice ca' cn cc'] 26)).heap.size = W3.heap.size + 1 := by simp
  have HOT := hiq (hOT.below hal)
  have HOC := hiq (hOC.below hal)
  have hIC : InB W3.heap.size ca' pc := hOC.inB
  have HPP := hiq (And.intro hpt (And.intro hpc (And.intro hIT hIC)))
  replace gR := (hb5.block _ (by omega)).trans gR
  replace gX := (hb5.block _ (by omega)).trans gX
  replace gO := (hb5.block _ (by omega)).trans gO
  obtain ⟨c0, c1, c2, c3, -⟩ := box_cells4 gX
  obtain ⟨o0, o1, o2, o3, o4⟩ := box_cells5 gO
  have HB5 := hiq (HB3.out.trans (hb5.mono HB3.out.size))
  have HSQ := hiq (HSO.out _ HB5.out)
  have hs3 := hb4.size
  clear HCQ hOT hOC hpt hpc hIT hIC hb4 hb5 hal HSO HB3
  go_wp2_with fail
  generalize W3.alloc (.cells #[.string sec, .slice sa sn sc, .slice ta' tn tc', .slice ca' cn cc'] 26) = W4 at *
  refine HSQ.out.mono ?_
  rintro e W5 ⟨rfl, hb6⟩
  have HB6 := hiq (HB5.out.trans (hb6.mono HB5.out.size))
  have HCQ := hiq (HCO.out _ HB6.out)
  replace c0 := clq hb6 c0; replace c1 := clq hb6 c1; replace c2 := clq hb6 c2; replace c3 := clq hb6 c3; replace o0 := clq hb6 o0; replace o1 := clq hb6 o1; replace o2 := clq hb6 o2; replace o3 := clq hb6 o3; replace o4 := clq hb6 o4
  clear HSQ HCO HB5
  go_wp2_with fail
  refine HCQ.out.mono ?_
  rintro e W6 ⟨rfl, hb7⟩
  have hb8 := hb6.trans (hb7.mono hb6.size)
  have HB8 := hiq (HB6.out.trans (hb7.mono HB6.out.size))
  replace gR := (hb8.block _ (by omega)).trans gR
  replace gX := (hb8.block _ (by omega)).trans gX
  replace gO := (hb8.block _ (by omega)).trans gO
  replace gY := (hb8.block _ (by omega)).trans gY
  replace HOT := hiq (HOT.out.below hb8)
  replace HOC := hiq (HOC.out.below hb8)
  obtain ⟨c0, c1, c2, c3, -⟩ := box_cells4 gX
  obtain ⟨o0, o1, o2, o3, o4⟩ := box_cells5 gO
  obtain ⟨y0, y1, y2, y3, yf⟩ := box_cells4 gY
  have hs6 := hb8.size
  clear HCQ HB6 hb6 hb7 hb8
  have hF0 := HF.out
  rw [hOe.out] at hF0
  obtain ⟨d, hd1, hd2, hd3, hd4, hcf⟩ := shift_cols hF0 rfl
  dsimp only at hd1 hd4
  obtain ⟨hpt, hpc, hIT, hIC⟩ := HPP.out
  obtain ⟨hnc, hnt⟩ := HNN.out
  have hdn : d < cn := by omega
  have hal7 : Below W6.heap.size W6 (W6.alloc (.cells #[] 61)) := (Below.refl _ _).alloc (Nat.le_refl _) _
  have hq0 : OwnQ 61 1 encR (W6.alloc (.cells #[] 61)) W6.heap.size (some ⟨W6.heap.size, 0, none⟩) 0 0 [] := OwnQ.lit0 _ _ _ _ _ (Nat.le_refl _)
  have hOC7 := HOC.out.below hal7
  have hOT7 := HOT.out.below hal7
  have gX7 := (hal7.block _ (by omega)).trans gX
  have gO7 := (hal7.block _ (by omega)).trans gO
  have gR7 := (hal7.block _ (by omega)).trans gR
  have gY7 := (hal7.block _ (by omega)).trans gY
  have hs7 : (W6.alloc (.cells #[] 61)).heap.size = W6.heap.size + 1 := by simp
  have hb9 := HB8.out.trans (hal7.mono HB8.out.size)
  have o06 := o0
  clear gX gO gR gY c0 c1 c2 c3 o0 o1 o2 o3 o4 y0 y1 y2 y3 yf HOC HOT HB8 hal7
  obtain ⟨o0, o1, o2, o3, o4⟩ := box_cells5 gO7
  obtain ⟨y0, y1, y2, y3, -⟩ := box_cells4 gY7
  -- the rows c, d
  obtain ⟨⟨⟨qa, qn, qk⟩, lc⟩, gC, hp1, -, ea, hgC1, hgC2, dC, fC, hrowc⟩ := hOC7.at_ hcl
  subst ea
  obtain ⟨⟨⟨ua, un, uk⟩, ld⟩, gC', hp2, -, ea, -, -, dD, -, hrowd⟩ := hOC7.at_ hdn
  cases ea
  have hlc : x.row c = lc := by unfold Col.row; rw [<- hpc, List.getElem?_map, hp1]; rfl
  have hld : x.row d = ld := by unfold Col.row; rw [<- hpc, List.getElem?_map, hp2]; rfl
  have hmc : lc ∈ x.cols := by rw [<- hlc]; exact hF0.row_mem
  have hmd : ld ∈ x.cols := by rw [<- hld]; unfold Col.row; rw [List.getElem?_eq_getElem hd2]; exact List.getElem_mem hd2
  have hlen : ∀ l ∈ x.cols, s < l.length /\ l.length <= 32 := fun l hl => by
    refine ⟨by rw [hF0.good.mem hl]; exact hF0.ksl, (cols_small hF0.valid hl).1⟩
  have hqn : qn = lc.length := hrowc.len
  have hun : un = ld.length := hrowd.len
  dsimp only at hrowc hrowd dC dD
  have hsc : s < qn := by rw [hqn]; exact (hlen lc hmc).1
  have hsd : s < un := by rw [hun]; exact (hlen ld hmd).1
  obtain ⟨uc, gc, -, -, ea, hgc1, hgc2, fgc, vgc⟩ := hrowc.at_ (fun _ => rfl) hsc
  subst ea
  obtain ⟨ud, gd, -, -, ea, hgd1, hgd2, fgd, vgd⟩ := hrowd.at_ (fun _ => rfl) hsd
  subst ea
  change World.cell? _ _ = some (.slice (some ⟨gc, 0, none⟩) qn qk) at dC
  change World.cell? _ _ = some (.slice (some ⟨gd, 0, none⟩) un uk) at dD
  have vc := vgc 0 _ rfl
  rw [Nat.mul_one, Nat.add_zero] at vc
  have fc := fgc s
  have hgcU : gc < W3.heap.size := hIC.2 _ (List.mem_of_getElem? hp1) _ rfl
  have hgdU : gd < W3.heap.size := hIC.2 _ (List.mem_of_getElem? hp2) _ rfl
  have hgCU : gC < W3.heap.size := hIC.1 _ rfl
  have hap1 : gc ≠ gC := fun e => hOC7.2.2 _ (List.mem_of_getElem? hp1) ⟨gc, 0, none⟩ ⟨gC, 0, none⟩ rfl rfl e
  have hap2 : gd ≠ gC := fun e => hOC7.2.2 _ (List.mem_of_getElem? hp2) ⟨gd, 0, none⟩ ⟨gC, 0, none⟩ rfl rfl e
  have hap3 : gc ≠ gd := fun e => hOC7.apart hp1 hp2 (Ne.symm hd3) ⟨gc, 0, none⟩ ⟨gd, 0, none⟩ rfl rfl e
  have hqs : qn <= 32 := by rw [hqn]; exact (hlen lc hmc).2
  have hus : un <= 32 := by rw [hun]; exact (hlen ld hmd).2
  -- the columns behind both stores
  have hC1 := hOC7.setAt hp1 one_int s (-1) (.int .i64 (-1)) rfl
  have hp2' : (pc.set c ((some ⟨gc, 0, none⟩, qn, qk), lc.set s (-1)))[d]? = some ((some ⟨gd, 0, none⟩, un, uk), ld) := by rw [List.getElem?_set_ne (Ne.symm hd3)]; exact hp2
  have hpc2 : (((pc.set c ((some ⟨gc, 0, none⟩, qn, qk), lc.set s (-1))).set d ((some ⟨gd, 0, none⟩, un, uk), ld.set s ot)).map (·.2)).filter (fun l => !emptyR l) = opCols x ⟨3, og, ot, oo, ox⟩ s c := by
    rw [<- hcf, List.map_set, List.map_set, hpc, hlc, hld]
  have vd : ((W6.alloc (.cells #[] 61)).setCell ⟨gc, s, none⟩ (.int .i64 (-1))).cell? ⟨gd, s, none⟩ = some (.int .i64 ud) := by
    rw [World.cell?_setCell_other _ _ _ _ (by intro e; exact hap3 (congrArg Addr.block e))]
    have := vgd 0 _ rfl
    rwa [Nat.mul_one, Nat.add_zero] at this
  have fd : ((W6.alloc (.cells #[] 61)).setCell ⟨gc, s, none⟩ (.int .i64 (-1))).frozen? ⟨gd, s, none⟩ = false := (hC1.2.1.1 _ (List.mem_of_getElem? hp2')).frozenAt s
  have dD8 : ((W6.alloc (.cells #[] 61)).setCell ⟨gc, s, none⟩ (.int .i64 (-1))).cell? ⟨gC, d, none⟩ = some (.slice (some ⟨gd, 0, none⟩) un uk) := by
    rw [World.cell?_setCell_other _ _ _ _ (by intro e; exact hap1 (congrArg Addr.block e))]; exact dD
  have gX8 := (heap_setCell_other (W := W6.alloc (.cells #[] 61)) (b := gc) (j := s) (b' := w.heap.size) (by omega) (.int .i64 (-1))).trans gX7
  have gO8 := (heap_setCell_other (W := W6.alloc (.cells #[] 61)) (b := gc) (j := s) (b' := w.heap.size + 1) (by omega) (.int .i64 (-1))).trans gO7
  have gR8 := (heap_setCell_other (W := W6.alloc (.cells #[] 61)) (b := gc) (j := s) (b' := (w.heap.size + 1 + 1)) (by omega) (.int .i64 (-1))).trans gR7
  have gY8 := (heap_setCell_other (W := W6.alloc (.cells #[] 61)) (b := gc) (j := s) (b' := W3.heap.size) (by omega) (.int .i64 (-1))).trans gY7
  have hb10 := below_setc hb9 (b := gc) (by omega) s (.int .i64 (-1))
  have hT8 := hOT7.keepOn hIT (KeepS.setCell (S := fun b => b < M) (W6.alloc (.cells #[] 61)) (b := gc) (j := s) (by omega) (.int .i64 (-1))) (fun b _ h => h)
  have hq8 := hq0.setOther (g := gc) (j := s) (fun y hy => by cases hy; show W6.heap.size ≠ gc; omega) (.int .i64 (-1))
  have hs8 : ((W6.alloc (.cells #[] 61)).setCell ⟨gc, s, none⟩ (.int .i64 (-1))).heap.size = W6.heap.size + 1 := by simp [World.setCell]
  have HRW := hiq (And.intro hp1 (And.intro hp2' (And.intro hpc2 hd4)))
  have H8 := hiq (And.intro hC1 (And.intro hT8 (And.intro hq8 (And.intro hb10 (And.intro gX8 (And.intro gO8 (And.intro gR8 gY8)))))))
  have hdo : ((c : Int) + oo) = (d : Int) := hd1
  clear hp1 hp2 hp2' hpc2 hlc hld hmc hmd hlen hqn hun hrowc hrowd fgc vgc fgd vgd hC1 hT8 hq8 hb10 gX8 gO8 gR8 gY8 hOC7 hOT7 hq0 hpt hpc hIT hIC hnc hnt hd1 hd2 hd4 hcf hb9 hF0 dD
  go_wp2_with fail
  obtain ⟨hC1, hT8, hq8, hb10, gX8, gO8, gR8, gY8⟩ := H8.out
  generalize (W6.alloc (.cells #[] 61)).setCell ⟨gc, s, none⟩ (.int .i64 (-1)) = W8 at *
  clear o06 o0 o1 o2 o3 o4 y0 y1 y2 y3 dC vc fc H8
  obtain ⟨o0, o1, o2, o3, o4⟩ := box_cells5 gO8
  obtain ⟨y0, y1, y2, y3, -⟩ := box_cells4 gY8
  have hwd : IntKind.i64.wrap (d : Int) = (d : Int) := by rw [IntKind.wrap_i64]; omega
  obtain ⟨X, Wf, hX, hS1, hS2⟩ := family (fun V => Below W8.heap.size W8 V) W8 (Below.refl _ _)
  have HS2 := hiq hS2
  have q_y3 := fun x => clq (hS1 x) y3
  have q_o3 := fun x => clq (hS1 x) o3
  have q_o2 := fun x => clq (hS1 x) o2
  have q_dD8 := fun x => clq (hS1 x) dD8
  clear hS1 hS2
  have hd0 : Below W8.heap.size W8 W8.drew := (Below.refl _ _).drew
  refine wp_region_treeN (Wf := Wf) 12 (.read 0 (.read 1 (.read 2 (.read 3 (.read 4 (.read 5 (.read 6 (.read 7 (.read 8 (.read 9 (.read 10 (.read 11 .fin)))))))))))) (by kernel_rfl) (by kernel_rfl) (HS2.out _ hd0) ?_
  refine wpTree_read _ rfl (fun K hK => ?_); unfold rOp; go_simp; (refine hK _ ?_; clear hK K)
  refine wpTree_read _ rfl (fun K hK => ?_); unfold rOp; go_simp; (refine hK _ ?_; clear hK K)
  refine wpTree_read _ rfl (fun K hK => ?_); unfold rOp; go_simp; (refine hK _ ?_; clear hK K)
  refine wpTree_read _ rfl (fun K hK => ?_); unfold rOp; go_simp; (refine hK _ ?_; clear hK K)
  refine wpTree_read _ rfl (fun K hK => ?_); unfold rOp; go_simp; (refine hK _ ?_; clear hK K)
  refine wpTree_read _ rfl (fun K hK => ?_); unfold rOp; go_simp; (refine hK _ ?_; clear hK K)
  refine wpTree_read _ rfl (fun K hK => ?_); unfold rOp; go_simp; (refine hK _ ?_; clear hK K)
  refine wpTree_read _ rfl (fun K hK => ?_); unfold rOp; go_simp; (refine hK _ ?_; clear hK K)
  refine wpTree_read _ rfl (fun K hK => ?_); unfold rOp; go_simp; (refine hK _ ?_; clear hK K)
  refine wpTree_read _ rfl (fun K hK => ?_); unfold rOp; go_simp; (refine hK _ ?_; clear hK K)
  refine wpTree_read _ rfl (fun K hK => ?_); unfold rOp; go_simp; (refine hK _ ?_; clear hK K)
  refine wpTree_read _ rfl (fun K hK => ?_); unfold rOp; go_simp; (refine hK _ ?_; clear hK K)
  refine wpTree_fin ?_
  clear q_y3 q_o3 q_o2 q_dD8 HS2 hX hd0
  go_wp2
  rw [noPanic_normal]
  have hK9 : KeepS (fun b => b ≠ gd) W8 (W8.setCell ⟨gd, s, none⟩ (.int .i64 ot)).drew := KeepS.setCell W8 (by simp) _
  have hC9 : OwnC (W8.setCell ⟨gd, s, none⟩ (.int .i64 ot)).drew M (some ⟨gC, 0, none⟩) cn cc' ((pc.set c ((some ⟨gc, 0, none⟩, qn, qk), lc.set s (-1))).set d ((some ⟨gd, 0, none⟩, un, uk), ld.set s ot)) := OwnG.drewN (hC1.setAt HRW.out.2.1 one_int s ot (.int .i64 ot) rfl) 1
  have hq9 : OwnQ 61 1 encR (W8.setCell ⟨gd, s, none⟩ (.int .i64 ot)).drew W6.heap.size (some ⟨W6.heap.size, 0, none⟩) 0 0 [] := OwnQ.drewN (hq8.setOther (g := gd) (j := s) (fun y hy => by cases hy; show W6.heap.size ≠ gd; omega) (.int .i64 ot)) 1
  have hIT := HPP.out.2.2.1
  have hT9 := hT8.keepOn hIT hK9 (fun b h1 h2 => by omega)
  have gX9 := hK9.2 _ _ _ _ (by omega) gX8
  have gO9 := hK9.2 _ _ _ _ (by omega) gO8
  have gR9 := hK9.2 _ _ _ _ (by omega) gR8
  have gY9 := hK9.2 _ _ _ _ (by omega) gY8
  have hb11 : Below w.heap.size w (W8.setCell ⟨gd, s, none⟩ (.int .i64 ot)).drew := (below_setc hb10 (by omega) _ _).drew
  have hs9 : (W8.setCell ⟨gd, s, none⟩ (.int .i64 ot)).drew.heap.size = W6.heap.size + 1 := by rw [<- hs8]; simp [World.setCell, World.drew]
  have hpc2 := HRW.out.2.2.1
  have hF0 := HF.out
  rw [hOe.out] at hF0
  have hIC2 : InB W3.heap.size (some ⟨gC, 0, none⟩) ((pc.set c ((some ⟨gc, 0, none⟩, qn, qk), lc.set s (-1))).set d ((some ⟨gd, 0, none⟩, un, uk), ld.set s ot)) := by
    refine ⟨fun y hy => by cases hy; exact hgCU, fun p hp y hy => ?_⟩
    rcases List.mem_or_eq_of_mem_set hp with hp | rfl
    · rcases List.mem_or_eq_of_mem_set hp with hp | rfl
      · exact HPP.out.2.2.2.2 p hp y hy
      · cases hy; exact hgcU
    · cases hy; exact hgdU
  have hI2 : ∀ p ∈ (pc.set c ((some ⟨gc, 0, none⟩, qn, qk), lc.set s (-1))).set d ((some ⟨gd, 0, none⟩, un, uk), ld.set s ot), p.2.length <= 32 /\ ∀ z ∈ p.2, I64 z := by
    have hall : ∀ q ∈ pc, q.2.length <= 32 /\ ∀ z ∈ q.2, I64 z := fun q hq => by
      have := cols_small hF0.valid (c := q.2) (by rw [<- HPP.out.2.1]; exact List.mem_map.2 ⟨_, hq, rfl⟩)
      exact ⟨this.1, fun z hz => by have := this.2.2 z hz; exact ⟨by omega, by omega⟩⟩
    have hti : I64 ot := by have h := HOK.out; rw [hOe.out] at h; exact h.2.2.1
    have hc0 := hall _ (List.mem_of_getElem? HRW.out.1)
    have hd0 := hall ((some ⟨gd, 0, none⟩, un, uk), ld) (by
      have := List.mem_of_getElem? HRW.out.2.1
      rcases List.mem_or_eq_of_mem_set this with h | h
      · exact h
      · exact absurd (by cases h; rfl) hap3)
    intro p hp
    rcases List.mem_or_eq_of_mem_set hp with hp | rfl
    · rcases List.mem_or_eq_of_mem_set hp with hp | rfl
      · exact hall p hp
      · refine ⟨by rw [List.length_set]; exact hc0.1, fun z hz => ?_⟩
        rcases List.mem_or_eq_of_mem_set hz with hz | rfl
        · exact hc0.2 z hz
        · exact ⟨by omega, by omega⟩
    · refine ⟨by rw [List.length_set]; exact hd0.1, fun z hz => ?_⟩
      rcases List.mem_or_eq_of_mem_set hz with hz | rfl
      · exact hd0.2 z hz
      · exact hti
  generalize (pc.set c ((some ⟨gc, 0, none⟩, qn, qk), lc.set s (-1))).set d ((some ⟨gd, 0, none⟩, un, uk), ld.set s ot) = pc2 at *
  have HC9 := hiq hC9
  have HT9 := hiq hT9
  have HI9 := hiq (And.intro hIC2 (And.intro hI2 hpc2))
  have HB11 := hiq hb11
  have HQ9 := hiq hq9
  clear HRW
  generalize (W8.setCell ⟨gd, s, none⟩ (.int .i64 ot)).drew = W9 at *
  clear hq9 hC9 hT9 hIC2 hI2 hpc2 hb11 hK9 hC1 hT8 hq8 hb10 gX8 gO8 gR8 gY8 hIT vd fd dD8 o0 o1 o2 o3 o4 y0 y1 y2 y3 hsc hsd hap1 hap2 hap3 hgc1 hgc2 hgd1 hgd2 hgcU hgdU hwd hdo hqs hus hF0
  obtain ⟨o0, o1, o2, o3, o4⟩ := box_cells5 gO9
  obtain ⟨y0, y1, y2, y3, -⟩ := box_cells4 gY9
  go_wp2_with fail
  go_loopw [10, 11] (fun t i wr => ∃ (k m : Nat) (a' : Option Addr) (c' : Nat), i = .int .i64 k /\ k <= cn /\ t = .slice a' m c' /\ m <= k /\ Hid (OwnQ 61 1 encR wr W6.heap.size a' m c' (((pc2.take k).filter (fun p => !emptyR p.2)).map (·.1))) /\ Below W6.heap.size W9 wr) (fun _ i _ => cn - (intOf i).toNat)
  case atStart => exact ⟨0, 0, some ⟨W6.heap.size, 0, none⟩, 0, rfl, Nat.zero_le _, rfl, Nat.le_refl _, by rw [List.take_zero]; exact HQ9, Below.refl _ _⟩
  case round =>
    obtain ⟨k, m, a', c', rfl, hk, rfl, hmk, hQ, hb⟩ := hrel
    replace o0 := cell_out hb o0 (by omega)
    replace y3 := cell_out hb y3 (by omega)
    have hsz := hb.size
    have hKw : KeepS (fun b => b < W6.heap.size) W9 wr := KeepS.belowB hb hsz (fun b h => h)
    by_cases hkl : k < cn
    · have hCk := HC9.out.keepOn HI9.out.1 hKw (fun b h1 h2 => by omega)
      obtain ⟨⟨⟨ra, rn, rk⟩, l⟩, gC', hp1, hpm, ea, -, -, dC, -, hrow⟩ := hCk.at_ hkl
      cases ea
      dsimp only at hrow dC
      change World.cell? _ _ = some (.slice ra rn rk) at dC
      obtain ⟨hl1, hl2⟩ := HI9.out.2.1 _ hpm
      have hrn : rn = l.length := hrow.len
      have hnum : Nums (fun _ => True) wr ra rn rk l := hrow.sq (R := rInt) (s := 8) (fun _ => rfl) (by rw [hrn]; dsimp only at hl1; omega) (fun _ _ => trivial) (fun z hz => ⟨rfl, hl2 z hz⟩)
      have HEM := hiq (empty_ref _ _ _ _ _ _ hnum)
      have htk : (pc2.take (k + 1)).filter (fun p => !emptyR p.2) = (pc2.take k).filter (fun p => !emptyR p.2) ++ (if emptyR l = true then [] else [((ra, rn, rk), l)]) := by
        rw [take_next hp1, List.filter_append]
        cases he : emptyR l <;> simp [he]
      have HTK := hiq htk
      have HQ' := hiq hQ.out
      generalize emptyR l = EL at *
      clear hCk hp1 hpm hrow hl1 hl2 hrn hnum htk hQ hKw
      cases EL with
      | true =>
        have hn2 : Hid (OwnQ 61 1 encR wr W6.heap.size a' m c' (((pc2.take (k + 1)).filter (fun p => !emptyR p.2)).map (·.1))) := by
          rw [HTK.out, if_pos rfl, List.append_nil]; exact HQ'
        go_wp2_with (go_at_call 45; refine HEM.out.mono ?_; rintro e w' ⟨rfl, rfl⟩)
        go_roundw
        case rel => exact ⟨k + 1, m, a', c', by go_num, by omega, rfl, by omega, hn2.out, hb⟩
        case measure => simp [intOf]; omega
      | false =>
        have hal : Below wr.heap.size wr (wr.alloc (.cells #[.slice ra rn rk] 61)) := (Below.refl _ _).alloc (Nat.le_refl _) _
        have HQa := hiq (HQ'.out.below hal)
        have HV : Hid (∀ j u, (([(ra, rn, rk)] : List Row).flatMap encR)[j]? = some u -> (wr.alloc (.cells #[.slice ra rn rk] 61)).cell? ((⟨wr.heap.size, 0, none⟩ : Addr).add j) = some u) := fun j u hj => lit_cells (by exact hj)
        have hB9 : W6.heap.size <= (wr.alloc (.cells #[.slice ra rn rk] 61)).heap.size := by have := hal.size; omega
        have hbB : Below W6.heap.size W9 (wr.alloc (.cells #[.slice ra rn rk] 61)) := hb.trans (hal.mono (by omega))
        have HI := Tryz.infoInts
        clear hal
        go_wp2_with (first | (go_at_call 45; refine HEM.out.mono ?_; rintro e w' ⟨rfl, rfl⟩) | (at_builtin; refine wpList_appQ (l := ((pc2.take k).filter (fun p => !emptyR p.2)).map (·.1)) (ys := [(ra, rn, rk)]) HI Tryz.underlying24 rfl (by omega) (fun _ => rfl) one_r rfl _ _ rfl rfl rfl HQa.out rfl HV.out (by unfold maxLen; omega) (by omega) hB9 hbB ?_; intro a5 c5 w5 ho5 hb5 hg5 hv5))
        go_roundw
        case rel => exact ⟨k + 1, m + 1, a5, c5, by go_num, by omega, rfl, by omega, by show OwnQ _ _ _ _ _ _ _ _ _; rw [HTK.out, List.map_append]; exact ho5, hb5⟩
        case measure => simp [intOf]; omega
    · obtain rfl : cn = k := by omega
      have hsz := hb.size
      have gYr := (hb.block _ (by omega)).trans gY9
      have gRr := (hb.block _ (by omega)).trans gR9
      have hKw : KeepS (fun b => b < W6.heap.size) W9 wr := KeepS.belowB hb hsz (fun b h => h)
      have hCk := HC9.out.keepOn HI9.out.1 hKw (fun b h1 h2 => by omega)
      have hTk := HT9.out.keepOn HPP.out.2.2.1 hKw (fun b h1 h2 => by omega)
      have hBk := HB11.out.trans (hb.mono (by omega))
      obtain ⟨-, -, -, -, yf⟩ := box_cells4 gYr
      have yf3 := yf 3
      have gYs : (wr.setCell ⟨W3.heap.size, 3, none⟩ (.slice a' m c')).heap[W3.heap.size]? = some (.cells #[.string sec, .slice sa sn sc, .slice ta' tn tc', .slice a' m c'] 26 (0, 0)) := heap_setCell_at' gYr _
      have gRs : (wr.setCell ⟨W3.heap.size, 3, none⟩ (.slice a' m c')).heap[(w.heap.size + 1 + 1)]? = some (.cells #[.string ⟨#[]⟩, .slice none 0 0, .slice none 0 0, .slice none 0 0] 26 (0, 0)) := (heap_setCell_other (by omega) _).trans gRr
      have HRs := hiq gRs
      have hks : KeepS (fun b => b ≠ W3.heap.size) wr (wr.setCell ⟨W3.heap.size, 3, none⟩ (.slice a' m c')) := KeepS.setCell wr (by simp) _
      have HKs := hiq hks
      have HBs := hiq (below_setc hBk (b := W3.heap.size) (by omega) 3 (.slice a' m c'))
      have hss : (wr.setCell ⟨W3.heap.size, 3, none⟩ (.slice a' m c')).heap.size = wr.heap.size := by simp [World.setCell]
      have HCK := hiq hCk
      have HTK := hiq hTk
      obtain ⟨y0, y1, y2, y3, -⟩ := box_cells4 gYs
      obtain ⟨r0, r1, r2, r3, rf⟩ := box_cells4 gRs
      have rf0 := rf 0
      have rf1 := rf 1
      have rf2 := rf 2
      have rf3 := rf 3
      clear yf rf gYr gRr hKw hCk hTk hBk hks gYs gRs o0 o1 o2 o3 o4 gX9 gO9 gR9 gY9
      go_wp2
      have hCs := HCK.out.keepOn HI9.out.1 HKs.out (fun b h1 h2 => by omega)
      have hTs := HTK.out.keepOn HPP.out.2.2.1 HKs.out (fun b h1 h2 => by omega)
      have hQs := hQ.out.keepS HKs.out (fun y hy => by have := (hQ.out.lt y hy).1; omega)
      generalize wr.setCell ⟨W3.heap.size, 3, none⟩ (.slice a' m c') = WS at *
      obtain ⟨r0, r1, r2, r3, -⟩ := box_cells4 (put4_at HRs.out (.string sec) (.slice sa sn sc) (.slice ta' tn tc') (.slice a' m c'))
      have hbf : Below w.heap.size w (put4 WS (w.heap.size + 1 + 1) (.string sec) (.slice sa sn sc) (.slice ta' tn tc') (.slice a' m c')) := put4_below HBs.out (by omega) _ _ _ _
      have hkf : KeepS (fun b => W2.heap.size <= b) WS (put4 WS (w.heap.size + 1 + 1) (.string sec) (.slice sa sn sc) (.slice ta' tn tc') (.slice a' m c')) := put4_keep (by omega) _ _ _ _
      have hTF := hTs.keepS hkf
      have hCF := hCs.keepS (hkf.mono (fun b hb => by omega))
      have hQF := hQs.keepS (hkf.mono (S' := fun b => W6.heap.size <= b) (fun b hb => by omega)) (fun y hy => (hQs.lt y hy).1)
      change bodyPost _ _ _ _ _ (put4 WS (w.heap.size + 1 + 1) (.string sec) (.slice sa sn sc) (.slice ta' tn tc') (.slice a' m c'))
      generalize put4 WS (w.heap.size + 1 + 1) (.string sec) (.slice sa sn sc) (.slice ta' tn tc') (.slice a' m c') = WF at *
      refine bodyPost_ret (v := .tuple #[.agg #[.string sec, .slice sa sn sc, .slice ta' tn tc', .slice a' m c'], .int .i64 0]) (by simp [results, Tryz.results15, go_sem, r0, r1, r2, r3]) rfl ⟨⟨sec, sa, sn, sc, ta', tn, tc', a', m, c'⟩, rfl, ?_, hbf⟩
      rw [<- HOA.out]
      have hxh := HH.out
      rw [hVe.out] at hxh
      have hF := HF.out
      rw [hOe.out] at hF ⊢
      have hmap : pt.map (·.2) = opToks x ⟨3, og, ot, oo, ox⟩ s := by
        unfold opToks
        rw [if_neg (by show ¬ (3 : Int) = 4; omega)]; exact HPP.out.1
      have hrows : ∀ p ∈ pt, p.2.length * 80 <= 140737488355328 /\ ∀ z ∈ p.2, rTok (fun b => S b \/ w.heap.size <= b) WF z.cells z := by
        intro p hp
        have hm : p.2 ∈ x.toks := by rw [<- HPP.out.1]; exact List.mem_map.2 ⟨_, hp, rfl⟩
        have hl := ((err_iff.1 hF.valid).1.toks p.2 hm).1
        refine ⟨by omega, fun z hz => ⟨rfl, ?_⟩⟩
        obtain ⟨j, hj, e⟩ := List.getElem_of_mem hm
        obtain ⟨r, b, off, a9, n9, c9, h1, -, -, -, -, h2, -⟩ := hxh.2.2.2.1.row (j := j) (by rw [hxh.2.2.2.1.len]; exact hj)
        rw [List.getElem?_eq_getElem hj, e] at h1
        cases h1
        exact h2.okTok z hz
      have hTS := hTF.sq (R := rTok) (S := fun b => S b \/ w.heap.size <= b) (s := 80) tok_len (by omega) (fun b hb _ => .inr (by omega)) hrows
      rw [hmap] at hTS
      refine refd_reads (B := W6.heap.size) hF hxh.1 hxh.2.1 ((hxh.2.2.1.below rStr_ok hbf).mono rStr_ok (fun b hb _ => .inl hb)) hTS (fun b hb => .inr (by omega)) (ps := pc2.filter (fun p => !emptyR p.2)) (by have e := hQF; rw [show pc2.take cn = pc2 by rw [HC9.out.len, List.take_length]] at e; exact e) (fun p hp => ?_) (by rw [<- HI9.out.2.2, List.filter_map]; rfl)
      have hp := (List.mem_filter.1 hp).1
      obtain ⟨hl1, hl2⟩ := HI9.out.2.1 p hp
      have ho := hCF.2.1.1 p hp
      exact ho.sq (R := rInt) (s := 8) (fun _ => rfl) (by rw [ho.len]; omega) (fun y hy => .inr (by have := (ho.lt y hy).1; omega)) (fun z hz => ⟨rfl, hl2 z hz⟩)
end Go.Proofs.YtbdgmgddliploaaGreatDoor
