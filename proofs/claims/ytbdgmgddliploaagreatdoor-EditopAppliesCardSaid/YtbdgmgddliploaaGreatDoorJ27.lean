/- Joined: ERAp, EPle. -/
import Derived.Test.YtbdgmgddliploaaGreatDoorJ25
import Derived.Test.YtbdgmgddliploaaGreatDoorJ26
import Derived.Test.YtbdgmgddliploaaGreatDoorJ13
import Derived.Test.YtbdgmgddliploaaGreatDoorJ21
set_option linter.unusedVariables false
set_option linter.unusedSimpArgs false
set_option maxRecDepth 100000
set_option maxHeartbeats 16000000
namespace Go.Proofs.YtbdgmgddliploaaGreatDoor
open Go.RowKit

theorem OwnT.putNorm {w : World} {B n cap s g m c j : Nat} {a : Option Addr} {pt : List (Row × List Tok)} {l : List Tok} {y : Tok} (h : OwnT w B a n cap pt) (hs : pt[s]? = some ((some ⟨g, 0, none⟩, m, c), l)) (hy : l[j]? = some y) (t : ByteArray) :
    OwnT (w.setCell ⟨g, j * 6 + 1, none⟩ (.string t)) B a n cap (pt.set s ((some ⟨g, 0, none⟩, m, c), l.set j { y with norm := t })) := by
  obtain ⟨h1, h2⟩ := take_mid hs
  rw [h1] at h
  have hap : Apart (some ⟨g, 0, none⟩) a := h.2.2 _ (by simp : ((some ⟨g, 0, none⟩, m, c), l) ∈ _)
  have hr := h.2.1.change (p' := ((some ⟨g, 0, none⟩, m, c), l.set j { y with norm := t })) (h.2.1.mid.1.putTok hy t) rfl (fun q hq ha ho => ho.setOther (fun z hz => ha z ⟨g, 0, none⟩ hz rfl) _)
  have e2 : pt.set s ((some ⟨g, 0, none⟩, m, c), l.set j { y with norm := t }) = pt.take s ++ ((some ⟨g, 0, none⟩, m, c), l.set j { y with norm := t }) :: pt.drop (s + 1) := by
    conv => lhs; rw [h1]
    have := set_mid (pt.take s) (pt.drop (s + 1)) ((some ⟨g, 0, none⟩, m, c), l) ((some ⟨g, 0, none⟩, m, c), l.set j { y with norm := t })
    rw [h2] at this; exact this
  rw [e2]
  refine ⟨?_, hr, fun q hq => ?_⟩
  · have := h.1.setOther (g := g) (j := j * 6 + 1) (fun z hz e => hap ⟨g, 0, none⟩ z rfl hz e.symm) (.string t)
    simpa using this
  · rcases List.mem_append.1 hq with hq | hq
    · exact h.2.2 q (by simp [hq])
    · rcases List.mem_cons.1 hq with rfl | hq
      · exact hap
      · exact h.2.2 q (by simp [hq])
theorem rap_err (S : Nat -> Prop) (v : CV) (x : Col) (o : Op) (w : World) (h : RdC S w v x) (hm : Sml x) (he : opErr x o ≠ 0) : Calls Tryz.prog 15 #[v.val, o.val] w (EditPost S x o w) := by
  have HRC : Hid (∀ W, Below w.heap.size w W -> Calls Tryz.prog 19 #[v.val, o.val] W fun e w' => e = .returned (.int .i64 (opErr x o)) /\ Below W.heap.size W w') := fun W hb => rcheck_ref S v x o W (h.below hb) hm
  unfold EditPost
  rw [opApply_none he]
  have t0 : ((opErr x o : Int) != 0) = true := by simpa using he
  generalize opErr x o = E at *
  clear h hm he
  obtain ⟨sec, sa, sn, sc, ta, tn, tc, ca, cn, cc⟩ := v
  obtain ⟨ok, og, ot, oo, ox⟩ := o
  change Calls _ _ #[.agg #[.string sec, .slice sa sn sc, .slice ta tn tc, .slice ca cn cc], .agg #[.int .i64 ok, .string og, .int .i64 ot, .int .i64 oo, .string ox]] _ _
  change Hid (∀ W, _ -> Calls _ _ #[.agg #[.string sec, .slice sa sn sc, .slice ta tn tc, .slice ca cn cc], .agg #[.int .i64 ok, .string og, .int .i64 ot, .int .i64 oo, .string ox]] _ _) at HRC
  obtain ⟨W1, hW1, hb0, hs1, gX, gO, gR⟩ := box3r w #[.string sec, .slice sa sn sc, .slice ta tn tc, .slice ca cn cc] #[.int .i64 ok, .string og, .int .i64 ot, .int .i64 oo, .string ox] #[.string ⟨#[]⟩, .slice none 0 0, .slice none 0 0, .slice none 0 0] 26 28 26
  have HCC := hiq (HRC.out _ hb0)
  obtain ⟨c0, c1, c2, c3, -⟩ := box_cells4 gX
  obtain ⟨o0, o1, o2, o3, o4⟩ := box_cells5 gO
  rw [hW1] at c0 c1 c2 c3 o0 o1 o2 o3 o4
  go_enter Tryz.func15, Tryz.ntmps15
  go_wp2_with fail
  rw [<- hW1] at *
  clear hW1
  refine HCC.out.mono ?_
  rintro e W2 ⟨rfl, hb2⟩
  have hb3 := hb0.trans (hb2.mono hb0.size)
  have gz := (hb2.block _ (by omega)).trans gR
  obtain ⟨z0, z1, z2, z3, zf⟩ := box_cells4 gz
  have zf0 := zf 0
  have zf1 := zf 1
  have zf2 := zf 2
  have zf3 := zf 3
  have HGZ := hiq gz
  clear zf gz HCC gX gO gR HRC c0 c1 c2 c3 o0 o1 o2 o3 o4
  go_wp2
  obtain ⟨r0, r1, r2, r3, -⟩ := box_cells4 (put4_at HGZ.out (.string ⟨#[]⟩) (.slice none 0 0) (.slice none 0 0) (.slice none 0 0))
  have hbf : Below w.heap.size w (put4 W2 (w.heap.size + 1 + 1) (.string ⟨#[]⟩) (.slice none 0 0) (.slice none 0 0) (.slice none 0 0)) := put4_below hb3 (by omega) _ _ _ _
  change bodyPost _ _ _ _ _ (put4 W2 (w.heap.size + 1 + 1) (.string ⟨#[]⟩) (.slice none 0 0) (.slice none 0 0) (.slice none 0 0))
  generalize put4 W2 (w.heap.size + 1 + 1) (.string ⟨#[]⟩) (.slice none 0 0) (.slice none 0 0) (.slice none 0 0) = WF at *
  exact bodyPost_ret (v := .tuple #[.agg #[.string ⟨#[]⟩, .slice none 0 0, .slice none 0 0, .slice none 0 0], .int .i64 E]) (by simp [results, Tryz.results15, go_sem, r0, r1, r2, r3]) rfl ⟨⟨⟨#[]⟩, none, 0, 0, none, 0, 0, none, 0, 0⟩, rfl, RdC.none _ _, hbf⟩
theorem rap_4 (S : Nat -> Prop) (v : CV) (x : Col) (o : Op) (w : World) (h : RdC S w v x) (hm : Sml x) (he : opErr x o = 0) (hk : o.kind = 4) (ho : o.ok) : Calls Tryz.prog 15 #[v.val, o.val] w (EditPost S x o w) := by
  have HRC : Hid (∀ W, Below w.heap.size w W -> Calls Tryz.prog 19 #[v.val, o.val] W fun e w' => e = .returned (.int .i64 0) /\ Below W.heap.size W w') := fun W hb => by
    have := rcheck_ref S v x o W (h.below hb) hm
    rw [he] at this; exact this
  obtain ⟨s, c, F⟩ := fits_of he
  have HCP : Hid (∀ W, Below w.heap.size w W -> Calls Tryz.prog 42 #[v.val] W (CopPost v x W)) := fun W hb => copied_ref S v x W (h.below hb)
  have HSO : Hid (∀ W, Below w.heap.size w W -> Calls Tryz.prog 43 #[v.val, .string o.sig] W fun e w' => e = .returned (.int .i64 (s : Int)) /\ Below W.heap.size W w') := fun W hb => by
    have := source_ref S v x o.sig W (h.below hb)
    rw [F.src] at this; exact this
  have HCO : Hid (∀ W, Below w.heap.size w W -> Calls Tryz.prog 44 #[v.val, .int .i64 (s : Int), .int .i64 o.tok] W fun e w' => e = .returned (.int .i64 (c : Int)) /\ Below W.heap.size W w') := fun W hb => by
    have := column_ref S v x s o.tok W (h.below hb) F.valid F.ks
    rw [F.at_] at this; exact this
  unfold EditPost
  rw [he, F.apply]
  have HF := hiq F
  have HH := hiq h
  have HOK := hiq ho
  have hkc : c < x.cols.length := F.kc
  have hkt : s < x.toks.length := by rw [F.heads.len]; exact F.ks
  have HT0 : Hid (0 <= o.tok /\ o.tok < ((x.tks s).length : Int)) := ⟨F.t0, F.t1⟩
  have hcb := h.2.2.2.2.bound
  have htb := h.2.2.2.1.bound
  have hcn : v.cn = x.cols.length := h.2.2.2.2.len
  have htn : v.tn = x.toks.length := h.2.2.2.1.len
  obtain ⟨V, hV⟩ : ∃ V, V = v := ⟨_, rfl⟩
  obtain ⟨O, hO⟩ : ∃ O, O = o := ⟨_, rfl⟩
  rw [<- hV] at HH
  rw [<- hO] at HOK HF
  generalize hOA : opAt x o s c = OA
  rw [<- hO] at hOA
  unfold CopPost at HCP
  clear h hm he F ho
  obtain ⟨sec, sa, sn, sc, ta, tn, tc, ca, cn, cc⟩ := v
  obtain ⟨ok, og, ot, oo, ox⟩ := o
  have hVe : Hid (V = ⟨sec, sa, sn, sc, ta, tn, tc, ca, cn, cc⟩) := hV
  dsimp only at hk hcb htb hcn htn
  subst hk
  have hOe : Hid (O = ⟨4, og, ot, oo, ox⟩) := hO
  dsimp only at HCP HT0 HSO HCO
  clear hV hO
  have HOA := hiq hOA
  have HNN := hiq (And.intro hcn htn)
  have hcl : c < cn := by omega
  have hsl : s < tn := by omega
  clear hOA hcn htn
  change Calls _ _ #[.agg #[.string sec, .slice sa sn sc, .slice ta tn tc, .slice ca cn cc], .agg #[.int .i64 4, .string og, .int .i64 ot, .int .i64 oo, .string ox]] _ _
  change Hid (∀ W, _ -> Calls _ _ #[.agg #[.string sec, .slice sa sn sc, .slice ta tn tc, .slice ca cn cc], .agg #[.int .i64 4, .string og, .int .i64 ot, .int .i64 oo, .string ox]] _ _) at HRC
  change Hid (∀ W, _ -> Calls _ _ #[.agg #[.string sec, .slice sa sn sc, .slice ta tn tc, .slice ca cn cc]] _ _) at HCP
  change Hid (∀ W, _ -> Calls _ _ #[.agg #[.string sec, .slice sa sn sc, .slice ta tn tc, .slice ca cn cc], _] _ _) at HSO
  change Hid (∀ W, _ -> Calls _ _ #[.agg #[.string sec, .slice sa sn sc, .slice ta tn tc, .slice ca cn cc], _, _] _ _) at HCO
  obtain ⟨W1, hW1, hb0, hs1, gX, gO, gR⟩ := box3r w #[.string sec, .slice sa sn sc, .slice ta tn tc, .slice ca cn cc] #[.int .i64 4, .string og, .int .i64 ot, .int .i64 oo, .string ox] #[.string ⟨#[]⟩, .slice none 0 0, .slice none 0 0, .slice none 0 0] 26 28 26
  have HCC := hiq (HRC.out _ hb0)
  obtain ⟨c0, c1, c2, c3, -⟩ := box_cells4 gX
  obtain ⟨o0, o1, o2, o3, o4⟩ := box_cells5 gO
  rw [hW1] at c0 c1 c2 c3 o0 o1 o2 o3 o4
  clear HRC
  go_enter Tryz.func15, Tryz.ntmps15
  go_wp2_with fail
  rw [<- hW1] at *
  clear hW1
  refine HCC.out.mono ?_
  rintro e W2 ⟨rfl, hb2⟩
  have hb3 := hb0.trans (hb2.mono hb0.size)
  have HB3 := hiq hb3
  replace gR := (hb2.block _ (by omega)).trans gR
  replace gX := (hb2.block _ (by omega)).trans gX
  replace gO := (hb2.block _ (by omega)).trans gO
  obtain ⟨c0, c1, c2, c3, -⟩ := box_cells4 gX
  obtain ⟨o0, o1, o2, o3, o4⟩ := box_cells5 gO
  have hs2 : w.heap.size + 3 <= W2.heap.size := by have := hb2.size; omega
  have HCQ := hiq (HCP.out _ hb3)
  clear HCC hb2 hb3 hb0 HCP
  go_wp2_with fail
  refine HCQ.out.mono ?_
  rintro e W3 ⟨ta', tc', ca', cc', pt, pc, M, rfl, hOT, hpt, hIT, hM1, hM2, hOC, hpc, hb4⟩
  have hal : Below W3.heap.size W3 (W3.alloc (.cells #[.string sec, .slice sa sn sc, .slice ta' tn tc', .slice ca' cn cc'] 26)) := (Below.refl _ _).alloc (Nat.le_refl _) _
  have gY := World.alloc_heap_new W3 (.cells #[.string sec, .slice sa sn sc, .slice ta' tn tc', .slice ca' cn cc'] 26)
  have hb5 := hb4.trans (hal.mono hb4.size)
  have hs4 : (W3.alloc (.cells #[.string sec, .slice sa sn sc, .slice ta' tn tc', .slice ca' cn cc'] 26)).heap.size = W3.heap.size + 1 := by simp
  have HOT := hiq (hOT.below hal)
  have HOC := hiq (hOC.below hal)
  have hIC : InB W3.heap.size ca' pc := hOC.inB
  have HPP := hiq (And.intro hpt (And.intro hpc (And.intro hIT hIC)))
  replace gR := (hb5.block _ (by omega)).trans gR
  replace gX := (hb5.block _ (by omega)).trans gX
  replace gO := (hb5.block _ (by omega)).trans gO
  obtain ⟨c0, c1, c2, c3, -⟩ := box_cells4 gX
  obtain ⟨o0, o1, o2, o3, o4⟩ := box_cells5 gO
  have HB5 := hiq (HB3.out.trans (hb5.mono HB3.out.size))
  have HSQ := hiq (HSO.out _ HB5.out)
  have hs3 := hb4.size
  clear HCQ hOT hOC hpt hpc hIT hIC hb4 hb5 hal HSO HB3
  go_wp2_with fail
  generalize W3.alloc (.cells #[.string sec, .slice sa sn sc, .slice ta' tn tc', .slice ca' cn cc'] 26) = W4 at *
  refine HSQ.out.mono ?_
  rintro e W5 ⟨rfl, hb6⟩
  have HB6 := hiq (HB5.out.trans (hb6.mono HB5.out.size))
  have HCQ := hiq (HCO.out _ HB6.out)
  replace c0 := clq hb6 c0; replace c1 := clq hb6 c1; replace c2 := clq hb6 c2; replace c3 := clq hb6 c3; replace o0 := clq hb6 o0; replace o1 := clq hb6 o1; replace o2 := clq hb6 o2; replace o3 := clq hb6 o3; replace o4 := clq hb6 o4
  clear HSQ HCO HB5
  go_wp2_with fail
  refine HCQ.out.mono ?_
  rintro e W6 ⟨rfl, hb7⟩
  have hb8 := hb6.trans (hb7.mono hb6.size)
  have HB8 := hiq (HB6.out.trans (hb7.mono HB6.out.size))
  replace gR := (hb8.block _ (by omega)).trans gR
  replace gX := (hb8.block _ (by omega)).trans gX
  replace gO := (hb8.block _ (by omega)).trans gO
  replace gY := (hb8.block _ (by omega)).trans gY
  replace HOT := hiq (HOT.out.below hb8)
  replace HOC := hiq (HOC.out.below hb8)
  obtain ⟨c0, c1, c2, c3, -⟩ := box_cells4 gX
  obtain ⟨o0, o1, o2, o3, o4⟩ := box_cells5 gO
  obtain ⟨y0, y1, y2, y3, yf⟩ := box_cells4 gY
  have hs6 := hb8.size
  clear HCQ HB6 hb6 hb7 hb8
  obtain ⟨hpt, hpc, hIT, hIC⟩ := HPP.out
  obtain ⟨⟨⟨ra, rn, rk⟩, l⟩, gT, hp1, hpm, ea, hgT1, hgT2, dT, -, hrow⟩ := HOT.out.at_ hsl
  subst ea
  have htks : x.tks s = l := by unfold Col.tks; rw [<- hpt, List.getElem?_map, hp1]; rfl
  obtain ⟨ht0, ht1⟩ := HT0.out
  rw [htks] at ht1
  obtain ⟨tk, rfl⟩ : ∃ tk : Nat, ot = (tk : Int) := ⟨ot.toNat, by omega⟩
  have hrl := hrow.len
  dsimp only at hrl hrow dT
  obtain ⟨t, g, hy, htm, ea, hg1, hg2, hgf, hcells⟩ := hrow.at_ tok_len (j := tk) (by omega)
  subst ea
  change W6.cell? _ = some (.slice (some ⟨g, 0, none⟩) rn rk) at dT
  have n1 := hcells 1 _ rfl
  have hf1 := hgf (tk * 6 + 1)
  have htk : tk < rn := by omega
  have hrb : rn <= 1024 := by
    rw [hrl]
    have := ((err_iff.1 HF.out.valid).1.toks l (by rw [<- hpt]; exact List.mem_map.2 ⟨_, hpm, rfl⟩)).1
    exact this
  have hgM : g < M := hIT.2 _ hpm _ rfl
  have HRW := hiq (And.intro hp1 (And.intro hy (And.intro htks hrl)))
  clear hp1 hpm hrow hrl htks hy htm ht0 ht1 hgf hcells hpt hpc hIT hIC hgT1
  go_wp2_with fail
  obtain ⟨X, Wf, hX, hS1, hS2⟩ := family (fun V => Below W6.heap.size W6 V) W6 (Below.refl _ _)
  have HS2 := hiq hS2
  have q_y2 := fun x => clq (hS1 x) y2
  have q_dT := fun x => clq (hS1 x) dT
  have q_o2 := fun x => clq (hS1 x) o2
  have q_o4 := fun x => clq (hS1 x) o4
  clear hS1 hS2
  have hd0 : Below W6.heap.size W6 W6.drew := (Below.refl _ _).drew
  refine wp_region_treeN (Wf := Wf) 11 (.read 0 (.read 1 (.read 2 (.read 3 (.read 4 (.read 5 (.read 6 (.read 7 (.read 8 (.read 9 (.read 10 .fin))))))))))) (by kernel_rfl) (by kernel_rfl) (HS2.out _ hd0) ?_
  refine wpTree_read _ rfl (fun K hK => ?_); unfold rOp; go_simp; (refine hK _ ?_; clear hK K)
  refine wpTree_read _ rfl (fun K hK => ?_); unfold rOp; go_simp; (refine hK _ ?_; clear hK K)
  refine wpTree_read _ rfl (fun K hK => ?_); unfold rOp; go_simp; (refine hK _ ?_; clear hK K)
  refine wpTree_read _ rfl (fun K hK => ?_); unfold rOp; go_simp; (refine hK _ ?_; clear hK K)
  refine wpTree_read _ rfl (fun K hK => ?_); unfold rOp; go_simp; (refine hK _ ?_; clear hK K)
  refine wpTree_read _ rfl (fun K hK => ?_); unfold rOp; go_simp; (refine hK _ ?_; clear hK K)
  refine wpTree_read _ rfl (fun K hK => ?_); unfold rOp; go_simp; (refine hK _ ?_; clear hK K)
  refine wpTree_read _ rfl (fun K hK => ?_); unfold rOp; go_simp; (refine hK _ ?_; clear hK K)
  refine wpTree_read _ rfl (fun K hK => ?_); unfold rOp; go_simp; (refine hK _ ?_; clear hK K)
  refine wpTree_read _ rfl (fun K hK => ?_); unfold rOp; go_simp; (refine hK _ ?_; clear hK K)
  refine wpTree_read _ rfl (fun K hK => ?_); unfold rOp; go_simp; (refine hK _ ?_; clear hK K)
  refine wpTree_fin ?_
  clear q_y2 q_dT q_o2 q_o4 HS2 hX hd0
  go_wp2
  rw [noPanic_normal]
  have gY7 : (W6.setCell ⟨g, tk * 6 + 1, none⟩ (.string ox)).drew.heap[W3.heap.size]? = some (.cells #[.string sec, .slice sa sn sc, .slice (some ⟨gT, 0, none⟩) tn tc', .slice ca' cn cc'] 26 (0, 0)) := (heap_setCell_other (by omega) _).trans gY
  have gR7 : (W6.setCell ⟨g, tk * 6 + 1, none⟩ (.string ox)).drew.heap[(w.heap.size + 1 + 1)]? = some (.cells #[.string ⟨#[]⟩, .slice none 0 0, .slice none 0 0, .slice none 0 0] 26 (0, 0)) := (heap_setCell_other (by omega) _).trans gR
  have hb9 : Below w.heap.size w (W6.setCell ⟨g, tk * 6 + 1, none⟩ (.string ox)).drew := (below_setc HB8.out (by omega) _ _).drew
  have hT7 : OwnT (W6.setCell ⟨g, tk * 6 + 1, none⟩ (.string ox)).drew W2.heap.size (some ⟨gT, 0, none⟩) tn tc' (pt.set s ((some ⟨g, 0, none⟩, rn, rk), l.set tk { t with norm := ox })) := OwnG.drewN (OwnT.putNorm HOT.out HRW.out.1 HRW.out.2.1 ox) 1
  have hC7 : OwnC (W6.setCell ⟨g, tk * 6 + 1, none⟩ (.string ox)).drew M ca' cn cc' pc := (HOC.out.keepS (KeepS.setCell W6 (by omega) _)).drewN 1
  have hs7 : (W6.setCell ⟨g, tk * 6 + 1, none⟩ (.string ox)).drew.heap.size = W6.heap.size := by simp [World.setCell, World.drew]
  have HT7 := hiq hT7
  have HC7 := hiq hC7
  have HB9 := hiq hb9
  generalize (W6.setCell ⟨g, tk * 6 + 1, none⟩ (.string ox)).drew = W7 at *
  clear hT7 hC7 hb9 gY gR gX gO c0 c1 c2 c3 o0 o1 o2 o3 o4 y0 y1 y2 y3 yf dT n1 hf1 HOT HOC HB8
  obtain ⟨y0, y1, y2, y3, -⟩ := box_cells4 gY7
  obtain ⟨r0, r1, r2, r3, rf⟩ := box_cells4 gR7
  have rf0 := rf 0
  have rf1 := rf 1
  have rf2 := rf 2
  have rf3 := rf 3
  have HGR := hiq gR7
  clear rf gR7 gY7
  go_wp2
  obtain ⟨r0, r1, r2, r3, -⟩ := box_cells4 (put4_at HGR.out (.string sec) (.slice sa sn sc) (.slice (some ⟨gT, 0, none⟩) tn tc') (.slice ca' cn cc'))
  have hbf : Below w.heap.size w (put4 W7 (w.heap.size + 1 + 1) (.string sec) (.slice sa sn sc) (.slice (some ⟨gT, 0, none⟩) tn tc') (.slice ca' cn cc')) := put4_below HB9.out (by omega) _ _ _ _
  have hkf : KeepS (fun b => W2.heap.size <= b) W7 (put4 W7 (w.heap.size + 1 + 1) (.string sec) (.slice sa sn sc) (.slice (some ⟨gT, 0, none⟩) tn tc') (.slice ca' cn cc')) := put4_keep (by omega) _ _ _ _
  have hTF := HT7.out.keepS hkf
  have hCF := HC7.out.keepS (hkf.mono (fun b hb => by omega))
  have hsf := put4_size W7 (w.heap.size + 1 + 1) (.string sec) (.slice sa sn sc) (.slice (some ⟨gT, 0, none⟩) tn tc') (.slice ca' cn cc')
  change bodyPost _ _ _ _ _ (put4 W7 (w.heap.size + 1 + 1) (.string sec) (.slice sa sn sc) (.slice (some ⟨gT, 0, none⟩) tn tc') (.slice ca' cn cc'))
  generalize put4 W7 (w.heap.size + 1 + 1) (.string sec) (.slice sa sn sc) (.slice (some ⟨gT, 0, none⟩) tn tc') (.slice ca' cn cc') = WF at *
  refine bodyPost_ret (v := .tuple #[.agg #[.string sec, .slice sa sn sc, .slice (some ⟨gT, 0, none⟩) tn tc', .slice ca' cn cc'], .int .i64 0]) (by simp [results, Tryz.results15, go_sem, r0, r1, r2, r3]) rfl ⟨⟨sec, sa, sn, sc, some ⟨gT, 0, none⟩, tn, tc', ca', cn, cc'⟩, rfl, ?_, hbf⟩
  rw [<- HOA.out]
  obtain ⟨hp1, hy, htks, hrl⟩ := HRW.out
  obtain ⟨hpt, hpc, -, -⟩ := HPP.out
  have hxh := HH.out
  rw [hVe.out] at hxh
  have hF := HF.out
  rw [hOe.out] at hF ⊢
  have hok := HOK.out
  rw [hOe.out] at hok
  have hmap : (pt.set s ((some ⟨g, 0, none⟩, rn, rk), l.set tk { t with norm := ox })).map (·.2) = opToks x ⟨4, og, (tk : Int), oo, ox⟩ s := by
    unfold opToks
    rw [if_pos rfl, List.map_set, hpt, htks]
    have : x.tk s (tk : Int) = t := by unfold Col.tk; rw [htks, Int.toNat_natCast, hy]; rfl
    show _ = x.toks.set s (l.set (Int.toNat (tk : Int)) { x.tk s (tk : Int) with norm := ox })
    rw [this, Int.toNat_natCast]
  have hrows : ∀ p ∈ pt.set s ((some ⟨g, 0, none⟩, rn, rk), l.set tk { t with norm := ox }), p.2.length * 80 <= 140737488355328 /\ ∀ z ∈ p.2, rTok (fun b => S b \/ w.heap.size <= b) WF z.cells z := by
    intro p hp
    have hall : ∀ q ∈ pt, q.2.length <= 1024 /\ ∀ z ∈ q.2, z.ok := fun q hq => by
      have hm : q.2 ∈ x.toks := by rw [<- hpt]; exact List.mem_map.2 ⟨_, hq, rfl⟩
      refine ⟨((err_iff.1 hF.valid).1.toks q.2 hm).1, fun z hz => ?_⟩
      obtain ⟨j, hj, e⟩ := List.getElem_of_mem hm
      obtain ⟨r, b, off, a', n', c', h1, -, -, -, -, h2, -⟩ := hxh.2.2.2.1.row (j := j) (by rw [hxh.2.2.2.1.len]; exact hj)
      rw [List.getElem?_eq_getElem hj, e] at h1
      cases h1
      exact h2.okTok z hz
    rcases List.mem_or_eq_of_mem_set hp with hp | rfl
    · obtain ⟨q1, q2⟩ := hall p hp
      exact ⟨by omega, fun z hz => ⟨rfl, q2 z hz⟩⟩
    · obtain ⟨q1, q2⟩ := hall _ (List.mem_of_getElem? hp1)
      dsimp only at q1 q2 ⊢
      refine ⟨by rw [List.length_set]; omega, fun z hz => ⟨rfl, ?_⟩⟩
      rcases List.mem_or_eq_of_mem_set hz with hz | rfl
      · exact q2 z hz
      · have := q2 t (List.mem_of_getElem? hy)
        exact ⟨this.1, hok.2.2.2.2, this.2.2.1, this.2.2.2.1, this.2.2.2.2.1, this.2.2.2.2.2⟩
  have hTS := hTF.sq (R := rTok) (S := fun b => S b \/ w.heap.size <= b) (s := 80) tok_len (by omega) (fun b hb _ => .inr (by omega)) hrows
  rw [hmap] at hTS
  refine apply_reads hF hxh.1 hxh.2.1 ((hxh.2.2.1.below rStr_ok hbf).mono rStr_ok (fun b hb _ => .inl hb)) hTS (fun b hb => .inr (by omega)) hCF ?_
  rw [hpc]
  unfold opCols
  rw [if_neg (by show ¬ (4 : Int) = 1; omega), if_neg (by show ¬ (4 : Int) = 2; omega), if_neg (by show ¬ (4 : Int) = 3; omega)]
end Go.Proofs.YtbdgmgddliploaaGreatDoor
namespace Go.Proofs.YtbdgmgddliploaaGreatDoor
open Go.RowKit

theorem filter_one {α : Type} {l : List α} {p : α -> Bool} {c : Nat} {x : α} (h : l[c]? = some x) (ha : ∀ i y, i ≠ c -> l[i]? = some y -> p y = true) : l.filter p = if p x = true then l else l.eraseIdx c := by
  obtain ⟨h1, h2⟩ := take_mid h
  have ht : (l.take c).filter p = l.take c := List.filter_eq_self.2 fun y hy => by
    obtain ⟨i, hi, e⟩ := List.getElem_of_mem hy
    have hi' : i < c := by rw [List.length_take] at hi; omega
    refine ha i y (by omega) ?_
    rw [<- e, List.getElem_take, List.getElem?_eq_getElem]
  have hd : (l.drop (c + 1)).filter p = l.drop (c + 1) := List.filter_eq_self.2 fun y hy => by
    obtain ⟨i, hi, e⟩ := List.getElem_of_mem hy
    refine ha (c + 1 + i) y (by omega) ?_
    rw [<- e, List.getElem_drop, List.getElem?_eq_getElem]
  have hf : l.filter p = l.take c ++ ((x :: l.drop (c + 1)).filter p) := by
    conv => lhs; rw [h1]
    rw [List.filter_append, ht]
  rw [hf, List.filter_cons]
  cases hp : p x with
  | true => simp only [if_true]; rw [hd]; exact h1.symm
  | false =>
    rw [hd, List.eraseIdx_eq_take_drop_succ]
    simp
theorem emptyR_iff {l : List Int} : emptyR l = true ↔ ∀ i, i < l.length -> ent l i < 0 := by
  unfold emptyR
  rw [List.all_eq_true]
  constructor
  · intro h i hi
    have := h l[i] (List.getElem_mem hi)
    unfold ent; rw [List.getElem?_eq_getElem hi]; simpa using this
  · intro h u hu
    obtain ⟨i, hi, e⟩ := List.getElem_of_mem hu
    have := h i hi
    unfold ent at this; rw [List.getElem?_eq_getElem hi] at this
    rw [<- e]; simpa using this
/-- No column of a valid collation is empty. -/
theorem full_col {x : Col} (hv : x.err = 0) {c : List Int} (hc : c ∈ x.cols) : emptyR c = false := by
  obtain ⟨-, hg⟩ := err_iff.1 hv
  obtain ⟨hl, s, hs, hn⟩ := hg.1 c hc
  cases e : emptyR c with
  | false => rfl
  | true =>
    have h1 := emptyR_iff.1 e s (by rw [hl]; exact hs)
    rcases hg.ent hc hs with h2 | h2
    · exact absurd h2 hn
    · omega
theorem shift_cols {x : Col} {o : Op} {s c : Nat} (F : Fits x o s c) (hk : o.kind = 3) : ∃ d : Nat, ((c : Int) + o.other) = (d : Int) /\ d < x.cols.length /\ d ≠ c /\ (o.other = -1 \/ o.other = 1) /\
    ((x.cols.set c ((x.row c).set s (-1))).set d ((x.row d).set s o.tok)).filter (fun l => !emptyR l) = opCols x o s c := by
  have he := F.err
  unfold kindErr at he
  rw [if_neg (by omega), if_neg (by omega), if_pos hk] at he
  have hkc := F.kc
  have hoth : ¬ ((o.other ≠ -1 /\ o.other ≠ 1) \/ (c : Int) + o.other < 0 \/ (x.cols.length : Int) <= c + o.other) := by
    intro h; rw [if_pos h] at he; exact absurd he (by decide)
  obtain ⟨d, hd⟩ : ∃ d : Nat, (c : Int) + o.other = (d : Int) := ⟨((c : Int) + o.other).toNat, by omega⟩
  have hdl : d < x.cols.length := by omega
  have hdc : d ≠ c := by omega
  refine ⟨d, hd, hdl, hdc, by omega, ?_⟩
  have hto : ((c : Int) + o.other).toNat = d := by omega
  have hrc := F.row_mem
  have hrd : x.row d ∈ x.cols := by unfold Col.row; rw [List.getElem?_eq_getElem hdl]; exact List.getElem_mem hdl
  have hlc := F.row_len
  have hld := F.good.mem hrd
  have hks := F.ksl
  have hcomm : (x.cols.set c ((x.row c).set s (-1))).set d ((x.row d).set s o.tok) = (x.cols.set d ((x.row d).set s o.tok)).set c ((x.row c).set s (-1)) := List.set_comm _ _ (Ne.symm hdc)
  have hgc : ((x.cols.set c ((x.row c).set s (-1))).set d ((x.row d).set s o.tok))[c]? = some ((x.row c).set s (-1)) := by
    rw [List.getElem?_set_ne hdc, List.getElem?_set_self hkc]
  rw [filter_one hgc]
  · have hoc : opCols x o s c = (if alone ((x.row c).set s (-1)) s = true then ((x.cols.set d ((x.row d).set s o.tok)).set c ((x.row c).set s (-1))).eraseIdx c else (x.cols.set d ((x.row d).set s o.tok)).set c ((x.row c).set s (-1))) := by
      unfold opCols
      rw [if_neg (by omega), if_neg (by omega), if_pos hk, hto]
    rw [hoc, hcomm]
    have hal : alone ((x.row c).set s (-1)) s = emptyR ((x.row c).set s (-1)) := by
      rw [Bool.eq_iff_iff, alone_iff, emptyR_iff]
      constructor
      · intro h i hi
        by_cases e : i = s
        · rw [e, ent_set (by rw [hlc]; exact hks), if_pos rfl]; decide
        · exact h i hi e
      · intro h i hi _; exact h i hi
    rw [hal]
    cases emptyR ((x.row c).set s (-1)) <;> rfl
  · intro i y hi hy
    by_cases e : i = d
    · subst e
      rw [List.getElem?_set_self (by rw [List.length_set]; exact hdl)] at hy
      cases hy
      cases h : emptyR ((x.row i).set s o.tok) with
      | false => rfl
      | true =>
        have := emptyR_iff.1 h s (by rw [List.length_set, hld]; exact hks)
        rw [ent_set (by rw [hld]; exact hks), if_pos rfl] at this
        have := F.t0; omega
    · rw [List.getElem?_set_ne (Ne.symm e), List.getElem?_set_ne (Ne.symm hi)] at hy
      rw [full_col F.valid (List.mem_of_getElem? hy)]; rfl
end Go.Proofs.YtbdgmgddliploaaGreatDoor
