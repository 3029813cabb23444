/- Joined: ERA2, ERAl. -/
import Derived.Test.YtbdgmgddliploaaGreatDoorJ29
import Derived.Test.YtbdgmgddliploaaGreatDoorJ27
set_option linter.unusedVariables false
set_option linter.unusedSimpArgs false
set_option maxRecDepth 100000
set_option maxHeartbeats 16000000
namespace Go.Proofs.YtbdgmgddliploaaGreatDoor
open Go.RowKit

/-- A split's columns. -/
theorem split_cols {x : Col} {o : Op} {s c : Nat} (F : Fits x o s c) (hk : o.kind = 2) :
    (x.cols.set c ((x.row c).set s (-1))).take (c + 1) ++ ((List.replicate (x.row c).length (-1)).set s o.tok) :: (x.cols.set c ((x.row c).set s (-1))).drop (c + 1) = opCols x o s c /\ x.sigla.length = (x.row c).length := by
  have hkc := F.kc
  refine ⟨?_, by rw [F.row_len, lens_len, F.heads.len]⟩
  unfold opCols
  rw [if_neg (by omega), if_pos hk]
  have h := insert_mid ((List.replicate (x.row c).length (-1)).set s o.tok) ((x.cols.set c ((x.row c).set s (-1))).drop (c + 1)) ((x.cols.set c ((x.row c).set s (-1))).take (c + 1))
  rw [List.take_append_drop, show ((x.cols.set c ((x.row c).set s (-1))).take (c + 1)).length = c + 1 by rw [List.length_take, List.length_set]; omega] at h
  exact h.symm
theorem rap_2 (S : Nat -> Prop) (v : CV) (x : Col) (o : Op) (w : World) (h : RdC S w v x) (hm : Sml x) (he : opErr x o = 0) (hk : o.kind = 2) (ho : o.ok) : Calls Tryz.prog 15 #[v.val, o.val] w (EditPost S x o w) := by
  have HRC : Hid (∀ W, Below w.heap.size w W -> Calls Tryz.prog 19 #[v.val, o.val] W fun e w' => e = .returned (.int .i64 0) /\ Below W.heap.size W w') := fun W hb => by
    have := rcheck_ref S v x o W (h.below hb) hm
    rw [he] at this; exact this
  obtain ⟨s, c, F⟩ := fits_of he
  have HCP : Hid (∀ W, Below w.heap.size w W -> Calls Tryz.prog 42 #[v.val] W (CopPost v x W)) := fun W hb => copied_ref S v x W (h.below hb)
  have HSO : Hid (∀ W, Below w.heap.size w W -> Calls Tryz.prog 43 #[v.val, .string o.sig] W fun e w' => e = .returned (.int .i64 (s : Int)) /\ Below W.heap.size W w') := fun W hb => by
    have := source_ref S v x o.sig W (h.below hb)
    rw [F.src] at this; exact this
  have HCO : Hid (∀ W, Below w.heap.size w W -> Calls Tryz.prog 44 #[v.val, .int .i64 (s : Int), .int .i64 o.tok] W fun e w' => e = .returned (.int .i64 (c : Int)) /\ Below W.heap.size W w') := fun W hb => by
    have := column_ref S v x s o.tok W (h.below hb) F.valid F.ks
    rw [F.at_] at this; exact this
  unfold EditPost
  rw [he, F.apply]
  have HF := hiq F
  have HH := hiq h
  have HOK := hiq ho
  have hkc : c < x.cols.length := F.kc
  have hkt : s < x.toks.length := by rw [F.heads.len]; exact F.ks
  have HT0 : Hid (0 <= o.tok /\ o.tok < ((x.tks s).length : Int)) := ⟨F.t0, F.t1⟩
  have hcb := h.2.2.2.2.bound
  have htb := h.2.2.2.1.bound
  have hcn : v.cn = x.cols.length := h.2.2.2.2.len
  have htn : v.tn = x.toks.length := h.2.2.2.1.len
  obtain ⟨V, hV⟩ : ∃ V, V = v := ⟨_, rfl⟩
  obtain ⟨O, hO⟩ : ∃ O, O = o := ⟨_, rfl⟩
  rw [<- hV] at HH
  rw [<- hO] at HOK HF
  generalize hOA : opAt x o s c = OA
  rw [<- hO] at hOA
  unfold CopPost at HCP
  clear h hm he F ho
  obtain ⟨sec, sa, sn, sc, ta, tn, tc, ca, cn, cc⟩ := v
  obtain ⟨ok, og, ot, oo, ox⟩ := o
  have hVe : Hid (V = ⟨sec, sa, sn, sc, ta, tn, tc, ca, cn, cc⟩) := hV
  dsimp only at hk hcb htb hcn htn
  subst hk
  have hOe : Hid (O = ⟨2, og, ot, oo, ox⟩) := hO
  dsimp only at HCP HT0 HSO HCO
  clear hV hO
  have HOA := hiq hOA
  have HNN := hiq (And.intro hcn htn)
  have hcl : c < cn := by omega
  have hsl : s < tn := by omega
  clear hOA hcn htn
  change Calls _ _ #[.agg #[.string sec, .slice sa sn sc, .slice ta tn tc, .slice ca cn cc], .agg #[.int .i64 2, .string og, .int .i64 ot, .int .i64 oo, .string ox]] _ _
  change Hid (∀ W, _ -> Calls _ _ #[.agg #[.string sec, .slice sa sn sc, .slice ta tn tc, .slice ca cn cc], .agg #[.int .i64 2, .string og, .int .i64 ot, .int .i64 oo, .string ox]] _ _) at HRC
  change Hid (∀ W, _ -> Calls _ _ #[.agg #[.string sec, .slice sa sn sc, .slice ta tn tc, .slice ca cn cc]] _ _) at HCP
  change Hid (∀ W, _ -> Calls _ _ #[.agg #[.string sec, .slice sa sn sc, .slice ta tn tc, .slice ca cn cc], _] _ _) at HSO
  change Hid (∀ W, _ -> Calls _ _ #[.agg #[.string sec, .slice sa sn sc, .slice ta tn tc, .slice ca cn cc], _, _] _ _) at HCO
  obtain ⟨W1, hW1, hb0, hs1, gX, gO, gR⟩ := box3r w #[.string sec, .slice sa sn sc, .slice ta tn tc, .slice ca cn cc] #[.int .i64 2, .string og, .int .i64 ot, .int .i64 oo, .string ox] #[.string ⟨#[]⟩, .slice none 0 0, .slice none 0 0, .slice none 0 0] 26 28 26
  have HCC := hiq (HRC.out _ hb0)
  obtain ⟨c0, c1, c2, c3, -⟩ := box_cells4 gX
  obtain ⟨o0, o1, o2, o3, o4⟩ := box_cells5 gO
  rw [hW1] at c0 c1 c2 c3 o0 o1 o2 o3 o4
  clear HRC
  go_enter Tryz.func15, Tryz.ntmps15
  go_wp2_with fail
  rw [<- hW1] at *
  clear hW1
  refine HCC.out.mono ?_
  rintro e W2 ⟨rfl, hb2⟩
  have hb3 := hb0.trans (hb2.mono hb0.size)
  have HB3 := hiq hb3
  replace gR := (hb2.block _ (by omega)).trans gR
  replace gX := (hb2.block _ (by omega)).trans gX
  replace gO := (hb2.block _ (by omega)).trans gO
  obtain ⟨c0, c1, c2, c3, -⟩ := box_cells4 gX
  obtain ⟨o0, o1, o2, o3, o4⟩ := box_cells5 gO
  have hs2 : w.heap.size + 3 <= W2.heap.size := by have := hb2.size; omega
  have HCQ := hiq (HCP.out _ hb3)
  clear HCC hb2 hb3 hb0 HCP
  go_wp2_with fail
  refine HCQ.out.mono ?_
  rintro e W3 ⟨ta', tc', ca', cc', pt, pc, M, rfl, hOT, hpt, hIT, hM1, hM2, hOC, hpc, hb4⟩
  have hal : Below W3.heap.size W3 (W3.alloc (.cells #[.string sec, .slice sa sn sc, .slice ta' tn tc', .slice ca' cn cc'] 26)) := (Below.refl _ _).alloc (Nat.le_refl _) _
  have gY := World.alloc_heap_new W3 (.cells #[.string sec, .slice sa sn sc, .slice ta' tn tc', .slice ca' cn cc'] 26)
  have hb5 := hb4.trans (hal.mono hb4.size)
  have hs4 : (W3.alloc (.cells #[.string sec, .slice sa sn sc, .slice ta' tn tc', .slice ca' cn cc'] 26)).heap.size = W3.heap.size + 1 := by simp
  have HOT := hiq (hOT.below hal)
  have HOC := hiq (hOC.below hal)
  have hIC : InB W3.heap.size ca' pc := hOC.inB
  have HPP := hiq (And.intro hpt (And.intro hpc (And.intro hIT hIC)))
  replace gR := (hb5.block _ (by omega)).trans gR
  replace gX := (hb5.block _ (by omega)).trans gX
  replace gO := (hb5.block _ (by omega)).trans gO
  obtain ⟨c0, c1, c2, c3, -⟩ := box_cells4 gX
  obtain ⟨o0, o1, o2, o3, o4⟩ := box_cells5 gO
  have HB5 := hiq (HB3.out.trans (hb5.mono HB3.out.size))
  have HSQ := hiq (HSO.out _ HB5.out)
  have hs3 := hb4.size
  clear HCQ hOT hOC hpt hpc hIT hIC hb4 hb5 hal HSO HB3
  go_wp2_with fail
  generalize W3.alloc (.cells #[.string sec, .slice sa sn sc, .slice ta' tn tc', .slice ca' cn cc'] 26) = W4 at *
  refine HSQ.out.mono ?_
  rintro e W5 ⟨rfl, hb6⟩
  have HB6 := hiq (HB5.out.trans (hb6.mono HB5.out.size))
  have HCQ := hiq (HCO.out _ HB6.out)
  replace c0 := clq hb6 c0; replace c1 := clq hb6 c1; replace c2 := clq hb6 c2; replace c3 := clq hb6 c3; replace o0 := clq hb6 o0; replace o1 := clq hb6 o1; replace o2 := clq hb6 o2; replace o3 := clq hb6 o3; replace o4 := clq hb6 o4
  clear HSQ HCO HB5
  go_wp2_with fail
  refine HCQ.out.mono ?_
  rintro e W6 ⟨rfl, hb7⟩
  have hb8 := hb6.trans (hb7.mono hb6.size)
  have HB8 := hiq (HB6.out.trans (hb7.mono HB6.out.size))
  replace gR := (hb8.block _ (by omega)).trans gR
  replace gX := (hb8.block _ (by omega)).trans gX
  replace gO := (hb8.block _ (by omega)).trans gO
  replace gY := (hb8.block _ (by omega)).trans gY
  replace HOT := hiq (HOT.out.below hb8)
  replace HOC := hiq (HOC.out.below hb8)
  obtain ⟨c0, c1, c2, c3, -⟩ := box_cells4 gX
  obtain ⟨o0, o1, o2, o3, o4⟩ := box_cells5 gO
  obtain ⟨y0, y1, y2, y3, yf⟩ := box_cells4 gY
  have hs6 := hb8.size
  clear HCQ HB6 hb6 hb7 hb8
  have hF0 := HF.out
  rw [hOe.out] at hF0
  obtain ⟨hcf, hsl⟩ := split_cols hF0 rfl
  obtain ⟨hpt, hpc, hIT, hIC⟩ := HPP.out
  obtain ⟨hnc, hnt⟩ := HNN.out
  have hxh0 := HH.out
  rw [hVe.out] at hxh0
  have hsn : sn = x.sigla.length := hxh0.2.2.1.len
  have hcn9 : cn <= 32768 := by rw [hnc]; exact cols_bound hF0.valid
  have hal7 : Below W6.heap.size W6 (W6.alloc (.cells #[] 61)) := (Below.refl _ _).alloc (Nat.le_refl _) _
  have hq0 : OwnQ 61 1 encR (W6.alloc (.cells #[] 61)) W6.heap.size (some ⟨W6.heap.size, 0, none⟩) 0 0 [] := OwnQ.lit0 _ _ _ _ _ (Nat.le_refl _)
  have hOC7 := HOC.out.below hal7
  have hOT7 := HOT.out.below hal7
  have gX7 := (hal7.block _ (by omega)).trans gX
  have gO7 := (hal7.block _ (by omega)).trans gO
  have gR7 := (hal7.block _ (by omega)).trans gR
  have gY7 := (hal7.block _ (by omega)).trans gY
  have hs7 : (W6.alloc (.cells #[] 61)).heap.size = W6.heap.size + 1 := by simp
  have hb9 := HB8.out.trans (hal7.mono HB8.out.size)
  have o06 := o0
  clear gX gO gR gY c0 c1 c2 c3 o0 o1 o2 o3 o4 y0 y1 y2 y3 yf HOC HOT HB8 hal7 hxh0
  obtain ⟨o0, o1, o2, o3, o4⟩ := box_cells5 gO7
  obtain ⟨y0, y1, y2, y3, -⟩ := box_cells4 gY7
  obtain ⟨⟨⟨qa, qn, qk⟩, lc⟩, gC, hp1, -, ea, hgC1, hgC2, dC, fC, hrowc⟩ := hOC7.at_ hcl
  subst ea
  have hlc : x.row c = lc := by unfold Col.row; rw [<- hpc, List.getElem?_map, hp1]; rfl
  have hmc : lc ∈ x.cols := by rw [<- hlc]; exact hF0.row_mem
  have hlen : ∀ l ∈ x.cols, s < l.length /\ l.length <= 32 := fun l hl => by
    refine ⟨by rw [hF0.good.mem hl]; exact hF0.ksl, (cols_small hF0.valid hl).1⟩
  have hqn : qn = lc.length := hrowc.len
  dsimp only at hrowc
  have hsc : s < qn := by rw [hqn]; exact (hlen lc hmc).1
  obtain ⟨uc, gc, -, -, ea, hgc1, hgc2, fgc, vgc⟩ := hrowc.at_ (fun _ => rfl) hsc
  subst ea
  have hgcU : gc < W3.heap.size := hIC.2 _ (List.mem_of_getElem? hp1) _ rfl
  have hgCU : gC < W3.heap.size := hIC.1 _ rfl
  have hap1 : gc ≠ gC := fun e => hOC7.2.2 _ (List.mem_of_getElem? hp1) ⟨gc, 0, none⟩ ⟨gC, 0, none⟩ rfl rfl e
  have hqs : qn <= 32 := by rw [hqn]; exact (hlen lc hmc).2
  have hqu : sn = qn := by rw [hqn, hsn, hsl, hlc]
  have hcol : ∀ l ∈ x.cols, emptyR l = false /\ l.length <= 32 /\ ∀ z ∈ l, I64 z := fun l hl => by
    have := cols_small hF0.valid hl
    exact ⟨full_col hF0.valid hl, this.1, fun z hz => by have := this.2.2 z hz; exact ⟨by omega, by omega⟩⟩
  rw [hlc] at hcf
  -- the columns before and behind the store
  obtain ⟨PJ, hPJ⟩ : ∃ PJ : Nat -> List (Row × List Int), ∀ J, PJ J = pc.set c ((some ⟨gc, 0, none⟩, qn, qk), if J = 0 then lc else lc.set s (-1)) := ⟨_, fun _ => rfl⟩
  have hPJ1 : ∀ J, (PJ J).map (·.1) = pc.map (·.1) := fun J => by
    rw [hPJ, List.map_set]
    exact List.ext_getElem? fun i => by
      by_cases e : c = i
      · subst e; rw [List.getElem?_set_self (by rw [List.length_map]; exact (List.getElem?_eq_some_iff.1 hp1).1), List.getElem?_map, hp1]; rfl
      · rw [List.getElem?_set_ne e]
  have hPJ0 : PJ 0 = pc := by
    rw [hPJ]
    exact List.ext_getElem? fun i => by
      by_cases e : c = i
      · subst e; rw [List.getElem?_set_self (List.getElem?_eq_some_iff.1 hp1).1, hp1]; rfl
      · rw [List.getElem?_set_ne e]
  have hPJk : ∀ J k, k ≠ c -> (PJ J)[k]? = pc[k]? := fun J k h => by rw [hPJ, List.getElem?_set_ne (Ne.symm h)]
  have hPJs : ∀ (W : World), OwnC W M (some ⟨gC, 0, none⟩) cn cc' (PJ 0) -> OwnC (W.setCell ⟨gc, s, none⟩ (.int .i64 (-1))) M (some ⟨gC, 0, none⟩) cn cc' (PJ 1) := fun W hW => by
    rw [hPJ0] at hW
    rw [hPJ 1, if_neg (by decide)]
    exact hW.setAt hp1 one_int s (-1) (.int .i64 (-1)) rfl
  have hPJI : ∀ J, InB W3.heap.size (some ⟨gC, 0, none⟩) (PJ J) := fun J => by
    refine ⟨fun y hy => by cases hy; exact hgCU, fun p hp y hy => ?_⟩
    rw [hPJ] at hp
    rcases List.mem_or_eq_of_mem_set hp with hp | rfl
    · exact hIC.2 p hp y hy
    · cases hy; exact hgcU
  have hPJe : ((PJ 1).map (·.2)).take (c + 1) ++ ((List.replicate qn (-1)).set s ot) :: ((PJ 1).map (·.2)).drop (c + 1) = opCols x ⟨2, og, ot, oo, ox⟩ s c := by
    rw [<- hcf, hPJ, List.map_set, hpc, hqn, if_neg (by decide)]
  have hPJb : ∀ p ∈ PJ 1, p.2.length <= 32 /\ ∀ z ∈ p.2, I64 z := by
    intro p hp
    rw [hPJ, if_neg (by decide)] at hp
    rcases List.mem_or_eq_of_mem_set hp with hp | rfl
    · exact (hcol p.2 (by rw [<- hpc]; exact List.mem_map.2 ⟨_, hp, rfl⟩)).2
    · refine ⟨by dsimp only; rw [List.length_set, <- hqn]; exact hqs, fun z hz => ?_⟩
      rcases List.mem_or_eq_of_mem_set hz with hz | rfl
      · exact (hcol lc hmc).2.2 z hz
      · exact ⟨by decide, by decide⟩
  have HPJ := hiq (And.intro hPJ1 (And.intro hPJ0 (And.intro hPJk (And.intro hPJs (And.intro hPJI (And.intro hPJe hPJb))))))
  have HP1 := hiq hp1
  have HCOL := hiq (And.intro hpc hcol)
  have hC9 : OwnC (W6.alloc (.cells #[] 61)) M (some ⟨gC, 0, none⟩) cn cc' (PJ 0) := by rw [hPJ0]; exact hOC7
  have HC9 := hiq hC9
  have HT9 := hiq hOT7
  have HB11 := hiq hb9
  have HQ9 := hiq hq0
  have hpl : pc.length = cn := hOC7.len.symm
  have HPL := hiq hpl
  have HG := hiq (And.intro gX7 (And.intro gO7 (And.intro gR7 gY7)))
  have HQU := hiq hqu
  have HTI : Hid (I64 ot) := by have h := HOK.out; rw [hOe.out] at h; exact h.2.2.1
  clear hp1 hlc hmc hlen hqn hrowc fgc vgc gX7 gO7 gR7 gY7 hOC7 hOT7 hq0 hpt hpc hIT hIC hnc hnt hcf hsl hb9 hF0 dC hPJ hPJ1 hPJ0 hPJk hPJs hPJI hPJe hPJb hcol hC9 hpl fC hsn hqu
  go_wp2_with fail
  obtain ⟨gX9, gO9, gR9, gY9⟩ := HG.out
  generalize W6.alloc (.cells #[] 61) = W9 at *
  clear o06 o0 o1 o2 o3 o4 y0 y1 y2 y3 HG
  obtain ⟨o0, o1, o2, o3, o4⟩ := box_cells5 gO9
  obtain ⟨y0, y1, y2, y3, -⟩ := box_cells4 gY9
  go_loopw [10, 11] (fun t i wr => ∃ (k m : Nat) (a' : Option Addr) (c' : Nat) (rs : List Row) (J : Nat), i = .int .i64 k /\ k <= cn /\ t = .slice a' m c' /\ m <= 2 * k /\ Hid ((k <= c /\ rs = (pc.map (·.1)).take k /\ J = 0) \/ (c < k /\ J = 1 /\ ∃ gA cA, rs = (pc.map (·.1)).take (c + 1) ++ (some ⟨gA, 0, none⟩, qn, cA) :: ((pc.map (·.1)).take k).drop (c + 1) /\ OwnQ 3 1 encI wr W6.heap.size (some ⟨gA, 0, none⟩) qn cA ((List.replicate qn (-1)).set s ot) /\ ∀ y, a' = some y -> y.block ≠ gA)) /\ Hid (OwnQ 61 1 encR wr W6.heap.size a' m c' rs) /\ Hid (OwnC wr M (some ⟨gC, 0, none⟩) cn cc' (PJ J)) /\ KeepS (fun b => b < W6.heap.size /\ b ≠ gc) W9 wr /\ Below w.heap.size w wr) (fun _ i _ => cn - (intOf i).toNat)
  case atStart => exact ⟨0, 0, some ⟨W6.heap.size, 0, none⟩, 0, [], 0, rfl, Nat.zero_le _, rfl, Nat.zero_le _, .inl ⟨Nat.zero_le _, by simp, rfl⟩, HQ9, HC9, KeepS.refl _ _, HB11.out⟩
  case round =>
    obtain ⟨k, m, a', c', rs, J, rfl, hk, rfl, hmk, hor, hQ, hC, hK, hb⟩ := hrel
    have gOr := hK.2 _ _ _ _ (by omega) gO9
    have gYr := hK.2 _ _ _ _ (by omega) gY9
    replace o0 := (box_cells5 gOr).1
    replace o2 := (box_cells5 gOr).2.2.1
    replace y3 := (box_cells4 gYr).2.2.2.1
    have hsz := hK.1
    clear gOr gYr
    by_cases hkl : k < cn
    · by_cases hkd : k = c
      · subst k
        obtain ⟨rfl, rfl⟩ : rs = (pc.map (·.1)).take c /\ J = 0 := by
          rcases hor.out with ⟨-, h3, h4⟩ | ⟨h1, -⟩
          · exact ⟨h3, h4⟩
          · omega
        have gXr := hK.2 _ _ _ _ (by show w.heap.size < W6.heap.size /\ w.heap.size ≠ gc; omega) gX9
        have c1 := (box_cells4 gXr).2.1
        have hal : Below wr.heap.size wr (wr.alloc (.cells #[] 3)) := (Below.refl _ _).alloc (Nat.le_refl _) _
        have hl0 : OwnQ 3 1 encI (wr.alloc (.cells #[] 3)) wr.heap.size (some ⟨wr.heap.size, 0, none⟩) 0 0 [] := OwnQ.lit0 _ _ _ _ _ (Nat.le_refl _)
        have HL0 := hiq hl0
        have HKB := hiq (And.intro hK hb)
        have hqn9 := HQU.out
        have hsn9 : sn <= 32 := by omega
        have c1' := cell_out hal c1 (by omega)
        have HO9 := hiq (And.intro o0 (And.intro o2 (And.intro y3 c1)))
        clear hl0 gXr hor hqn9
        go_wp2_with fail
        go_loopw [14, 15] (fun t i wi => ∃ (j : Nat) (aA : Option Addr) (cA : Nat), i = .int .i64 j /\ j <= sn /\ t = .slice aA j cA /\ Hid (OwnQ 3 1 encI wi wr.heap.size aA j cA (List.replicate j (-1))) /\ Below wr.heap.size wr wi) (fun _ i _ => sn - (intOf i).toNat)
        case atStart => exact ⟨0, some ⟨wr.heap.size, 0, none⟩, 0, rfl, Nat.zero_le _, rfl, HL0, hal⟩
        case round =>
          obtain ⟨j, aA, cA, rfl, hj, rfl, hA, hbA⟩ := hrel
          have hsA := hbA.size
          clear c1' hal o0 o2 y3 c1
          have c1 := cell_out hbA HO9.out.2.2.2 (by omega)
          by_cases hjl : j < sn
          · have hal2 : Below wr.heap.size wr (wr.alloc (.cells #[.int .i64 (-1)] 3)) := (Below.refl _ _).alloc (Nat.le_refl _) _
            have HAa := hiq (hA.out.below hal2)
            have HV : Hid (∀ j u, (([(-1)] : List Int).flatMap encI)[j]? = some u -> (wr.alloc (.cells #[.int .i64 (-1)] 3)).cell? ((⟨wr.heap.size, 0, none⟩ : Addr).add j) = some u) := fun j u hj => lit_cells (by exact hj)
            have hbB := hbA.trans (hal2.mono hsA)
            have hB9 := hbB.size
            have HI := Tryz.infoInt
            clear hal2
            go_wp2_with (at_builtin; refine wpList_appQ (l := List.replicate j (-1)) (ys := [(-1)]) HI Tryz.underlying61 rfl (by omega) (fun _ => rfl) one_i rfl _ _ rfl rfl rfl HAa.out rfl HV.out (by unfold maxLen; omega) (by omega) hB9 hbB ?_; intro a5 c5 w5 ho5 hb5 hg5 hv5)
            go_roundw
            case rel => exact ⟨j + 1, a5, c5, by go_num, by omega, rfl, by rw [List.replicate_succ']; exact ho5, hb5⟩
            case measure => simp [intOf]; omega
          · obtain rfl : sn = j := by omega
            have hq := HQU.out
            subst hq
            obtain ⟨gA, ea, hgA1, hgA2, vA, fA⟩ := hA.out.entAt (j := s) hsc
            subst ea
            have fA := fA s
            have y3 := cell_out hbA HO9.out.2.2.1 (by omega)
            have o2 := cell_out hbA HO9.out.2.1 (by omega)
            have hC1 := hC.out.keepOn (HPJ.out.2.2.2.2.1 0) (KeepS.belowB hbA hsA (fun b h => h)) (fun b h1 h2 => by omega)
            have hC2 := hC1.keepOn (HPJ.out.2.2.2.2.1 0) (KeepS.setCell (S := fun b => b ≠ gA) wr (b := gA) (j := s) (by simp) (.int .i64 ot)) (fun b h1 h2 => by show b ≠ gA; omega)
            have hC3 := HPJ.out.2.2.2.1 _ hC2
            have hA2 := hA.out.put1 one_int s ot (.int .i64 ot) rfl
            have hA3 := hA2.setOther (g := gc) (j := s) (fun y hy => by cases hy; show gA ≠ gc; omega) (.int .i64 (-1))
            have hQ1 := hQ.out.below hbA
            have hQ2 := hQ1.setOther (g := gA) (j := s) (fun y hy => by have := (hQ.out.lt y hy).2; omega) (.int .i64 ot)
            have hQ3 := hQ2.setOther (g := gc) (j := s) (fun y hy => by have := (hQ.out.lt y hy).1; omega) (.int .i64 (-1))
            have HRD : Hid (∀ (W : World) (J : Nat), OwnC W M (some ⟨gC, 0, none⟩) cn cc' (PJ J) -> W.cell? ⟨gC, c, none⟩ = some (.slice (some ⟨gc, 0, none⟩) sn qk) /\ (∃ u, W.cell? ⟨gc, s, none⟩ = some (.int .i64 u)) /\ W.frozen? ⟨gc, s, none⟩ = false) := by
              intro W J hW
              obtain ⟨p, g1, t1, -, e1, -, -, t2, -, t3⟩ := hW.at_ (j := c) hcl
              cases e1
              have e2 : (pc.map (·.1))[c]? = some p.1 := by rw [<- HPJ.out.1 J, List.getElem?_map, t1]; rfl
              rw [List.getElem?_map, HP1.out] at e2
              obtain ⟨pr, pl⟩ := p
              cases Option.some.inj e2
              refine ⟨t2, ?_, t3.frozenAt s⟩
              obtain ⟨g, e, -, -, q, -⟩ := t3.entAt (j := s) hsc
              cases e; exact ⟨_, q⟩
            obtain ⟨d2, ⟨uc2, v2⟩, f2⟩ := HRD.out _ _ hC2
            obtain ⟨d3, -, -⟩ := HRD.out _ _ hC3
            have y32 : (wr.setCell ⟨gA, s, none⟩ (.int .i64 ot)).cell? ⟨W3.heap.size, 3, none⟩ = _ := (World.cell?_setCell_other _ _ _ _ (by intro e; have := congrArg Addr.block e; dsimp only at this; omega)).trans y3
            have y33 : ((wr.setCell ⟨gA, s, none⟩ (.int .i64 ot)).setCell ⟨gc, s, none⟩ (.int .i64 (-1))).cell? ⟨W3.heap.size, 3, none⟩ = _ := (World.cell?_setCell_other _ _ _ _ (by intro e; have := congrArg Addr.block e; dsimp only at this; omega)).trans y32
            have hs3 : ((wr.setCell ⟨gA, s, none⟩ (.int .i64 ot)).setCell ⟨gc, s, none⟩ (.int .i64 (-1))).heap.size = wr.heap.size := by simp [World.setCell]
            have hk1 := HKB.out.1.trans ((KeepS.belowB hbA hsA (fun b h => h)).mono (S' := fun b => b < W6.heap.size /\ b ≠ gc) (fun b h => by have := h.1; omega))
            have hk2 := hk1.trans (KeepS.setCell (S := fun b => b < W6.heap.size /\ b ≠ gc) wr (b := gA) (j := s) (by omega) (.int .i64 ot))
            have hk3 := hk2.trans (KeepS.setCell (S := fun b => b < W6.heap.size /\ b ≠ gc) _ (b := gc) (j := s) (by simp) (.int .i64 (-1)))
            have hb3 := below_setc (below_setc (HKB.out.2.trans (hbA.mono (by omega))) (b := gA) (by omega) s (.int .i64 ot)) (b := gc) (by omega) s (.int .i64 (-1))
            have hal4 : Below wr.heap.size ((wr.setCell ⟨gA, s, none⟩ (.int .i64 ot)).setCell ⟨gc, s, none⟩ (.int .i64 (-1))) (((wr.setCell ⟨gA, s, none⟩ (.int .i64 ot)).setCell ⟨gc, s, none⟩ (.int .i64 (-1))).alloc (.cells #[.slice (some ⟨gc, 0, none⟩) sn qk, .slice (some ⟨gA, 0, none⟩) sn cA] 61)) := (Below.refl _ _).alloc (by omega) _
            have HQa := hiq (hQ3.below (by rw [hs3]; exact hal4))
            have HV : Hid (∀ j u, (([(some ⟨gc, 0, none⟩, sn, qk), (some ⟨gA, 0, none⟩, sn, cA)] : List Row).flatMap encR)[j]? = some u -> (((wr.setCell ⟨gA, s, none⟩ (.int .i64 ot)).setCell ⟨gc, s, none⟩ (.int .i64 (-1))).alloc (.cells #[.slice (some ⟨gc, 0, none⟩) sn qk, .slice (some ⟨gA, 0, none⟩) sn cA] 61)).cell? ((⟨wr.heap.size, 0, none⟩ : Addr).add j) = some u) := fun j u hj => by rw [<- hs3]; exact lit_cells (by exact hj)
            have hB9 := hal4.size
            have hbB := hal4.mono (show W6.heap.size <= wr.heap.size by omega)
            have HI := Tryz.infoInts
            have HZ := hiq (And.intro hA3 (And.intro hC3 (And.intro hk3 (And.intro hb3 (And.intro hal4 hs3)))))
            clear hC1 hC2 hC3 hA2 hA3 hQ1 hQ2 hQ3 hk1 hk2 hk3 hb3 hal4
            go_wp2_with (at_builtin; go_loud (refine wpList_appQ (l := (pc.map (·.1)).take c) (ys := [(some ⟨gc, 0, none⟩, sn, qk), (some ⟨gA, 0, none⟩, sn, cA)]) HI Tryz.underlying24 rfl (by omega) (fun _ => rfl) one_r rfl _ _ rfl rfl rfl HQa.out rfl HV.out (by unfold maxLen; omega) (by omega) (by omega) hbB ?_); intro a5 c5 w5 ho5 hb5 hg5 hv5)
            obtain ⟨hA3, hC3, hk3, hb3, hal4, -⟩ := HZ.out
            have hk5 := KeepS.belowB hb5 hb5.size (fun b h => h)
            have hp4 : (pc.map (·.1))[c]? = some (some ⟨gc, 0, none⟩, sn, qk) := by rw [List.getElem?_map, HP1.out]; rfl
            have hR1 : (pc.map (·.1)).take c ++ [(some ⟨gc, 0, none⟩, sn, qk), (some ⟨gA, 0, none⟩, sn, cA)] = (pc.map (·.1)).take (c + 1) ++ (some ⟨gA, 0, none⟩, sn, cA) :: ((pc.map (·.1)).take (c + 1)).drop (c + 1) := by
              rw [List.drop_eq_nil_of_le (by rw [List.length_take]; omega), take_next hp4]; simp
            have hR2 := ((hA3.below (by rw [hs3]; exact hal4)).kept hg5 (fun y hy e => by
                cases hy
                cases ha : a' with
                | none => rw [ha] at e; cases e
                | some z => rw [ha] at e; have h1 := (hQ.out.lt z ha).2; have h2 := Option.some.inj e; dsimp only at h2; omega)).mono (show W6.heap.size <= _ by omega)
            have hR3 : ∀ y, a5 = some y -> y.block ≠ gA := by
              intro y hy e
              rw [hy] at hv5
              rcases hv5 with hv | hv
              · cases ha : a' with
                | none => rw [ha] at hv; cases hv
                | some z => rw [ha] at hv; have h1 := (hQ.out.lt z ha).2; have h2 := Option.some.inj hv; omega
              · have h1 := Option.some.inj hv
                have h2 := hal4.size
                omega
            go_roundw
            case rel => exact ⟨c + 1, m + 2, a5, c5, _, 1, by go_num, by omega, rfl, by omega, .inr ⟨by omega, rfl, gA, cA, hR1, hR2, hR3⟩, ho5, hC3.keepOn (HPJ.out.2.2.2.2.1 1) hk5 (fun b h1 h2 => by omega), hk3.trans (hk5.mono (fun b h => h.1)), hb3.trans (hb5.mono (by omega))⟩
            case measure => simp [intOf]; omega
      · obtain ⟨⟨⟨ra, rn, rk⟩, l⟩, gC', hp1, hpm, ea, -, -, dC, -, hrow⟩ := hC.out.at_ hkl
        cases ea
        dsimp only at hrow dC
        change World.cell? _ _ = some (.slice ra rn rk) at dC
        have hp3 : pc[k]? = some ((ra, rn, rk), l) := by
          rw [HPJ.out.2.2.1 _ _ (by omega)] at hp1; exact hp1
        obtain ⟨he, hl1, hl2⟩ := HCOL.out.2 l (by rw [<- HCOL.out.1]; exact List.mem_map.2 ⟨_, List.mem_of_getElem? hp3, rfl⟩)
        have hrn : rn = l.length := hrow.len
        have hnum : Nums (fun _ => True) wr ra rn rk l := hrow.sq (R := rInt) (s := 8) (fun _ => rfl) (by rw [hrn]; omega) (fun _ _ => trivial) (fun z hz => ⟨rfl, hl2 z hz⟩)
        have HEM := hiq (empty_ref _ _ _ _ _ _ hnum)
        rw [he] at HEM
        have hal : Below wr.heap.size wr (wr.alloc (.cells #[.slice ra rn rk] 61)) := (Below.refl _ _).alloc (Nat.le_refl _) _
        have HQa := hiq (hQ.out.below hal)
        have HV : Hid (∀ j u, (([(ra, rn, rk)] : List Row).flatMap encR)[j]? = some u -> (wr.alloc (.cells #[.slice ra rn rk] 61)).cell? ((⟨wr.heap.size, 0, none⟩ : Addr).add j) = some u) := fun j u hj => lit_cells (by exact hj)
        have hB9 : W6.heap.size <= (wr.alloc (.cells #[.slice ra rn rk] 61)).heap.size := by have := hal.size; omega
        have hbB : Below W6.heap.size wr (wr.alloc (.cells #[.slice ra rn rk] 61)) := hal.mono (by omega)
        have HI := Tryz.infoInts
        have HAL := hiq hal
        have hkc : ((k : Int) == (c : Int)) = false := by simp; omega
        have HHK := hiq hkd
        have hkc2 : ¬ ((k : Int) = (c : Int)) := by omega
        have HP3 := hiq hp3
        clear hal hp1 hpm hrow hl1 hl2 hrn hnum hp3 he
        go_wp2_with (first | (go_at_call 45; refine HEM.out.mono ?_; rintro e w' ⟨rfl, rfl⟩) | (at_builtin; refine wpList_appQ (l := rs) (ys := [(ra, rn, rk)]) HI Tryz.underlying24 rfl (by omega) (fun _ => rfl) one_r rfl _ _ rfl rfl rfl HQa.out rfl HV.out (by unfold maxLen; omega) (by omega) hB9 hbB ?_; intro a5 c5 w5 ho5 hb5 hg5 hv5))
        have hk5 : KeepS (fun b => b < W6.heap.size) wr w5 := KeepS.belowB hb5 hb5.size (fun b h => h)
        have hor2 : Hid ((k + 1 <= c /\ rs ++ [(ra, rn, rk)] = (pc.map (·.1)).take (k + 1) /\ J = 0) \/ (c < k + 1 /\ J = 1 /\ ∃ gA cA, rs ++ [(ra, rn, rk)] = (pc.map (·.1)).take (c + 1) ++ (some ⟨gA, 0, none⟩, qn, cA) :: ((pc.map (·.1)).take (k + 1)).drop (c + 1) /\ OwnQ 3 1 encI w5 W6.heap.size (some ⟨gA, 0, none⟩) qn cA ((List.replicate qn (-1)).set s ot) /\ ∀ y, a5 = some y -> y.block ≠ gA)) := by
          have hp4 : (pc.map (·.1))[k]? = some (ra, rn, rk) := by rw [List.getElem?_map, HP3.out]; rfl
          have ht : (pc.map (·.1)).take (k + 1) = (pc.map (·.1)).take k ++ [(ra, rn, rk)] := take_next hp4
          rcases hor.out with ⟨h1, rfl, h4⟩ | ⟨h1, h4, gA, cA, rfl, h5, h6⟩
          · exact .inl ⟨by omega, ht.symm, h4⟩
          · have hgA := h5.lt _ rfl
            refine .inr ⟨by omega, h4, gA, cA, ?_, ?_, ?_⟩
            · rw [ht, List.drop_append_of_le_length (by rw [List.length_take, List.length_map, HPL.out]; omega)]; simp
            · exact (h5.below HAL.out).kept hg5 (fun y hy e => by
                cases hy
                cases ha : a' with
                | none => rw [ha] at e; cases e
                | some z => rw [ha] at e; exact h6 z ha (Option.some.inj e).symm)
            · intro y hy e
              rw [hy] at hv5
              rcases hv5 with hv | hv
              · cases ha : a' with
                | none => rw [ha] at hv; cases hv
                | some z => rw [ha] at hv; exact h6 z ha ((Option.some.inj hv).symm.trans e)
              · have := Option.some.inj hv
                have h9 := HAL.out.size
                have h8 : gA < wr.heap.size := hgA.2
                omega
        go_roundw
        case rel => exact ⟨k + 1, m + 1, a5, c5, _, J, by go_num, by omega, rfl, by omega, hor2, ho5, hC.out.keepOn (HPJ.out.2.2.2.2.1 J) hk5 (fun b h1 h2 => by omega), hK.trans (hk5.mono (fun b h => h.1)), hb.trans (hb5.mono (by omega))⟩
        case measure => simp [intOf]; omega
    · obtain rfl : cn = k := by omega
      obtain ⟨rfl, gA, cA, hrse, hAQ, hAp⟩ : J = 1 /\ ∃ gA cA, rs = (pc.map (·.1)).take (c + 1) ++ (some ⟨gA, 0, none⟩, qn, cA) :: (pc.map (·.1)).drop (c + 1) /\ OwnQ 3 1 encI wr W6.heap.size (some ⟨gA, 0, none⟩) qn cA ((List.replicate qn (-1)).set s ot) /\ ∀ y, a' = some y -> y.block ≠ gA := by
        rcases hor.out with ⟨h1, -, -⟩ | ⟨-, h4, gA, cA, h2, h5, h6⟩
        · omega
        · refine ⟨h4, gA, cA, ?_, h5, h6⟩
          rw [h2, List.take_of_length_le (l := pc.map (·.1)) (i := cn) (by rw [List.length_map, HPL.out]; omega)]
      subst hrse
      have gYr := hK.2 _ _ _ _ (by omega) gY9
      have gRr := hK.2 _ _ _ _ (by omega) gR9
      have hCk := hC.out
      have hTk := HT9.out.keepOn HPP.out.2.2.1 hK (fun b h1 h2 => by omega)
      have hBk := hb
      have HI9 := hiq (And.intro (HPJ.out.2.2.2.2.1 1) (And.intro HPJ.out.2.2.2.2.2.2 HPJ.out.2.2.2.2.2.1))
      have hKw := hK
      have HPQ := hiq (HPJ.out.1 1)
      have HAQ := hiq hAQ
      clear hAQ
      generalize PJ 1 = pc2 at *
      obtain ⟨-, -, -, -, yf⟩ := box_cells4 gYr
      have yf3 := yf 3
      have gYs : (wr.setCell ⟨W3.heap.size, 3, none⟩ (.slice a' m c')).heap[W3.heap.size]? = some (.cells #[.string sec, .slice sa sn sc, .slice ta' tn tc', .slice a' m c'] 26 (0, 0)) := heap_setCell_at' gYr _
      have gRs : (wr.setCell ⟨W3.heap.size, 3, none⟩ (.slice a' m c')).heap[(w.heap.size + 1 + 1)]? = some (.cells #[.string ⟨#[]⟩, .slice none 0 0, .slice none 0 0, .slice none 0 0] 26 (0, 0)) := (heap_setCell_other (by omega) _).trans gRr
      have HRs := hiq gRs
      have hks : KeepS (fun b => b ≠ W3.heap.size) wr (wr.setCell ⟨W3.heap.size, 3, none⟩ (.slice a' m c')) := KeepS.setCell wr (by simp) _
      have HKs := hiq hks
      have HBs := hiq (below_setc hBk (b := W3.heap.size) (by omega) 3 (.slice a' m c'))
      have hss : (wr.setCell ⟨W3.heap.size, 3, none⟩ (.slice a' m c')).heap.size = wr.heap.size := by simp [World.setCell]
      have HCK := hiq hCk
      have HTK := hiq hTk
      obtain ⟨y0, y1, y2, y3, -⟩ := box_cells4 gYs
      obtain ⟨r0, r1, r2, r3, rf⟩ := box_cells4 gRs
      have rf0 := rf 0
      have rf1 := rf 1
      have rf2 := rf 2
      have rf3 := rf 3
      clear yf rf gYr gRr hKw hCk hTk hBk hks gYs gRs o0 o1 o2 o3 o4 gX9 gO9 gR9 gY9
      go_wp2
      have hCs := HCK.out.keepOn HI9.out.1 HKs.out (fun b h1 h2 => by omega)
      have hTs := HTK.out.keepOn HPP.out.2.2.1 HKs.out (fun b h1 h2 => by omega)
      have hQs := hQ.out.keepS HKs.out (fun y hy => by have := (hQ.out.lt y hy).1; omega)
      generalize wr.setCell ⟨W3.heap.size, 3, none⟩ (.slice a' m c') = WS at *
      obtain ⟨r0, r1, r2, r3, -⟩ := box_cells4 (put4_at HRs.out (.string sec) (.slice sa sn sc) (.slice ta' tn tc') (.slice a' m c'))
      have hbf : Below w.heap.size w (put4 WS (w.heap.size + 1 + 1) (.string sec) (.slice sa sn sc) (.slice ta' tn tc') (.slice a' m c')) := put4_below HBs.out (by omega) _ _ _ _
      have hkf : KeepS (fun b => W2.heap.size <= b) WS (put4 WS (w.heap.size + 1 + 1) (.string sec) (.slice sa sn sc) (.slice ta' tn tc') (.slice a' m c')) := put4_keep (by omega) _ _ _ _
      have hTF := hTs.keepS hkf
      have hCF := hCs.keepS (hkf.mono (fun b hb => by omega))
      have hQF := hQs.keepS (hkf.mono (S' := fun b => W6.heap.size <= b) (fun b hb => by omega)) (fun y hy => (hQs.lt y hy).1)
      change bodyPost _ _ _ _ _ (put4 WS (w.heap.size + 1 + 1) (.string sec) (.slice sa sn sc) (.slice ta' tn tc') (.slice a' m c'))
      generalize put4 WS (w.heap.size + 1 + 1) (.string sec) (.slice sa sn sc) (.slice ta' tn tc') (.slice a' m c') = WF at *
      refine bodyPost_ret (v := .tuple #[.agg #[.string sec, .slice sa sn sc, .slice ta' tn tc', .slice a' m c'], .int .i64 0]) (by simp [results, Tryz.results15, go_sem, r0, r1, r2, r3]) rfl ⟨⟨sec, sa, sn, sc, ta', tn, tc', a', m, c'⟩, rfl, ?_, hbf⟩
      rw [<- HOA.out]
      have hxh := HH.out
      rw [hVe.out] at hxh
      have hF := HF.out
      rw [hOe.out] at hF ⊢
      have hmap : pt.map (·.2) = opToks x ⟨2, og, ot, oo, ox⟩ s := by
        unfold opToks
        rw [if_neg (by show ¬ (2 : Int) = 4; omega)]; exact HPP.out.1
      have hrows : ∀ p ∈ pt, p.2.length * 80 <= 140737488355328 /\ ∀ z ∈ p.2, rTok (fun b => S b \/ w.heap.size <= b) WF z.cells z := by
        intro p hp
        have hm : p.2 ∈ x.toks := by rw [<- HPP.out.1]; exact List.mem_map.2 ⟨_, hp, rfl⟩
        have hl := ((err_iff.1 hF.valid).1.toks p.2 hm).1
        refine ⟨by omega, fun z hz => ⟨rfl, ?_⟩⟩
        obtain ⟨j, hj, e⟩ := List.getElem_of_mem hm
        obtain ⟨r, b, off, a9, n9, c9, h1, -, -, -, -, h2, -⟩ := hxh.2.2.2.1.row (j := j) (by rw [hxh.2.2.2.1.len]; exact hj)
        rw [List.getElem?_eq_getElem hj, e] at h1
        cases h1
        exact h2.okTok z hz
      have hTS := hTF.sq (R := rTok) (S := fun b => S b \/ w.heap.size <= b) (s := 80) tok_len (by omega) (fun b hb _ => .inr (by omega)) hrows
      rw [hmap] at hTS
      have hgA := HAQ.out.lt _ rfl
      have hAF := (HAQ.out.keepS HKs.out (fun y hy => by cases hy; have h7 : W6.heap.size <= gA := hgA.1; show gA ≠ W3.heap.size; omega)).keepS (hkf.mono (S' := fun b => W6.heap.size <= b) (fun b hb => by omega)) (fun y hy => by cases hy; exact hgA.1)
      refine refd_reads (B := W6.heap.size) hF hxh.1 hxh.2.1 ((hxh.2.2.1.below rStr_ok hbf).mono rStr_ok (fun b hb _ => .inl hb)) hTS (fun b hb => .inr (by omega)) (ps := pc2.take (c + 1) ++ ((some ⟨gA, 0, none⟩, qn, cA), (List.replicate qn (-1)).set s ot) :: pc2.drop (c + 1)) (by rw [List.map_append, List.map_cons, List.map_take, List.map_drop, HPQ.out]; exact hQF) (fun p hp => ?_) (by rw [<- HI9.out.2.2, List.map_append, List.map_cons, List.map_take, List.map_drop])
      have hrow : ∀ p ∈ pc2, Nums (fun b => S b \/ w.heap.size <= b) WF p.1.1 p.1.2.1 p.1.2.2 p.2 := fun p hp => by
        obtain ⟨hl1, hl2⟩ := HI9.out.2.1 p hp
        have ho := hCF.2.1.1 p hp
        exact ho.sq (R := rInt) (s := 8) (fun _ => rfl) (by rw [ho.len]; omega) (fun y hy => .inr (by have := (ho.lt y hy).1; omega)) (fun z hz => ⟨rfl, hl2 z hz⟩)
      rcases List.mem_append.1 hp with hp | hp
      · exact hrow p (List.mem_of_mem_take hp)
      · rcases List.mem_cons.1 hp with rfl | hp
        · exact hAF.sq (R := rInt) (s := 8) (fun _ => rfl) (by omega) (fun y hy => .inr (by have := (hAF.lt y hy).1; omega)) (fun z hz => ⟨rfl, by
            rcases List.mem_or_eq_of_mem_set hz with hz | rfl
            · rw [List.eq_of_mem_replicate hz]; exact ⟨by decide, by decide⟩
            · exact HTI.out⟩)
        · exact hrow p (List.mem_of_mem_drop hp)
end Go.Proofs.YtbdgmgddliploaaGreatDoor
namespace Go.Proofs.YtbdgmgddliploaaGreatDoor
open Go.RowKit

theorem rapply_ref (S : Nat -> Prop) (v : CV) (x : Col) (o : Op) (w : World) (h : RdC S w v x) (hm : Sml x) (ho : o.ok) : Calls Tryz.prog 15 #[v.val, o.val] w (EditPost S x o w) := by
  by_cases he : opErr x o = 0
  · obtain ⟨s, c, F⟩ := fits_of he
    have h4 : o.kind = 1 \/ o.kind = 2 \/ o.kind = 3 \/ o.kind = 4 := by have := F.kind; omega
    rcases h4 with k | k | k | k
    · exact rap_1 S v x o w h hm he k ho
    · exact rap_2 S v x o w h hm he k ho
    · exact rap_3 S v x o w h hm he k ho
    · exact rap_4 S v x o w h hm he k ho
  · exact rap_err S v x o w h hm he
end Go.Proofs.YtbdgmgddliploaaGreatDoor
