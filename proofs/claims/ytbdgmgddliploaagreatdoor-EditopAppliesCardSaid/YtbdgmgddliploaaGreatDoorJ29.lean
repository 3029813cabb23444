/- Joined: ERA1. -/
import Derived.Test.YtbdgmgddliploaaGreatDoorJ28
import Derived.Test.YtbdgmgddliploaaGreatDoorJ27
set_option linter.unusedVariables false
set_option linter.unusedSimpArgs false
set_option maxRecDepth 100000
set_option maxHeartbeats 16000000
namespace Go.Proofs.YtbdgmgddliploaaGreatDoor
open Go.RowKit

/-- A join's columns. -/
theorem join_cols {x : Col} {o : Op} {s c : Nat} (F : Fits x o s c) (hk : o.kind = 1) : c + 1 < x.cols.length /\
    (∀ i, i < (x.row c).length -> (0 <= ent (x.row (c + 1)) i -> max (ent (x.row c) i) (ent (x.row (c + 1)) i) = ent (x.row (c + 1)) i) /\ (ent (x.row (c + 1)) i < 0 -> max (ent (x.row c) i) (ent (x.row (c + 1)) i) = ent (x.row c) i)) /\
    (x.cols.set c (joined (x.row c) (x.row (c + 1)))).eraseIdx (c + 1) = opCols x o s c /\ (x.row (c + 1)).length = (x.row c).length := by
  have he := F.err
  unfold kindErr at he
  rw [if_pos hk] at he
  have h1 : ¬ x.cols.length <= c + 1 := by
    intro h; rw [if_pos h] at he; exact absurd he (by decide)
  rw [if_neg h1] at he
  have h2 : clash (x.row c) (x.row (c + 1)) = false := by
    cases e : clash (x.row c) (x.row (c + 1)) with
    | false => rfl
    | true => rw [if_pos e] at he; exact absurd he (by decide)
  have hmc := F.row_mem
  have hmd : x.row (c + 1) ∈ x.cols := by unfold Col.row; rw [List.getElem?_eq_getElem (by omega)]; exact List.getElem_mem (by omega)
  have hlc := F.good.mem hmc
  have hld := F.good.mem hmd
  refine ⟨by omega, fun i hi => ?_, ?_, by rw [hlc, hld]⟩
  · have h3 := clash_iff.1 h2 i hi
    have h4 := F.good.ent hmc (s := i) (by omega)
    have h5 := F.good.ent hmd (s := i) (by omega)
    constructor <;> intro h6 <;> omega
  · unfold opCols joined
    rw [if_pos hk]
theorem map_erase {α β : Type} (f : α -> β) (l : List α) (i : Nat) : (l.eraseIdx i).map f = (l.map f).eraseIdx i := by
  rw [List.eraseIdx_eq_take_drop_succ, List.eraseIdx_eq_take_drop_succ, List.map_append, List.map_take, List.map_drop]
theorem i64_ent {l : List Int} (h : ∀ z ∈ l, I64 z) (i : Nat) : I64 (ent l i) := by
  unfold ent
  cases e : l[i]? with
  | none => exact ⟨by decide, by decide⟩
  | some z => exact h z (List.mem_of_getElem? e)
theorem jpart_keep {a b : List Int} {k : Nat} (hk : k < a.length) (h : max (ent a k) (ent b k) = ent a k) : jpart a b (k + 1) = jpart a b k := by
  apply ent_ext (by rw [jpart_len, jpart_len])
  intro s hs
  rw [jpart_ent _ (by omega), jpart_ent _ (by omega)]
  by_cases h2 : s < k
  · rw [if_pos h2, if_pos (by omega)]
  · by_cases h3 : s = k
    · subst h3; rw [if_pos (by omega), if_neg (by omega), h]
    · rw [if_neg h2, if_neg (by omega)]
theorem rap_1 (S : Nat -> Prop) (v : CV) (x : Col) (o : Op) (w : World) (h : RdC S w v x) (hm : Sml x) (he : opErr x o = 0) (hk : o.kind = 1) (ho : o.ok) : Calls Tryz.prog 15 #[v.val, o.val] w (EditPost S x o w) := by
  have HRC : Hid (∀ W, Below w.heap.size w W -> Calls Tryz.prog 19 #[v.val, o.val] W fun e w' => e = .returned (.int .i64 0) /\ Below W.heap.size W w') := fun W hb => by
    have := rcheck_ref S v x o W (h.below hb) hm
    rw [he] at this; exact this
  obtain ⟨s, c, F⟩ := fits_of he
  have HCP : Hid (∀ W, Below w.heap.size w W -> Calls Tryz.prog 42 #[v.val] W (CopPost v x W)) := fun W hb => copied_ref S v x W (h.below hb)
  have HSO : Hid (∀ W, Below w.heap.size w W -> Calls Tryz.prog 43 #[v.val, .string o.sig] W fun e w' => e = .returned (.int .i64 (s : Int)) /\ Below W.heap.size W w') := fun W hb => by
    have := source_ref S v x o.sig W (h.below hb)
    rw [F.src] at this; exact this
  have HCO : Hid (∀ W, Below w.heap.size w W -> Calls Tryz.prog 44 #[v.val, .int .i64 (s : Int), .int .i64 o.tok] W fun e w' => e = .returned (.int .i64 (c : Int)) /\ Below W.heap.size W w') := fun W hb => by
    have := column_ref S v x s o.tok W (h.below hb) F.valid F.ks
    rw [F.at_] at this; exact this
  unfold EditPost
  rw [he, F.apply]
  have HF := hiq F
  have HH := hiq h
  have HOK := hiq ho
  have hkc : c < x.cols.length := F.kc
  have hkt : s < x.toks.length := by rw [F.heads.len]; exact F.ks
  have HT0 : Hid (0 <= o.tok /\ o.tok < ((x.tks s).length : Int)) := ⟨F.t0, F.t1⟩
  have hcb := h.2.2.2.2.bound
  have htb := h.2.2.2.1.bound
  have hcn : v.cn = x.cols.length := h.2.2.2.2.len
  have htn : v.tn = x.toks.length := h.2.2.2.1.len
  obtain ⟨V, hV⟩ : ∃ V, V = v := ⟨_, rfl⟩
  obtain ⟨O, hO⟩ : ∃ O, O = o := ⟨_, rfl⟩
  rw [<- hV] at HH
  rw [<- hO] at HOK HF
  generalize hOA : opAt x o s c = OA
  rw [<- hO] at hOA
  unfold CopPost at HCP
  clear h hm he F ho
  obtain ⟨sec, sa, sn, sc, ta, tn, tc, ca, cn, cc⟩ := v
  obtain ⟨ok, og, ot, oo, ox⟩ := o
  have hVe : Hid (V = ⟨sec, sa, sn, sc, ta, tn, tc, ca, cn, cc⟩) := hV
  dsimp only at hk hcb htb hcn htn
  subst hk
  have hOe : Hid (O = ⟨1, og, ot, oo, ox⟩) := hO
  dsimp only at HCP HT0 HSO HCO
  clear hV hO
  have HOA := hiq hOA
  have HNN := hiq (And.intro hcn htn)
  have hcl : c < cn := by omega
  have hsl : s < tn := by omega
  clear hOA hcn htn
  change Calls _ _ #[.agg #[.string sec, .slice sa sn sc, .slice ta tn tc, .slice ca cn cc], .agg #[.int .i64 1, .string og, .int .i64 ot, .int .i64 oo, .string ox]] _ _
  change Hid (∀ W, _ -> Calls _ _ #[.agg #[.string sec, .slice sa sn sc, .slice ta tn tc, .slice ca cn cc], .agg #[.int .i64 1, .string og, .int .i64 ot, .int .i64 oo, .string ox]] _ _) at HRC
  change Hid (∀ W, _ -> Calls _ _ #[.agg #[.string sec, .slice sa sn sc, .slice ta tn tc, .slice ca cn cc]] _ _) at HCP
  change Hid (∀ W, _ -> Calls _ _ #[.agg #[.string sec, .slice sa sn sc, .slice ta tn tc, .slice ca cn cc], _] _ _) at HSO
  change Hid (∀ W, _ -> Calls _ _ #[.agg #[.string sec, .slice sa sn sc, .slice ta tn tc, .slice ca cn cc], _, _] _ _) at HCO
  obtain ⟨W1, hW1, hb0, hs1, gX, gO, gR⟩ := box3r w #[.string sec, .slice sa sn sc, .slice ta tn tc, .slice ca cn cc] #[.int .i64 1, .string og, .int .i64 ot, .int .i64 oo, .string ox] #[.string ⟨#[]⟩, .slice none 0 0, .slice none 0 0, .slice none 0 0] 26 28 26
  have HCC := hiq (HRC.out _ hb0)
  obtain ⟨c0, c1, c2, c3, -⟩ := box_cells4 gX
  obtain ⟨o0, o1, o2, o3, o4⟩ := box_cells5 gO
  rw [hW1] at c0 c1 c2 c3 o0 o1 o2 o3 o4
  clear HRC
  go_enter Tryz.func15, Tryz.ntmps15
  go_wp2_with fail
  rw [<- hW1] at *
  clear hW1
  refine HCC.out.mono ?_
  rintro e W2 ⟨rfl, hb2⟩
  have hb3 := hb0.trans (hb2.mono hb0.size)
  have HB3 := hiq hb3
  replace gR := (hb2.block _ (by omega)).trans gR
  replace gX := (hb2.block _ (by omega)).trans gX
  replace gO := (hb2.block _ (by omega)).trans gO
  obtain ⟨c0, c1, c2, c3, -⟩ := box_cells4 gX
  obtain ⟨o0, o1, o2, o3, o4⟩ := box_cells5 gO
  have hs2 : w.heap.size + 3 <= W2.heap.size := by have := hb2.size; omega
  have HCQ := hiq (HCP.out _ hb3)
  clear HCC hb2 hb3 hb0 HCP
  go_wp2_with fail
  refine HCQ.out.mono ?_
  rintro e W3 ⟨ta', tc', ca', cc', pt, pc, M, rfl, hOT, hpt, hIT, hM1, hM2, hOC, hpc, hb4⟩
  have hal : Below W3.heap.size W3 (W3.alloc (.cells #[.string sec, .slice sa sn sc, .slice ta' tn tc', .slice ca' cn cc'] 26)) := (Below.refl _ _).alloc (Nat.le_refl _) _
  have gY := World.alloc_heap_new W3 (.cells #[.string sec, .slice sa sn sc, .slice ta' tn tc', .slice ca' cn cc'] 26)
  have hb5 := hb4.trans (hal.mono hb4.size)
  have hs4 : (W3.alloc (.cells #[.string sec, .slice sa sn sc, .slice ta' tn tc', .slice ca' cn cc'] 26)).heap.size = W3.heap.size + 1 := by simp
  have HOT := hiq (hOT.below hal)
  have HOC := hiq (hOC.below hal)
  have hIC : InB W3.heap.size ca' pc := hOC.inB
  have HPP := hiq (And.intro hpt (And.intro hpc (And.intro hIT hIC)))
  replace gR := (hb5.block _ (by omega)).trans gR
  replace gX := (hb5.block _ (by omega)).trans gX
  replace gO := (hb5.block _ (by omega)).trans gO
  obtain ⟨c0, c1, c2, c3, -⟩ := box_cells4 gX
  obtain ⟨o0, o1, o2, o3, o4⟩ := box_cells5 gO
  have HB5 := hiq (HB3.out.trans (hb5.mono HB3.out.size))
  have HSQ := hiq (HSO.out _ HB5.out)
  have hs3 := hb4.size
  clear HCQ hOT hOC hpt hpc hIT hIC hb4 hb5 hal HSO HB3
  go_wp2_with fail
  generalize W3.alloc (.cells #[.string sec, .slice sa sn sc, .slice ta' tn tc', .slice ca' cn cc'] 26) = W4 at *
  refine HSQ.out.mono ?_
  rintro e W5 ⟨rfl, hb6⟩
  have HB6 := hiq (HB5.out.trans (hb6.mono HB5.out.size))
  have HCQ := hiq (HCO.out _ HB6.out)
  replace c0 := clq hb6 c0; replace c1 := clq hb6 c1; replace c2 := clq hb6 c2; replace c3 := clq hb6 c3; replace o0 := clq hb6 o0; replace o1 := clq hb6 o1; replace o2 := clq hb6 o2; replace o3 := clq hb6 o3; replace o4 := clq hb6 o4
  clear HSQ HCO HB5
  go_wp2_with fail
  refine HCQ.out.mono ?_
  rintro e W6 ⟨rfl, hb7⟩
  have hb8 := hb6.trans (hb7.mono hb6.size)
  have HB8 := hiq (HB6.out.trans (hb7.mono HB6.out.size))
  replace gR := (hb8.block _ (by omega)).trans gR
  replace gX := (hb8.block _ (by omega)).trans gX
  replace gO := (hb8.block _ (by omega)).trans gO
  replace gY := (hb8.block _ (by omega)).trans gY
  replace HOT := hiq (HOT.out.below hb8)
  replace HOC := hiq (HOC.out.below hb8)
  obtain ⟨c0, c1, c2, c3, -⟩ := box_cells4 gX
  obtain ⟨o0, o1, o2, o3, o4⟩ := box_cells5 gO
  obtain ⟨y0, y1, y2, y3, yf⟩ := box_cells4 gY
  have hs6 := hb8.size
  clear HCQ HB6 hb6 hb7 hb8
  have hF0 := HF.out
  rw [hOe.out] at hF0
  obtain ⟨hd2, hmx, hcf, hll⟩ := join_cols hF0 rfl
  obtain ⟨hpt, hpc, hIT, hIC⟩ := HPP.out
  obtain ⟨hnc, hnt⟩ := HNN.out
  have hdn : c + 1 < cn := by omega
  have hal7 : Below W6.heap.size W6 (W6.alloc (.cells #[] 61)) := (Below.refl _ _).alloc (Nat.le_refl _) _
  have hq0 : OwnQ 61 1 encR (W6.alloc (.cells #[] 61)) W6.heap.size (some ⟨W6.heap.size, 0, none⟩) 0 0 [] := OwnQ.lit0 _ _ _ _ _ (Nat.le_refl _)
  have hOC7 := HOC.out.below hal7
  have hOT7 := HOT.out.below hal7
  have gX7 := (hal7.block _ (by omega)).trans gX
  have gO7 := (hal7.block _ (by omega)).trans gO
  have gR7 := (hal7.block _ (by omega)).trans gR
  have gY7 := (hal7.block _ (by omega)).trans gY
  have hs7 : (W6.alloc (.cells #[] 61)).heap.size = W6.heap.size + 1 := by simp
  have hb9 := HB8.out.trans (hal7.mono HB8.out.size)
  have o06 := o0
  clear gX gO gR gY c0 c1 c2 c3 o0 o1 o2 o3 o4 y0 y1 y2 y3 yf HOC HOT HB8 hal7
  obtain ⟨o0, o1, o2, o3, o4⟩ := box_cells5 gO7
  obtain ⟨y0, y1, y2, y3, -⟩ := box_cells4 gY7
  obtain ⟨⟨⟨qa, qn, qk⟩, lc⟩, gC, hp1, -, ea, hgC1, hgC2, dC, fC, hrowc⟩ := hOC7.at_ hcl
  subst ea
  obtain ⟨⟨⟨ua, un, uk⟩, ld⟩, gC', hp2, -, ea, -, -, dD, -, hrowd⟩ := hOC7.at_ hdn
  cases ea
  have hlc : x.row c = lc := by unfold Col.row; rw [<- hpc, List.getElem?_map, hp1]; rfl
  have hld : x.row (c + 1) = ld := by unfold Col.row; rw [<- hpc, List.getElem?_map, hp2]; rfl
  have hmc : lc ∈ x.cols := by rw [<- hlc]; exact hF0.row_mem
  have hmd : ld ∈ x.cols := by rw [<- hld]; unfold Col.row; rw [List.getElem?_eq_getElem hd2]; exact List.getElem_mem hd2
  have hlen : ∀ l ∈ x.cols, s < l.length /\ l.length <= 32 := fun l hl => by
    refine ⟨by rw [hF0.good.mem hl]; exact hF0.ksl, (cols_small hF0.valid hl).1⟩
  have hqn : qn = lc.length := hrowc.len
  have hun : un = ld.length := hrowd.len
  dsimp only at hrowc hrowd
  have hsc : s < qn := by rw [hqn]; exact (hlen lc hmc).1
  have hsd : s < un := by rw [hun]; exact (hlen ld hmd).1
  obtain ⟨uc, gc, -, -, ea, hgc1, hgc2, fgc, vgc⟩ := hrowc.at_ (fun _ => rfl) hsc
  subst ea
  obtain ⟨ud, gd, -, -, ea, hgd1, hgd2, fgd, vgd⟩ := hrowd.at_ (fun _ => rfl) hsd
  subst ea
  have hgcU : gc < W3.heap.size := hIC.2 _ (List.mem_of_getElem? hp1) _ rfl
  have hgCU : gC < W3.heap.size := hIC.1 _ rfl
  have hap1 : gc ≠ gC := fun e => hOC7.2.2 _ (List.mem_of_getElem? hp1) ⟨gc, 0, none⟩ ⟨gC, 0, none⟩ rfl rfl e
  have hqs : qn <= 32 := by rw [hqn]; exact (hlen lc hmc).2
  have hqu : un = qn := by rw [hqn, hun, <- hlc, <- hld, hll]
  have hcol : ∀ l ∈ x.cols, emptyR l = false /\ l.length <= 32 /\ ∀ z ∈ l, I64 z := fun l hl => by
    have := cols_small hF0.valid hl
    exact ⟨full_col hF0.valid hl, this.1, fun z hz => by have := this.2.2 z hz; exact ⟨by omega, by omega⟩⟩
  rw [hlc, hld] at hmx hcf
  -- the columns, however far they are joined
  obtain ⟨PJ, hPJ⟩ : ∃ PJ : Nat -> List (Row × List Int), ∀ J, PJ J = pc.set c ((some ⟨gc, 0, none⟩, qn, qk), jpart lc ld J) := ⟨_, fun _ => rfl⟩
  have hPJ1 : ∀ J, (PJ J).map (·.1) = pc.map (·.1) := fun J => by
    rw [hPJ, List.map_set]
    exact List.ext_getElem? fun i => by
      by_cases e : c = i
      · subst e; rw [List.getElem?_set_self (by rw [List.length_map]; exact (List.getElem?_eq_some_iff.1 hp1).1), List.getElem?_map, hp1]; rfl
      · rw [List.getElem?_set_ne e]
  have hPJ0 : PJ 0 = pc := by
    rw [hPJ]
    exact List.ext_getElem? fun i => by
      by_cases e : c = i
      · subst e; rw [List.getElem?_set_self (List.getElem?_eq_some_iff.1 hp1).1, hp1]; rfl
      · rw [List.getElem?_set_ne e]
  have hPJk : ∀ J k, k ≠ c -> (PJ J)[k]? = pc[k]? := fun J k h => by rw [hPJ, List.getElem?_set_ne (Ne.symm h)]
  have hPJc : ∀ J, (PJ J)[c]? = some ((some ⟨gc, 0, none⟩, qn, qk), jpart lc ld J) := fun J => by rw [hPJ, List.getElem?_set_self (List.getElem?_eq_some_iff.1 hp1).1]
  have hPJs : ∀ (W : World) (J : Nat), J < qn -> 0 <= ent ld J -> OwnC W M (some ⟨gC, 0, none⟩) cn cc' (PJ J) -> OwnC (W.setCell ⟨gc, J, none⟩ (.int .i64 (ent ld J))) M (some ⟨gC, 0, none⟩) cn cc' (PJ (J + 1)) := fun W J hJ h0 hW => by
    have := hW.setAt (hPJc J) one_int J (ent ld J) (.int .i64 (ent ld J)) rfl
    rw [hPJ (J + 1), jpart, (hmx J (by rw [<- hqn]; exact hJ)).1 h0]
    rw [hPJ J, List.set_set] at this
    exact this
  have hPJn : ∀ J, J < qn -> ent ld J < 0 -> PJ (J + 1) = PJ J := fun J hJ h0 => by
    rw [hPJ, hPJ, jpart_keep (by rw [<- hqn]; exact hJ) ((hmx J (by rw [<- hqn]; exact hJ)).2 h0)]
  have hPJI : ∀ J, InB W3.heap.size (some ⟨gC, 0, none⟩) (PJ J) := fun J => by
    refine ⟨fun y hy => by cases hy; exact hgCU, fun p hp y hy => ?_⟩
    rw [hPJ] at hp
    rcases List.mem_or_eq_of_mem_set hp with hp | rfl
    · exact hIC.2 p hp y hy
    · cases hy; exact hgcU
  have hPJe : ((PJ qn).map (·.2)).eraseIdx (c + 1) = opCols x ⟨1, og, ot, oo, ox⟩ s c := by
    rw [<- hcf, hPJ, List.map_set, hpc, hqn, jpart_all]
  have hPJb : ∀ p ∈ PJ qn, p.2.length <= 32 /\ ∀ z ∈ p.2, I64 z := by
    intro p hp
    rw [hPJ] at hp
    rcases List.mem_or_eq_of_mem_set hp with hp | rfl
    · exact (hcol p.2 (by rw [<- hpc]; exact List.mem_map.2 ⟨_, hp, rfl⟩)).2
    · refine ⟨by dsimp only; rw [jpart_len, <- hqn]; exact hqs, fun z hz => ?_⟩
      dsimp only at hz
      rw [hqn, jpart_all] at hz
      obtain ⟨i, -, rfl⟩ := List.mem_map.1 hz
      exact i64_max (i64_ent (hcol lc hmc).2.2 i) (i64_ent (hcol ld hmd).2.2 i)
  have HPJ := hiq (And.intro hPJ1 (And.intro hPJ0 (And.intro hPJk (And.intro hPJc (And.intro hPJs (And.intro hPJn (And.intro hPJI (And.intro hPJe hPJb))))))))
  have HP12 := hiq (And.intro hp1 hp2)
  have HCOL := hiq (And.intro hpc hcol)
  have hC9 : OwnC (W6.alloc (.cells #[] 61)) M (some ⟨gC, 0, none⟩) cn cc' (PJ 0) := by rw [hPJ0]; exact hOC7
  have HC9 := hiq hC9
  have HT9 := hiq hOT7
  have HB11 := hiq hb9
  have HQ9 := hiq hq0
  have hpl : pc.length = cn := hOC7.len.symm
  have HPL := hiq hpl
  have HG := hiq (And.intro gX7 (And.intro gO7 (And.intro gR7 gY7)))
  clear hp1 hp2 hlc hld hmc hmd hlen hqn hun hrowc hrowd fgc vgc fgd vgd gX7 gO7 gR7 gY7 hOC7 hOT7 hq0 hpt hpc hIT hIC hnc hnt hd2 hmx hcf hll hb9 hF0 dC dD hPJ hPJ1 hPJ0 hPJk hPJc hPJs hPJn hPJI hPJe hPJb hcol hC9 hpl fC
  go_wp2_with fail
  obtain ⟨gX9, gO9, gR9, gY9⟩ := HG.out
  generalize W6.alloc (.cells #[] 61) = W9 at *
  clear o06 o0 o1 o2 o3 o4 y0 y1 y2 y3 HG
  obtain ⟨o0, o1, o2, o3, o4⟩ := box_cells5 gO9
  obtain ⟨y0, y1, y2, y3, -⟩ := box_cells4 gY9
  have hwc : IntKind.i64.wrap ((c : Int) + 1) = ((c + 1 : Nat) : Int) := by rw [IntKind.wrap_i64]; omega
  go_loopw [10, 11] (fun t i wr => ∃ (k m : Nat) (a' : Option Addr) (c' : Nat) (rs : List Row) (J : Nat), i = .int .i64 k /\ k <= cn /\ t = .slice a' m c' /\ m <= k /\ Hid ((k <= c + 1 /\ m = k /\ rs = (pc.map (·.1)).take k /\ J = 0) \/ (c + 1 < k /\ rs = ((pc.map (·.1)).take k).eraseIdx (c + 1) /\ J = qn)) /\ Hid (OwnQ 61 1 encR wr W6.heap.size a' m c' rs) /\ Hid (OwnC wr M (some ⟨gC, 0, none⟩) cn cc' (PJ J)) /\ KeepS (fun b => b < W6.heap.size /\ b ≠ gc) W9 wr /\ Below w.heap.size w wr) (fun _ i _ => cn - (intOf i).toNat)
  case atStart => exact ⟨0, 0, some ⟨W6.heap.size, 0, none⟩, 0, [], 0, rfl, Nat.zero_le _, rfl, Nat.le_refl _, .inl ⟨Nat.zero_le _, rfl, by simp, rfl⟩, HQ9, HC9, KeepS.refl _ _, HB11.out⟩
  case round =>
    obtain ⟨k, m, a', c', rs, J, rfl, hk, rfl, hmk, hor, hQ, hC, hK, hb⟩ := hrel
    have gOr := hK.2 _ _ _ _ (by omega) gO9
    have gYr := hK.2 _ _ _ _ (by omega) gY9
    replace o0 := (box_cells5 gOr).1
    replace y3 := (box_cells4 gYr).2.2.2.1
    have hsz := hK.1
    clear gOr gYr
    by_cases hkl : k < cn
    · by_cases hkd : k = c + 1
      · subst hkd
        obtain ⟨rfl, rfl, rfl⟩ : m = c + 1 /\ rs = (pc.map (·.1)).take (c + 1) /\ J = 0 := by
          rcases hor.out with ⟨-, h2, h3, h4⟩ | ⟨h1, -, -⟩
          · exact ⟨h2, h3, h4⟩
          · omega
        have HIn := hiq (And.intro hor.out hmk)
        have hq1 : (pc.map (·.1))[c]? = some (some ⟨gc, 0, none⟩, qn, qk) := by rw [List.getElem?_map, HP12.out.1]; rfl
        have hq2 : (pc.map (·.1))[c + 1]? = some (some ⟨gd, 0, none⟩, un, uk) := by rw [List.getElem?_map, HP12.out.2]; rfl
        obtain ⟨r, gq, q1, -, ea, hgq1, hgq2, -, vL⟩ := hQ.out.at_ (j := c) (fun _ => rfl) (by omega)
        subst ea
        rw [List.getElem?_take_of_lt (by omega), hq1] at q1
        cases q1
        have dL := vL 0 _ rfl
        rw [Nat.mul_one, Nat.add_zero] at dL
        change World.cell? _ _ = some (.slice (some ⟨gc, 0, none⟩) qn qk) at dL
        have hrst : Hid ((pc.map (·.1)).take (c + 1) = ((pc.map (·.1)).take (c + 1 + 1)).eraseIdx (c + 1)) := by
          have hl : ((pc.map (·.1)).take (c + 1)).length = c + 1 := by rw [List.length_take, List.length_map, HPL.out]; omega
          have ht : (pc.map (·.1)).take (c + 1 + 1) = (pc.map (·.1)).take (c + 1) ++ [(some ⟨gd, 0, none⟩, un, uk)] := take_next hq2
          show _ = _
          rw [ht, List.eraseIdx_append_of_length_le (by omega), hl, Nat.sub_self]
          simp
        have HRD : Hid (∀ (W : World) (J : Nat), OwnC W M (some ⟨gC, 0, none⟩) cn cc' (PJ J) -> W.cell? ⟨gC, c + 1, none⟩ = some (.slice (some ⟨gd, 0, none⟩) un uk) /\ (∀ i, i < un -> W.cell? ⟨gd, i, none⟩ = some (.int .i64 (ent ld i))) /\ (∀ i, i < qn -> W.cell? ⟨gc, i, none⟩ = some (.int .i64 (ent (jpart lc ld J) i))) /\ ∀ i, W.frozen? ⟨gc, i, none⟩ = false) := by
          intro W J hW
          obtain ⟨p, g1, t1, -, e1, -, -, t2, -, t3⟩ := hW.at_ (j := c + 1) hkl
          cases e1
          rw [HPJ.out.2.2.1 _ _ (by omega), HP12.out.2] at t1
          cases t1
          obtain ⟨p, g1, t4, -, e1, -, -, -, -, t5⟩ := hW.at_ (j := c) hcl
          cases e1
          rw [HPJ.out.2.2.2.1] at t4
          cases t4
          refine ⟨t2, fun i hi => ?_, fun i hi => ?_, fun i => t5.frozenAt i⟩
          · obtain ⟨g, e, -, -, q, -⟩ := t3.entAt hi
            cases e; exact q
          · obtain ⟨g, e, -, -, q, -⟩ := t5.entAt hi
            cases e; exact q
        have HOR := hiq (And.intro hK hb)
        have hql : gq ≠ gc := by omega
        clear hq1 hq2 vL hor
        have gYr := HOR.out.1.2 _ _ _ _ (by show W3.heap.size < W6.heap.size /\ W3.heap.size ≠ gc; omega) gY9
        have hsz2 : IntKind.i64.wrap ((c + 1 : Nat) : Int) = ((c + 1 : Nat) : Int) := by rw [IntKind.wrap_i64]; omega
        go_wp2_with fail
        go_loopw [13] (fun i wi => ∃ (j : Nat), i = .int .i64 j /\ j <= qn /\ Hid (OwnC wi M (some ⟨gC, 0, none⟩) cn cc' (PJ j)) /\ KeepS (fun b => b ≠ gc) wr wi /\ Below w.heap.size w wi) (fun i _ => qn - (intOf i).toNat)
        case atStart => exact ⟨0, rfl, Nat.zero_le _, hC, KeepS.refl _ _, hb⟩
        case round =>
          obtain ⟨j, rfl, hj, hCi, hKi, hbi⟩ := hrel
          have gYi := hKi.2 _ _ _ _ (by show W3.heap.size ≠ gc; omega) gYr
          replace y3 := (box_cells4 gYi).2.2.2.1
          obtain ⟨dD, vd, vc, fc⟩ := HRD.out wr j hCi.out
          have hsi := hKi.1
          clear gYi dL o0 hK hb
          by_cases hjl : j < qn
          · replace vd := vd j (by omega)
            replace vc := vc j hjl
            replace fc := fc j
            have HKI := hiq (And.intro hKi hbi)
            by_cases h0 : 0 <= ent ld j
            · have hCn := HPJ.out.2.2.2.2.1 wr j hjl h0 hCi.out
              have HCn := hiq hCn
              have HKn : Hid (KeepS (fun b => b ≠ gc) wr (wr.setCell ⟨gc, j, none⟩ (.int .i64 (ent ld j)))) := KeepS.setCell wr (by simp) _
              have HBn : Hid (Below w.heap.size w (wr.setCell ⟨gc, j, none⟩ (.int .i64 (ent ld j)))) := below_setc hbi (by omega) _ _
              clear hCn hKi hbi
              generalize hED : ent ld j = ED at *
              clear hED
              go_wp2_with fail
              go_roundw
              case rel => exact ⟨j + 1, by go_num, by omega, HCn.out, HKI.out.1.trans HKn.out, HBn.out⟩
              case measure => simp [intOf]; omega
            · have hPn : Hid (OwnC wr M (some ⟨gC, 0, none⟩) cn cc' (PJ (j + 1))) := by rw [HPJ.out.2.2.2.2.2.1 j hjl (by omega)]; exact hCi
              clear hKi hbi
              go_wp2
              go_roundw
              case rel => exact ⟨j + 1, by go_num, by omega, hPn, HKI.out.1, HKI.out.2⟩
              case measure => simp [intOf]; omega
          · obtain rfl : qn = j := by omega
            have hQi := hiq (hQ.out.keepS hKi (fun y hy => by cases hy; show gq ≠ gc; omega))
            clear vd vc fc
            go_wp2
            go_roundw
            case rel => exact ⟨c + 1 + 1, c + 1, _, c', _, qn, by go_num, by omega, rfl, by omega, .inr ⟨by omega, hrst.out, rfl⟩, hQi, hCi, HOR.out.1.trans (hKi.mono (fun b h => h.2)), hbi⟩
            case measure => simp [intOf]; omega
      · obtain ⟨⟨⟨ra, rn, rk⟩, l⟩, gC', hp1, hpm, ea, -, -, dC, -, hrow⟩ := hC.out.at_ hkl
        cases ea
        dsimp only at hrow dC
        change World.cell? _ _ = some (.slice ra rn rk) at dC
        have hp3 : pc[k]? = some ((ra, rn, rk), l) := by
          rcases hor.out with ⟨h1, -, -, rfl⟩ | ⟨h1, -, -⟩
          · rw [HPJ.out.2.1] at hp1; exact hp1
          · rw [HPJ.out.2.2.1 _ _ (by omega)] at hp1; exact hp1
        obtain ⟨he, hl1, hl2⟩ := HCOL.out.2 l (by rw [<- HCOL.out.1]; exact List.mem_map.2 ⟨_, List.mem_of_getElem? hp3, rfl⟩)
        have hrn : rn = l.length := hrow.len
        have hnum : Nums (fun _ => True) wr ra rn rk l := hrow.sq (R := rInt) (s := 8) (fun _ => rfl) (by rw [hrn]; omega) (fun _ _ => trivial) (fun z hz => ⟨rfl, hl2 z hz⟩)
        have HEM := hiq (empty_ref _ _ _ _ _ _ hnum)
        rw [he] at HEM
        have hor2 : Hid ((k + 1 <= c + 1 /\ m + 1 = k + 1 /\ rs ++ [(ra, rn, rk)] = (pc.map (·.1)).take (k + 1) /\ J = 0) \/ (c + 1 < k + 1 /\ rs ++ [(ra, rn, rk)] = ((pc.map (·.1)).take (k + 1)).eraseIdx (c + 1) /\ J = qn)) := by
          have hp4 : (pc.map (·.1))[k]? = some (ra, rn, rk) := by rw [List.getElem?_map, hp3]; rfl
          have ht : (pc.map (·.1)).take (k + 1) = (pc.map (·.1)).take k ++ [(ra, rn, rk)] := take_next hp4
          rcases hor.out with ⟨h1, h2, rfl, h4⟩ | ⟨h1, rfl, h4⟩
          · exact .inl ⟨by omega, by omega, ht.symm, h4⟩
          · refine .inr ⟨by omega, ?_, h4⟩
            rw [ht, List.eraseIdx_append_of_lt_length (by rw [List.length_take, List.length_map, HPL.out]; omega)]
        have hal : Below wr.heap.size wr (wr.alloc (.cells #[.slice ra rn rk] 61)) := (Below.refl _ _).alloc (Nat.le_refl _) _
        have HQa := hiq (hQ.out.below hal)
        have HV : Hid (∀ j u, (([(ra, rn, rk)] : List Row).flatMap encR)[j]? = some u -> (wr.alloc (.cells #[.slice ra rn rk] 61)).cell? ((⟨wr.heap.size, 0, none⟩ : Addr).add j) = some u) := fun j u hj => lit_cells (by exact hj)
        have hB9 : W6.heap.size <= (wr.alloc (.cells #[.slice ra rn rk] 61)).heap.size := by have := hal.size; omega
        have hbB : Below W6.heap.size wr (wr.alloc (.cells #[.slice ra rn rk] 61)) := hal.mono (by omega)
        have HI := Tryz.infoInts
        have hkc : ((k : Int) == ((c + 1 : Nat) : Int)) = false := by simp; omega
        clear hal hp1 hpm hrow hl1 hl2 hrn hnum hp3 he hor
        go_wp2_with (first | (go_at_call 45; refine HEM.out.mono ?_; rintro e w' ⟨rfl, rfl⟩) | (at_builtin; refine wpList_appQ (l := rs) (ys := [(ra, rn, rk)]) HI Tryz.underlying24 rfl (by omega) (fun _ => rfl) one_r rfl _ _ rfl rfl rfl HQa.out rfl HV.out (by unfold maxLen; omega) (by omega) hB9 hbB ?_; intro a5 c5 w5 ho5 hb5 hg5 hv5))
        have hk5 : KeepS (fun b => b < W6.heap.size) wr w5 := KeepS.belowB hb5 hb5.size (fun b h => h)
        go_roundw
        case rel => exact ⟨k + 1, m + 1, a5, c5, _, J, by go_num, by omega, rfl, by omega, hor2, ho5, hC.out.keepOn (HPJ.out.2.2.2.2.2.2.1 J) hk5 (fun b h1 h2 => by omega), hK.trans (hk5.mono (fun b h => h.1)), hb.trans (hb5.mono (by omega))⟩
        case measure => simp [intOf]; omega
    · obtain rfl : cn = k := by omega
      obtain ⟨rfl, hrse⟩ : J = qn /\ rs = (pc.map (·.1)).eraseIdx (c + 1) := by
        rcases hor.out with ⟨h1, -, -, -⟩ | ⟨-, h2, h3⟩
        · omega
        · refine ⟨h3, ?_⟩
          rw [h2, List.take_of_length_le (by rw [List.length_map, HPL.out]; omega)]
      subst hrse
      have gYr := hK.2 _ _ _ _ (by omega) gY9
      have gRr := hK.2 _ _ _ _ (by omega) gR9
      have hCk := hC.out
      have hTk := HT9.out.keepOn HPP.out.2.2.1 hK (fun b h1 h2 => by omega)
      have hBk := hb
      have HI9 := hiq (And.intro (HPJ.out.2.2.2.2.2.2.1 J) (And.intro HPJ.out.2.2.2.2.2.2.2.2 HPJ.out.2.2.2.2.2.2.2.1))
      have hKw := hK
      have HPQ := hiq (HPJ.out.1 J)
      generalize PJ J = pc2 at *
      obtain ⟨-, -, -, -, yf⟩ := box_cells4 gYr
      have yf3 := yf 3
      have gYs : (wr.setCell ⟨W3.heap.size, 3, none⟩ (.slice a' m c')).heap[W3.heap.size]? = some (.cells #[.string sec, .slice sa sn sc, .slice ta' tn tc', .slice a' m c'] 26 (0, 0)) := heap_setCell_at' gYr _
      have gRs : (wr.setCell ⟨W3.heap.size, 3, none⟩ (.slice a' m c')).heap[(w.heap.size + 1 + 1)]? = some (.cells #[.string ⟨#[]⟩, .slice none 0 0, .slice none 0 0, .slice none 0 0] 26 (0, 0)) := (heap_setCell_other (by omega) _).trans gRr
      have HRs := hiq gRs
      have hks : KeepS (fun b => b ≠ W3.heap.size) wr (wr.setCell ⟨W3.heap.size, 3, none⟩ (.slice a' m c')) := KeepS.setCell wr (by simp) _
      have HKs := hiq hks
      have HBs := hiq (below_setc hBk (b := W3.heap.size) (by omega) 3 (.slice a' m c'))
      have hss : (wr.setCell ⟨W3.heap.size, 3, none⟩ (.slice a' m c')).heap.size = wr.heap.size := by simp [World.setCell]
      have HCK := hiq hCk
      have HTK := hiq hTk
      obtain ⟨y0, y1, y2, y3, -⟩ := box_cells4 gYs
      obtain ⟨r0, r1, r2, r3, rf⟩ := box_cells4 gRs
      have rf0 := rf 0
      have rf1 := rf 1
      have rf2 := rf 2
      have rf3 := rf 3
      clear yf rf gYr gRr hKw hCk hTk hBk hks gYs gRs o0 o1 o2 o3 o4 gX9 gO9 gR9 gY9
      go_wp2
      have hCs := HCK.out.keepOn HI9.out.1 HKs.out (fun b h1 h2 => by omega)
      have hTs := HTK.out.keepOn HPP.out.2.2.1 HKs.out (fun b h1 h2 => by omega)
      have hQs := hQ.out.keepS HKs.out (fun y hy => by have := (hQ.out.lt y hy).1; omega)
      generalize wr.setCell ⟨W3.heap.size, 3, none⟩ (.slice a' m c') = WS at *
      obtain ⟨r0, r1, r2, r3, -⟩ := box_cells4 (put4_at HRs.out (.string sec) (.slice sa sn sc) (.slice ta' tn tc') (.slice a' m c'))
      have hbf : Below w.heap.size w (put4 WS (w.heap.size + 1 + 1) (.string sec) (.slice sa sn sc) (.slice ta' tn tc') (.slice a' m c')) := put4_below HBs.out (by omega) _ _ _ _
      have hkf : KeepS (fun b => W2.heap.size <= b) WS (put4 WS (w.heap.size + 1 + 1) (.string sec) (.slice sa sn sc) (.slice ta' tn tc') (.slice a' m c')) := put4_keep (by omega) _ _ _ _
      have hTF := hTs.keepS hkf
      have hCF := hCs.keepS (hkf.mono (fun b hb => by omega))
      have hQF := hQs.keepS (hkf.mono (S' := fun b => W6.heap.size <= b) (fun b hb => by omega)) (fun y hy => (hQs.lt y hy).1)
      change bodyPost _ _ _ _ _ (put4 WS (w.heap.size + 1 + 1) (.string sec) (.slice sa sn sc) (.slice ta' tn tc') (.slice a' m c'))
      generalize put4 WS (w.heap.size + 1 + 1) (.string sec) (.slice sa sn sc) (.slice ta' tn tc') (.slice a' m c') = WF at *
      refine bodyPost_ret (v := .tuple #[.agg #[.string sec, .slice sa sn sc, .slice ta' tn tc', .slice a' m c'], .int .i64 0]) (by simp [results, Tryz.results15, go_sem, r0, r1, r2, r3]) rfl ⟨⟨sec, sa, sn, sc, ta', tn, tc', a', m, c'⟩, rfl, ?_, hbf⟩
      rw [<- HOA.out]
      have hxh := HH.out
      rw [hVe.out] at hxh
      have hF := HF.out
      rw [hOe.out] at hF ⊢
      have hmap : pt.map (·.2) = opToks x ⟨1, og, ot, oo, ox⟩ s := by
        unfold opToks
        rw [if_neg (by show ¬ (1 : Int) = 4; omega)]; exact HPP.out.1
      have hrows : ∀ p ∈ pt, p.2.length * 80 <= 140737488355328 /\ ∀ z ∈ p.2, rTok (fun b => S b \/ w.heap.size <= b) WF z.cells z := by
        intro p hp
        have hm : p.2 ∈ x.toks := by rw [<- HPP.out.1]; exact List.mem_map.2 ⟨_, hp, rfl⟩
        have hl := ((err_iff.1 hF.valid).1.toks p.2 hm).1
        refine ⟨by omega, fun z hz => ⟨rfl, ?_⟩⟩
        obtain ⟨j, hj, e⟩ := List.getElem_of_mem hm
        obtain ⟨r, b, off, a9, n9, c9, h1, -, -, -, -, h2, -⟩ := hxh.2.2.2.1.row (j := j) (by rw [hxh.2.2.2.1.len]; exact hj)
        rw [List.getElem?_eq_getElem hj, e] at h1
        cases h1
        exact h2.okTok z hz
      have hTS := hTF.sq (R := rTok) (S := fun b => S b \/ w.heap.size <= b) (s := 80) tok_len (by omega) (fun b hb _ => .inr (by omega)) hrows
      rw [hmap] at hTS
      refine refd_reads (B := W6.heap.size) hF hxh.1 hxh.2.1 ((hxh.2.2.1.below rStr_ok hbf).mono rStr_ok (fun b hb _ => .inl hb)) hTS (fun b hb => .inr (by omega)) (ps := pc2.eraseIdx (c + 1)) (by rw [map_erase, HPQ.out]; exact hQF) (fun p hp => ?_) (by rw [<- HI9.out.2.2, map_erase])
      have hp := List.mem_of_mem_eraseIdx hp
      obtain ⟨hl1, hl2⟩ := HI9.out.2.1 p hp
      have ho := hCF.2.1.1 p hp
      exact ho.sq (R := rInt) (s := 8) (fun _ => rfl) (by rw [ho.len]; omega) (fun y hy => .inr (by have := (ho.lt y hy).1; omega)) (fun z hz => ⟨rfl, hl2 z hz⟩)
end Go.Proofs.YtbdgmgddliploaaGreatDoor
