/- Joined: IAwx, IGri. -/
import Derived.Test.YtlbcmeebcfalpaaGreatDoorP29
import Derived.Test.YtlbcmeebcfalpaaGreatDoorP30
set_option linter.unusedVariables false
set_option linter.unusedSimpArgs false
set_option maxRecDepth 100000
set_option maxHeartbeats 16000000
namespace Go.Proofs.YtlbcmeebcfalpaaGreatDoor
open Go.RowKit

theorem one_new {w V : World} (hb : Below w.heap.size w V) : ∃ WF, StL (V.heap.size + 1 + 1) (oneEd V.heap.size (V.heap.size + 1)).cells (((V.alloc (.cells #[.int .i64 1, .string ⟨#[100, 101]⟩, .int .i64 0, .slice none 0 0] 64)).alloc (.cells #[.string ⟨#[65]⟩, .slice (some ⟨V.heap.size, 0, none⟩) 1 1] 66)).alloc (.cells (LT.zero .edi).toArray 40)) WF /\ OneIn w V.heap.size WF := by
  obtain ⟨W1, hW1⟩ : ∃ W1, W1 = V.alloc (.cells #[.int .i64 1, .string ⟨#[100, 101]⟩, .int .i64 0, .slice none 0 0] 64) := ⟨_, rfl⟩
  obtain ⟨W2, hW2⟩ : ∃ W2, W2 = W1.alloc (.cells #[.string ⟨#[65]⟩, .slice (some ⟨V.heap.size, 0, none⟩) 1 1] 66) := ⟨_, rfl⟩
  obtain ⟨W3, hW3⟩ : ∃ W3, W3 = W2.alloc (.cells (LT.zero .edi).toArray 40) := ⟨_, rfl⟩
  have s1 : W1.heap.size = V.heap.size + 1 := by rw [hW1]; simp
  have s2 : W2.heap.size = V.heap.size + 1 + 1 := by rw [hW2]; simp [s1]
  have s3 : W3.heap.size = V.heap.size + 1 + 1 + 1 := by rw [hW3]; simp [s2]
  have n1 : W1.heap[V.heap.size]? = some (.cells #[.int .i64 1, .string ⟨#[100, 101]⟩, .int .i64 0, .slice none 0 0] 64 (0, 0)) := by rw [hW1]; exact World.alloc_heap_new _ _
  have n2 : W2.heap[V.heap.size]? = some (.cells #[.int .i64 1, .string ⟨#[100, 101]⟩, .int .i64 0, .slice none 0 0] 64 (0, 0)) := by rw [hW2]; exact alloc_heap_some n1
  have n3 : W3.heap[V.heap.size]? = some (.cells #[.int .i64 1, .string ⟨#[100, 101]⟩, .int .i64 0, .slice none 0 0] 64 (0, 0)) := by rw [hW3]; exact alloc_heap_some n2
  have w2 : W2.heap[V.heap.size + 1]? = some (.cells #[.string ⟨#[65]⟩, .slice (some ⟨V.heap.size, 0, none⟩) 1 1] 66 (0, 0)) := by rw [hW2, <- s1]; exact World.alloc_heap_new _ _
  have w3 : W3.heap[V.heap.size + 1]? = some (.cells #[.string ⟨#[65]⟩, .slice (some ⟨V.heap.size, 0, none⟩) 1 1] 66 (0, 0)) := by rw [hW3]; exact alloc_heap_some w2
  have z3 : W3.heap[V.heap.size + 1 + 1]? = some (.cells (LT.zero .edi).toArray 40 (0, 0)) := by rw [hW3, <- s2]; exact World.alloc_heap_new _ _
  have b1 : Below w.heap.size w W1 := by rw [hW1]; exact hb.alloc hb.size _
  have b2 : Below w.heap.size w W2 := by rw [hW2]; exact b1.alloc b1.size _
  have b3 : Below w.heap.size w W3 := by rw [hW3]; exact b2.alloc b2.size _
  have hs := hb.size
  rw [<- hW1, <- hW2, <- hW3]
  obtain ⟨hl, hl2, h1, hval⟩ := LT.len .edi (oneEd_has V.heap.size (V.heap.size + 1))
  have hx := putL_exc (V.heap.size + 1 + 1) (oneEd V.heap.size (V.heap.size + 1)).cells 0 W3
  exact ⟨_, run_putL _ 0 _ _ z3 (by show 0 + _ <= _; rw [hl]; simp [LT.zero]) h1, put_below b3 (by omega) _, hs, hx.heap (by omega) n3, hx.heap (by omega) w3, putL_at _ (by rw [hl]; simp [LT.zero]) z3⟩
theorem back_new {V2 V : World} {d : Dv} (hT : Has tyEdition d) (hrd : RdD (NewB V2 V) V d) : ∃ WF, StL V.heap.size d.cells (V.alloc (.cells (LT.zero .edi).toArray 40)) WF /\ Below V.heap.size V WF /\ WF.heap[V.heap.size]? = some (.cells d.cells.toArray 40 (0, 0)) /\ RdD (fun b => b < V.heap.size) WF d := by
  obtain ⟨hl, hl2, h1, hval⟩ := LT.len .edi hT
  have z3 := World.alloc_heap_new V (.cells (LT.zero .edi).toArray 40)
  have b3 : Below V.heap.size V (V.alloc (.cells (LT.zero .edi).toArray 40)) := (Below.refl _ _).alloc (Nat.le_refl _) _
  have hb := put_below b3 (Nat.le_refl _) d.cells
  refine ⟨_, run_putL _ 0 _ _ z3 (by show 0 + _ <= _; rw [hl]; simp [LT.zero]) h1, hb, putL_at _ (by rw [hl]; simp [LT.zero]) z3, (hrd.below hb).mono fun b hb => hb.2⟩
theorem awake_any {w : World} (hE : Env w) : Calls Tryz.prog 10 #[] w fun e w' => e = .returned (.bool true) /\ Below w.heap.size w w' := by
  obtain ⟨ZB, OB, hF⟩ := awkF hE
  have HP0 := hiq hF.p0
  have HFF := hiq hF
  dsimp only [LT.zero] at HP0
  clear hE hF
  go_enter Tryz.func10, Tryz.ntmps10
  generalize hR2 : Code.region 2 _ _ = C2
  generalize hR3 : Code.region 3 _ _ = C3
  generalize hR4 : Code.region 4 _ _ = C4
  generalize hR5 : Code.region 5 _ _ = C5
  have HR3 := hiq hR3
  have HR4 := hiq hR4
  have HR5 := hiq hR5
  clear hR3 hR4 hR5
  go_wp2_with fail
  refine (HP0.out _ (Below.refl _ _)).mono ?_
  rintro e V1 ⟨rfl, hb1⟩
  go_wp2_with fail
  subst hR2
  refine wp_region_cut [5, 1] ?_
  refine wpCut_cons ?_
  simp only [List.take_succ_cons, List.take_zero, List.drop_succ_cons, List.drop_zero]
  go_wp2_with fail
  refine wpCut_cons ?_
  simp only [List.take_succ_cons, List.take_zero, List.drop_succ_cons, List.drop_zero]
  go_wp2_with fail
  obtain ⟨WF, hst, hin⟩ := one_new hb1
  rw [one_cells] at hst
  obtain ⟨A1, hA1⟩ : ∃ A1, A1 = (oneEd V1.heap.size (V1.heap.size + 1)).cells.toArray := ⟨_, rfl⟩
  have HIN := hiq hin
  have HST := hiq hst
  clear hst hin
  refine wpCut_nil ?_
  go_wp2_with ((with_reducible refine wpList_stL HST.out rfl _ _ _ rfl ?_ ?_ ?_ ?_); rfl; rfl; kernel_rfl)
  have HP1 : Hid (∀ W, OneIn w V1.heap.size W -> Calls Tryz.prog 16 #[.agg A1] W fun e V' => e = .returned (.tuple #[.string ⟨OB.toArray⟩, .int .i64 0]) /\ Below W.heap.size W V') := fun W h => by rw [hA1]; exact HFF.out.p1 W _ h
  have HL1 : Hid (∀ W, OneIn w V1.heap.size W -> LdV (V1.heap.size + 1 + 1) 40 (.agg A1) W) := fun W h => by rw [hA1]; exact LT.ld .edi rfl (LT.len .edi (oneEd_has _ _)).1 h.box
  have HSZ : Hid (∀ W, OneIn w V1.heap.size W -> Calls Tryz.prog 18 #[.agg A1, .agg #[.string ⟨#[]⟩, .slice none 0 0, .slice none 0 0, .int .i64 0, .int .i64 0, .int .i64 0, .int .i64 0, .slice none 0 0, .slice none 0 0, .slice none 0 0, .int .i64 0, .slice none 0 0, .int .i64 0, .int .i64 0, .int .i64 0, .int .i64 0, .int .i64 0, .int .i64 0, .int .i64 0, .int .i64 0, .int .i64 0, .int .i64 0, .int .i64 0, .slice none 0 0, .slice none 0 0]] W fun e V' => e = .returned (.bool false) /\ Below W.heap.size W V') := fun W h => by rw [hA1]; exact HFF.out.sz W _ h
  have HSS : Hid (∀ (W : World) (d : Dv) (S : Nat -> Prop), OneIn w V1.heap.size W -> Has tyEdition d -> RdD S W d -> (∀ b, S b -> b < W.heap.size) -> d.toV = oneV -> (Calls Tryz.prog 15 #[.agg d.cells.toArray, .agg A1] W fun e V' => e = .returned (.bool true) /\ Below W.heap.size W V') /\ Calls Tryz.prog 18 #[.agg d.cells.toArray, .agg A1] W fun e V' => e = .returned (.bool true) /\ Below W.heap.size W V') := fun W d S h => by rw [hA1]; exact HFF.out.s W _ d S h
  have HF1 : Hid (∀ W, Calls Tryz.prog 28 #[.string ⟨ZB.toArray⟩, .string ⟨pre1.toArray⟩] W fun e w' => e = .returned (.bool true) /\ w' = W) := fun W => by
    have := Tryz.strings_HasPrefix ⟨ZB.toArray⟩ ⟨pre1.toArray⟩ W
    rw [show (⟨ZB.toArray⟩ : ByteArray).data.toList = ZB from rfl, show (⟨pre1.toArray⟩ : ByteArray).data.toList = pre1 from rfl, HFF.out.z] at this
    exact this
  have HF2 : Hid (∀ W, Calls Tryz.prog 28 #[.string ⟨OB.toArray⟩, .string ⟨pre2.toArray⟩] W fun e w' => e = .returned (.bool true) /\ w' = W) := fun W => by
    have := Tryz.strings_HasPrefix ⟨OB.toArray⟩ ⟨pre2.toArray⟩ W
    rw [show (⟨OB.toArray⟩ : ByteArray).data.toList = OB from rfl, show (⟨pre2.toArray⟩ : ByteArray).data.toList = pre2 from rfl, HFF.out.o] at this
    exact this
  have HPA := hiq HFF.out.pa
  have e1 : (#[.string ⟨#[97]⟩, .slice (some ⟨V1.heap.size + 1, 0, none⟩) 1 1, .slice none 0 0, .int .i64 0, .int .i64 0, .int .i64 0, .int .i64 0, .slice none 0 0, .slice none 0 0, .slice none 0 0, .int .i64 7, .slice none 0 0, .int .i64 0, .int .i64 0, .int .i64 0, .int .i64 0, .int .i64 0, .int .i64 0, .int .i64 0, .int .i64 0, .int .i64 0, .int .i64 0, .int .i64 0, .slice none 0 0, .slice none 0 0] : Array Value) = A1 := by rw [hA1, one_cells]
  rw [e1]
  clear e1 hA1 HFF HST hb1 HP0
  generalize V1.heap.size = p at *
  rw [<- HR3.out]
  go_wp2_with (first | ((with_reducible refine wpList_ldL (HL1.out _ HIN.out) rfl _ rfl ?_ ?_); rfl) | fail)
  refine (HP1.out _ HIN.out).mono ?_
  rintro e V2 ⟨rfl, hb2⟩
  have HIN2 := hiq (HIN.out.next hb2)
  clear hb2 HIN
  go_wp2_with fail
  rw [<- HR4.out]
  go_wp2_with fail
  refine (HPA.out _ HIN2.out.below).mono ?_
  rintro e V3 ⟨d, rfl, hT, hrd, hv, hb3⟩
  have HIN3 := hiq (HIN2.out.next hb3)
  obtain ⟨WG, hst2, hbG, hboxG, hrG⟩ := back_new hT hrd
  have HIN4 := hiq (HIN3.out.next hbG)
  have HST2 := hiq hst2
  have HLD2 : Hid (∀ W, Below WG.heap.size WG W -> LdV V3.heap.size 40 (.agg d.cells.toArray) W) := fun W hW => LT.ld .edi rfl (LT.len .edi hT).1 ((hW.block _ (Array.getElem?_eq_some_iff.1 hboxG).1).trans hboxG)
  have HSM : Hid (∀ W, Below WG.heap.size WG W -> (Calls Tryz.prog 15 #[.agg d.cells.toArray, .agg A1] W fun e V' => e = .returned (.bool true) /\ Below W.heap.size W V') /\ Calls Tryz.prog 18 #[.agg d.cells.toArray, .agg A1] W fun e V' => e = .returned (.bool true) /\ Below W.heap.size W V') := fun W hW => HSS.out W d _ (HIN4.out.next hW) hT (hrG.below hW) (fun b (hb : b < V3.heap.size) => by have := hbG.size; have := hW.size; omega) hv
  have HZZ : Hid ((Tryz.prog.info? 40).map (·.size) = some d.cells.length) := by
    obtain ⟨i0, ei, ez0, ez1, ez2⟩ := info_parts (LT.info .edi)
    show _ = _
    rw [show 40 = LT.tid .edi from rfl, ei]; simp [ez1, (LT.len .edi hT).1]
  dsimp only [LT.zero] at HST2
  clear hst2 hbG hboxG hrG hT hrd hv hb3 HSS HPA HIN2 HP1
  generalize d.cells = DC at *
  go_wp2_with ((with_reducible refine wpList_stL HST2.out rfl _ _ _ rfl ?_ ?_ ?_ ?_); rfl; rfl; exact HZZ.out)
  rw [<- HR5.out]
  clear HR3 HR4 HR5 HST2
  go_wp2_with fail
  dsimp only [pre1, pre2] at HF1 HF2
  refine (HF1.out _).mono ?_
  rintro e W' ⟨rfl, hw⟩
  obtain rfl := hw.symm
  clear hw
  go_wp2_with fail
  refine (HF2.out _).mono ?_
  rintro e W' ⟨rfl, hw⟩
  obtain rfl := hw.symm
  clear hw HF1 HF2
  have HB0 : Hid (Below WG.heap.size WG WG) := Below.refl _ _
  go_wp2_with (first | ((with_reducible refine wpList_ldG (HLD2.out _ HB0.out) _ rfl ?_ ?_ ?_); (first | rfl | (simp [Region.wanted, yielded]; done)); rfl) | ((with_reducible refine wpList_ldG (HL1.out _ HIN4.out) _ rfl ?_ ?_ ?_); (first | rfl | (simp [Region.wanted, yielded]; done)); rfl) | fail)
  refine (HSM.out _ HB0.out).1.mono ?_
  rintro e W5 ⟨rfl, hb5⟩
  have HB5 := hiq hb5
  have HIN5 := hiq (HIN4.out.next hb5)
  clear hb5
  go_wp2_with (first | ((with_reducible refine wpList_ldG (HLD2.out _ HB5.out) _ rfl ?_ ?_ ?_); (first | rfl | (simp [Region.wanted, yielded]; done)); rfl) | ((with_reducible refine wpList_ldG (HL1.out _ HIN5.out) _ rfl ?_ ?_ ?_); (first | rfl | (simp [Region.wanted, yielded]; done)); rfl) | fail)
  refine (HSM.out _ HB5.out).2.mono ?_
  rintro e W6 ⟨rfl, hb6⟩
  have HIN6 := hiq (HIN5.out.next hb6)
  clear hb6
  go_wp2_with (first | ((with_reducible refine wpList_ldG (HL1.out _ HIN6.out) _ rfl ?_ ?_ ?_); (first | rfl | (simp [Region.wanted, yielded]; done)); rfl) | fail)
  refine (HSZ.out _ HIN6.out).mono ?_
  rintro e W7 ⟨rfl, hb7⟩
  have HIN7 := hiq (HIN6.out.next hb7)
  clear hb7
  go_wp2
  go_ret
  exact ⟨rfl, HIN7.out.below⟩
end Go.Proofs.YtlbcmeebcfalpaaGreatDoor
namespace Go.Proofs.YtlbcmeebcfalpaaGreatDoor
open Go.RowKit

theorem sm_token {d : Dv} (h : Has tyToken d) : Sm d := by
  obtain ⟨y0, y1, y2, y3, y4, y5, rfl⟩ := inv_Token h
  refine sm_struc.2 fun x hx => ?_
  simp only [List.mem_cons, List.not_mem_nil, or_false] at hx
  rcases hx with rfl | rfl | rfl | rfl | rfl
  · trivial
  · trivial
  · exact sm_struc.2 fun y hy => by
      simp only [List.mem_cons, List.not_mem_nil, or_false] at hy
      rcases hy with rfl | rfl <;> trivial
  · trivial
  · trivial
theorem GreatInput_any {d : Dv} (hT : Has tyInput d) {S : Nat -> Prop} {w : World} (hr : RdD S w d) (hS : ∀ b, S b -> b < w.heap.size) : Calls Tryz.prog 23 #[d.val] w fun e w' => ∃ g : Bool, e = .returned (.bool g) /\ (g = false -> Sm d) /\ Below w.heap.size w w' := by
  have hT2 := hT
  obtain ⟨y0, sa, sc, sl, wa, wc, wl, c0, c1, c2, c3, ua, uc, ul, ga, gc, gl, pa, pc, pl, y7, oa, oc, ol, ba, bc, bl, da, dc, dl, y11, s0, s1, s2, s3, s4, s5, s6, s7, s8, s9, s10, qa, qc, ql, ta, tc, tl, rfl, hsg, hw, hu, hg, hp, hop, hbo, hde, hq, ht⟩ := inv_Input hT
  have hb0 : Below w.heap.size w (w.alloc (.cells #[.string y0, .slice sa sl.length sc, .slice wa wl.length wc, .int .i64 c0, .int .i64 c1, .int .i64 c2, .int .i64 c3, .slice ua ul.length uc, .slice ga gl.length gc, .slice pa pl.length pc, .int .i64 y7, .slice oa ol.length oc, .slice ba bl.length bc, .slice da dl.length dc, .string y11, .int .i64 s0, .int .i64 s1, .int .i64 s2, .int .i64 s3, .int .i64 s4, .int .i64 s5, .int .i64 s6, .int .i64 s7, .int .i64 s8, .int .i64 s9, .int .i64 s10, .slice qa ql.length qc, .slice ta tl.length tc] 58)) := (Below.refl _ _).alloc (Nat.le_refl _) _
  have hb1 : Below w.heap.size w ((w.alloc (.cells #[.string y0, .slice sa sl.length sc, .slice wa wl.length wc, .int .i64 c0, .int .i64 c1, .int .i64 c2, .int .i64 c3, .slice ua ul.length uc, .slice ga gl.length gc, .slice pa pl.length pc, .int .i64 y7, .slice oa ol.length oc, .slice ba bl.length bc, .slice da dl.length dc, .string y11, .int .i64 s0, .int .i64 s1, .int .i64 s2, .int .i64 s3, .int .i64 s4, .int .i64 s5, .int .i64 s6, .int .i64 s7, .int .i64 s8, .int .i64 s9, .int .i64 s10, .slice qa ql.length qc, .slice ta tl.length tc] 58)).alloc (.cells #[.int .i64 4000] 82)) := hb0.alloc hb0.size _
  have he := alloc_heap_some (o := .cells #[.int .i64 4000] 82) (World.alloc_heap_new w (.cells #[.string y0, .slice sa sl.length sc, .slice wa wl.length wc, .int .i64 c0, .int .i64 c1, .int .i64 c2, .int .i64 c3, .slice ua ul.length uc, .slice ga gl.length gc, .slice pa pl.length pc, .int .i64 y7, .slice oa ol.length oc, .slice ba bl.length bc, .slice da dl.length dc, .string y11, .int .i64 s0, .int .i64 s1, .int .i64 s2, .int .i64 s3, .int .i64 s4, .int .i64 s5, .int .i64 s6, .int .i64 s7, .int .i64 s8, .int .i64 s9, .int .i64 s10, .slice qa ql.length qc, .slice ta tl.length tc] 58))
  have hpt : Pts ((w.alloc (.cells #[.string y0, .slice sa sl.length sc, .slice wa wl.length wc, .int .i64 c0, .int .i64 c1, .int .i64 c2, .int .i64 c3, .slice ua ul.length uc, .slice ga gl.length gc, .slice pa pl.length pc, .int .i64 y7, .slice oa ol.length oc, .slice ba bl.length bc, .slice da dl.length dc, .string y11, .int .i64 s0, .int .i64 s1, .int .i64 s2, .int .i64 s3, .int .i64 s4, .int .i64 s5, .int .i64 s6, .int .i64 s7, .int .i64 s8, .int .i64 s9, .int .i64 s10, .slice qa ql.length qc, .slice ta tl.length tc] 58)).alloc (.cells #[.int .i64 4000] 82)) (w.heap.size + 1) 4000 := by
    have := World.alloc_heap_new (w.alloc (.cells #[.string y0, .slice sa sl.length sc, .slice wa wl.length wc, .int .i64 c0, .int .i64 c1, .int .i64 c2, .int .i64 c3, .slice ua ul.length uc, .slice ga gl.length gc, .slice pa pl.length pc, .int .i64 y7, .slice oa ol.length oc, .slice ba bl.length bc, .slice da dl.length dc, .string y11, .int .i64 s0, .int .i64 s1, .int .i64 s2, .int .i64 s3, .int .i64 s4, .int .i64 s5, .int .i64 s6, .int .i64 s7, .int .i64 s8, .int .i64 s9, .int .i64 s10, .slice qa ql.length qc, .slice ta tl.length tc] 58)) (.cells #[.int .i64 4000] 82)
    unfold Pts
    simpa using this
  have hs1 : ((w.alloc (.cells #[.string y0, .slice sa sl.length sc, .slice wa wl.length wc, .int .i64 c0, .int .i64 c1, .int .i64 c2, .int .i64 c3, .slice ua ul.length uc, .slice ga gl.length gc, .slice pa pl.length pc, .int .i64 y7, .slice oa ol.length oc, .slice ba bl.length bc, .slice da dl.length dc, .string y11, .int .i64 s0, .int .i64 s1, .int .i64 s2, .int .i64 s3, .int .i64 s4, .int .i64 s5, .int .i64 s6, .int .i64 s7, .int .i64 s8, .int .i64 s9, .int .i64 s10, .slice qa ql.length qc, .slice ta tl.length tc] 58)).alloc (.cells #[.int .i64 4000] 82)).heap.size = w.heap.size + 2 := by simp
  have hrs := rdD_struc.1 hr
  have i1 := (rdD_list.1 (hrs _ (List.mem_of_getElem? (i := 1) rfl))).below hb1
  have i2 := (rdD_list.1 (hrs _ (List.mem_of_getElem? (i := 2) rfl))).below hb1
  have i4 := (rdD_list.1 (hrs _ (List.mem_of_getElem? (i := 4) rfl))).below hb1
  have i5 := (rdD_list.1 (hrs _ (List.mem_of_getElem? (i := 5) rfl))).below hb1
  have i6 := (rdD_list.1 (hrs _ (List.mem_of_getElem? (i := 6) rfl))).below hb1
  have n8 := (rdD_list.1 (hrs _ (List.mem_of_getElem? (i := 8) rfl))).2.2.1
  have n9 := (rdD_list.1 (hrs _ (List.mem_of_getElem? (i := 9) rfl))).2.2.1
  have n10 := (rdD_list.1 (hrs _ (List.mem_of_getElem? (i := 10) rfl))).2.2.1
  have hst := rdD_struc.1 (hrs _ (List.mem_of_getElem? (i := 12) rfl))
  have i11 := (rdD_list.1 (hst _ (List.mem_of_getElem? (i := 11) rfl))).2.2.1
  have i12 := (rdD_list.1 (hst _ (List.mem_of_getElem? (i := 12) rfl))).2.2.1
  have n1 := i1.2.2.1
  have n2 := i2.2.2.1
  have HA := hiq (add_any (w.heap.size + 1) 4000 sl.length ((w.alloc (.cells #[.string y0, .slice sa sl.length sc, .slice wa wl.length wc, .int .i64 c0, .int .i64 c1, .int .i64 c2, .int .i64 c3, .slice ua ul.length uc, .slice ga gl.length gc, .slice pa pl.length pc, .int .i64 y7, .slice oa ol.length oc, .slice ba bl.length bc, .slice da dl.length dc, .string y11, .int .i64 s0, .int .i64 s1, .int .i64 s2, .int .i64 s3, .int .i64 s4, .int .i64 s5, .int .i64 s6, .int .i64 s7, .int .i64 s8, .int .i64 s9, .int .i64 s10, .slice qa ql.length qc, .slice ta tl.length tc] 58)).alloc (.cells #[.int .i64 4000] 82)) hpt (by omega) (by omega) (by omega))
  have HI2 := hiq i2
  have HI4 := hiq i4
  have HI5 := hiq i5
  have HI6 := hiq i6
  have HE := hiq he
  have HS1 := hiq hs1
  have HB := hiq hb1
  have HS : Hid (∀ b, S b -> b ≠ w.heap.size + 1) := fun b hb => by have := hS b hb; omega
  have HSL := hiq hS
  have HR := hiq hr
  have HT2 := hiq hT2
  have HSG := hiq hsg
  have HW := hiq hw
  have HU := hiq hu
  have HG := hiq hg
  have HPA := hiq hp
  have HOP := hiq hop
  have HBO := hiq hbo
  have HDE := hiq hde
  have HQ := hiq hq
  have HTL := hiq ht
  have x1 := cell_box he 1 rfl
  change Calls _ _ #[.agg #[.string y0, .slice sa sl.length sc, .slice wa wl.length wc, .int .i64 c0, .int .i64 c1, .int .i64 c2, .int .i64 c3, .slice ua ul.length uc, .slice ga gl.length gc, .slice pa pl.length pc, .int .i64 y7, .slice oa ol.length oc, .slice ba bl.length bc, .slice da dl.length dc, .string y11, .int .i64 s0, .int .i64 s1, .int .i64 s2, .int .i64 s3, .int .i64 s4, .int .i64 s5, .int .i64 s6, .int .i64 s7, .int .i64 s8, .int .i64 s9, .int .i64 s10, .slice qa ql.length qc, .slice ta tl.length tc]] _ _
  clear hb0 hb1 he hpt hs1 hrs i1 i2 i4 i5 i6 hst hr hS hT hT2 hsg hw hu hg hp hop hbo hde hq ht
  go_enter Tryz.func23, Tryz.ntmps23
  go_wp2_with fail
  refine HA.out.mono ?_
  generalize ((w.alloc (.cells #[.string y0, .slice sa sl.length sc, .slice wa wl.length wc, .int .i64 c0, .int .i64 c1, .int .i64 c2, .int .i64 c3, .slice ua ul.length uc, .slice ga gl.length gc, .slice pa pl.length pc, .int .i64 y7, .slice oa ol.length oc, .slice ba bl.length bc, .slice da dl.length dc, .string y11, .int .i64 s0, .int .i64 s1, .int .i64 s2, .int .i64 s3, .int .i64 s4, .int .i64 s5, .int .i64 s6, .int .i64 s7, .int .i64 s8, .int .i64 s9, .int .i64 s10, .slice qa ql.length qc, .slice ta tl.length tc] 58)).alloc (.cells #[.int .i64 4000] 82)) = W1 at *
  rintro e V0 ⟨rfl, lf0, hp0, hle0, hlo0, hP0, hE0⟩
  have HP0 := hiq hP0
  have HE0 := hiq hE0
  have he := HE0.out.heap (by show ¬ w.heap.size = w.heap.size + 1; omega) HE.out
  have x2 := cell_box he 2 rfl
  have HA1 := hiq (add_any (w.heap.size + 1) lf0 wl.length V0 hp0 hlo0 (by omega) (by omega))
  clear hP0 hE0 HA x1 he hp0
  go_wp2_with fail
  refine HA1.out.mono ?_
  rintro e V1 ⟨rfl, lf1, hp1, hle1, hlo1, hP1, hE1⟩
  have HP1 := hiq hP1
  have HE1 := hiq (HE0.out.trans hE1)
  clear hP1 hE1 HA1 x2
  go_wp2_with fail
  go_loopw [4] (fun i wr => ∃ (j : Nat) (lf : Int), i = .int .i64 (j : Int) /\ j <= wl.length /\ Pts wr (w.heap.size + 1) lf /\ lf <= lf1 /\ -5000 <= lf /\ Hid (0 <= lf -> ∀ k d, k < j -> wl[k]? = some d -> Sm d) /\ Exc (One (w.heap.size + 1)) W1 wr) (fun i _ => wl.length - (intOf i).toNat)
  case atStart => exact ⟨0, lf1, rfl, Nat.zero_le _, hp1, Int.le_refl _, hlo1, (fun _ k d hk => by omega), HE1.out⟩
  case round =>
    clear hp1
    obtain ⟨j, lf, rfl, hj, hpw, hlf, hlo, hsm, hE⟩ := hrel
    obtain ⟨x0, f0⟩ := hpw.cells
    have he := hE.heap (by show ¬ w.heap.size = w.heap.size + 1; omega) HE.out
    have x2 := cell_box he 2 rfl
    by_cases hjn : j < wl.length /\ 0 <= lf
    · obtain ⟨hjn, h0⟩ := hjn
      obtain ⟨d, bb, off, hd, hmem, rfl, hSb, hat, hrd⟩ := (hE.items HI2.out HS.out).get hjn
      obtain ⟨za, zc, zl, rfl, hzl⟩ := (HW.out _ hmem).list_inv
      have v0 := hat 0 _ rfl
      rw [Nat.add_zero, Nat.mul_one] at v0
      have hrl := (rdD_list.1 hrd).2.2.1
      have HM := hiq (add_any (w.heap.size + 1) lf zl.length wr hpw hlo (by omega) (by omega))
      have HEE := hiq hE
      have HSM := hiq (hsm.out h0)
      have HD := hiq hd
      have HZL := hiq hzl
      clear hat hrd hrl hE hsm hmem hd he hzl
      go_wp2_with fail
      refine HM.out.mono ?_
      rintro e w2 ⟨rfl, lf2, hp2, hle2, hlo2, hP2, hE2⟩
      have HP2 := hiq hP2
      have HE2 := hiq hE2
      clear hP2 hE2 HM
      go_wp2_with fail
      go_roundw
      case rel =>
        refine ⟨j + 1, lf2, by go_num, by omega, hp2, by omega, hlo2, fun h k d hk hd' => ?_, HEE.out.trans HE2.out⟩
        obtain ⟨-, hyn⟩ := HP2.out h
        by_cases hkj : k < j
        · exact HSM.out k d hkj hd'
        · obtain rfl : k = j := by omega
          rw [HD.out] at hd'
          cases hd'
          exact sm_list_of hyn fun y hy => sm_token (HZL.out y hy)
      case measure => simp [intOf]; omega
    · have X1 : Hid (0 <= lf -> 0 <= lf0 /\ LSm wl) := fun h => by
        have h2 := HP1.out (by omega)
        refine ⟨h2.1, h2.2, fun x hx => ?_⟩
        obtain ⟨k, hk⟩ := List.mem_iff_getElem?.1 hx
        exact hsm.out h k x (by have := (List.getElem?_eq_some_iff.1 hk).1; omega) hk
      have HEA := hiq hE
      have HC := hiq (common_any S wr (w.heap.size + 1) lf hpw hlo (by omega) HS.out _ _ _ ul (hE.items HI4.out HS.out) HU.out _ _ _ gl (hE.items HI5.out HS.out) HG.out _ _ _ pl (hE.items HI6.out HS.out) HPA.out s0 s1 s2 s3 s4 s5 s6 s7 s8 s9 s10 qa ta ql.length qc tl.length tc (by omega) (by omega))
      have x7 := cell_box he 7 rfl
      have x8 := cell_box he 8 rfl
      have x9 := cell_box he 9 rfl
      have x15 := cell_box he 15 rfl
      have x16 := cell_box he 16 rfl
      have x17 := cell_box he 17 rfl
      have x18 := cell_box he 18 rfl
      have x19 := cell_box he 19 rfl
      have x20 := cell_box he 20 rfl
      have x21 := cell_box he 21 rfl
      have x22 := cell_box he 22 rfl
      have x23 := cell_box he 23 rfl
      have x24 := cell_box he 24 rfl
      have x25 := cell_box he 25 rfl
      have x26 := cell_box he 26 rfl
      have x27 := cell_box he 27 rfl
      have hlf4 : lf <= 4000 := by omega
      clear hsm hE he
      rcases (show (¬ j < wl.length) \/ (j < wl.length /\ lf < 0) by omega) with hc | ⟨hc1, hc2⟩
      all_goals
        clear hjn
        go_wp2_with fail
        refine HC.out.mono ?_
        clear HC x0 f0 hpw x2 x7 x8 x9 x15 x16 x17 x18 x19 x20 x21 x22 x23 x24 x25 x26 x27
        rintro e V3 ⟨rfl, lk3, hp3, hle3, hlo3, hP3, hE3⟩
        have HP3 := hiq hP3
        have HE3 := hiq (HEA.out.trans hE3)
        have he := HE3.out.heap (by show ¬ w.heap.size = w.heap.size + 1; omega) HE.out
        have x11 := cell_box he 11 rfl
        have HA4 := hiq (add_any (w.heap.size + 1) lk3 ol.length V3 hp3 hlo3 (by omega) (by omega))
        clear hP3 hE3 hp3 he
        go_wp2_with fail
        refine HA4.out.mono ?_
        clear HA4 x11
        rintro e V4 ⟨rfl, lk4, hp4, hle4, hlo4, hP4, hE4⟩
        have HP4 := hiq hP4
        have HE4 := hiq (HE3.out.trans hE4)
        have he := HE4.out.heap (by show ¬ w.heap.size = w.heap.size + 1; omega) HE.out
        have x12 := cell_box he 12 rfl
        have HA5 := hiq (add_any (w.heap.size + 1) lk4 bl.length V4 hp4 hlo4 (by omega) (by omega))
        clear hP4 hE4 hp4 he
        go_wp2_with fail
        refine HA5.out.mono ?_
        clear HA5 x12
        rintro e V5 ⟨rfl, lk5, hp5, hle5, hlo5, hP5, hE5⟩
        have HP5 := hiq hP5
        have HE5 := hiq (HE4.out.trans hE5)
        have he := HE5.out.heap (by show ¬ w.heap.size = w.heap.size + 1; omega) HE.out
        have x13 := cell_box he 13 rfl
        have HA6 := hiq (add_any (w.heap.size + 1) lk5 dl.length V5 hp5 hlo5 (by omega) (by omega))
        clear hP5 hE5 hp5 he
        go_wp2_with fail
        refine HA6.out.mono ?_
        clear HA6 x13
        rintro e V6 ⟨rfl, lk6, hp6, hle6, hlo6, hP6, hE6⟩
        have HP6 := hiq hP6
        have HE6 := hiq (HE5.out.trans hE6)
        have he := HE6.out.heap (by show ¬ w.heap.size = w.heap.size + 1; omega) HE.out
        have hz := HB.out.trans (HE6.out.to_below (by have := HS1.out; have := HE0.out.size; omega) (fun b hb => by have hb : b = w.heap.size + 1 := hb; omega) : Below w.heap.size W1 V6)
        have XS : Hid (0 <= lk6 -> Sm (.struc [.text y0, .list 1 16 sa sc sl, .list 1 24 wa wc wl, .struc [.int c0, .int c1, .int c2, .int c3], .list 5 72 ua uc ul, .list 2 40 ga gc gl, .list 2 40 pa pc pl, .int y7, .list 5 56 oa oc ol, .list 1 1 ba bc bl, .list 4 48 da dc dl, .text y11, .struc [.int s0, .int s1, .int s2, .int s3, .int s4, .int s5, .int s6, .int s7, .int s8, .int s9, .int s10, .list 1 1 qa qc ql, .list 1 16 ta tc tl]])) := fun h => by
          have h6 := HP6.out h
          have h5 := HP5.out h6.1
          have h4 := HP4.out h5.1
          have h3 := HP3.out h4.1
          have h1 := X1.out h3.1
          have h0 := HP0.out h1.1
          obtain ⟨e1, e2, e3, e4, e5⟩ := h3.2
          refine sm_struc.2 fun x hx => ?_
          simp only [List.mem_cons, List.not_mem_nil, or_false] at hx
          rcases hx with rfl | rfl | rfl | rfl | rfl | rfl | rfl | rfl | rfl | rfl | rfl | rfl | rfl
          · trivial
          · exact sm_list_of h0.2 fun z hz => sm_leaf (.inr (.inr rfl)) (HSG.out z hz)
          · exact sm_list_of h1.2.1 h1.2.2
          · exact sm_struc.2 fun y hy => by
              simp only [List.mem_cons, List.not_mem_nil, or_false] at hy
              rcases hy with rfl | rfl | rfl | rfl <;> trivial
          · exact sm_list_of e1.1 e1.2
          · exact sm_list_of e2.1 e2.2
          · exact sm_list_of e3.1 e3.2
          · trivial
          · exact sm_list_of h4.2 fun y hy => sm_flats (by simp) (HOP.out y hy)
          · exact sm_list_of h5.2 fun y hy => sm_leaf (.inr (.inl rfl)) (HBO.out y hy)
          · exact sm_list_of h6.2 fun y hy => sm_flats (by simp) (HDE.out y hy)
          · trivial
          · refine sm_struc.2 fun y hy => ?_
            simp only [List.mem_cons, List.not_mem_nil, or_false] at hy
            rcases hy with rfl | rfl | rfl | rfl | rfl | rfl | rfl | rfl | rfl | rfl | rfl | rfl | rfl
            all_goals first | trivial | exact sm_list_of e4 fun z hz => sm_leaf (.inr (.inl rfl)) (HQ.out z hz) | exact sm_list_of e5 fun z hz => sm_leaf (.inr (.inr rfl)) (HTL.out z hz)
        have HLD := hiq he
        have HZ := hiq hz
        obtain ⟨x0, f0⟩ := hp6.cells
        clear hE6 hP6 he hz hp6
        rcases (show lk6 < 0 \/ 0 <= lk6 by omega) with g1 | g1
        · go_wp2
          go_ret
          exact ⟨true, rfl, (fun h => by cases h), HZ.out⟩
        · first
            | (exfalso; omega)
            | have HM : Hid (Calls Tryz.prog 45 #[.agg #[.string y0, .slice sa sl.length sc, .slice wa wl.length wc, .int .i64 c0, .int .i64 c1, .int .i64 c2, .int .i64 c3, .slice ua ul.length uc, .slice ga gl.length gc, .slice pa pl.length pc, .int .i64 y7, .slice oa ol.length oc, .slice ba bl.length bc, .slice da dl.length dc, .string y11, .int .i64 s0, .int .i64 s1, .int .i64 s2, .int .i64 s3, .int .i64 s4, .int .i64 s5, .int .i64 s6, .int .i64 s7, .int .i64 s8, .int .i64 s9, .int .i64 s10, .slice qa ql.length qc, .slice ta tl.length tc]] V6 (NewV (Dv.struc [.text y0, .list 1 16 sa sc sl, .list 1 24 wa wc wl, .struc [.int c0, .int c1, .int c2, .int c3], .list 5 72 ua uc ul, .list 2 40 ga gc gl, .list 2 40 pa pc pl, .int y7, .list 5 56 oa oc ol, .list 1 1 ba bc bl, .list 4 48 da dc dl, .text y11, .struc [.int s0, .int s1, .int s2, .int s3, .int s4, .int s5, .int s6, .int s7, .int s8, .int s9, .int s10, .list 1 1 qa qc ql, .list 1 16 ta tc tl]]).toV V6)) := write_of .inp false HT2.out (XS.out (by omega)) (HR.out.below HZ.out) (fun b hb => Nat.lt_of_lt_of_le (HSL.out b hb) HZ.out.size)
              have HSM := hiq (XS.out (by omega))
              clear XS
              have HLV : Hid (LdV w.heap.size 58 (.agg #[.string y0, .slice sa sl.length sc, .slice wa wl.length wc, .int .i64 c0, .int .i64 c1, .int .i64 c2, .int .i64 c3, .slice ua ul.length uc, .slice ga gl.length gc, .slice pa pl.length pc, .int .i64 y7, .slice oa ol.length oc, .slice ba bl.length bc, .slice da dl.length dc, .string y11, .int .i64 s0, .int .i64 s1, .int .i64 s2, .int .i64 s3, .int .i64 s4, .int .i64 s5, .int .i64 s6, .int .i64 s7, .int .i64 s8, .int .i64 s9, .int .i64 s10, .slice qa ql.length qc, .slice ta tl.length tc]) V6) := LT.ld .inp rfl (cs := [.string y0, .slice sa sl.length sc, .slice wa wl.length wc, .int .i64 c0, .int .i64 c1, .int .i64 c2, .int .i64 c3, .slice ua ul.length uc, .slice ga gl.length gc, .slice pa pl.length pc, .int .i64 y7, .slice oa ol.length oc, .slice ba bl.length bc, .slice da dl.length dc, .string y11, .int .i64 s0, .int .i64 s1, .int .i64 s2, .int .i64 s3, .int .i64 s4, .int .i64 s5, .int .i64 s6, .int .i64 s7, .int .i64 s8, .int .i64 s9, .int .i64 s10, .slice qa ql.length qc, .slice ta tl.length tc]) rfl HLD.out
              have g3 : decide (lk6 < 0) = false := decide_eq_false (by omega)
              go_wp2_with (first | ((with_reducible refine wpList_ldG HLV.out _ rfl ?_ ?_ ?_); (simp [Region.wanted, yielded, g3]); rfl) | fail)
              refine HM.out.mono ?_
              rintro e U1 ⟨⟨k, nn, t, a, c, l⟩, rfl, -, hrv, hb2⟩
              have HGV := hiq (great_any _ (.mk k nn t a c l) U1 hrv)
              dsimp only [Vl.val, Vl.cells, Vl.kind, Vl.num, Vl.text, Vl.sl, Vl.addr, Vl.items, Vl.cap] at HGV ⊢
              have HZ2 := hiq (HZ.out.trans (hb2.mono HZ.out.size))
              clear hrv hb2 HM
              go_wp2_with fail
              refine HGV.out.mono ?_
              rintro e U2 ⟨g, rfl, hb3⟩
              have HZ3 := hiq (HZ2.out.trans (hb3.mono HZ2.out.size))
              clear hb3 HGV
              go_wp2
              go_ret
              exact ⟨_, rfl, fun _ => HSM.out, HZ3.out⟩
end Go.Proofs.YtlbcmeebcfalpaaGreatDoor
