/- Joined: IEdn, ITt, ITw0. -/
import Derived.Test.YtlbcmeebcfalpaaGreatDoorR18
import Derived.Test.YtlbcmeebcfalpaaGreatDoorR20
import Derived.Test.YtlbcmeebcfalpaaGreatDoorR22
import Derived.Test.YtlbcmeebcfalpaaGreatDoorR15
set_option linter.unusedVariables false
set_option linter.unusedSimpArgs false
set_option maxRecDepth 100000
set_option maxHeartbeats 16000000
namespace Go.Proofs.YtlbcmeebcfalpaaGreatDoor
open Go.RowKit

section
variable {act : Act} {W : World} {b : Nat} {t : TypeId} {v v2 : Value}
/-- Two results: a struct in its block, and a slot. -/
theorem ret_ldL2 {fn : Func} {R : Ending -> World -> Prop} {i j : Nat} (h : LdV b t v W) (hres : fn.results = #[.cell i t, .tmp j]) (hp : act.tmps.getD i undef = .pointer (some ⟨b, 0, none⟩)) (hp2 : act.tmps.getD j undef = v2) (hd : act.defers = []) (hR : R (.returned (.tuple #[v, v2])) W) : bodyPost Tryz.prog fn R .ret act W := by
  have h' : (loadVar t ⟨b, 0, none⟩).run Tryz.prog W = .ok v W := h
  refine bodyPost_ret (v := .tuple #[v, v2]) ?_ hd hR
  have hp' : act.tmps[i]?.getD undef = .pointer (some ⟨b, 0, none⟩) := by rw [<- hp]; simp
  have hp2' : act.tmps[j]?.getD undef = v2 := by rw [<- hp2]; simp
  simp [results, hres, hp', hp2', asAddr, h', Result.andThen]
end
/-- The edition without anything. -/
def zeroEd : Dv := .struc [.text ⟨#[]⟩, .list 2 40 none 0 [], .list 2 32 none 0 [], .struc [.int 0, .int 0, .int 0, .int 0], .list 5 72 none 0 [], .list 2 40 none 0 [], .list 2 40 none 0 [], .int 0, .list 5 104 none 0 [], .struc [.int 0, .int 0, .int 0, .int 0, .int 0, .int 0, .int 0, .int 0, .int 0, .int 0, .int 0, .list 1 1 none 0 [], .list 1 16 none 0 []]]
theorem zeroEd_cells : zeroEd.cells = LT.zero .edi := by simp [zeroEd, Dv.cells, Dv.cellsL]
theorem zeroEd_has : Has tyEdition zeroEd := by
  refine .struc (.cons (.text _) (.cons (.list (fun d h => by cases h)) (.cons (.list (fun d h => by cases h)) (.cons (.struc (.cons (.int _) (.cons (.int _) (.cons (.int _) (.cons (.int _) .nil))))) (.cons (.list (fun d h => by cases h)) (.cons (.list (fun d h => by cases h)) (.cons (.list (fun d h => by cases h)) (.cons (.int _) (.cons (.list (fun d h => by cases h)) (.cons (.struc ?_) .nil))))))))))
  exact .cons (.int _) (.cons (.int _) (.cons (.int _) (.cons (.int _) (.cons (.int _) (.cons (.int _) (.cons (.int _) (.cons (.int _) (.cons (.int _) (.cons (.int _) (.cons (.int _) (.cons (.list (fun d h => by cases h)) (.cons (.list (fun d h => by cases h)) .nil))))))))))))
theorem zeroEd_rd (S : Nat -> Prop) (w : World) : RdD S w zeroEd := by
  have hs : (⟨#[]⟩ : ByteArray).size <= 140737488355328 := Nat.zero_le _
  simp [zeroEd, RdD, RdDL, RdDI, I64.zero, hs]
/-- What reading an edition out of a value answers. -/
def EdP (x : V) (w : World) (e : Ending) (w' : World) : Prop :=
  ∃ (d : Dv) (err : Int), e = .returned (.tuple #[.agg d.cells.toArray, .int .i64 err]) /\ Has tyEdition d /\ RdD (NewB w w') w' d /\ Below w.heap.size w w' /\ ((err = 0 /\ chkV x = 0 /\ Fit tyEdition x /\ d.toV = x) \/ (err = (if chkV x = 4 then 4 else 9) /\ ¬ (chkV x = 0 /\ Fit tyEdition x) /\ d = zeroEd))
theorem EdP.bad {x : V} {w W W2 WF : World} (hb : Below w.heap.size w W2) (hp : WF = putL W2 (w.heap.size + 1) 0 (LT.zero .edi)) {err : Int} (he : err = (if chkV x = 4 then 4 else 9)) (hn : ¬ (chkV x = 0 /\ Fit tyEdition x)) : EdP x w (.returned (.tuple #[.agg (LT.zero .edi).toArray, .int .i64 err])) WF := by
  subst hp
  refine ⟨zeroEd, err, by rw [zeroEd_cells], zeroEd_has, zeroEd_rd _ _, ?_, .inr ⟨he, hn, rfl⟩⟩
  exact ((Exc.below (N := fun b => b = w.heap.size + 1) hb).step (putL_exc (w.heap.size + 1) (LT.zero .edi) 0 W2) fun b _ h => h).to_below (Nat.le_refl _) fun b h => by omega
theorem edition_any (S : Nat -> Prop) : ∀ (v : Vl) (w : World), Rd S w v -> (∀ b, S b -> b < w.heap.size) -> Calls Tryz.prog 13 #[v.val] w (EdP v.er w)
  | .mk k nn t a c l, w, h, hS => by
    have hbA : Below w.heap.size w ((w.alloc (.cells #[.int .i64 k, .int .i64 nn, .string t, .slice a l.length c] 24)).alloc (.cells (LT.zero .edi).toArray 40)) := ((Below.refl _ _).alloc (Nat.le_refl _) _).alloc (by simp) _
    have hv0 := World.alloc_heap_new w (.cells #[.int .i64 k, .int .i64 nn, .string t, .slice a l.length c] 24)
    have hv1 := alloc_heap_some (o := .cells (LT.zero .edi).toArray 40) hv0
    have hz1 : ((w.alloc (.cells #[.int .i64 k, .int .i64 nn, .string t, .slice a l.length c] 24)).alloc (.cells (LT.zero .edi).toArray 40)).heap[w.heap.size + 1]? = some (.cells (LT.zero .edi).toArray 40 (0, 0)) := by
      have := World.alloc_heap_new (w.alloc (.cells #[.int .i64 k, .int .i64 nn, .string t, .slice a l.length c] 24)) (.cells (LT.zero .edi).toArray 40)
      simpa using this
    have hs1 : ((w.alloc (.cells #[.int .i64 k, .int .i64 nn, .string t, .slice a l.length c] 24)).alloc (.cells (LT.zero .edi).toArray 40)).heap.size = w.heap.size + 2 := by simp
    have hrA := h.below hbA
    have HC := hiq (check_any S (.mk k nn t a c l) _ hrA)
    have y0 := cell_box hv1 0 rfl
    have y1 := cell_box hv1 1 rfl
    have y2 := cell_box hv1 2 rfl
    have y3 := cell_box hv1 3 rfl
    have HS := hiq hS
    have HR := hiq hrA
    have HB := hiq hbA
    have HV := hiq hv1
    have HZ := hiq hz1
    have HS1 := hiq hs1
    dsimp only [Vl.val, Vl.cells, Vl.kind, Vl.num, Vl.text, Vl.sl, Vl.addr, Vl.items, Vl.cap] at HC
    change Calls _ _ #[.agg #[.int .i64 k, .int .i64 nn, .string t, .slice a l.length c]] _ _
    have HCG : Hid (chkV (Vl.mk k nn t a c l).er = 0 -> GoodD 64 (Vl.mk k nn t a c l).er) := chkV_good
    obtain ⟨x, hx⟩ : ∃ x, x = (Vl.mk k nn t a c l).er := ⟨_, rfl⟩
    rw [<- hx] at HC HCG ⊢
    have HX := hiq hx
    obtain ⟨cc, hcc⟩ : ∃ cc, cc = chkV x := ⟨_, rfl⟩
    rw [<- hcc] at HC
    have HCC := hiq hcc
    dsimp only [LT.zero] at HC HR HB HV HZ HS1 y0 y1 y2 y3
    clear h hS hbA hv0 hv1 hz1 hs1 hrA hx hcc
    go_enter Tryz.func13, Tryz.ntmps13
    go_wp2_with fail
    generalize World.alloc (World.alloc _ _) _ = W1 at *
    clear y0 y1 y2 y3
    refine HC.out.mono ?_
    rintro e W2 ⟨rfl, hb2⟩
    have hb02 := HB.out.trans (hb2.mono HB.out.size)
    have hz2 := (hb2.block (w.heap.size + 1) (by have := HS1.out; omega)).trans HZ.out
    have hv2 := (hb2.block w.heap.size (by have := HS1.out; omega)).trans HV.out
    have hr2 := HR.out.below hb2
    have hs2 : w.heap.size + 2 <= W2.heap.size := by have := hb2.size; have := HS1.out; omega
    have hone : ∀ v ∈ LT.zero .edi, v.oneCell' = true := by simp [LT.zero, Value.oneCell']
    have hbad : ∀ W3, Below W2.heap.size W2 W3 -> ¬ (chkV x = 0 /\ Fit tyEdition x) -> ∃ WF, StL (w.heap.size + 1) (LT.zero .edi) W3 WF /\ LdV (w.heap.size + 1) 40 (.agg (LT.zero .edi).toArray) WF /\ EdP x w (.returned (.tuple #[.agg (LT.zero .edi).toArray, .int .i64 (if chkV x = 4 then 4 else 9)])) WF := fun W3 h3 hn => by
      have hz3 := (h3.block (w.heap.size + 1) (by omega)).trans hz2
      exact ⟨_, run_putL (LT.zero .edi) 0 _ W3 hz3 (by simp) hone, LT.ld .edi rfl rfl (putL_at (LT.zero .edi) rfl hz3), EdP.bad (W := W2) (hb02.trans (h3.mono (by omega))) rfl rfl hn⟩
    have HBAD := hiq hbad
    have HR2 := hiq hr2
    have HB02 := hiq hb02
    have HZ2 := hiq hz2
    have y0 := cell_box hv2 0 rfl
    have y1 := cell_box hv2 1 rfl
    have y2 := cell_box hv2 2 rfl
    have y3 := cell_box hv2 3 rfl
    have HV2 := hiq hv2
    clear hb2 hb02 hz2 hv2 hr2 hone hbad HC
    by_cases h0 : cc = 0
    · subst h0
      have hg := HCG.out HCC.out.symm
      have hb3 : Below W2.heap.size W2 (W2.alloc (.cells #[.bool false] 4)) := (Below.refl _ _).alloc (Nat.le_refl _) _
      have hb4 : Below W2.heap.size W2 ((W2.alloc (.cells #[.bool false] 4)).alloc (.cells #[.int .i64 k, .int .i64 nn, .string t, .slice a l.length c] 24)) := hb3.alloc hb3.size _
      have hb5 : Below W2.heap.size W2 (((W2.alloc (.cells #[.bool false] 4)).alloc (.cells #[.int .i64 k, .int .i64 nn, .string t, .slice a l.length c] 24)).alloc (.cells #[.slice (some ⟨W2.heap.size + 1, 0, none⟩) 1 1, .pointer (some ⟨W2.heap.size, 0, none⟩)] 74)) := hb4.alloc hb4.size _
      have hs5 : (((W2.alloc (.cells #[.bool false] 4)).alloc (.cells #[.int .i64 k, .int .i64 nn, .string t, .slice a l.length c] 24)).alloc (.cells #[.slice (some ⟨W2.heap.size + 1, 0, none⟩) 1 1, .pointer (some ⟨W2.heap.size, 0, none⟩)] 74)).heap.size = W2.heap.size + 3 := by simp
      have hf3 := alloc_heap_some (o := .cells #[.slice (some ⟨W2.heap.size + 1, 0, none⟩) 1 1, .pointer (some ⟨W2.heap.size, 0, none⟩)] 74) (alloc_heap_some (o := .cells #[.int .i64 k, .int .i64 nn, .string t, .slice a l.length c] 24) (World.alloc_heap_new W2 (.cells #[.bool false] 4)))
      have hbx : (((W2.alloc (.cells #[.bool false] 4)).alloc (.cells #[.int .i64 k, .int .i64 nn, .string t, .slice a l.length c] 24)).alloc (.cells #[.slice (some ⟨W2.heap.size + 1, 0, none⟩) 1 1, .pointer (some ⟨W2.heap.size, 0, none⟩)] 74)).heap[W2.heap.size + 1 + 1]? = some (.cells #[.slice (some ⟨W2.heap.size + 1, 0, none⟩) 1 1, .pointer (some ⟨W2.heap.size, 0, none⟩)] 74) := by
        have := World.alloc_heap_new ((W2.alloc (.cells #[.bool false] 4)).alloc (.cells #[.int .i64 k, .int .i64 nn, .string t, .slice a l.length c] 24)) (.cells #[.slice (some ⟨W2.heap.size + 1, 0, none⟩) 1 1, .pointer (some ⟨W2.heap.size, 0, none⟩)] 74)
        simpa using this
      have hrd : Rdr (((W2.alloc (.cells #[.bool false] 4)).alloc (.cells #[.int .i64 k, .int .i64 nn, .string t, .slice a l.length c] 24)).alloc (.cells #[.slice (some ⟨W2.heap.size + 1, 0, none⟩) 1 1, .pointer (some ⟨W2.heap.size, 0, none⟩)] 74)) (W2.heap.size + 1 + 1) W2.heap.size (some ⟨W2.heap.size + 1, 0, none⟩) 1 1 false := ⟨hbx, hf3, by omega⟩
      have hvl : Vals (fun b => b ≠ W2.heap.size + 1 + 1 /\ b ≠ W2.heap.size) (((W2.alloc (.cells #[.bool false] 4)).alloc (.cells #[.int .i64 k, .int .i64 nn, .string t, .slice a l.length c] 24)).alloc (.cells #[.slice (some ⟨W2.heap.size + 1, 0, none⟩) 1 1, .pointer (some ⟨W2.heap.size, 0, none⟩)] 74)) (some ⟨W2.heap.size + 1, 0, none⟩) 1 1 [.mk k nn t a c l] := by
        have := vals_lit (S := fun b => b ≠ W2.heap.size + 1 + 1 /\ b ≠ W2.heap.size) (W := (W2.alloc (.cells #[.bool false] 4))) (vs := [.mk k nn t a c l]) (cs := #[.int .i64 k, .int .i64 nn, .string t, .slice a l.length c]) rfl (fun v hv => by
          rw [List.mem_singleton] at hv; subst hv
          exact (HR2.out.below hb3).mono fun b hb _ => by have := HS.out b hb; omega) (by simp) (by simp)
        have h2 := this.below (w' := (((W2.alloc (.cells #[.bool false] 4)).alloc (.cells #[.int .i64 k, .int .i64 nn, .string t, .slice a l.length c] 24)).alloc (.cells #[.slice (some ⟨W2.heap.size + 1, 0, none⟩) 1 1, .pointer (some ⟨W2.heap.size, 0, none⟩)] 74))) ((Below.refl _ _).alloc (Nat.le_refl _) _)
        simpa using h2
      have hM := edition_fields 64 _ _ _ _ _ _ _ _ _ hrd hvl (fun b hb => hb) (fun u hu => by rw [List.mem_singleton] at hu; subst hu; rw [<- HX.out]; exact hg)
      have HM : Hid (Calls Tryz.prog (LT.fi .edi) #[.pointer (some ⟨W2.heap.size + 1 + 1, 0, none⟩), .func (.func (LT.rd .edi)) #[] #[]] (((W2.alloc (.cells #[.bool false] 4)).alloc (.cells #[.int .i64 k, .int .i64 nn, .string t, .slice a l.length c] 24)).alloc (.cells #[.slice (some ⟨W2.heap.size + 1, 0, none⟩) 1 1, .pointer (some ⟨W2.heap.size, 0, none⟩)] 74)) fun e W6 => ∃ (d : Dv) (g' : Bool) (WF : World), e = .returned (.agg d.cells.toArray) /\ Below W2.heap.size W2 W6 /\ W6.cell? ⟨W2.heap.size, 0, none⟩ = some (.bool g') /\ W2.heap.size < W6.heap.size /\ Hid ((Tryz.prog.info? 40).map (·.size) = some d.cells.length) /\ Hid (g' = true -> ¬ Fit tyEdition x) /\ StL W6.heap.size d.cells (W6.alloc (.cells (LT.zero .edi).toArray (LT.tid .edi))) (W6.alloc (.cells d.cells.toArray (LT.tid .edi))) /\ LdV W6.heap.size (LT.tid .edi) (.agg d.cells.toArray) (W6.alloc (.cells d.cells.toArray (LT.tid .edi))) /\ StL (w.heap.size + 1) d.cells (W6.alloc (.cells d.cells.toArray (LT.tid .edi))) WF /\ LdV (w.heap.size + 1) (LT.tid .edi) (.agg d.cells.toArray) WF /\ Hid (g' = false -> EdP x w (.returned (.tuple #[.agg d.cells.toArray, .int .i64 0])) WF)) := by
        refine hM.mono ?_
        rintro e W6 ⟨d, a6, n6, c6, l6, g', he, hT, hrd6, hgot, hr6, -, hE6⟩
        obtain ⟨hl, hl2, h1, hval⟩ := LT.len .edi hT
        rw [hval rfl] at he
        have hl' : d.cells.length = 25 := hl
        have hl2' : (LT.zero .edi).length = 25 := hl2
        have h26 : Below W2.heap.size W2 W6 := ((Exc.below (N := Two (W2.heap.size + 1 + 1) W2.heap.size) hb5).step hE6 fun b _ h => h).to_below (Nat.le_refl _) fun b h => by rcases h with h | h <;> omega
        have s6 := hE6.size
        have ha6 : Below W6.heap.size W6 (W6.alloc (.cells d.cells.toArray (LT.tid .edi))) := (Below.refl _ _).alloc (Nat.le_refl _) _
        have hz6 := alloc_heap_some (o := .cells d.cells.toArray (LT.tid .edi)) ((h26.block (w.heap.size + 1) (by omega)).trans HZ2.out)
        obtain ⟨i0, ei, ez0, ez1, ez2⟩ := info_parts (LT.info .edi)
        have sn : StL W6.heap.size d.cells (W6.alloc (.cells (LT.zero .edi).toArray (LT.tid .edi))) (W6.alloc (.cells d.cells.toArray (LT.tid .edi))) := by
          have := run_storeCells_new (P := Tryz.prog) W6 (LT.tid .edi) (LT.zero .edi).toArray d.cells.toArray (by rw [ei]; simp [ez1, hl]) (by simp; omega) (by simpa using h1)
          simpa using this
        refine ⟨d, g', _, he, h26, hr6.cells.2.2.1, by omega, by show _ = _; rw [show 40 = LT.tid .edi from rfl, ei]; simp [ez1, hl], fun hg' hf => ?_, sn, LT.ld .edi rfl hl (World.alloc_heap_new W6 _), run_putL d.cells 0 _ _ hz6 (by simp; omega) h1, LT.ld .edi rfl hl (putL_at d.cells (by simp; omega) hz6), fun hg' => ?_⟩
        · rcases hgot.2 with ⟨_, hb⟩ | ⟨hn, _⟩
          · rcases hb with hb | hb
            · cases hb
            · exact hb _ _ rfl (by rw [<- HX.out]; exact hf)
          · rw [hg'] at hn; cases hn
        · rcases hgot.2 with ⟨hn, _⟩ | ⟨_, _, v, hlv, hfv, hdv⟩
          · rw [hg'] at hn; cases hn
          · injection hlv with e1 e2
            subst e1
            rw [<- HX.out] at hfv hdv
            have hp := putL_exc (w.heap.size + 1) d.cells 0 (W6.alloc (.cells d.cells.toArray (LT.tid .edi)))
            have hpz := hp.size
            have haz := ha6.size
            refine ⟨d, 0, rfl, hT, ?_, ?_, .inl ⟨rfl, HCC.out.symm, hfv, hdv⟩⟩
            · exact ((hrd6.below ha6).keep (hp.keepS fun b hb hn => by have hn : b = w.heap.size + 1 := hn; have := hb.1; omega)).mono fun b hb => ⟨by have := hb.1; omega, by have := hb.2; omega⟩
            · exact ((Exc.below (N := fun b => b = w.heap.size + 1) (HB02.out.trans ((h26.trans (ha6.mono (by omega))).mono (by omega)))).step hp fun b _ h => h).to_below (Nat.le_refl _) fun b h => by omega
      dsimp only [LT.fi, LT.rd, LT.tid] at HM
      have hw9 : w.heap.size < W2.heap.size := by omega
      clear hg hb3 hb4 hb5 hs5 hf3 hbx hrd hvl hM
      go_wp2_with fail
      refine HM.out.mono ?_
      rintro e W6 ⟨d, g', WF, rfl, h26, f0, f1, HSZ, hbad, sn, ld6, st2, ld2, hfin⟩
      have HSN := hiq sn
      have HLD6 := hiq ld6
      have HST := hiq st2
      have HLD := hiq ld2
      clear sn ld6 st2 ld2 HM
      have hw6 : w.heap.size + 1 < W6.heap.size := by omega
      cases g' with
      | true =>
        obtain ⟨WG, hst, hld, hE⟩ := HBAD.out (W6.alloc (.cells d.cells.toArray 40)) (h26.trans (((Below.refl _ _).alloc (Nat.le_refl _) _).mono (by omega))) (fun h => hbad.out rfl h.2)
        rw [<- HCC.out] at hE
        dsimp only [LT.zero] at hst hld hE HSN
        have HST2 := hiq hst
        have HLD2 := hiq hld
        have HE := hiq hE
        clear hst hld hE HBAD HST HLD h26 hfin hbad HLD6
        go_wp2_with (first | ((with_reducible refine wpList_stL HSN.out rfl _ _ _ rfl ?_ ?_ ?_ ?_); rfl; rfl; exact HSZ.out) | ((with_reducible refine wpList_stL HST2.out rfl _ _ _ rfl ?_ ?_ ?_ ?_); rfl; rfl; kernel_rfl))
        exact ret_ldL2 HLD2.out rfl rfl rfl rfl HE.out
      | false =>
        have HE := hiq (hfin.out rfl)
        dsimp only [LT.zero] at HSN
        clear HBAD h26 hfin hbad
        go_wp2_with (first | ((with_reducible refine wpList_ldL HLD6.out rfl _ rfl ?_ ?_); rfl) | ((with_reducible refine wpList_stL HSN.out rfl _ _ _ rfl ?_ ?_ ?_ ?_); rfl; rfl; exact HSZ.out) | ((with_reducible refine wpList_stL HST.out rfl _ _ _ rfl ?_ ?_ ?_ ?_); rfl; rfl; exact HSZ.out))
        exact ret_ldL2 HLD.out rfl rfl rfl rfl HE.out
    · have hne : (cc == 0) = false := by simp [h0]
      obtain ⟨WF, hst, hld, hE⟩ := HBAD.out W2 (Below.refl _ _) (fun h => h0 (by rw [HCC.out]; exact h.1))
      rw [<- HCC.out] at hE
      dsimp only [LT.zero] at hst hld hE
      have HST := hiq hst
      have HLD := hiq hld
      by_cases h4 : cc = 4
      · rw [if_pos h4] at hE
        subst h4
        have HE := hiq hE
        clear hst hld hE h0 HBAD
        go_wp2_with ((with_reducible refine wpList_stL HST.out rfl _ _ _ rfl ?_ ?_ ?_ ?_); rfl; rfl; kernel_rfl)
        exact ret_ldL2 HLD.out rfl rfl rfl rfl HE.out
      · have hne4 : (cc == 4) = false := by simp [h4]
        rw [if_neg h4] at hE
        have HE := hiq hE
        clear hst hld hE h0 h4 HBAD
        go_wp2_with ((with_reducible refine wpList_stL HST.out rfl _ _ _ rfl ?_ ?_ ?_ ?_); rfl; rfl; kernel_rfl)
        exact ret_ldL2 HLD.out rfl rfl rfl rfl HE.out
end Go.Proofs.YtlbcmeebcfalpaaGreatDoor
namespace Go.Proofs.YtlbcmeebcfalpaaGreatDoor
open Go.RowKit

/-- As skipB; nothing below lo is touched. -/
def skipC (N z lo : Nat) (ops : Array Oper) : List Nat -> List Oper -> Bool
  | F, [] => F.contains z
  | F, o :: L => match o.dst with
    | none => false
    | some d => decide (d < N) && decide (lo <= d) && (match o.guard with
      | some (j, true) => (match (ops[j]?).bind (·.dst) with | some s => F.contains s | none => false) && !F.contains d && skipC N z lo ops F L
      | some (_, false) => false
      | none => match o.op with
        | .move (.tmp t) => F.contains t && skipC N z lo ops (d :: F) L
        | .pick (.tmp t) _ (.const (.bool false)) => F.contains t && skipC N z lo ops (d :: F) L
        | _ => false)
theorem put_other {a : Act} {d k : Nat} {v : Value} (h : k ≠ d) : (a.put (some d) v).tmps[k]? = a.tmps[k]? := by
  show (a.tmps.setIfInBounds d v)[k]? = _
  exact Array.getElem?_setIfInBounds_ne (fun e => h e.symm)
theorem wpList_skipC {ops : Array Oper} {Q : Exit -> Act -> World -> Prop} {W : World} {N z lo : Nat} : ∀ (L : List Oper) (F : List Nat) (act : Act), skipC N z lo ops F L = true -> act.tmps.size = N -> (∀ t ∈ F, act.tmps[t]? = some (.bool false)) ->
    (∀ a : Act, a.tmps[z]? = some (.bool false) -> (∀ k, k < lo -> a.tmps[k]? = act.tmps[k]?) -> a.defers = act.defers -> a.tmps.size = N -> Q .normal a W) -> wpList Tryz.prog ops Q L act W
  | [], F, act, hB, hN, hF, hk => by
    refine wpList_nil (hk act (hF z ?_) (fun _ _ => rfl) rfl hN)
    simpa [skipC] using hB
  | o :: L, F, act, hB, hN, hF, hk => by
    unfold skipC at hB
    split at hB
    · cases hB
    · rename_i d hd
      rw [Bool.and_eq_true, Bool.and_eq_true] at hB
      obtain ⟨⟨hdN, hlo⟩, hB⟩ := hB
      have hdN := of_decide_eq_true hdN
      have hlo := of_decide_eq_true hlo
      have hsz : ∀ v, (act.put (some d) v).tmps.size = N := fun v => by show (act.tmps.setIfInBounds d v).size = N; simp [hN]
      have hkeep : ∀ v, ∀ a : Act, (∀ k, k < lo -> a.tmps[k]? = (act.put (some d) v).tmps[k]?) -> ∀ k, k < lo -> a.tmps[k]? = act.tmps[k]? := fun v a h k hk' => (h k hk').trans (put_other (by omega))
      split at hB
      · rename_i j hg
        rw [Bool.and_eq_true, Bool.and_eq_true] at hB
        obtain ⟨⟨h1, h2⟩, h3⟩ := hB
        refine wpList_step fun K hK => ?_
        have hw : Region.wanted o (yielded ops act.tmps) = false := by
          unfold Region.wanted yielded
          rw [hg]
          split at h1
          · rename_i s hs
            have := hF s (by simpa using h1)
            simp [hs, this]
          · cases h1
        rw [hw, hd]
        refine hK _ _ (wpList_skipC L F _ h3 (hsz _) (fun t ht => ?_) fun a ha hl hdf hs => hk a ha (hkeep _ a hl) hdf hs)
        rw [put_other (fun h => by subst h; simp [ht] at h2)]
        exact hF t ht
      · cases hB
      · rename_i hg
        split at hB
        · rename_i t ho
          rw [Bool.and_eq_true] at hB
          have ht := hF t (by simpa using hB.1)
          refine wpList_plain hg fun K hK => ?_
          unfold Oper.wp execOp
          simp only [ho, eval_false ht, Sem.run_bind, Sem.run_pure, Result.andThen_ok]
          rw [Oper.upon_value, hd]
          exact hK _ _ (wpList_skipC L _ _ hB.2 (hsz _) (put_false hdN hN hF) fun a ha hl hdf hs => hk a ha (hkeep _ a hl) hdf hs)
        · rename_i t x ho
          rw [Bool.and_eq_true] at hB
          have ht := hF t (by simpa using hB.1)
          refine wpList_plain hg fun K hK => ?_
          unfold Oper.wp execOp
          simp only [ho, eval_false ht, Sem.run_bind, Sem.run_pure, Result.andThen_ok, asBool]
          rw [Oper.upon_value, hd]
          exact hK _ _ (wpList_skipC L _ _ hB.2 (hsz _) (put_false hdN hN hF) fun a ha hl hdf hs => hk a ha (hkeep _ a hl) hdf hs)
        · cases hB
theorem wpCut_skipC {ops : Array Oper} {Q : Exit -> Act -> World -> Prop} {W : World} {ns : List Nat} {L : List Oper} {act : Act} (N z lo p : Nat) (hB : skipC N z lo ops [p] L = true) (hN : act.tmps.size = N) (hp : act.tmps[p]? = some (.bool false))
    (hk : ∀ a : Act, a.tmps[z]? = some (.bool false) -> (∀ k, k < lo -> a.tmps[k]? = act.tmps[k]?) -> a.defers = act.defers -> a.tmps.size = N -> Q .normal a W) : wpCut ops Q ns L act W :=
  wpCut_back _ _ _ _ (wpList_skipC L [p] act hB hN (fun t ht => by rw [List.mem_singleton] at ht; rw [ht]; exact hp) hk)
theorem eval_at {a : Act} {t : Nat} {v : Value} (h : a.tmps[t]? = some v) : a.eval (.tmp t) = v := by
  show a.tmps.getD t undef = _
  simp [h]
/-- The store of the result and its bool, at the end. -/
theorem wpCut_fin {ops : Array Oper} {Q : Exit -> Act -> World -> Prop} {a : Act} {W WF : World} {o1 o2 : Oper} {t : TypeId} {br p z : Nat} {A : Array Value} {g : Bool} (h1 : o1.op = .store t (.tmp 2) (.tmp p)) (g1 : o1.guard = none) (d1 : o1.dst = none) (h2 : o2.op = .assign (.tmp z)) (g2 : o2.guard = none) (d2 : o2.dst = some 3)
    (e2 : a.tmps[2]? = some (.pointer (some ⟨br, 0, none⟩))) (ep : a.tmps[p]? = some (.agg A)) (ez : a.tmps[z]? = some (.bool g)) (hs : StO br 0 t (.agg A) W WF) (hsz : 3 < a.tmps.size)
    (hk : ∀ a' : Act, a'.tmps[2]? = some (.pointer (some ⟨br, 0, none⟩)) -> a'.tmps[3]? = some (.bool g) -> a'.defers = a.defers -> Q .normal a' WF) : wpCut ops Q [] [o1, o2] a W := by
  refine wpCut_nil (wpList_stO hs g1 _ _ h1 (eval_at e2) (eval_at ep) ?_)
  rw [d1]
  show wpList Tryz.prog ops Q [o2] a WF
  refine wpList_plain g2 fun K hK => ?_
  unfold Oper.wp execOp
  simp only [h2, eval_at ez, Sem.run_bind, Sem.run_pure, Result.andThen_ok]
  rw [Oper.upon_value, d2]
  refine hK _ _ (wpList_nil (hk _ ?_ ?_ rfl))
  · rw [put_other (by omega)]; exact e2
  · show (a.tmps.setIfInBounds 3 (.bool g))[3]? = _
    rw [Array.getElem?_setIfInBounds_self_of_lt hsz]
theorem ret_at {fn : Func} {R : Ending -> World -> Prop} {a : Act} {W : World} {b : Nat} {t : TypeId} {v : Value} {g : Bool} (h : LdV b t v W) (hres : fn.results = #[.cell 2 t, .tmp 3]) (hp : a.tmps[2]? = some (.pointer (some ⟨b, 0, none⟩))) (hp2 : a.tmps[3]? = some (.bool g)) (hd : a.defers = []) (hR : R (.returned (.tuple #[v, .bool g])) W) : Code.ret.wp Tryz.prog (bodyPost Tryz.prog fn R) a W :=
  wp_ret (ret_ldL2 h hres (by simp [hp]) (by simp [hp2]) hd hR)
mutual
/-- The data of a type without anything. -/
def zeroD : Ty -> Dv
  | .int => .int 0
  | .bool => .bool false
  | .text => .text ⟨#[]⟩
  | .struc l => .struc (zeroDL l)
  | .list k s _ => .list k s none 0 []
  | .node => .struc [.int 0, .text ⟨#[]⟩, .int 0, .list 4 56 none 0 []]
  | .expr => .struc [.int 0, .int 0, .text ⟨#[]⟩, .list 4 56 none 0 []]
def zeroDL : List Ty -> List Dv
  | [] => []
  | t :: ts => zeroD t :: zeroDL ts
end
mutual
theorem zeroD_has : ∀ t : Ty, Has t (zeroD t)
  | .int => by rw [zeroD]; exact .int _
  | .bool => by rw [zeroD]; exact .bool _
  | .text => by rw [zeroD]; exact .text _
  | .struc l => by rw [zeroD]; exact .struc (zeroDL_has l)
  | .list k s t => by rw [zeroD]; exact .list (fun d hd => by cases hd)
  | .node => by rw [zeroD]; exact .node (.struc (.cons (.int _) (.cons (.text _) (.cons (.int _) (.cons (.list (fun d hd => by cases hd)) .nil)))))
  | .expr => by rw [zeroD]; exact .expr (.struc (.cons (.int _) (.cons (.int _) (.cons (.text _) (.cons (.list (fun d hd => by cases hd)) .nil)))))
theorem zeroDL_has : ∀ l : List Ty, HasL l (zeroDL l)
  | [] => by rw [zeroDL]; exact .nil
  | t :: ts => by rw [zeroDL]; exact .cons (zeroD_has t) (zeroDL_has ts)
end
mutual
theorem zeroD_rd (S : Nat -> Prop) (w : World) : ∀ t : Ty, RdD S w (zeroD t)
  | .int => by rw [zeroD, RdD]; exact ⟨by decide, by decide⟩
  | .bool => by rw [zeroD, RdD]; exact trivial
  | .text => by rw [zeroD, RdD]; exact Nat.zero_le _
  | .struc l => by rw [zeroD, RdD]; exact zeroDL_rd S w l
  | .list k s t => by rw [zeroD]; exact rdD_list.2 (Items.nil _ _ _ _)
  | .node => by
    have hs : (⟨#[]⟩ : ByteArray).size <= 140737488355328 := Nat.zero_le _
    simp [zeroD, RdD, RdDL, RdDI, I64.zero, hs]
  | .expr => by
    have hs : (⟨#[]⟩ : ByteArray).size <= 140737488355328 := Nat.zero_le _
    simp [zeroD, RdD, RdDL, RdDI, I64.zero, hs]
theorem zeroDL_rd (S : Nat -> Prop) (w : World) : ∀ l : List Ty, RdDL S w (zeroDL l)
  | [] => by rw [zeroDL, RdDL]; exact trivial
  | t :: ts => by rw [zeroDL, RdDL]; exact ⟨zeroD_rd S w t, zeroDL_rd S w ts⟩
end
theorem LT.zero_cells (T : LT) : (zeroD T.ty).cells = T.zero := by
  cases T <;> simp [zeroD, zeroDL, Dv.cells, Dv.cellsL, LT.ty, LT.zero]
def TZ (w : World) (T : LT) (C : Array Value) (V : World) : Prop := TS w T C [] V /\ V.heap[w.heap.size + 2]? = some (.cells T.zero.toArray T.tid (0, 0))
theorem TZ.later {w : World} {T : LT} {C : Array Value} {W V : World} (h : TZ w T C W) (hb : Below W.heap.size W V) : TZ w T C V := ⟨h.1.later hb, (hb.block _ (Array.getElem?_eq_some_iff.1 h.2).1).trans h.2⟩
/-- How the walk of a struct begins and what it is to end in. -/
structure TPre (T : LT) (w : World) (P : Ending -> World -> Prop) (C : Array Value) (a : Value) (N : Nat) : Prop where
  st : StO (w.heap.size + 2) 0 T.tid (.agg T.zero.toArray) (((w.alloc (.cells C 24)).alloc (.cells T.zero.toArray T.tid)).alloc (.cells T.zero.toArray T.tid)) (putL (((w.alloc (.cells C 24)).alloc (.cells T.zero.toArray T.tid)).alloc (.cells T.zero.toArray T.tid)) (w.heap.size + 2) 0 T.zero)
  ts : TZ w T C (putL (((w.alloc (.cells C 24)).alloc (.cells T.zero.toArray T.tid)).alloc (.cells T.zero.toArray T.tid)) (w.heap.size + 2) 0 T.zero)
  call : ∀ V, TZ w T C V -> ∃ g : Bool, Calls Tryz.prog 76 #[.agg C, .int .i64 (N : Int)] V (fun e V' => e = .returned (.bool g) /\ TZ w T C V') /\
    (g = false -> ∀ V', TZ w T C V' -> ToC w T P a 0 0 [] 0 0 false V') /\ (g = true -> ∃ bb off n c, a = .slice (some ⟨bb, off, none⟩) n c /\ N <= n /\ ∀ V', TZ w T C V' -> ToC w T P a bb off T.fk 0 0 true V')
theorem tpre_of (T : LT) (hW : T.isW = true) {S : Nat -> Prop} {w : World} {k nn : Int} {t : ByteArray} {a : Option Addr} {c : Nat} {l : List Vl} (hr : Rd S w (.mk k nn t a c l)) (hS : ∀ b, S b -> b < w.heap.size) (hn : l.length <= 70000) (h0 : 0 < T.fk.length /\ T.fk.length <= 100)
    (hit : ∀ x ∈ T.fk, ∀ u ∈ l, ∀ W, Below w.heap.size w W -> Calls Tryz.prog x.tfn #[u.val] W (ToQ x.ty u.er W)) : TPre T w (ToQ T.ty (Vl.mk k nn t a c l).er w) #[.int .i64 k, .int .i64 nn, .string t, .slice a l.length c] (.slice a l.length c) T.fk.length := by
  obtain ⟨C, hC⟩ : ∃ C : Array Value, C = #[.int .i64 k, .int .i64 nn, .string t, .slice a l.length c] := ⟨_, rfl⟩
  rw [<- hC]
  obtain ⟨W1, hW1⟩ : ∃ W1, W1 = w.alloc (.cells C 24) := ⟨_, rfl⟩
  obtain ⟨W2, hW2⟩ : ∃ W2, W2 = W1.alloc (.cells T.zero.toArray T.tid) := ⟨_, rfl⟩
  obtain ⟨W3, hW3⟩ : ∃ W3, W3 = W2.alloc (.cells T.zero.toArray T.tid) := ⟨_, rfl⟩
  have s1 : W1.heap.size = w.heap.size + 1 := by rw [hW1]; simp
  have s2 : W2.heap.size = w.heap.size + 2 := by rw [hW2]; simp [s1]
  have s3 : W3.heap.size = w.heap.size + 3 := by rw [hW3]; simp [s2]
  have n1 : W1.heap[w.heap.size]? = some (.cells C 24 (0, 0)) := by rw [hW1]; exact World.alloc_heap_new _ _
  have n2 : W2.heap[w.heap.size]? = some (.cells C 24 (0, 0)) := by rw [hW2]; exact alloc_heap_some n1
  have n3 : W3.heap[w.heap.size]? = some (.cells C 24 (0, 0)) := by rw [hW3]; exact alloc_heap_some n2
  have r2 : W2.heap[w.heap.size + 1]? = some (.cells T.zero.toArray T.tid (0, 0)) := by rw [hW2, <- s1]; exact World.alloc_heap_new _ _
  have r3 : W3.heap[w.heap.size + 1]? = some (.cells T.zero.toArray T.tid (0, 0)) := by rw [hW3]; exact alloc_heap_some r2
  have x3 : W3.heap[w.heap.size + 2]? = some (.cells T.zero.toArray T.tid (0, 0)) := by rw [hW3, <- s2]; exact World.alloc_heap_new _ _
  have b1 : Below w.heap.size w W1 := by rw [hW1]; exact (Below.refl _ _).alloc (Nat.le_refl _) _
  have b2 : Below w.heap.size w W2 := by rw [hW2]; exact b1.alloc b1.size _
  have b3 : Below w.heap.size w W3 := by rw [hW3]; exact b2.alloc b2.size _
  have hzk : T.zero.length = T.k /\ ∀ v ∈ T.zero, v.oneCell' = true := by
    cases T <;> exact ⟨rfl, by simp [LT.zero, Value.oneCell']⟩
  have hst := stO_of (b := w.heap.size + 2) (o := 0) (t := T.tid) (v := .agg T.zero.toArray) (W := W3) (by rw [T.info_sz]; simp [Value.cells, hzk.1]) x3 (by simp [Value.cells]) (by simpa [Value.cells] using hzk.2)
  have e1 : (Value.agg T.zero.toArray).cells.toList = T.zero := by simp [Value.cells]
  rw [e1] at hst
  have hx := putL_exc (w.heap.size + 2) T.zero 0 W3
  have hxs := hx.size
  have hzx := putL_at T.zero (by simp) x3
  have hz0 : TZ w T C (putL W3 (w.heap.size + 2) 0 T.zero) := ⟨⟨((Exc.below (N := fun b => b = w.heap.size + 2) b3).step hx fun b _ h => h).to_below (Nat.le_refl _) fun b hb => by omega, by omega, hx.heap (by omega) n3, hx.heap (by omega) r3, ⟨T.zero, by rw [Dv.cellsL, List.nil_append]; exact hzx, by rw [Dv.cellsL, List.nil_append]; exact hzk.1⟩, fun d hd => by cases hd⟩, hzx⟩
  refine ⟨by rw [<- hW1, <- hW2, <- hW3]; exact hst, by rw [<- hW1, <- hW2, <- hW3]; exact hz0, fun V hV => ⟨decide (k = 3 /\ l.length = T.fk.length), ?_, fun hg V' hV' => ?_, fun hg => ?_⟩⟩
  · have := fields_ref (.mk k nn t a c l) T.fk.length V hn h0.2
    have e2 : (Vl.mk k nn t a c l).val = .agg C := by rw [hC]; rfl
    rw [e2] at this
    exact this.mono fun e V' h => ⟨h.1, hV.later h.2⟩
  · have hno : ¬ (k = 3 /\ l.length = T.fk.length) := of_decide_eq_false hg
    obtain ⟨f1, -, -⟩ := T.fk_ok hW
    have hex := putL_exc (w.heap.size + 1) T.zero 0 V'
    have hle := hV'.1.le
    have hexs := hex.size
    have hst' := stO_of (b := w.heap.size + 1) (o := 0) (t := T.tid) (v := .agg T.zero.toArray) (W := V') (by rw [T.info_sz]; simp [Value.cells, hzk.1]) hV'.1.res (by simp [Value.cells]) (by simpa [Value.cells] using hzk.2)
    rw [e1] at hst'
    have hT := zeroD_has T.ty
    refine ⟨T.zero.toArray, _, T.ld hW hzk.1 hV'.2, hst', T.ld hW hzk.1 (putL_at _ (by simp) hV'.1.res), zeroD T.ty, false, by rw [(T.len hT).2.2.2 hW, T.zero_cells], hT, zeroD_rd _ _ _, ((Exc.below (N := fun b => b = w.heap.size + 1) hV'.1.below).step hex fun b _ h => h).to_below (Nat.le_refl _) fun b hb => by omega, ⟨(fun h => by cases h), fun h => ?_⟩, (fun h => by cases h)⟩
    rw [T.fit_up hW, fit_struc, f1, Vl.er_kind, Vl.er_items] at h
    have h2 := fitL_len h.2
    rw [List.length_map, List.length_map] at h2
    exact absurd ⟨h.1, h2⟩ hno
  · obtain ⟨hk3, hl⟩ := of_decide_eq_true hg
    have hvl := (rd_iff.1 hr).2.2.2
    obtain ⟨u, bb, off, -, -, ha, -⟩ := hvl.get (show 0 < l.length by omega)
    have ha : a = some ⟨bb, off, none⟩ := ha
    subst ha
    refine ⟨bb, off, l.length, c, rfl, by omega, fun V' hV' => ?_⟩
    have := toC_of T hW hr hS hk3 hl hit T.fk [] [] true V' rfl .nil (by rw [<- hC]; exact hV'.1) ⟨fun _ => by simp [FitL.nil], fun _ => rfl⟩ (fun _ => by simp [Dv.toVL])
    rw [Dv.cellsL] at this
    exact this
end Go.Proofs.YtlbcmeebcfalpaaGreatDoor
namespace Go.Proofs.YtlbcmeebcfalpaaGreatDoor
open Go.RowKit

theorem to_wit {k nn : Int} {t : ByteArray} {a : Option Addr} {c : Nat} {l : List Vl} {w : World} {P : Ending -> World -> Prop} (h : TPre .wit w P #[.int .i64 k, .int .i64 nn, .string t, .slice a l.length c] (.slice a l.length c) 2) : Calls Tryz.prog 183 #[.agg #[.int .i64 k, .int .i64 nn, .string t, .slice a l.length c]] w P := by
  obtain ⟨hst, hts, hcall⟩ := h
  dsimp only [LT.tid, LT.zero] at hst hts
  obtain ⟨y0, y1, y2, y3, -⟩ := box_cells hts.1.val
  have HST := hiq hst
  have HTS := hiq hts
  have HC := hiq hcall
  clear hst hts hcall
  go_enter Tryz.func183, Tryz.ntmps183
  generalize hC1 : Code.region 1 _ _ = C1
  have HC1 := hiq hC1
  clear hC1
  generalize hCF : Code.region 7 _ _ = CF
  have HCF := hiq hCF
  clear hCF
  go_wp2_with fail
  rw [<- HC1.out]
  clear HC1
  refine wp_region_cut [2] ?_
  refine wpCut_cons ?_
  simp only [List.take_succ_cons, List.take_zero, List.drop_succ_cons, List.drop_zero]
  go_wp2_with fail
  generalize World.alloc (World.alloc (World.alloc w _) _) _ = W2 at *
  refine wpCut_nil (wpList_stO HST.out rfl _ _ rfl rfl rfl ?_)
  go_wp2_with fail
  clear y0 y1 y2 y3 HST
  generalize putL W2 _ _ _ = W3 at *
  obtain ⟨g, hcl, hbad, hgood⟩ := HC.out _ HTS.out
  clear HC HTS
  refine hcl.mono ?_
  rintro e V0 ⟨rfl, hz⟩
  clear hcl
  cases g
  case false =>
    obtain ⟨A, WF, hl2, hst2, hl3, hP⟩ := hbad rfl _ hz
    clear hbad hgood hz
    dsimp only [LT.tid] at hl2 hst2 hl3
    go_wp2_with (first | ((with_reducible refine wpList_ldL hl2.out rfl _ rfl ?_ ?_); rfl) | ((with_reducible refine wpList_stO hst2.out rfl _ _ rfl ?_ ?_ ?_); rfl; rfl) | fail)
    exact ret_ldL2 hl3.out rfl rfl rfl rfl hP.out
  obtain ⟨bb, off, n9, c9, ha, hn9, hto⟩ := hgood rfl
  replace hto := hto _ hz
  clear hbad hgood hz
  injection ha with ha1 ha2 ha3
  subst ha1
  subst ha2
  subst ha3
  dsimp only [ToC, LT.fk, FK.tfn, FK.ftid, FK.sz, LT.tf, LT.tlf, LT.tid, LT.sl, LT.k] at hto
  simp only [Nat.zero_mul, Nat.add_zero, Nat.zero_add, Nat.reduceAdd, Nat.reduceMul, Nat.one_mul] at hto
  obtain ⟨y3, k1, n1, t1, a1, m1, c1, z0, z1, z2, z3, hm⟩ := hto
  go_wp2_with fail
  refine hm.out.mono ?_
  rintro e V ⟨v, ok0, V1, rfl, hs, hto⟩
  clear y3 z0 z1 z2 z3 hm
  obtain ⟨y3, k1, n1, t1, a1, m1, c1, z0, z1, z2, z3, hm⟩ := hto
  go_wp2_with (first | ((with_reducible refine wpList_stO hs.out rfl _ _ rfl ?_ ?_ ?_); rfl; rfl) | fail)
  clear hs
  refine hm.out.mono ?_
  rintro e V ⟨v, ok1, V1, rfl, hs, hto⟩
  clear y3 z0 z1 z2 z3 hm
  obtain ⟨A, WF, hl2, hst2, hl3, hP⟩ := hto
  go_wp2_with (first | ((with_reducible refine wpList_stO hs.out rfl _ _ rfl ?_ ?_ ?_); rfl; rfl) | fail)
  rename_i K hK
  rw [<- HCF.out]
  clear HCF hs
  try simp only [List.append_eq, List.cons_append, List.nil_append]
  refine wp_region_cut [5] ?_
  refine wpCut_cons ?_
  simp only [List.take_succ_cons, List.take_zero, List.drop_succ_cons, List.drop_zero]
  refine wpCut_list [3, 2] _ _ _ ?_
  refine wpCut_cons ?_
  simp only [List.take_succ_cons, List.take_zero, List.drop_succ_cons, List.drop_zero]
  go_wp2_with (first | ((with_reducible refine wpList_ldL hl2.out rfl _ rfl ?_ ?_); rfl) | fail)
  cases ok0
  case false =>
    refine wpCut_skipC 35 34 31 32 (by kernel_rfl) rfl rfl ?_
    intro a ha hlo hd hs
    show wpCut _ _ [] _ a _
    refine wpCut_fin rfl rfl rfl rfl rfl rfl ((hlo 2 (by decide)).trans rfl) ((hlo 30 (by decide)).trans rfl) ha hst2.out (by rw [hs]; decide) ?_
    intro a' e2 e3 e4
    exact hK _ _ (ret_at hl3.out rfl e2 e3 (e4.trans (hd.trans rfl)) hP.out)
  refine wpCut_cons ?_
  simp only [List.take_succ_cons, List.take_zero, List.drop_succ_cons, List.drop_zero]
  go_wp2_with fail
  refine wpCut_nil (wpList_nil ?_)
  show wpCut _ _ [] _ _ _
  refine wpCut_fin rfl rfl rfl rfl rfl rfl rfl rfl rfl hst2.out (show 3 < 35 by decide) ?_
  intro a' e2 e3 e4
  exact hK _ _ (ret_at hl3.out rfl e2 e3 (e4.trans rfl) hP.out)
end Go.Proofs.YtlbcmeebcfalpaaGreatDoor
