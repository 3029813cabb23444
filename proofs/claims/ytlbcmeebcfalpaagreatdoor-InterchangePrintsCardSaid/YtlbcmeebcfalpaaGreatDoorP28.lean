/- Joined: IEdn, IPar, CLawP, IPln. -/
import Derived.Test.YtlbcmeebcfalpaaGreatDoorP26
import Derived.Test.YtlbcmeebcfalpaaGreatDoorP21
import Derived.Test.YtlbcmeebcfalpaaGreatDoorP27
import Derived.Test.YtlbcmeebcfalpaaGreatDoorP12
import Derived.Test.YtlbcmeebcfalpaaGreatDoorP01
import Derived.Test.YtlbcmeebcfalpaaGreatDoorP02
import Derived.Test.YtlbcmeebcfalpaaGreatDoorP18
set_option linter.unusedVariables false
set_option linter.unusedSimpArgs false
set_option maxRecDepth 100000
set_option maxHeartbeats 16000000
namespace Go.Proofs.YtlbcmeebcfalpaaGreatDoor
open Go.RowKit

section
variable {act : Act} {W : World} {b : Nat} {t : TypeId} {v v2 : Value}
/-- Two results: a struct in its block, and a slot. -/
theorem ret_ldL2 {fn : Func} {R : Ending -> World -> Prop} {i j : Nat} (h : LdV b t v W) (hres : fn.results = #[.cell i t, .tmp j]) (hp : act.tmps.getD i undef = .pointer (some ⟨b, 0, none⟩)) (hp2 : act.tmps.getD j undef = v2) (hd : act.defers = []) (hR : R (.returned (.tuple #[v, v2])) W) : bodyPost Tryz.prog fn R .ret act W := by
  have h' : (loadVar t ⟨b, 0, none⟩).run Tryz.prog W = .ok v W := h
  refine bodyPost_ret (v := .tuple #[v, v2]) ?_ hd hR
  have hp' : act.tmps[i]?.getD undef = .pointer (some ⟨b, 0, none⟩) := by rw [<- hp]; simp
  have hp2' : act.tmps[j]?.getD undef = v2 := by rw [<- hp2]; simp
  simp [results, hres, hp', hp2', asAddr, h', Result.andThen]
end
/-- The edition without anything. -/
def zeroEd : Dv := .struc [.text ⟨#[]⟩, .list 2 40 none 0 [], .list 2 32 none 0 [], .struc [.int 0, .int 0, .int 0, .int 0], .list 5 72 none 0 [], .list 2 40 none 0 [], .list 2 40 none 0 [], .int 0, .list 5 104 none 0 [], .struc [.int 0, .int 0, .int 0, .int 0, .int 0, .int 0, .int 0, .int 0, .int 0, .int 0, .int 0, .list 1 1 none 0 [], .list 1 16 none 0 []]]
theorem zeroEd_cells : zeroEd.cells = LT.zero .edi := by simp [zeroEd, Dv.cells, Dv.cellsL]
theorem zeroEd_has : Has tyEdition zeroEd := by
  refine .struc (.cons (.text _) (.cons (.list (fun d h => by cases h)) (.cons (.list (fun d h => by cases h)) (.cons (.struc (.cons (.int _) (.cons (.int _) (.cons (.int _) (.cons (.int _) .nil))))) (.cons (.list (fun d h => by cases h)) (.cons (.list (fun d h => by cases h)) (.cons (.list (fun d h => by cases h)) (.cons (.int _) (.cons (.list (fun d h => by cases h)) (.cons (.struc ?_) .nil))))))))))
  exact .cons (.int _) (.cons (.int _) (.cons (.int _) (.cons (.int _) (.cons (.int _) (.cons (.int _) (.cons (.int _) (.cons (.int _) (.cons (.int _) (.cons (.int _) (.cons (.int _) (.cons (.list (fun d h => by cases h)) (.cons (.list (fun d h => by cases h)) .nil))))))))))))
theorem zeroEd_rd (S : Nat -> Prop) (w : World) : RdD S w zeroEd := by
  have hs : (⟨#[]⟩ : ByteArray).size <= 140737488355328 := Nat.zero_le _
  simp [zeroEd, RdD, RdDL, RdDI, I64.zero, hs]
/-- What reading an edition out of a value answers. -/
def EdP (x : V) (w : World) (e : Ending) (w' : World) : Prop :=
  ∃ (d : Dv) (err : Int), e = .returned (.tuple #[.agg d.cells.toArray, .int .i64 err]) /\ Has tyEdition d /\ RdD (NewB w w') w' d /\ Below w.heap.size w w' /\ ((err = 0 /\ chkV x = 0 /\ Fit tyEdition x /\ d.toV = x) \/ (err = (if chkV x = 4 then 4 else 9) /\ ¬ (chkV x = 0 /\ Fit tyEdition x) /\ d = zeroEd))
theorem EdP.bad {x : V} {w W W2 WF : World} (hb : Below w.heap.size w W2) (hp : WF = putL W2 (w.heap.size + 1) 0 (LT.zero .edi)) {err : Int} (he : err = (if chkV x = 4 then 4 else 9)) (hn : ¬ (chkV x = 0 /\ Fit tyEdition x)) : EdP x w (.returned (.tuple #[.agg (LT.zero .edi).toArray, .int .i64 err])) WF := by
  subst hp
  refine ⟨zeroEd, err, by rw [zeroEd_cells], zeroEd_has, zeroEd_rd _ _, ?_, .inr ⟨he, hn, rfl⟩⟩
  exact ((Exc.below (N := fun b => b = w.heap.size + 1) hb).step (putL_exc (w.heap.size + 1) (LT.zero .edi) 0 W2) fun b _ h => h).to_below (Nat.le_refl _) fun b h => by omega
theorem edition_any (S : Nat -> Prop) : ∀ (v : Vl) (w : World), Rd S w v -> (∀ b, S b -> b < w.heap.size) -> Calls Tryz.prog 13 #[v.val] w (EdP v.er w)
  | .mk k nn t a c l, w, h, hS => by
    have hbA : Below w.heap.size w ((w.alloc (.cells #[.int .i64 k, .int .i64 nn, .string t, .slice a l.length c] 24)).alloc (.cells (LT.zero .edi).toArray 40)) := ((Below.refl _ _).alloc (Nat.le_refl _) _).alloc (by simp) _
    have hv0 := World.alloc_heap_new w (.cells #[.int .i64 k, .int .i64 nn, .string t, .slice a l.length c] 24)
    have hv1 := alloc_heap_some (o := .cells (LT.zero .edi).toArray 40) hv0
    have hz1 : ((w.alloc (.cells #[.int .i64 k, .int .i64 nn, .string t, .slice a l.length c] 24)).alloc (.cells (LT.zero .edi).toArray 40)).heap[w.heap.size + 1]? = some (.cells (LT.zero .edi).toArray 40 (0, 0)) := by
      have := World.alloc_heap_new (w.alloc (.cells #[.int .i64 k, .int .i64 nn, .string t, .slice a l.length c] 24)) (.cells (LT.zero .edi).toArray 40)
      simpa using this
    have hs1 : ((w.alloc (.cells #[.int .i64 k, .int .i64 nn, .string t, .slice a l.length c] 24)).alloc (.cells (LT.zero .edi).toArray 40)).heap.size = w.heap.size + 2 := by simp
    have hrA := h.below hbA
    have HC := hiq (check_any S (.mk k nn t a c l) _ hrA)
    have y0 := cell_box hv1 0 rfl
    have y1 := cell_box hv1 1 rfl
    have y2 := cell_box hv1 2 rfl
    have y3 := cell_box hv1 3 rfl
    have HS := hiq hS
    have HR := hiq hrA
    have HB := hiq hbA
    have HV := hiq hv1
    have HZ := hiq hz1
    have HS1 := hiq hs1
    dsimp only [Vl.val, Vl.cells, Vl.kind, Vl.num, Vl.text, Vl.sl, Vl.addr, Vl.items, Vl.cap] at HC
    change Calls _ _ #[.agg #[.int .i64 k, .int .i64 nn, .string t, .slice a l.length c]] _ _
    have HCG : Hid (chkV (Vl.mk k nn t a c l).er = 0 -> GoodD 64 (Vl.mk k nn t a c l).er) := chkV_good
    obtain ⟨x, hx⟩ : ∃ x, x = (Vl.mk k nn t a c l).er := ⟨_, rfl⟩
    rw [<- hx] at HC HCG ⊢
    have HX := hiq hx
    obtain ⟨cc, hcc⟩ : ∃ cc, cc = chkV x := ⟨_, rfl⟩
    rw [<- hcc] at HC
    have HCC := hiq hcc
    dsimp only [LT.zero] at HC HR HB HV HZ HS1 y0 y1 y2 y3
    clear h hS hbA hv0 hv1 hz1 hs1 hrA hx hcc
    go_enter Tryz.func13, Tryz.ntmps13
    go_wp2_with fail
    generalize World.alloc (World.alloc _ _) _ = W1 at *
    clear y0 y1 y2 y3
    refine HC.out.mono ?_
    rintro e W2 ⟨rfl, hb2⟩
    have hb02 := HB.out.trans (hb2.mono HB.out.size)
    have hz2 := (hb2.block (w.heap.size + 1) (by have := HS1.out; omega)).trans HZ.out
    have hv2 := (hb2.block w.heap.size (by have := HS1.out; omega)).trans HV.out
    have hr2 := HR.out.below hb2
    have hs2 : w.heap.size + 2 <= W2.heap.size := by have := hb2.size; have := HS1.out; omega
    have hone : ∀ v ∈ LT.zero .edi, v.oneCell' = true := by simp [LT.zero, Value.oneCell']
    have hbad : ∀ W3, Below W2.heap.size W2 W3 -> ¬ (chkV x = 0 /\ Fit tyEdition x) -> ∃ WF, StL (w.heap.size + 1) (LT.zero .edi) W3 WF /\ LdV (w.heap.size + 1) 40 (.agg (LT.zero .edi).toArray) WF /\ EdP x w (.returned (.tuple #[.agg (LT.zero .edi).toArray, .int .i64 (if chkV x = 4 then 4 else 9)])) WF := fun W3 h3 hn => by
      have hz3 := (h3.block (w.heap.size + 1) (by omega)).trans hz2
      exact ⟨_, run_putL (LT.zero .edi) 0 _ W3 hz3 (by simp) hone, LT.ld .edi rfl rfl (putL_at (LT.zero .edi) rfl hz3), EdP.bad (W := W2) (hb02.trans (h3.mono (by omega))) rfl rfl hn⟩
    have HBAD := hiq hbad
    have HR2 := hiq hr2
    have HB02 := hiq hb02
    have HZ2 := hiq hz2
    have y0 := cell_box hv2 0 rfl
    have y1 := cell_box hv2 1 rfl
    have y2 := cell_box hv2 2 rfl
    have y3 := cell_box hv2 3 rfl
    have HV2 := hiq hv2
    clear hb2 hb02 hz2 hv2 hr2 hone hbad HC
    by_cases h0 : cc = 0
    · subst h0
      have hg := HCG.out HCC.out.symm
      have hb3 : Below W2.heap.size W2 (W2.alloc (.cells #[.bool false] 4)) := (Below.refl _ _).alloc (Nat.le_refl _) _
      have hb4 : Below W2.heap.size W2 ((W2.alloc (.cells #[.bool false] 4)).alloc (.cells #[.int .i64 k, .int .i64 nn, .string t, .slice a l.length c] 24)) := hb3.alloc hb3.size _
      have hb5 : Below W2.heap.size W2 (((W2.alloc (.cells #[.bool false] 4)).alloc (.cells #[.int .i64 k, .int .i64 nn, .string t, .slice a l.length c] 24)).alloc (.cells #[.slice (some ⟨W2.heap.size + 1, 0, none⟩) 1 1, .pointer (some ⟨W2.heap.size, 0, none⟩)] 74)) := hb4.alloc hb4.size _
      have hs5 : (((W2.alloc (.cells #[.bool false] 4)).alloc (.cells #[.int .i64 k, .int .i64 nn, .string t, .slice a l.length c] 24)).alloc (.cells #[.slice (some ⟨W2.heap.size + 1, 0, none⟩) 1 1, .pointer (some ⟨W2.heap.size, 0, none⟩)] 74)).heap.size = W2.heap.size + 3 := by simp
      have hf3 := alloc_heap_some (o := .cells #[.slice (some ⟨W2.heap.size + 1, 0, none⟩) 1 1, .pointer (some ⟨W2.heap.size, 0, none⟩)] 74) (alloc_heap_some (o := .cells #[.int .i64 k, .int .i64 nn, .string t, .slice a l.length c] 24) (World.alloc_heap_new W2 (.cells #[.bool false] 4)))
      have hbx : (((W2.alloc (.cells #[.bool false] 4)).alloc (.cells #[.int .i64 k, .int .i64 nn, .string t, .slice a l.length c] 24)).alloc (.cells #[.slice (some ⟨W2.heap.size + 1, 0, none⟩) 1 1, .pointer (some ⟨W2.heap.size, 0, none⟩)] 74)).heap[W2.heap.size + 1 + 1]? = some (.cells #[.slice (some ⟨W2.heap.size + 1, 0, none⟩) 1 1, .pointer (some ⟨W2.heap.size, 0, none⟩)] 74) := by
        have := World.alloc_heap_new ((W2.alloc (.cells #[.bool false] 4)).alloc (.cells #[.int .i64 k, .int .i64 nn, .string t, .slice a l.length c] 24)) (.cells #[.slice (some ⟨W2.heap.size + 1, 0, none⟩) 1 1, .pointer (some ⟨W2.heap.size, 0, none⟩)] 74)
        simpa using this
      have hrd : Rdr (((W2.alloc (.cells #[.bool false] 4)).alloc (.cells #[.int .i64 k, .int .i64 nn, .string t, .slice a l.length c] 24)).alloc (.cells #[.slice (some ⟨W2.heap.size + 1, 0, none⟩) 1 1, .pointer (some ⟨W2.heap.size, 0, none⟩)] 74)) (W2.heap.size + 1 + 1) W2.heap.size (some ⟨W2.heap.size + 1, 0, none⟩) 1 1 false := ⟨hbx, hf3, by omega⟩
      have hvl : Vals (fun b => b ≠ W2.heap.size + 1 + 1 /\ b ≠ W2.heap.size) (((W2.alloc (.cells #[.bool false] 4)).alloc (.cells #[.int .i64 k, .int .i64 nn, .string t, .slice a l.length c] 24)).alloc (.cells #[.slice (some ⟨W2.heap.size + 1, 0, none⟩) 1 1, .pointer (some ⟨W2.heap.size, 0, none⟩)] 74)) (some ⟨W2.heap.size + 1, 0, none⟩) 1 1 [.mk k nn t a c l] := by
        have := vals_lit (S := fun b => b ≠ W2.heap.size + 1 + 1 /\ b ≠ W2.heap.size) (W := (W2.alloc (.cells #[.bool false] 4))) (vs := [.mk k nn t a c l]) (cs := #[.int .i64 k, .int .i64 nn, .string t, .slice a l.length c]) rfl (fun v hv => by
          rw [List.mem_singleton] at hv; subst hv
          exact (HR2.out.below hb3).mono fun b hb _ => by have := HS.out b hb; omega) (by simp) (by simp)
        have h2 := this.below (w' := (((W2.alloc (.cells #[.bool false] 4)).alloc (.cells #[.int .i64 k, .int .i64 nn, .string t, .slice a l.length c] 24)).alloc (.cells #[.slice (some ⟨W2.heap.size + 1, 0, none⟩) 1 1, .pointer (some ⟨W2.heap.size, 0, none⟩)] 74))) ((Below.refl _ _).alloc (Nat.le_refl _) _)
        simpa using h2
      have hM := edition_fields 64 _ _ _ _ _ _ _ _ _ hrd hvl (fun b hb => hb) (fun u hu => by rw [List.mem_singleton] at hu; subst hu; rw [<- HX.out]; exact hg)
      have HM : Hid (Calls Tryz.prog (LT.fi .edi) #[.pointer (some ⟨W2.heap.size + 1 + 1, 0, none⟩), .func (.func (LT.rd .edi)) #[] #[]] (((W2.alloc (.cells #[.bool false] 4)).alloc (.cells #[.int .i64 k, .int .i64 nn, .string t, .slice a l.length c] 24)).alloc (.cells #[.slice (some ⟨W2.heap.size + 1, 0, none⟩) 1 1, .pointer (some ⟨W2.heap.size, 0, none⟩)] 74)) fun e W6 => ∃ (d : Dv) (g' : Bool) (WF : World), e = .returned (.agg d.cells.toArray) /\ Below W2.heap.size W2 W6 /\ W6.cell? ⟨W2.heap.size, 0, none⟩ = some (.bool g') /\ W2.heap.size < W6.heap.size /\ Hid ((Tryz.prog.info? 40).map (·.size) = some d.cells.length) /\ Hid (g' = true -> ¬ Fit tyEdition x) /\ StL W6.heap.size d.cells (W6.alloc (.cells (LT.zero .edi).toArray (LT.tid .edi))) (W6.alloc (.cells d.cells.toArray (LT.tid .edi))) /\ LdV W6.heap.size (LT.tid .edi) (.agg d.cells.toArray) (W6.alloc (.cells d.cells.toArray (LT.tid .edi))) /\ StL (w.heap.size + 1) d.cells (W6.alloc (.cells d.cells.toArray (LT.tid .edi))) WF /\ LdV (w.heap.size + 1) (LT.tid .edi) (.agg d.cells.toArray) WF /\ Hid (g' = false -> EdP x w (.returned (.tuple #[.agg d.cells.toArray, .int .i64 0])) WF)) := by
        refine hM.mono ?_
        rintro e W6 ⟨d, a6, n6, c6, l6, g', he, hT, hrd6, hgot, hr6, -, hE6⟩
        obtain ⟨hl, hl2, h1, hval⟩ := LT.len .edi hT
        rw [hval rfl] at he
        have hl' : d.cells.length = 25 := hl
        have hl2' : (LT.zero .edi).length = 25 := hl2
        have h26 : Below W2.heap.size W2 W6 := ((Exc.below (N := Two (W2.heap.size + 1 + 1) W2.heap.size) hb5).step hE6 fun b _ h => h).to_below (Nat.le_refl _) fun b h => by rcases h with h | h <;> omega
        have s6 := hE6.size
        have ha6 : Below W6.heap.size W6 (W6.alloc (.cells d.cells.toArray (LT.tid .edi))) := (Below.refl _ _).alloc (Nat.le_refl _) _
        have hz6 := alloc_heap_some (o := .cells d.cells.toArray (LT.tid .edi)) ((h26.block (w.heap.size + 1) (by omega)).trans HZ2.out)
        obtain ⟨i0, ei, ez0, ez1, ez2⟩ := info_parts (LT.info .edi)
        have sn : StL W6.heap.size d.cells (W6.alloc (.cells (LT.zero .edi).toArray (LT.tid .edi))) (W6.alloc (.cells d.cells.toArray (LT.tid .edi))) := by
          have := run_storeCells_new (P := Tryz.prog) W6 (LT.tid .edi) (LT.zero .edi).toArray d.cells.toArray (by rw [ei]; simp [ez1, hl]) (by simp; omega) (by simpa using h1)
          simpa using this
        refine ⟨d, g', _, he, h26, hr6.cells.2.2.1, by omega, by show _ = _; rw [show 40 = LT.tid .edi from rfl, ei]; simp [ez1, hl], fun hg' hf => ?_, sn, LT.ld .edi rfl hl (World.alloc_heap_new W6 _), run_putL d.cells 0 _ _ hz6 (by simp; omega) h1, LT.ld .edi rfl hl (putL_at d.cells (by simp; omega) hz6), fun hg' => ?_⟩
        · rcases hgot.2 with ⟨_, hb⟩ | ⟨hn, _⟩
          · rcases hb with hb | hb
            · cases hb
            · exact hb _ _ rfl (by rw [<- HX.out]; exact hf)
          · rw [hg'] at hn; cases hn
        · rcases hgot.2 with ⟨hn, _⟩ | ⟨_, _, v, hlv, hfv, hdv⟩
          · rw [hg'] at hn; cases hn
          · injection hlv with e1 e2
            subst e1
            rw [<- HX.out] at hfv hdv
            have hp := putL_exc (w.heap.size + 1) d.cells 0 (W6.alloc (.cells d.cells.toArray (LT.tid .edi)))
            have hpz := hp.size
            have haz := ha6.size
            refine ⟨d, 0, rfl, hT, ?_, ?_, .inl ⟨rfl, HCC.out.symm, hfv, hdv⟩⟩
            · exact ((hrd6.below ha6).keep (hp.keepS fun b hb hn => by have hn : b = w.heap.size + 1 := hn; have := hb.1; omega)).mono fun b hb => ⟨by have := hb.1; omega, by have := hb.2; omega⟩
            · exact ((Exc.below (N := fun b => b = w.heap.size + 1) (HB02.out.trans ((h26.trans (ha6.mono (by omega))).mono (by omega)))).step hp fun b _ h => h).to_below (Nat.le_refl _) fun b h => by omega
      dsimp only [LT.fi, LT.rd, LT.tid] at HM
      have hw9 : w.heap.size < W2.heap.size := by omega
      clear hg hb3 hb4 hb5 hs5 hf3 hbx hrd hvl hM
      go_wp2_with fail
      refine HM.out.mono ?_
      rintro e W6 ⟨d, g', WF, rfl, h26, f0, f1, HSZ, hbad, sn, ld6, st2, ld2, hfin⟩
      have HSN := hiq sn
      have HLD6 := hiq ld6
      have HST := hiq st2
      have HLD := hiq ld2
      clear sn ld6 st2 ld2 HM
      have hw6 : w.heap.size + 1 < W6.heap.size := by omega
      cases g' with
      | true =>
        obtain ⟨WG, hst, hld, hE⟩ := HBAD.out (W6.alloc (.cells d.cells.toArray 40)) (h26.trans (((Below.refl _ _).alloc (Nat.le_refl _) _).mono (by omega))) (fun h => hbad.out rfl h.2)
        rw [<- HCC.out] at hE
        dsimp only [LT.zero] at hst hld hE HSN
        have HST2 := hiq hst
        have HLD2 := hiq hld
        have HE := hiq hE
        clear hst hld hE HBAD HST HLD h26 hfin hbad HLD6
        go_wp2_with (first | ((with_reducible refine wpList_stL HSN.out rfl _ _ _ rfl ?_ ?_ ?_ ?_); rfl; rfl; exact HSZ.out) | ((with_reducible refine wpList_stL HST2.out rfl _ _ _ rfl ?_ ?_ ?_ ?_); rfl; rfl; kernel_rfl))
        exact ret_ldL2 HLD2.out rfl rfl rfl rfl HE.out
      | false =>
        have HE := hiq (hfin.out rfl)
        dsimp only [LT.zero] at HSN
        clear HBAD h26 hfin hbad
        go_wp2_with (first | ((with_reducible refine wpList_ldL HLD6.out rfl _ rfl ?_ ?_); rfl) | ((with_reducible refine wpList_stL HSN.out rfl _ _ _ rfl ?_ ?_ ?_ ?_); rfl; rfl; exact HSZ.out) | ((with_reducible refine wpList_stL HST.out rfl _ _ _ rfl ?_ ?_ ?_ ?_); rfl; rfl; exact HSZ.out))
        exact ret_ldL2 HLD.out rfl rfl rfl rfl HE.out
    · have hne : (cc == 0) = false := by simp [h0]
      obtain ⟨WF, hst, hld, hE⟩ := HBAD.out W2 (Below.refl _ _) (fun h => h0 (by rw [HCC.out]; exact h.1))
      rw [<- HCC.out] at hE
      dsimp only [LT.zero] at hst hld hE
      have HST := hiq hst
      have HLD := hiq hld
      by_cases h4 : cc = 4
      · rw [if_pos h4] at hE
        subst h4
        have HE := hiq hE
        clear hst hld hE h0 HBAD
        go_wp2_with ((with_reducible refine wpList_stL HST.out rfl _ _ _ rfl ?_ ?_ ?_ ?_); rfl; rfl; kernel_rfl)
        exact ret_ldL2 HLD.out rfl rfl rfl rfl HE.out
      · have hne4 : (cc == 4) = false := by simp [h4]
        rw [if_neg h4] at hE
        have HE := hiq hE
        clear hst hld hE h0 h4 HBAD
        go_wp2_with ((with_reducible refine wpList_stL HST.out rfl _ _ _ rfl ?_ ?_ ?_ ?_); rfl; rfl; kernel_rfl)
        exact ret_ldL2 HLD.out rfl rfl rfl rfl HE.out
end Go.Proofs.YtlbcmeebcfalpaaGreatDoor
namespace Go.Proofs.YtlbcmeebcfalpaaGreatDoor
open Go.RowKit

/-- What parsing answers, where decoding has answered x and er. -/
def ParQ (x : V) (er : Int) (w : World) (e : Ending) (w' : World) : Prop :=
  ∃ (d : Dv) (err : Int), e = .returned (.tuple #[.agg d.cells.toArray, .int .i64 err]) /\ Has tyEdition d /\ RdD (NewB w w') w' d /\ Below w.heap.size w w' /\
    ((er ≠ 0 /\ err = er /\ d = zeroEd) \/ (er = 0 /\ ((err = 0 /\ chkV x = 0 /\ Fit tyEdition x /\ d.toV = x) \/ (err = (if chkV x = 4 then 4 else 9) /\ ¬ (chkV x = 0 /\ Fit tyEdition x) /\ d = zeroEd))))
def ParP (s : ByteArray) (w : World) (e : Ending) (w' : World) : Prop := ParQ (decode s.data.toList).1 (decode s.data.toList).2 w e w'
theorem put_below {w W2 : World} {b : Nat} (hb : Below w.heap.size w W2) (h : w.heap.size <= b) (cs : List Value) : Below w.heap.size w (putL W2 b 0 cs) :=
  ((Exc.below (N := fun x => x = b) hb).step (putL_exc b cs 0 W2) fun b _ h => h).to_below (Nat.le_refl _) fun x hx => by have hx : x = b := hx; omega
theorem parse_any (s : ByteArray) (hs : s.size <= 140737488355328) (w : World) (hE : Env w) : Calls Tryz.prog 11 #[.string s] w (ParP s w) := by
  have hbA : Below w.heap.size w (w.alloc (.cells (LT.zero .edi).toArray 40)) := (Below.refl _ _).alloc (Nat.le_refl _) _
  have hz1 := World.alloc_heap_new w (.cells (LT.zero .edi).toArray 40)
  have hs1 : (w.alloc (.cells (LT.zero .edi).toArray 40)).heap.size = w.heap.size + 1 := by simp
  have HC := hiq (decode_any s hs _ (hE.below hbA))
  have HB := hiq hbA
  have HZ := hiq hz1
  have HS1 := hiq hs1
  dsimp only [LT.zero] at HC HB HZ HS1
  obtain ⟨r, hr⟩ : ∃ r, r = decode s.data.toList := ⟨_, rfl⟩
  unfold ParP
  rw [<- hr]
  unfold DecPost at HC
  rw [<- hr] at HC
  clear hbA hz1 hs1 hE hs hr
  obtain ⟨x, er⟩ := r
  dsimp only at HC ⊢
  go_enter Tryz.func11, Tryz.ntmps11
  go_wp2_with fail
  refine HC.out.mono ?_
  generalize World.alloc _ _ = W1 at *
  rintro e W2 ⟨S, ⟨k, nn, t, a, c, l⟩, he, hx, hrd, hS, hb2⟩
  change e = .returned (.tuple #[.agg #[.int .i64 k, .int .i64 nn, .string t, .slice a l.length c], .int .i64 er]) at he
  subst he
  have hb02 := HB.out.trans (hb2.mono HB.out.size)
  have hz2 := (hb2.block w.heap.size (by have := HS1.out; omega)).trans HZ.out
  have hs2 : w.heap.size + 1 <= W2.heap.size := by have := hb2.size; have := HS1.out; omega
  have hone : ∀ v ∈ LT.zero .edi, v.oneCell' = true := by simp [LT.zero, Value.oneCell']
  have hb3 : Below W2.heap.size W2 (W2.alloc (.cells #[.int .i64 k, .int .i64 nn, .string t, .slice a l.length c] 24)) := (Below.refl _ _).alloc (Nat.le_refl _) _
  have hs3 : (W2.alloc (.cells #[.int .i64 k, .int .i64 nn, .string t, .slice a l.length c] 24)).heap.size = W2.heap.size + 1 := by simp
  have hz3 := (hb3.block w.heap.size (by omega)).trans hz2
  have hb03 := hb02.trans (hb3.mono (by omega))
  by_cases h0 : er = 0
  · subst h0
    have hM := edition_any S (.mk k nn t a c l) _ (hrd.below hb3) (fun b hb => by have := (hS b hb).2; omega)
    have HM : Hid (Calls Tryz.prog 13 #[.agg #[.int .i64 k, .int .i64 nn, .string t, .slice a l.length c]] (W2.alloc (.cells #[.int .i64 k, .int .i64 nn, .string t, .slice a l.length c] 24)) fun e W6 => ∃ (d : Dv) (err : Int) (WF : World), e = .returned (.tuple #[.agg d.cells.toArray, .int .i64 err]) /\ StL w.heap.size d.cells W6 WF /\ LdV w.heap.size 40 (.agg d.cells.toArray) WF /\ Hid ((Tryz.prog.info? 40).map (·.size) = some d.cells.length) /\ Hid (ParQ x 0 w (.returned (.tuple #[.agg d.cells.toArray, .int .i64 err])) WF)) := by
      refine hM.mono ?_
      rintro e W6 ⟨d, err, he, hT, hrd6, hb6, hor⟩
      rw [hx] at hor
      obtain ⟨hl, hl2, h1, hval⟩ := LT.len .edi hT
      have hl' : d.cells.length = 25 := hl
      have s6 := hb6.size
      have hz6 := (hb6.block w.heap.size (by omega)).trans hz3
      obtain ⟨i0, ei, ez0, ez1, ez2⟩ := info_parts (LT.info .edi)
      have hp := putL_exc w.heap.size d.cells 0 W6
      have hpz := hp.size
      refine ⟨d, err, _, he, run_putL d.cells 0 _ _ hz6 (by simp [LT.zero]; omega) h1, LT.ld .edi rfl hl (putL_at d.cells (by simp [LT.zero]; omega) hz6), by show _ = _; rw [show 40 = LT.tid .edi from rfl, ei]; simp [ez1, hl], d, err, rfl, hT, ?_, put_below (hb03.trans (hb6.mono (by omega))) (Nat.le_refl _) _, .inr ⟨rfl, hor⟩⟩
      exact (hrd6.keep (hp.keepS fun b hb hn => by have hn : b = w.heap.size := hn; have := hb.1; omega)).mono fun b hb => ⟨by have := hb.1; omega, by have := hb.2; omega⟩
    have hlt2 : w.heap.size < W2.heap.size := by omega
    clear hM hb02 hz2 hs2 hb3 hs3 hz3 hb03 hx hrd hS hb2 hone HC
    go_wp2_with fail
    refine HM.out.mono ?_
    rintro e W6 ⟨d, err, WF, rfl, hst, hld, HSZ, HQ⟩
    have HST := hiq hst
    have HLD := hiq hld
    clear hst hld HM
    go_wp2_with ((with_reducible refine wpList_stL HST.out rfl _ _ _ rfl ?_ ?_ ?_ ?_); rfl; rfl; exact HSZ.out)
    exact ret_ldL2 HLD.out rfl rfl rfl rfl HQ.out
  · have hne : (er != 0) = true := by simp [h0]
    have hE : ParQ x er w (.returned (.tuple #[.agg (LT.zero .edi).toArray, .int .i64 er])) (putL (W2.alloc (.cells #[.int .i64 k, .int .i64 nn, .string t, .slice a l.length c] 24)) w.heap.size 0 (LT.zero .edi)) :=
      ⟨zeroEd, er, by rw [zeroEd_cells], zeroEd_has, zeroEd_rd _ _, put_below hb03 (Nat.le_refl _) _, .inl ⟨h0, rfl, rfl⟩⟩
    have HST := hiq (run_putL (LT.zero .edi) 0 _ _ hz3 (by simp [LT.zero]) hone)
    have HLD := hiq (LT.ld .edi rfl rfl (putL_at (LT.zero .edi) rfl hz3))
    have HE := hiq hE
    have hlt2 : w.heap.size < W2.heap.size := by omega
    generalize putL (W2.alloc (.cells #[.int .i64 k, .int .i64 nn, .string t, .slice a l.length c] 24)) w.heap.size 0 (LT.zero .edi) = WF at *
    dsimp only [LT.zero] at HST HLD HE
    clear hb02 hz2 hs2 hb3 hs3 hz3 hb03 hx hrd hS hb2 hone HC hE h0
    go_wp2_with ((with_reducible refine wpList_stL HST.out rfl _ _ _ rfl ?_ ?_ ?_ ?_); rfl; rfl; kernel_rfl)
    exact ret_ldL2 HLD.out rfl rfl rfl rfl HE.out
end Go.Proofs.YtlbcmeebcfalpaaGreatDoor
namespace Go.Proofs.YtlbcmeebcfalpaaGreatDoor

theorem leaf_sound {s r : List UInt8} {v : V} (h : scalP s = some (v, r)) : s = encV v ++ r := by
  cases s with
  | nil => cases h
  | cons c s =>
    rw [scalP] at h
    split at h
    · rename_i hc
      cases hn : numP 59 s with
      | none => rw [hn] at h; cases h
      | some p =>
        rw [hn] at h
        obtain ⟨n, r'⟩ := p
        cases h
        obtain ⟨_, rfl⟩ := (numP_iff 59 (by decide) _ _ _).1 hn
        subst hc
        rw [encV_leaf (v := .mk 1 n ⟨#[]⟩ []) (.inl rfl)]
        show _ = (105 :: (Lib.itoa n ++ [59])) ++ r'
        simp
    · split at h
      · rename_i hc
        cases hn : numP 58 s with
        | none => rw [hn] at h; cases h
        | some p =>
          rw [hn] at h
          obtain ⟨n, r'⟩ := p
          simp only [] at h
          split at h
          · cases h
          · rename_i hb
            cases h
            obtain ⟨_, rfl⟩ := (numP_iff 58 (by decide) _ _ _).1 hn
            subst hc
            rw [encV_leaf (v := .mk 2 0 ⟨(r'.take n.toNat).toArray⟩ []) (.inr rfl)]
            have hsz : (ByteArray.size ⟨(r'.take n.toNat).toArray⟩ : Int) = n := by
              show (((r'.take n.toNat).toArray.size : Nat) : Int) = n
              rw [List.size_toArray, List.length_take]; omega
            show _ = (115 :: (Lib.itoa (ByteArray.size ⟨(r'.take n.toNat).toArray⟩ : Int) ++ 58 :: (r'.take n.toNat))) ++ r'.drop n.toNat
            rw [hsz]
            simp
      · cases h
/-- What has been read, in a state. -/
def stk : List V -> List (List V) -> List UInt8
  | top, [] => encL top
  | top, b :: bs => stk b bs ++ 108 :: encL top
theorem stk_snoc (top : List V) (bs : List (List V)) (v : V) : stk (top ++ [v]) bs = stk top bs ++ encV v := by
  have e : encL [v] = encV v := by rw [encL, encL, List.append_nil]
  cases bs with
  | nil => rw [stk, stk, encL_append, e]
  | cons b bs => rw [stk, stk, encL_append, e]; simp
theorem leafStep_sound {top : List V} {below : List (List V)} {s : List UInt8} {y : List V × List (List V) × List UInt8} (h : leafStep top below s = .inr y) : stk top below ++ s = stk y.1 y.2.1 ++ y.2.2 := by
  unfold leafStep at h
  cases hp : scalP s with
  | none => rw [hp] at h; cases h
  | some p =>
    rw [hp] at h; cases h
    show _ = stk (top ++ [p.1]) below ++ p.2
    rw [stk_snoc, List.append_assoc, <- leaf_sound (v := p.1) (r := p.2) hp]
theorem decStep_sound {top : List V} {below : List (List V)} {s : List UInt8} {y : List V × List (List V) × List UInt8} (h : decStep top below s = .inr y) : stk top below ++ s = stk y.1 y.2.1 ++ y.2.2 := by
  unfold decStep at h
  split at h
  · cases h
  · exact leafStep_sound h
  · split at h
    · rename_i hc
      cases h
      subst hc
      show _ = stk [] (_ :: _) ++ _
      rw [stk, encL]; simp
    · split at h
      · rename_i hc
        split at h
        · exact leafStep_sound h
        · cases h
          subst hc
          show _ = stk (_ ++ [V.mk 3 0 ⟨#[]⟩ _]) _ ++ _
          rw [stk_snoc, encV_list (by simp [V.kind]), stk]
          simp [V.items]
      · exact leafStep_sound h
theorem decStep_end {top : List V} {below : List (List V)} {s : List UInt8} {x : V × List UInt8} (h : decStep top below s = .inl (some x)) : below = [] /\ top = [x.1] /\ x.2 = s := by
  have hl : ∀ (t : List V) (b : List (List V)) (s : List UInt8), leafStep t b s ≠ .inl (some x) := fun t b s e => by
    unfold leafStep at e
    cases hp : scalP s with
    | none => rw [hp] at e; cases e
    | some p => rw [hp] at e; cases e
  unfold decStep at h
  split at h
  · cases h; exact ⟨rfl, rfl, rfl⟩
  · exact absurd h (hl _ _ _)
  · split at h
    · cases h
    · split at h
      · split at h
        · exact absurd h (hl _ _ _)
        · cases h
      · exact absurd h (hl _ _ _)
theorem decS_sound : ∀ (f : Nat) (top : List V) (below : List (List V)) (s : List UInt8) (v : V) (r : List UInt8), decS f top below s = some (v, r) -> stk top below ++ s = encV v ++ r
  | 0, _, _, _, _, _, h => by cases h
  | f + 1, top, below, s, v, r, h => by
    rw [decS] at h
    cases hs : decStep top below s with
    | inl x =>
      rw [hs] at h
      simp only [] at h
      subst h
      obtain ⟨rfl, rfl, rfl⟩ := decStep_end hs
      rw [stk, encL, encL, List.append_nil]
    | inr y =>
      rw [hs] at h
      rw [decStep_sound hs]
      exact decS_sound f _ _ _ v r h
/-- What is decoded is the encoding of the result. -/
theorem decode_sound {s : List UInt8} {v : V} (h : decode s = (v, 0)) : encB v = s /\ encE v = 0 := by
  unfold decode at h
  split at h
  · cases h
  · rename_i hl
    cases hd : decR [] [] s with
    | none => rw [hd] at h; cases h
    | some p =>
      rw [hd] at h
      obtain ⟨v', r⟩ := p
      simp only [] at h
      split at h
      · rename_i hr
        subst hr
        split at h
        · rename_i hc
          cases h
          have e := decS_sound _ _ _ _ _ _ hd
          rw [stk, encL, List.nil_append, List.append_nil] at e
          rw [encB, encE, if_pos ⟨hc, by rw [<- e]; omega⟩, if_neg (by simpa using hc), if_neg (by rw [<- e]; exact hl)]
          exact ⟨e.symm, rfl⟩
        · cases h
      · cases h
theorem toArray_bytes (t : ByteArray) : (⟨t.data.toList.toArray⟩ : ByteArray) = t := by cases t; simp
theorem leaf_dec {v : V} (hs : singV v = 0) (hn : NumOk v) (hk : v.kind = 1 \/ v.kind = 2) (r : List UInt8) : scalP (leafV v ++ r) = some (v, r) := by
  obtain ⟨k, n, t, l⟩ := v
  obtain ⟨h1, h2, h3, h4, h5, h6⟩ := singV_ok hs
  simp only [V.kind, V.num, V.text, V.items] at h1 h2 h3 h4 h5 h6 hk
  have hi := hn.num
  simp only [V.num] at hi
  obtain rfl : l = [] := h4 (by omega)
  rcases hk with rfl | rfl
  · have ht : t = ⟨#[]⟩ := by
      have := h6 (by omega)
      obtain ⟨d⟩ := t
      have : d.size = 0 := this
      rw [Array.eq_empty_of_size_eq_zero this]
    subst ht
    show scalP (105 :: (Lib.itoa n ++ [59]) ++ r) = _
    rw [List.cons_append, scalP, if_pos rfl, (numP_iff 59 (by decide) _ r n).2 ⟨hi, by simp⟩]
    rfl
  · obtain rfl : n = 0 := h5 (by omega)
    show scalP (115 :: (Lib.itoa t.size ++ 58 :: t.data.toList) ++ r) = _
    have hl : t.data.toList.length = t.size := Array.length_toList
    rw [List.cons_append, scalP, if_neg (by decide), if_pos rfl, (numP_iff 58 (by decide) _ (t.data.toList ++ r) t.size).2 ⟨⟨by omega, by omega⟩, by simp⟩]
    simp only [List.length_append]
    rw [if_neg (by omega)]
    simp only [Int.toNat_natCast]
    rw [<- hl, List.take_left, List.drop_left, toArray_bytes]
theorem encV_head (v : V) : ∃ c r, leafV v = c :: r /\ (c = 105 \/ c = 115) := by
  unfold leafV
  split
  · exact ⟨_, _, rfl, .inl rfl⟩
  · exact ⟨_, _, rfl, .inr rfl⟩
theorem decStep_leaf' {top : List V} {below : List (List V)} {s : List UInt8} (h : ¬ (below = [] /\ top.length = 1)) (hs : ∀ c r, s = c :: r -> c ≠ 108 /\ c ≠ 101) : decStep top below s = leafStep top below s := by
  unfold decStep
  split
  · exact absurd ⟨rfl, rfl⟩ h
  · rfl
  · obtain ⟨h1, h2⟩ := hs _ _ rfl
    rw [if_neg h1, if_neg h2]
theorem decStep_list' {top b : List V} {bs : List (List V)} {r : List UInt8} : decStep top (b :: bs) (101 :: r) = .inr (b ++ [.mk 3 0 ⟨#[]⟩ top], bs, r) := by
  unfold decStep; simp
/-- Reading the encoding of a value lays it on the list on top. -/
theorem dec_enc (v : V) : ∀ (top : List V) (below : List (List V)) (r : List UInt8), allV v = 0 -> NumOk v -> ¬ (below = [] /\ top.length = 1) -> decR top below (encV v ++ r) = decR (top ++ [v]) below r := by
  induction v using V.ind with
  | h v ih =>
    intro top below r ha hn ht
    obtain ⟨hs, hi⟩ := allV_items ha
    by_cases hk : v.kind = 1 \/ v.kind = 2
    · rw [encV_leaf hk, decR_step, decStep_leaf' ht (fun c r' e => by
        obtain ⟨c0, r0, h0, h1⟩ := encV_head v
        rw [h0, List.cons_append] at e
        cases e
        rcases h1 with rfl | rfl <;> exact ⟨by decide, by decide⟩), leafStep, leaf_dec hs hn hk]
    · have h3 : v.kind = 3 := by have := (singV_ok hs).1; omega
      rw [encV_list hk, decR_step, List.cons_append]
      have e1 : decStep top below (108 :: (encL v.items ++ [101] ++ r)) = .inr ([], top :: below, encL v.items ++ [101] ++ r) := by
        unfold decStep
        split
        · exact absurd ⟨rfl, rfl⟩ ht
        · rename_i e; cases e
        · rename_i e; cases e; rw [if_pos rfl]
      rw [e1]
      simp only []
      have key : ∀ (l acc : List V) (r' : List UInt8), (∀ u ∈ l, u ∈ v.items) -> decR acc (top :: below) (encL l ++ r') = decR (acc ++ l) (top :: below) r' := by
        intro l
        induction l with
        | nil => intro acc r' _; rw [encL, List.nil_append, List.append_nil]
        | cons u l ihl =>
          intro acc r' hm
          have hu := hm u (by simp)
          rw [encL, List.append_assoc, ih u hu acc (top :: below) _ (hi u hu) (hn.items u hu) (fun e => by cases e.1), ihl _ _ (fun x hx => hm x (by simp [hx]))]
          simp
      rw [List.append_assoc, key v.items [] _ (fun u hu => hu), List.nil_append, decR_step]
      have e2 : decStep v.items (top :: below) ([101] ++ r) = .inr (top ++ [v], below, r) := by
        show decStep v.items (top :: below) (101 :: r) = _
        rw [decStep_list']
        obtain ⟨k, n, t, l⟩ := v
        obtain ⟨_, _, _, _, h5, h6⟩ := singV_ok hs
        simp only [V.kind, V.num, V.text] at h3 h5 h6
        subst h3
        obtain rfl := h5 (by omega)
        have ht : t = ⟨#[]⟩ := by
          have := h6 (by omega)
          obtain ⟨d⟩ := t
          have : d.size = 0 := this
          rw [Array.eq_empty_of_size_eq_zero this]
        subst ht
        rfl
      rw [e2]
theorem dec_one (v : V) (r : List UInt8) (ha : allV v = 0) (hn : NumOk v) : decR [] [] (encV v ++ r) = some (v, r) := by
  rw [dec_enc v [] [] r ha hn (by simp), List.nil_append, decR_step]
  rfl
theorem chkV_all {v : V} (h : chkV v = 0) : allV v = 0 := (chkV_good h).2
/-- No encoding begins with that of another value. -/
theorem enc_prefix {a b : V} {r : List UInt8} (ha : allV a = 0) (hb : allV b = 0) (na : NumOk a) (nb : NumOk b) (h : encV b = encV a ++ r) : a = b /\ r = [] := by
  have h1 := dec_one b [] hb nb
  rw [List.append_nil, h, dec_one a r ha na] at h1
  cases h1
  exact ⟨rfl, rfl⟩
theorem enc_inj {a b : V} (ha : allV a = 0) (hb : allV b = 0) (na : NumOk a) (nb : NumOk b) : encV a = encV b ↔ a = b :=
  ⟨fun h => (enc_prefix ha hb na nb (r := []) (by rw [List.append_nil, h])).1, fun h => by rw [h]⟩
theorem decode_enc {v : V} (h : chkV v = 0) (hn : NumOk v) (hl : (encV v).length <= 1048576) : decode (encV v) = (v, 0) := by
  have := dec_one v [] (chkV_all h) hn
  rw [List.append_nil] at this
  unfold decode
  rw [if_neg (by omega), this]
  simp only []
  rw [if_pos trivial, if_pos h]
end Go.Proofs.YtlbcmeebcfalpaaGreatDoor
namespace Go.Proofs.YtlbcmeebcfalpaaGreatDoor
open Go.RowKit

theorem cnt_fold {n : Nat} : ∀ (l : List V) (s k : Nat), l.foldl (fun s u => s.bind fun size => (cntD n u).bind fun k => some (size + k)) (some s) = some k -> s + l.length <= k /\ ∀ u ∈ l, ∃ j, cntD n u = some j /\ j <= k
  | [], s, k, h => by cases h; exact ⟨by simp, fun u hu => by cases hu⟩
  | u :: l, s, k, h => by
    rw [List.foldl_cons] at h
    cases hc : cntD n u with
    | none => rw [hc] at h; simp only [Option.bind_some, Option.bind_none] at h; rw [foldl_none (fun size u => (cntD n u).bind fun k => some (size + k))] at h; cases h
    | some c =>
      rw [hc] at h
      have hp := cntD_pos n u c hc
      obtain ⟨h1, h2⟩ := cnt_fold l (s + c) k h
      refine ⟨by rw [List.length_cons]; omega, fun x hx => ?_⟩
      rcases List.mem_cons.1 hx with rfl | hx
      · exact ⟨c, hc, by omega⟩
      · exact h2 x hx
theorem cnt_items {n k : Nat} {l : List V} (h : cntD (n + 1) (.mk 3 0 ⟨#[]⟩ l) = some k) : l.length + 1 <= k /\ ∀ u ∈ l, ∃ j, cntD n u = some j /\ j <= k := by
  unfold cntD at h
  rw [if_pos (show (V.mk 3 0 ⟨#[]⟩ l).kind = 3 from rfl)] at h
  obtain ⟨h1, h2⟩ := cnt_fold l 1 k h
  exact ⟨by omega, h2⟩
theorem sm_cnt (d : Dv) : ∀ n k, cntD n d.toV = some k -> k <= 65536 -> Sm d := by
  induction d using Dv.ind with
  | hi n => intro n k _ _; rw [Sm]; exact trivial
  | hb b => intro n k _ _; rw [Sm]; exact trivial
  | ht t => intro n k _ _; rw [Sm]; exact trivial
  | hs l ih =>
    intro n k h hk
    rw [Dv.toV, Dv.toVL_map] at h
    cases n with
    | zero => cases h
    | succ n =>
      obtain ⟨h1, h2⟩ := cnt_items h
      refine sm_struc.2 fun d hd => ?_
      obtain ⟨j, hj, hjk⟩ := h2 d.toV (List.mem_map_of_mem hd)
      exact ih d hd n j hj (by omega)
  | hl k s a c l ih =>
    intro n k h hk
    rw [Dv.toV, Dv.toVL_map] at h
    cases n with
    | zero => cases h
    | succ n =>
      obtain ⟨h1, h2⟩ := cnt_items h
      rw [List.length_map] at h1
      refine sm_list.2 ⟨by omega, fun d hd => ?_⟩
      obtain ⟨j, hj, hjk⟩ := h2 d.toV (List.mem_map_of_mem hd)
      exact ih d hd n j hj (by omega)
theorem chkV_cnt {v : V} (h : chkV v = 0) : ∃ k, cntD 64 v = some k /\ k <= 65536 := by
  unfold chkV at h
  split at h
  · cases h
  · rename_i hn
    rw [measR_eq] at hn
    cases hc : cntD 64 v with
    | none => rw [hc] at hn; exact absurd rfl hn
    | some k =>
      rw [hc] at hn
      simp only at hn
      split at hn
      · exact ⟨k, rfl, by omega⟩
      · exact absurd rfl hn
/-- Data whose value is valid has short lists. -/
theorem sm_chk {d : Dv} (h : chkV d.toV = 0) : Sm d := by
  obtain ⟨k, h1, h2⟩ := chkV_cnt h
  exact sm_cnt d 64 k h1 h2
theorem numOk_d {S : Nat -> Prop} {w : World} (d : Dv) : RdD S w d -> NumOk d.toV := by
  induction d using Dv.ind with
  | hi n => intro h; rw [Dv.toV]; exact .mk h (fun u hu => by cases hu)
  | hb b => intro h; rw [Dv.toV]; exact .mk (by cases b <;> exact ⟨by decide, by decide⟩) (fun u hu => by cases hu)
  | ht t => intro h; rw [Dv.toV]; exact .mk (show (-9223372036854775808 : Int) <= 0 /\ (0 : Int) <= 9223372036854775807 by decide) (fun u hu => by cases hu)
  | hs l ih =>
    intro h
    rw [Dv.toV, Dv.toVL_map]
    refine .mk (show (-9223372036854775808 : Int) <= 0 /\ (0 : Int) <= 9223372036854775807 by decide) fun u hu => ?_
    obtain ⟨d, hd, rfl⟩ := List.mem_map.1 hu
    exact ih d hd (rdD_struc.1 h d hd)
  | hl k s a c l ih =>
    intro h
    rw [Dv.toV, Dv.toVL_map]
    refine .mk (show (-9223372036854775808 : Int) <= 0 /\ (0 : Int) <= 9223372036854775807 by decide) fun u hu => ?_
    obtain ⟨d, hd, rfl⟩ := List.mem_map.1 hu
    obtain ⟨j, hj⟩ := List.mem_iff_getElem?.1 hd
    exact ih d hd ((rdD_list.1 h).2.2.2 j d hj).2
theorem encE_ok {x : V} (h : encE x = 0) : chkV x = 0 /\ (encV x).length <= 1048576 /\ encB x = encV x := by
  unfold encE at h
  split at h
  · rename_i hn; exact absurd h hn
  · rename_i hn
    have h0 : chkV x = 0 := Decidable.not_not.1 hn
    split at h
    · cases h
    · rename_i hl
      exact ⟨h0, by omega, if_pos ⟨h0, by omega⟩⟩
theorem encB_inj {x y : V} (hx : encE x = 0) (hy : encE y = 0) (nx : NumOk x) (ny : NumOk y) : encB x = encB y ↔ x = y := by
  obtain ⟨h1, h2, h3⟩ := encE_ok hx
  obtain ⟨k1, k2, k3⟩ := encE_ok hy
  rw [h3, k3]
  exact enc_inj (chkV_all h1) (chkV_all k1) nx ny
end Go.Proofs.YtlbcmeebcfalpaaGreatDoor
