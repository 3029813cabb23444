/- The law InterchangePrints. -/
import Derived.Test.YtlbcmeebcfalpaaGreatDoorQLa
set_option linter.unusedVariables false
set_option linter.unusedSimpArgs false
set_option maxRecDepth 100000
set_option maxHeartbeats 16000000
namespace Go.Proofs.YtlbcmeebcfalpaaGreatDoor
open Go.RowKit

theorem rOp_ldG {X : Type} {Wf : X -> World} {ops : Array Oper} {o : Oper} {act : Act} {next : Act -> Prop} {b : Nat} {t : TypeId} {v : Value} (h : ∀ y, LdV b t v (Wf y)) (x : Operand) (ho : o.op = .load t x) (hg : Region.wanted o (yielded ops act.tmps) = true) (hx : act.eval x = .pointer (some ⟨b, 0, none⟩)) (hk : next (act.put o.dst v)) : rOp Tryz.prog ops Wf o act next := by
  unfold rOp
  rw [if_pos hg]
  refine ⟨v, fun y => ?_, hk⟩
  have h' : (loadVar t ⟨b, 0, none⟩).run Tryz.prog (Wf y) = .ok v (Wf y) := h y
  unfold execOp
  simp only [ho, hx, Instr.loadAt, Instr.sureAddr, Sem.run_bind, Sem.run_pure, Result.andThen_ok, h']
theorem box_keep {W : World} {C : Array Value} {t : TypeId} {V : World} (h : Below (W.alloc (.cells C t)).heap.size (W.alloc (.cells C t)) V) : V.heap[W.heap.size]? = some (.cells C t (0, 0)) := (h.block _ (by simp)).trans (World.alloc_heap_new W _)
theorem prints_law (d d2 : Dv) (w : World) (hT : Has tyEdition d) (hr : RdD (fun b => b < w.heap.size) w d) (hT2 : Has tyEdition d2) (hr2 : RdD (fun b => b < w.heap.size) w d2) (hE : Env w) : Calls Tryz.prog 6 #[d.val, d2.val] w fun e w' => e = .returned (.bool true) /\ Below w.heap.size w w' := by
  have hl1 := (LT.len .edi hT).1
  have hl2 := (LT.len .edi hT2).1
  have hv1 := (LT.len .edi hT).2.2.2 rfl
  have hv2 := (LT.len .edi hT2).2.2.2 rfl
  have HK := hiq (keepB_new w (LT.tid .edi) d.cells.toArray d2.cells.toArray)
  have HL1 : Hid (∀ V, KeepB w (LT.tid .edi) d.cells.toArray d2.cells.toArray V -> LdV w.heap.size (LT.tid .edi) (.agg d.cells.toArray) V) := fun V h => LT.ld .edi rfl hl1 h.fst
  have HL2 : Hid (∀ V, KeepB w (LT.tid .edi) d.cells.toArray d2.cells.toArray V -> LdV (w.heap.size + 1) (LT.tid .edi) (.agg d2.cells.toArray) V) := fun V h => LT.ld .edi rfl hl2 h.snd
  have hlt : ∀ V, KeepB w (LT.tid .edi) d.cells.toArray d2.cells.toArray V -> ∀ b, b < w.heap.size -> b < V.heap.size := fun V h b hb => Nat.lt_of_lt_of_le hb h.below.size
  have HA : Hid (∀ V, KeepB w (LT.tid .edi) d.cells.toArray d2.cells.toArray V -> Calls Tryz.prog 10 #[] V fun e V' => e = .returned (.bool true) /\ Below V.heap.size V V') := fun V h => awake_any (hE.below h.below)
  have HG1 : Hid (∀ V, KeepB w (LT.tid .edi) d.cells.toArray d2.cells.toArray V -> Calls Tryz.prog 17 #[.agg d.cells.toArray] V fun e V' => ∃ g : Bool, e = .returned (.bool g) /\ (g = false -> Sm d) /\ Below V.heap.size V V') := fun V h => by
    have := Great_any hT (hr.below h.below) (hlt V h)
    rw [hv1] at this; exact this
  have HG2 : Hid (∀ V, KeepB w (LT.tid .edi) d.cells.toArray d2.cells.toArray V -> Calls Tryz.prog 17 #[.agg d2.cells.toArray] V fun e V' => ∃ g : Bool, e = .returned (.bool g) /\ (g = false -> Sm d2) /\ Below V.heap.size V V') := fun V h => by
    have := Great_any hT2 (hr2.below h.below) (hlt V h)
    rw [hv2] at this; exact this
  have HP1 : Hid (Sm d -> ∀ V, KeepB w (LT.tid .edi) d.cells.toArray d2.cells.toArray V -> Calls Tryz.prog 16 #[.agg d.cells.toArray] V (PrtP d.toV V)) := fun hm V h => by
    have := print_any hT hm (hr.below h.below) (hlt V h) (hE.below h.below)
    rw [hv1] at this; exact this
  have HP2 : Hid (Sm d2 -> ∀ V, KeepB w (LT.tid .edi) d.cells.toArray d2.cells.toArray V -> Calls Tryz.prog 16 #[.agg d2.cells.toArray] V (PrtP d2.toV V)) := fun hm V h => by
    have := print_any hT2 hm (hr2.below h.below) (hlt V h) (hE.below h.below)
    rw [hv2] at this; exact this
  have HE1 : Hid (prtE d.toV = 0 \/ prtE d.toV = 4) := prtE_two _
  have HE2 : Hid (prtE d2.toV = 0 \/ prtE d2.toV = 4) := prtE_two _
  have HPR : Hid (Sm d -> ∀ V, KeepB w (LT.tid .edi) d.cells.toArray d2.cells.toArray V -> Calls Tryz.prog 19 #[.agg d.cells.toArray] V (PrtP d.toV V)) := fun hm V h => by
    have := print_ref hT hm (hr.below h.below) (hlt V h) (hE.below h.below)
    rw [hv1] at this; exact this
  have HV1 : Hid (Sm d -> ∀ V, KeepB w (LT.tid .edi) d.cells.toArray d2.cells.toArray V -> Calls Tryz.prog 20 #[.agg d.cells.toArray] V (ValP d.toV V)) := fun hm V h => by
    have := value_any hT hm (hr.below h.below) (hlt V h)
    rw [hv1] at this; exact this
  have HV2 : Hid (Sm d -> ∀ V, KeepB w (LT.tid .edi) d.cells.toArray d2.cells.toArray V -> Calls Tryz.prog 21 #[.agg d.cells.toArray] V (ValP d.toV V)) := fun hm V h => by
    have := value_ref hT hm (hr.below h.below) (hlt V h)
    rw [hv1] at this; exact this
  have HS12 : Hid (Sm d -> Sm d2 -> ∀ V, KeepB w (LT.tid .edi) d.cells.toArray d2.cells.toArray V -> Calls Tryz.prog 18 #[.agg d.cells.toArray, .agg d2.cells.toArray] V fun e V' => e = .returned (.bool (sameV d.toV d2.toV)) /\ Below V.heap.size V V') := fun m1 m2 V h => by
    have := sameE_any hT hT2 m1 m2 (hr.below h.below) (hr2.below h.below) (hlt V h) (hlt V h)
    rw [hv1, hv2] at this; exact this
  have HSR : Hid (∀ V, KeepB w (LT.tid .edi) d.cells.toArray d2.cells.toArray V -> Calls Tryz.prog 15 #[.agg d.cells.toArray, .agg d2.cells.toArray] V (SmeP d.toV d2.toV V)) := fun V h => by
    have := Same_ref hT hT2 (hr.below h.below) (hr2.below h.below)
    rw [hv1, hv2] at this; exact this
  dsimp only [LT.tid] at HPR HV1 HV2 HS12 HSR
  unfold SmeP at HSR
  unfold PrtP at HPR
  unfold ValP at HV1 HV2
  obtain ⟨zz, hzz⟩ : ∃ zz, zz = (if chkV d.toV = 0 then d.toV else zeroV) := ⟨_, rfl⟩
  rw [<- hzz] at HV1 HV2
  clear hzz
  dsimp only [LT.tid] at HK HL1 HL2 HA HG1 HG2 HP1 HP2
  rw [hv1, hv2]
  unfold PrtP at HP1 HP2
  clear hl1 hl2 hv1 hv2 hlt hT hT2 hr hr2 hE
  generalize sameV d.toV d2.toV = R at *
  generalize (⟨(encB d.toV).toArray⟩ : ByteArray) = X1 at *
  generalize (⟨(encB d2.toV).toArray⟩ : ByteArray) = X2 at *
  generalize prtE d.toV = E1 at *
  generalize prtE d2.toV = E2 at *
  generalize d.cells.toArray = A1 at *
  generalize d2.cells.toArray = A2 at *
  generalize (if chkV d.toV = 0 then (0 : Int) else 4) = CE at *
  go_enter Tryz.func6, Tryz.ntmps6
  go_wp2_with (first | ((with_reducible refine wpList_ldL (HL1.out _ HK.out) rfl _ rfl ?_ ?_); rfl) | ((with_reducible refine wpList_ldL (HL2.out _ HK.out) rfl _ rfl ?_ ?_); rfl) | ((with_reducible refine wpList_ldG (HL1.out _ HK.out) _ rfl ?_ ?_ ?_); (first | rfl | (simp [Region.wanted, yielded]; done)); rfl) | ((with_reducible refine wpList_ldG (HL2.out _ HK.out) _ rfl ?_ ?_ ?_); (first | rfl | (simp [Region.wanted, yielded]; done)); rfl) | fail)
  refine (HG1.out _ HK.out).mono ?_
  rintro e V1 ⟨g, rfl, hm, hb⟩
  replace HK := hiq (HK.out.next hb)
  clear hb
  cases g
  case true =>
    clear hm
    go_wp2_with fail
    refine (HA.out _ HK.out).mono ?_
    rintro e V9 ⟨rfl, hb⟩
    replace HK := hiq (HK.out.next hb)
    clear hb
    go_wp2
    go_ret
    exact ⟨rfl, HK.out.below⟩
  replace HP1 := hiq (HP1.out (hm rfl))
  have HS1 := hiq (hm rfl)
  clear hm HG1
  go_wp2_with (first | ((with_reducible refine wpList_ldL (HL1.out _ HK.out) rfl _ rfl ?_ ?_); rfl) | ((with_reducible refine wpList_ldL (HL2.out _ HK.out) rfl _ rfl ?_ ?_); rfl) | ((with_reducible refine wpList_ldG (HL1.out _ HK.out) _ rfl ?_ ?_ ?_); (first | rfl | (simp [Region.wanted, yielded]; done)); rfl) | ((with_reducible refine wpList_ldG (HL2.out _ HK.out) _ rfl ?_ ?_ ?_); (first | rfl | (simp [Region.wanted, yielded]; done)); rfl) | fail)
  refine (HG2.out _ HK.out).mono ?_
  rintro e V1 ⟨g, rfl, hm, hb⟩
  replace HK := hiq (HK.out.next hb)
  clear hb
  cases g
  case true =>
    clear hm
    go_wp2_with fail
    refine (HA.out _ HK.out).mono ?_
    rintro e V9 ⟨rfl, hb⟩
    replace HK := hiq (HK.out.next hb)
    clear hb
    go_wp2
    go_ret
    exact ⟨rfl, HK.out.below⟩
  replace HP2 := hiq (HP2.out (hm rfl))
  have HS2 := hiq (hm rfl)
  clear hm HG2
  replace HPR := hiq (HPR.out HS1.out)
  replace HV1 := hiq (HV1.out HS1.out)
  replace HV2 := hiq (HV2.out HS1.out)
  replace HS12 := hiq (HS12.out HS1.out HS2.out)
  clear HP2 HE1 HE2 HS1 HS2
  go_wp2_with (first | ((with_reducible refine wpList_ldL (HL1.out _ HK.out) rfl _ rfl ?_ ?_); rfl) | ((with_reducible refine wpList_ldL (HL2.out _ HK.out) rfl _ rfl ?_ ?_); rfl) | ((with_reducible refine wpList_ldG (HL1.out _ HK.out) _ rfl ?_ ?_ ?_); (first | rfl | (simp [Region.wanted, yielded]; done)); rfl) | ((with_reducible refine wpList_ldG (HL2.out _ HK.out) _ rfl ?_ ?_ ?_); (first | rfl | (simp [Region.wanted, yielded]; done)); rfl) | fail)
  refine (HP1.out _ HK.out).mono ?_
  rintro e V2 ⟨rfl, hb⟩
  replace HK := hiq (HK.out.next hb)
  clear hb
  go_wp2_with (first | ((with_reducible refine wpList_ldL (HL1.out _ HK.out) rfl _ rfl ?_ ?_); rfl) | ((with_reducible refine wpList_ldL (HL2.out _ HK.out) rfl _ rfl ?_ ?_); rfl) | ((with_reducible refine wpList_ldG (HL1.out _ HK.out) _ rfl ?_ ?_ ?_); (first | rfl | (simp [Region.wanted, yielded]; done)); rfl) | ((with_reducible refine wpList_ldG (HL2.out _ HK.out) _ rfl ?_ ?_ ?_); (first | rfl | (simp [Region.wanted, yielded]; done)); rfl) | fail)
  refine (HPR.out _ HK.out).mono ?_
  rintro e V3 ⟨rfl, hb⟩
  replace HK := hiq (HK.out.next hb)
  clear hb
  go_wp2_with (first | ((with_reducible refine wpList_ldL (HL1.out _ HK.out) rfl _ rfl ?_ ?_); rfl) | ((with_reducible refine wpList_ldL (HL2.out _ HK.out) rfl _ rfl ?_ ?_); rfl) | ((with_reducible refine wpList_ldG (HL1.out _ HK.out) _ rfl ?_ ?_ ?_); (first | rfl | (simp [Region.wanted, yielded]; done)); rfl) | ((with_reducible refine wpList_ldG (HL2.out _ HK.out) _ rfl ?_ ?_ ?_); (first | rfl | (simp [Region.wanted, yielded]; done)); rfl) | fail)
  refine (HV1.out _ HK.out).mono ?_
  rintro e V4 ⟨⟨k, nn, t, a, c, l⟩, he, hx, hrd, hb⟩
  change e = .returned (.tuple #[.agg #[.int .i64 k, .int .i64 nn, .string t, .slice a l.length c], .int .i64 CE]) at he
  subst he
  replace HK := hiq ((HK.out.next hb).next ((Below.refl _ _).alloc (Nat.le_refl _) (.cells #[.int .i64 k, .int .i64 nn, .string t, .slice a l.length c] 24)))
  clear hb HP1 HPR HV1
  go_wp2_with (first | ((with_reducible refine wpList_ldL (HL1.out _ HK.out) rfl _ rfl ?_ ?_); rfl) | ((with_reducible refine wpList_ldL (HL2.out _ HK.out) rfl _ rfl ?_ ?_); rfl) | ((with_reducible refine wpList_ldG (HL1.out _ HK.out) _ rfl ?_ ?_ ?_); (first | rfl | (simp [Region.wanted, yielded]; done)); rfl) | ((with_reducible refine wpList_ldG (HL2.out _ HK.out) _ rfl ?_ ?_ ?_); (first | rfl | (simp [Region.wanted, yielded]; done)); rfl) | fail)
  refine (HV2.out _ HK.out).mono ?_
  rintro e V5 ⟨⟨k2, nn2, t2, a2, c2, l2⟩, he, hx2, hrd2, hb⟩
  change e = .returned (.tuple #[.agg #[.int .i64 k2, .int .i64 nn2, .string t2, .slice a2 l2.length c2], .int .i64 CE]) at he
  subst he
  replace HK := hiq ((HK.out.next hb).next ((Below.refl _ _).alloc (Nat.le_refl _) (.cells #[.int .i64 k2, .int .i64 nn2, .string t2, .slice a2 l2.length c2] 24)))
  have hb5 : Below V5.heap.size V5 (V5.alloc (.cells #[.int .i64 k2, .int .i64 nn2, .string t2, .slice a2 l2.length c2] 24)) := (Below.refl _ _).alloc (Nat.le_refl _) _
  have hbx : V5.heap[V4.heap.size]? = some (.cells #[.int .i64 k, .int .i64 nn, .string t, .slice a l.length c] 24 (0, 0)) := box_keep hb
  have hq1 : ∀ V, Below (V5.alloc (.cells #[.int .i64 k2, .int .i64 nn2, .string t2, .slice a2 l2.length c2] 24)).heap.size (V5.alloc (.cells #[.int .i64 k2, .int .i64 nn2, .string t2, .slice a2 l2.length c2] 24)) V -> V.heap[V4.heap.size]? = some (.cells #[.int .i64 k, .int .i64 nn, .string t, .slice a l.length c] 24 (0, 0)) /\ V.heap[V5.heap.size]? = some (.cells #[.int .i64 k2, .int .i64 nn2, .string t2, .slice a2 l2.length c2] 24 (0, 0)) := fun V hV => by
    have h9 := (Array.getElem?_eq_some_iff.1 hbx).1
    exact ⟨(hV.block _ (by simp; omega)).trans ((hb5.block _ h9).trans hbx), box_keep hV⟩
  have HS6 : Hid (∀ V, Below (V5.alloc (.cells #[.int .i64 k2, .int .i64 nn2, .string t2, .slice a2 l2.length c2] 24)).heap.size (V5.alloc (.cells #[.int .i64 k2, .int .i64 nn2, .string t2, .slice a2 l2.length c2] 24)) V -> Calls Tryz.prog 22 #[.agg #[.int .i64 k, .int .i64 nn, .string t, .slice a l.length c], .agg #[.int .i64 k2, .int .i64 nn2, .string t2, .slice a2 l2.length c2]] V fun e V' => e = .returned (.bool true) /\ Below V.heap.size V V') := fun V hV => by
    have hbV := hb5.trans (hV.mono hb5.size)
    have h4 : Below V4.heap.size V4 (V4.alloc (.cells #[.int .i64 k, .int .i64 nn, .string t, .slice a l.length c] 24)) := (Below.refl _ _).alloc (Nat.le_refl _) _
    have hb4 := (h4.trans (hb.mono h4.size)).trans (hbV.mono (Nat.le_trans h4.size hb.size))
    have := same_ref _ _ (.mk k nn t a c l) (.mk k2 nn2 t2 a2 c2 l2) V (hrd.below hb4) (hrd2.below hbV)
    rw [hx, hx2, sameV_true rfl] at this
    exact this
  have HQ1 := hiq hq1
  clear hb hb5 hbx hq1 hx hx2 hrd hrd2 HV2
  cases R
  all_goals
    go_wp2_with (first | ((with_reducible refine wpList_ldL (HL1.out _ HK.out) rfl _ rfl ?_ ?_); rfl) | ((with_reducible refine wpList_ldL (HL2.out _ HK.out) rfl _ rfl ?_ ?_); rfl) | ((with_reducible refine wpList_ldG (HL1.out _ HK.out) _ rfl ?_ ?_ ?_); (first | rfl | (simp [Region.wanted, yielded]; done)); rfl) | ((with_reducible refine wpList_ldG (HL2.out _ HK.out) _ rfl ?_ ?_ ?_); (first | rfl | (simp [Region.wanted, yielded]; done)); rfl) | fail)
    generalize World.alloc V5 _ = W7 at *
    obtain ⟨X, Wf, hX, hS1, hS2⟩ := family (fun V => Below W7.heap.size W7 V) W7 (Below.refl _ _)
    have HS2 := hiq hS2
    have HK7 : Hid (∀ y, KeepB w 40 A1 A2 (Wf y)) := fun y => HK.out.next (hS1 y)
    have q := fun y => And.intro (box_cells (HQ1.out _ (hS1 y)).1) (box_cells (HQ1.out _ (hS1 y)).2)
    clear hS1 hS2
    have hd0 : Below W7.heap.size W7 W7.drew := (Below.refl _ _).drew
    refine wp_region_tree (Wf := Wf) 30 (.read 0 (.read 1 (.read 2 (.read 3 (.read 4 (.read 5 (.read 6 (.read 7 (.read 8 (.read 9 (.read 10 (.act 11 (.read 12 (.read 13 (.read 14 (.read 15 (.read 16 (.read 17 (.read 18 (.read 19 (.read 20 (.read 22 (.read 23 (.act 21 (.act 24 (.read 25 (.read 26 (.read 27 (.act 28 (.read 29 .fin)))))))))))))))))))))))))))))) (by kernel_rfl) (by kernel_rfl) (fun _ _ d _ _ h => by cases d <;> exact h) (HS2.out _ hd0) ?_
    refine wpTree_read _ rfl (fun K hK => ?_); unfold rOp; go_simp; (refine hK _ ?_; clear hK K)
    refine wpTree_read _ rfl (fun K hK => ?_); unfold rOp; go_simp; (refine hK _ ?_; clear hK K)
    refine wpTree_read _ rfl (fun K hK => ?_); unfold rOp; go_simp; (refine hK _ ?_; clear hK K)
    refine wpTree_read _ rfl (fun K hK => ?_); unfold rOp; go_simp; (refine hK _ ?_; clear hK K)
    refine wpTree_read _ rfl (fun K hK => ?_); unfold rOp; go_simp; (refine hK _ ?_; clear hK K)
    refine wpTree_read _ rfl (fun K hK => ?_); unfold rOp; go_simp; (refine hK _ ?_; clear hK K)
    refine wpTree_read _ rfl (fun K hK => ?_); unfold rOp; go_simp; (refine hK _ ?_; clear hK K)
    refine wpTree_read _ rfl (fun K hK => ?_); unfold rOp; go_simp; (refine hK _ ?_; clear hK K)
    refine wpTree_read _ rfl (fun K hK => ?_); unfold rOp; go_simp; (refine hK _ ?_; clear hK K)
    refine wpTree_read _ rfl (fun K hK => ?_); unfold rOp; go_simp; (refine hK _ ?_; clear hK K)
    refine wpTree_read _ rfl (fun K hK => ?_); unfold rOp; go_simp; (refine hK _ ?_; clear hK K)
    clear q
    refine wpTree_act _ rfl ?_
    go_wp2_with fail
    refine (HS6.out _ hd0).mono ?_
    rintro e U1 ⟨rfl, hb⟩
    have hd1 := hd0.trans (hb.mono hd0.size)
    clear hb
    go_wp2_with fail
    refine ⟨HS2.out _ hd1, ?_⟩
    refine wpTree_read _ rfl (fun K hK => ?_); unfold rOp; go_simp; (refine hK _ ?_; clear hK K)
    refine wpTree_read _ rfl (fun K hK => ?_); unfold rOp; go_simp; (refine hK _ ?_; clear hK K)
    refine wpTree_read _ rfl (fun K hK => ?_); unfold rOp; go_simp; (refine hK _ ?_; clear hK K)
    refine wpTree_read _ rfl (fun K hK => ?_); unfold rOp; go_simp; (refine hK _ ?_; clear hK K)
    refine wpTree_read _ rfl (fun K hK => ?_); unfold rOp; go_simp; (refine hK _ ?_; clear hK K)
    refine wpTree_read _ rfl (fun K hK => ?_); unfold rOp; go_simp; (refine hK _ ?_; clear hK K)
    refine wpTree_read _ rfl (fun K hK => ?_); unfold rOp; go_simp; (refine hK _ ?_; clear hK K)
    refine wpTree_read _ rfl (fun K hK => ?_)
    refine rOp_ldG (fun y => HL1.out _ (HK7.out y)) _ rfl (by first | rfl | simp [Region.wanted, yielded]) rfl (hK _ ?_)
    clear hK K
    refine wpTree_read _ rfl (fun K hK => ?_)
    refine rOp_ldG (fun y => HL2.out _ (HK7.out y)) _ rfl (by first | rfl | simp [Region.wanted, yielded]) rfl (hK _ ?_)
    clear hK K
    refine wpTree_read _ rfl (fun K hK => ?_)
    refine rOp_ldG (fun y => HL1.out _ (HK7.out y)) _ rfl (by first | rfl | simp [Region.wanted, yielded]) rfl (hK _ ?_)
    clear hK K
    refine wpTree_read _ rfl (fun K hK => ?_)
    refine rOp_ldG (fun y => HL2.out _ (HK7.out y)) _ rfl (by first | rfl | simp [Region.wanted, yielded]) rfl (hK _ ?_)
    clear hK K
    refine wpTree_act _ rfl ?_
    go_wp2_with fail
    refine (HS12.out _ (HK.out.next hd1)).mono ?_
    rintro e U2 ⟨rfl, hb⟩
    have hd2 := hd1.trans (hb.mono hd1.size)
    clear hb
    go_wp2_with fail
    refine ⟨HS2.out _ hd2, wpTree_act _ rfl ?_⟩
    go_wp2_with fail
    refine (HSR.out _ (HK.out.next hd2)).mono ?_
    rintro e U3 ⟨rfl, hb⟩
    have hd3 := hd2.trans (hb.mono hd2.size)
    clear hb
    go_wp2_with fail
    refine ⟨HS2.out _ hd3, ?_⟩
    refine wpTree_read _ rfl (fun K hK => ?_); unfold rOp; go_simp; (refine hK _ ?_; clear hK K)
    refine wpTree_read _ rfl (fun K hK => ?_); unfold rOp; go_simp; (refine hK _ ?_; clear hK K)
    refine wpTree_read _ rfl (fun K hK => ?_); unfold rOp; go_simp; (refine hK _ ?_; clear hK K)
    refine wpTree_act _ rfl ?_
    go_wp2_with fail
    refine (HA.out _ (HK.out.next hd3)).mono ?_
    rintro e U4 ⟨rfl, hb⟩
    have hd4 := hd3.trans (hb.mono hd3.size)
    have HZ := hiq (HK.out.next hd4).below
    clear hb
    go_wp2_with fail
    refine ⟨HS2.out _ hd4, ?_⟩
    refine wpTree_read _ rfl (fun K hK => ?_); unfold rOp; go_simp; (refine hK _ ?_; clear hK K)
    refine wpTree_fin ?_
    go_wp2
    go_ret
    exact ⟨rfl, HZ.out⟩
end Go.Proofs.YtlbcmeebcfalpaaGreatDoor
