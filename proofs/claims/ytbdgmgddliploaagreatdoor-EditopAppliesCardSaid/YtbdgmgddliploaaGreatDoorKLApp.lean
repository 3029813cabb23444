/- The law EditopApplies (printed by gen_el3.py). -/
import Derived.Test.YtbdgmgddliploaaGreatDoorJ33
import Derived.Test.YtbdgmgddliploaaGreatDoorJ35
import Derived.Test.YtbdgmgddliploaaGreatDoorJ13
import Derived.Test.YtbdgmgddliploaaGreatDoorJ21
set_option linter.unusedVariables false
set_option linter.unusedSimpArgs false
set_option maxRecDepth 100000
set_option maxHeartbeats 16000000
namespace Go.Proofs.YtbdgmgddliploaaGreatDoor
open Go.RowKit

theorem applies_law (S : Nat -> Prop) (v : CV) (x : Col) (o : Op) (w : World) (h : RdC S w v x) (hE : Env w) (ho : o.ok) : Calls Tryz.prog 3 #[v.val, o.val] w fun e w' => e = .returned (.bool true) /\ Below w.heap.size w w' := by
  have HAW : Hid (∀ W, Below w.heap.size w W -> Calls Tryz.prog 13 #[] W fun e w' => e = .returned (.bool true) /\ Below W.heap.size W w') := fun W hb => awake_any W (hE.below hb)
  have HG : Hid (∀ W, Below w.heap.size w W -> Calls Tryz.prog 11 #[v.val] W fun e w' => e = .returned (.bool (great x)) /\ Below W.heap.size W w') := fun W hb => great_ref S v x W (h.below hb)
  have HGO : Hid (∀ W, Below w.heap.size w W -> Calls Tryz.prog 12 #[o.val] W fun e w' => e = .returned (.bool (greatOp o)) /\ Below W.heap.size W w') := fun W hb => greatOp_ref o W
  have gsz : greatOp o = false -> o.sig.size <= 1000000 /\ o.text.size <= 1000000 := fun q => by
    unfold greatOp at q
    simp only [Bool.or_eq_false_iff, decide_eq_false_iff_not] at q
    omega
  have HAP : Hid (great x = false -> greatOp o = false -> ∀ W, Below w.heap.size w W -> Calls Tryz.prog 14 #[v.val, o.val] W (ColQ (opApply x o) (opErr x o) W)) := fun p q W hb => (edit_any S v x o W (h.below hb) (great_sml p) (hE.below hb) ho (gsz q).2).mono (fun e w' k => k.q)
  have HKRA : Hid (great x = false -> greatOp o = false -> ∀ W, Below w.heap.size w W -> Calls Tryz.prog 15 #[v.val, o.val] W (ColQ (opApply x o) (opErr x o) W)) := fun p q W hb => (rapply_ref S v x o W (h.below hb) (great_sml p) ho).mono (fun e w' k => k.q)
  have HDE : Hid (great x = false -> greatOp o = false -> ∀ W, Below w.heap.size w W -> Calls Tryz.prog 16 #[v.val, o.val] W fun e w' => e = .returned (.tuple #[.string (descr x o), .int .i64 (opErr x o)]) /\ Below W.heap.size W w') := fun p q W hb => descr_any S v x o W (h.below hb) (great_sml p) (hE.below hb) ho (gsz q).2 (gsz q).1
  have HRD : Hid (great x = false -> greatOp o = false -> ∀ W, Below w.heap.size w W -> Calls Tryz.prog 17 #[v.val, o.val] W fun e w' => e = .returned (.tuple #[.string (descr x o), .int .i64 (opErr x o)]) /\ Below W.heap.size W w') := fun p q W hb => rdescr_ref S v x o W (h.below hb) (great_sml p) ho (gsz q).2 (gsz q).1
  have HCK : Hid (great x = false -> greatOp o = false -> ∀ W, Below w.heap.size w W -> Calls Tryz.prog 18 #[v.val, o.val] W fun e w' => e = .returned (.int .i64 (opErr x o)) /\ Below W.heap.size W w') := fun p q W hb => echeck_any S v x o W (h.below hb) (great_sml p) (hE.below hb) ho (gsz q).2
  have HKRC : Hid (great x = false -> greatOp o = false -> ∀ W, Below w.heap.size w W -> Calls Tryz.prog 19 #[v.val, o.val] W fun e w' => e = .returned (.int .i64 (opErr x o)) /\ Below W.heap.size W w') := fun p q W hb => rcheck_ref S v x o W (h.below hb) (great_sml p)
  have HSM : Hid (∀ (u v : CV) (y : Col) W, RdC (fun _ => True) W u y -> RdC (fun _ => True) W v y -> Calls Tryz.prog 20 #[u.val, v.val] W fun e w' => e = .returned (.bool true) /\ Below W.heap.size W w') := fun u v y W p q => by
    have := sameC_ref _ _ u v y y W p q
    rw [decide_eq_true rfl] at this; exact this
  generalize great x = G at *
  generalize greatOp o = GO at *
  generalize opApply x o = Y at *
  generalize opErr x o = E at *
  generalize descr x o = D at *
  clear h hE ho gsz
  have hds : (D.toList == D.toList) = true := by simp
  obtain ⟨sec, sa, sn, sc, ta, tn, tc, ca, cn, cc⟩ := v
  obtain ⟨ok, og, ot, oo, ox⟩ := o
  change Calls _ _ #[.agg #[.string sec, .slice sa sn sc, .slice ta tn tc, .slice ca cn cc], .agg #[.int .i64 ok, .string og, .int .i64 ot, .int .i64 oo, .string ox]] _ _
  obtain ⟨hb, hC, hO⟩ := box2 w #[.string sec, .slice sa sn sc, .slice ta tn tc, .slice ca cn cc] #[.int .i64 ok, .string og, .int .i64 ot, .int .i64 oo, .string ox] 26 28
  have c0 := hC 0 _ rfl
  have c1 := hC 1 _ rfl
  have c2 := hC 2 _ rfl
  have c3 := hC 3 _ rfl
  have o0 := hO 0 _ rfl
  have o1 := hO 1 _ rfl
  have o2 := hO 2 _ rfl
  have o3 := hO 3 _ rfl
  have o4 := hO 4 _ rfl
  clear hC hO
  go_enter Tryz.func3, Tryz.ntmps3
  have HQ := hiq (HG.out _ hb)
  change Hid (Calls _ _ #[.agg #[.string sec, .slice sa sn sc, .slice ta tn tc, .slice ca cn cc]] _ _) at HQ
  go_wp2_with fail
  generalize (w.alloc (.cells #[.string sec, .slice sa sn sc, .slice ta tn tc, .slice ca cn cc] 26)).alloc (.cells #[.int .i64 ok, .string og, .int .i64 ot, .int .i64 oo, .string ox] 28) = W1 at *
  refine HQ.out.mono ?_
  rintro e W2 ⟨rfl, hbk⟩
  replace c0 := clq hbk c0; replace c1 := clq hbk c1; replace c2 := clq hbk c2; replace c3 := clq hbk c3; replace o0 := clq hbk o0; replace o1 := clq hbk o1; replace o2 := clq hbk o2; replace o3 := clq hbk o3; replace o4 := clq hbk o4
  replace hb := hb.trans (hbk.mono hb.size)
  clear hbk HQ
  cases G with
  | true =>
    have HQ := hiq (HAW.out _ hb)
    go_wp2_with fail
    refine HQ.out.mono ?_
    rintro e W3 ⟨rfl, hbk⟩
    replace c0 := clq hbk c0; replace c1 := clq hbk c1; replace c2 := clq hbk c2; replace c3 := clq hbk c3; replace o0 := clq hbk o0; replace o1 := clq hbk o1; replace o2 := clq hbk o2; replace o3 := clq hbk o3; replace o4 := clq hbk o4
    replace hb := hb.trans (hbk.mono hb.size)
    clear hbk HQ
    go_wp2
    go_ret
    exact ⟨rfl, hb⟩
  | false =>
    have HQ := hiq (HGO.out _ hb)
    change Hid (Calls _ _ #[.agg #[.int .i64 ok, .string og, .int .i64 ot, .int .i64 oo, .string ox]] _ _) at HQ
    go_wp2_with fail
    refine HQ.out.mono ?_
    rintro e W3 ⟨rfl, hbk⟩
    replace c0 := clq hbk c0; replace c1 := clq hbk c1; replace c2 := clq hbk c2; replace c3 := clq hbk c3; replace o0 := clq hbk o0; replace o1 := clq hbk o1; replace o2 := clq hbk o2; replace o3 := clq hbk o3; replace o4 := clq hbk o4
    replace hb := hb.trans (hbk.mono hb.size)
    clear hbk HQ
    cases GO with
    | true =>
      have HQ := hiq (HAW.out _ hb)
      go_wp2_with fail
      refine HQ.out.mono ?_
      rintro e W4 ⟨rfl, hbk⟩
      replace c0 := clq hbk c0; replace c1 := clq hbk c1; replace c2 := clq hbk c2; replace c3 := clq hbk c3; replace o0 := clq hbk o0; replace o1 := clq hbk o1; replace o2 := clq hbk o2; replace o3 := clq hbk o3; replace o4 := clq hbk o4
      replace hb := hb.trans (hbk.mono hb.size)
      clear hbk HQ
      go_wp2
      go_ret
      exact ⟨rfl, hb⟩
    | false =>
      have HQ := hiq (HAP.out (by trivial) (by trivial) _ hb)
      change Hid (Calls _ _ #[.agg #[.string sec, .slice sa sn sc, .slice ta tn tc, .slice ca cn cc], .agg #[.int .i64 ok, .string og, .int .i64 ot, .int .i64 oo, .string ox]] _ _) at HQ
      go_wp2_with fail
      refine HQ.out.mono ?_
      rintro e W4 ⟨v, he, hR, hbk⟩
      obtain ⟨secA, saA, snA, scA, taA, tnA, tcA, caA, cnA, ccA⟩ := v
      change e = .returned (.tuple #[.agg #[.string secA, .slice saA snA scA, .slice taA tnA tcA, .slice caA cnA ccA], .int .i64 E]) at he
      subst he
      have hal : Below W4.heap.size W4 (W4.alloc (.cells #[.string secA, .slice saA snA scA, .slice taA tnA tcA, .slice caA cnA ccA] 26)) := (Below.refl _ _).alloc (Nat.le_refl _) _
      have hst := hbk.trans (hal.mono hbk.size)
      obtain ⟨a0, a1, a2, a3, -⟩ := box_cells4 (World.alloc_heap_new W4 (.cells #[.string secA, .slice saA snA scA, .slice taA tnA tcA, .slice caA cnA ccA] 26))
      replace c0 := clq hst c0; replace c1 := clq hst c1; replace c2 := clq hst c2; replace c3 := clq hst c3; replace o0 := clq hst o0; replace o1 := clq hst o1; replace o2 := clq hst o2; replace o3 := clq hst o3; replace o4 := clq hst o4
      have HRA := hiq (hR.below hal)
      replace hb := hb.trans (hst.mono hb.size)
      clear hR hbk hal hst HQ
      have HQ := hiq (HKRA.out (by trivial) (by trivial) _ hb)
      change Hid (Calls _ _ #[.agg #[.string sec, .slice sa sn sc, .slice ta tn tc, .slice ca cn cc], .agg #[.int .i64 ok, .string og, .int .i64 ot, .int .i64 oo, .string ox]] _ _) at HQ
      go_wp2_with fail
      generalize W4.alloc (.cells #[.string secA, .slice saA snA scA, .slice taA tnA tcA, .slice caA cnA ccA] 26) = W5 at *
      refine HQ.out.mono ?_
      rintro e W6 ⟨v, he, hR, hbk⟩
      obtain ⟨secB, saB, snB, scB, taB, tnB, tcB, caB, cnB, ccB⟩ := v
      change e = .returned (.tuple #[.agg #[.string secB, .slice saB snB scB, .slice taB tnB tcB, .slice caB cnB ccB], .int .i64 E]) at he
      subst he
      have hal : Below W6.heap.size W6 (W6.alloc (.cells #[.string secB, .slice saB snB scB, .slice taB tnB tcB, .slice caB cnB ccB] 26)) := (Below.refl _ _).alloc (Nat.le_refl _) _
      have hst := hbk.trans (hal.mono hbk.size)
      obtain ⟨b0, b1, b2, b3, -⟩ := box_cells4 (World.alloc_heap_new W6 (.cells #[.string secB, .slice saB snB scB, .slice taB tnB tcB, .slice caB cnB ccB] 26))
      replace c0 := clq hst c0; replace c1 := clq hst c1; replace c2 := clq hst c2; replace c3 := clq hst c3; replace o0 := clq hst o0; replace o1 := clq hst o1; replace o2 := clq hst o2; replace o3 := clq hst o3; replace o4 := clq hst o4; replace a0 := clq hst a0; replace a1 := clq hst a1; replace a2 := clq hst a2; replace a3 := clq hst a3
      replace HRA := hiq (HRA.out.below hst)
      have HRB := hiq (hR.below hal)
      replace hb := hb.trans (hst.mono hb.size)
      clear hR hbk hal hst HQ
      have HQ := hiq (HDE.out (by trivial) (by trivial) _ hb)
      change Hid (Calls _ _ #[.agg #[.string sec, .slice sa sn sc, .slice ta tn tc, .slice ca cn cc], .agg #[.int .i64 ok, .string og, .int .i64 ot, .int .i64 oo, .string ox]] _ _) at HQ
      go_wp2_with fail
      generalize W6.alloc (.cells #[.string secB, .slice saB snB scB, .slice taB tnB tcB, .slice caB cnB ccB] 26) = W7 at *
      refine HQ.out.mono ?_
      rintro e W8 ⟨rfl, hbk⟩
      replace c0 := clq hbk c0; replace c1 := clq hbk c1; replace c2 := clq hbk c2; replace c3 := clq hbk c3; replace o0 := clq hbk o0; replace o1 := clq hbk o1; replace o2 := clq hbk o2; replace o3 := clq hbk o3; replace o4 := clq hbk o4; replace a0 := clq hbk a0; replace a1 := clq hbk a1; replace a2 := clq hbk a2; replace a3 := clq hbk a3; replace b0 := clq hbk b0; replace b1 := clq hbk b1; replace b2 := clq hbk b2
      replace b3 := clq hbk b3
      replace HRA := hiq (HRA.out.below hbk)
      replace HRB := hiq (HRB.out.below hbk)
      replace hb := hb.trans (hbk.mono hb.size)
      clear hbk HQ
      have HQ := hiq (HRD.out (by trivial) (by trivial) _ hb)
      change Hid (Calls _ _ #[.agg #[.string sec, .slice sa sn sc, .slice ta tn tc, .slice ca cn cc], .agg #[.int .i64 ok, .string og, .int .i64 ot, .int .i64 oo, .string ox]] _ _) at HQ
      go_wp2_with fail
      refine HQ.out.mono ?_
      rintro e W9 ⟨rfl, hbk⟩
      replace c0 := clq hbk c0; replace c1 := clq hbk c1; replace c2 := clq hbk c2; replace c3 := clq hbk c3; replace o0 := clq hbk o0; replace o1 := clq hbk o1; replace o2 := clq hbk o2; replace o3 := clq hbk o3; replace o4 := clq hbk o4; replace a0 := clq hbk a0; replace a1 := clq hbk a1; replace a2 := clq hbk a2; replace a3 := clq hbk a3; replace b0 := clq hbk b0; replace b1 := clq hbk b1; replace b2 := clq hbk b2
      replace b3 := clq hbk b3
      replace HRA := hiq (HRA.out.below hbk)
      replace HRB := hiq (HRB.out.below hbk)
      replace hb := hb.trans (hbk.mono hb.size)
      clear hbk HQ
      go_wp2_with fail
      obtain ⟨X, Wf, hX, hS1, hS2⟩ := family (fun V => Below W9.heap.size W9 V) W9 (Below.refl _ _)
      have HS2q := hiq hS2
      have q_c0 := fun x => clq (hS1 x) c0
      have q_c1 := fun x => clq (hS1 x) c1
      have q_c2 := fun x => clq (hS1 x) c2
      have q_c3 := fun x => clq (hS1 x) c3
      have q_o0 := fun x => clq (hS1 x) o0
      have q_o1 := fun x => clq (hS1 x) o1
      have q_o2 := fun x => clq (hS1 x) o2
      have q_o3 := fun x => clq (hS1 x) o3
      have q_o4 := fun x => clq (hS1 x) o4
      have q_a0 := fun x => clq (hS1 x) a0
      have q_a1 := fun x => clq (hS1 x) a1
      have q_a2 := fun x => clq (hS1 x) a2
      have q_a3 := fun x => clq (hS1 x) a3
      have q_b0 := fun x => clq (hS1 x) b0
      have q_b1 := fun x => clq (hS1 x) b1
      have q_b2 := fun x => clq (hS1 x) b2
      have q_b3 := fun x => clq (hS1 x) b3
      clear hS1 hS2
      have hd0 : Below W9.heap.size W9 W9.drew := (Below.refl _ _).drew
      refine wp_region_tree (Wf := Wf) 30 (.read 0 (.read 1 (.read 3 (.read 4 (.act 2 (.act 5 (.read 6 (.read 7 (.read 8 (.read 9 (.act 10 (.read 11 (.read 12 (.read 13 (.read 14 (.read 15 (.read 16 (.read 17 (.read 18 (.read 19 (.read 20 (.read 21 (.read 22 (.read 23 (.read 24 (.read 25 (.read 26 (.read 27 (.act 28 (.read 29 .fin)))))))))))))))))))))))))))))) (by kernel_rfl) (by kernel_rfl) (fun _ _ d _ _ h => by cases d <;> exact h) (HS2q.out _ hd0) ?_
      refine wpTree_read _ rfl (fun K hK => ?_); unfold rOp; go_simp; (refine hK _ ?_; clear hK K)
      refine wpTree_read _ rfl (fun K hK => ?_); unfold rOp; go_simp; (refine hK _ ?_; clear hK K)
      refine wpTree_read _ rfl (fun K hK => ?_); unfold rOp; go_simp; (refine hK _ ?_; clear hK K)
      refine wpTree_read _ rfl (fun K hK => ?_); unfold rOp; go_simp; (refine hK _ ?_; clear hK K)
      have hd := hd0
      clear hd0
      generalize W9.drew = V at *
      refine wpTree_act _ rfl ?_
      have HQ := hiq (HCK.out (by trivial) (by trivial) V (hb.trans (hd.mono hb.size)))
      change Hid (Calls _ _ #[.agg #[.string sec, .slice sa sn sc, .slice ta tn tc, .slice ca cn cc], .agg #[.int .i64 ok, .string og, .int .i64 ot, .int .i64 oo, .string ox]] _ _) at HQ
      go_wp2_with fail
      refine HQ.out.mono ?_
      clear HQ
      rintro e V2 ⟨rfl, hst⟩
      replace hd := hd.trans (hst.mono hd.size)
      clear hst
      generalize V2 = V at *
      go_wp2_with fail
      refine ⟨HS2q.out _ hd, ?_⟩
      refine wpTree_act _ rfl ?_
      have HQ := hiq (HKRC.out (by trivial) (by trivial) V (hb.trans (hd.mono hb.size)))
      change Hid (Calls _ _ #[.agg #[.string sec, .slice sa sn sc, .slice ta tn tc, .slice ca cn cc], .agg #[.int .i64 ok, .string og, .int .i64 ot, .int .i64 oo, .string ox]] _ _) at HQ
      go_wp2_with fail
      refine HQ.out.mono ?_
      clear HQ
      rintro e V2 ⟨rfl, hst⟩
      replace hd := hd.trans (hst.mono hd.size)
      clear hst
      generalize V2 = V at *
      go_wp2_with fail
      refine ⟨HS2q.out _ hd, ?_⟩
      refine wpTree_read _ rfl (fun K hK => ?_); unfold rOp; go_simp; (refine hK _ ?_; clear hK K)
      refine wpTree_read _ rfl (fun K hK => ?_); unfold rOp; go_simp; (refine hK _ ?_; clear hK K)
      refine wpTree_read _ rfl (fun K hK => ?_); unfold rOp; go_simp; (refine hK _ ?_; clear hK K)
      refine wpTree_read _ rfl (fun K hK => ?_); unfold rOp; go_simp; (refine hK _ ?_; clear hK K)
      refine wpTree_act _ rfl ?_
      have HQ := hiq (HSM.out ⟨secA, saA, snA, scA, taA, tnA, tcA, caA, cnA, ccA⟩ ⟨secB, saB, snB, scB, taB, tnB, tcB, caB, cnB, ccB⟩ Y V (HRA.out.below hd) (HRB.out.below hd))
      change Hid (Calls _ _ #[.agg #[.string secA, .slice saA snA scA, .slice taA tnA tcA, .slice caA cnA ccA], .agg #[.string secB, .slice saB snB scB, .slice taB tnB tcB, .slice caB cnB ccB]] _ _) at HQ
      go_wp2_with fail
      refine HQ.out.mono ?_
      clear HQ
      rintro e V2 ⟨rfl, hst⟩
      replace hd := hd.trans (hst.mono hd.size)
      clear hst
      generalize V2 = V at *
      go_wp2_with fail
      refine ⟨HS2q.out _ hd, ?_⟩
      refine wpTree_read _ rfl (fun K hK => ?_); unfold rOp; go_simp; (refine hK _ ?_; clear hK K)
      refine wpTree_read _ rfl (fun K hK => ?_); unfold rOp; go_simp; (refine hK _ ?_; clear hK K)
      refine wpTree_read _ rfl (fun K hK => ?_); unfold rOp; go_simp; (refine hK _ ?_; clear hK K)
      refine wpTree_read _ rfl (fun K hK => ?_); unfold rOp; go_simp; (refine hK _ ?_; clear hK K)
      refine wpTree_read _ rfl (fun K hK => ?_); unfold rOp; go_simp; (refine hK _ ?_; clear hK K)
      refine wpTree_read _ rfl (fun K hK => ?_); unfold rOp; go_simp; (refine hK _ ?_; clear hK K)
      refine wpTree_read _ rfl (fun K hK => ?_); unfold rOp; go_simp; (refine hK _ ?_; clear hK K)
      refine wpTree_read _ rfl (fun K hK => ?_); unfold rOp; go_simp; (refine hK _ ?_; clear hK K)
      refine wpTree_read _ rfl (fun K hK => ?_); unfold rOp; go_simp; (refine hK _ ?_; clear hK K)
      refine wpTree_read _ rfl (fun K hK => ?_); unfold rOp; go_simp; (refine hK _ ?_; clear hK K)
      refine wpTree_read _ rfl (fun K hK => ?_); unfold rOp; go_simp; (refine hK _ ?_; clear hK K)
      refine wpTree_read _ rfl (fun K hK => ?_); unfold rOp; go_simp; (refine hK _ ?_; clear hK K)
      refine wpTree_read _ rfl (fun K hK => ?_); unfold rOp; go_simp; (refine hK _ ?_; clear hK K)
      refine wpTree_read _ rfl (fun K hK => ?_); unfold rOp; go_simp; (refine hK _ ?_; clear hK K)
      refine wpTree_read _ rfl (fun K hK => ?_); unfold rOp; go_simp; (refine hK _ ?_; clear hK K)
      refine wpTree_read _ rfl (fun K hK => ?_); unfold rOp; go_simp; (refine hK _ ?_; clear hK K)
      refine wpTree_read _ rfl (fun K hK => ?_); unfold rOp; go_simp; (refine hK _ ?_; clear hK K)
      refine wpTree_act _ rfl ?_
      have HQ := hiq (HAW.out V (hb.trans (hd.mono hb.size)))
      go_wp2_with fail
      refine HQ.out.mono ?_
      clear HQ
      rintro e V2 ⟨rfl, hst⟩
      replace hd := hd.trans (hst.mono hd.size)
      clear hst
      generalize V2 = V at *
      go_wp2_with fail
      refine ⟨HS2q.out _ hd, ?_⟩
      refine wpTree_read _ rfl (fun K hK => ?_); unfold rOp; go_simp; (refine hK _ ?_; clear hK K)
      refine wpTree_fin ?_
      replace hb := hb.trans (hd.mono hb.size)
      clear HS2q hX q_c0 q_c1 q_c2 q_c3 q_o0 q_o1 q_o2 q_o3 q_o4 q_a0 q_a1 q_a2 q_a3 q_b0 q_b1 q_b2 q_b3
      go_wp2
      go_ret
      exact ⟨rfl, hb⟩
end Go.Proofs.YtbdgmgddliploaaGreatDoor
