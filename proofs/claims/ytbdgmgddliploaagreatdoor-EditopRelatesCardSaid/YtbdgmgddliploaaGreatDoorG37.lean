/- Joined: ERIv. -/
import Derived.Test.YtbdgmgddliploaaGreatDoorG28
import Derived.Test.YtbdgmgddliploaaGreatDoorG35
import Derived.Test.YtbdgmgddliploaaGreatDoorG36
set_option linter.unusedVariables false
set_option linter.unusedSimpArgs false
set_option maxRecDepth 100000
set_option maxHeartbeats 16000000
namespace Go.Proofs.YtbdgmgddliploaaGreatDoor
open Go.RowKit

theorem rinv_err (S : Nat -> Prop) (v : CV) (x : Col) (o : Op) (w : World) (h : RdC S w v x) (hm : Sml x) (ho : o.ok) (he : opErr x o ≠ 0) : Calls Tryz.prog 33 #[v.val, o.val] w (InvPost x o w) := by
  unfold InvPost
  have HA : Hid (∀ W, Below w.heap.size w W -> Calls Tryz.prog 15 #[v.val, o.val] W (ColQ (opApply x o) (opErr x o) W)) := fun W q => rapply_q ((h.below q).mono (fun _ _ _ => trivial)) hm ho
  have HI : Hid (inverse x o = (Op.zero, opErr x o)) := by show _ = _; unfold inverse; rw [if_pos he]
  have t1 : ((opErr x o : Int) != 0) = true := by simpa using he
  generalize inverse x o = RP at *
  generalize opErr x o = E at *
  generalize opApply x o = Y at *
  clear h hm ho he
  obtain ⟨sec, sa, sn, sc, ta, tn, tc, ca, cn, cc⟩ := v
  obtain ⟨ok, og, ot, oo, ox⟩ := o
  change Calls _ _ #[.agg #[.string sec, .slice sa sn sc, .slice ta tn tc, .slice ca cn cc], .agg #[.int .i64 ok, .string og, .int .i64 ot, .int .i64 oo, .string ox]] _ _
  change Hid (∀ W, _ -> Calls _ _ #[.agg #[.string sec, .slice sa sn sc, .slice ta tn tc, .slice ca cn cc], .agg #[.int .i64 ok, .string og, .int .i64 ot, .int .i64 oo, .string ox]] _ _) at HA
  obtain ⟨W1, hW1, hb0, hs1, gX, gO, gR⟩ := box3r w #[.string sec, .slice sa sn sc, .slice ta tn tc, .slice ca cn cc] #[.int .i64 ok, .string og, .int .i64 ot, .int .i64 oo, .string ox] #[.int .i64 0, .string ⟨#[]⟩, .int .i64 0, .int .i64 0, .string ⟨#[]⟩] 26 28 28
  have HAA := hiq (HA.out _ hb0)
  clear HA
  obtain ⟨c0, c1, c2, c3, -⟩ := box_cells4 gX
  obtain ⟨o0, o1, o2, o3, o4⟩ := box_cells5 gO
  rw [hW1] at c0 c1 c2 c3 o0 o1 o2 o3 o4
  go_enter Tryz.func33, Tryz.ntmps33
  go_wp2_with fail
  rw [<- hW1] at *
  clear hW1
  refine HAA.out.mono ?_
  rintro e W2 ⟨v', he, hR, hb2⟩
  obtain ⟨sec3, sa3, sn3, sc3, ta3, tn3, tc3, ca3, cn3, cc3⟩ := v'
  change e = .returned (.tuple #[.agg #[.string sec3, .slice sa3 sn3 sc3, .slice ta3 tn3 tc3, .slice ca3 cn3 cc3], .int .i64 E]) at he
  subst he
  have hal : Below W2.heap.size W2 (W2.alloc (.cells #[.string sec3, .slice sa3 sn3 sc3, .slice ta3 tn3 tc3, .slice ca3 cn3 cc3] 26)) := (Below.refl _ _).alloc (Nat.le_refl _) _
  have hb3 := hb2.trans (hal.mono hb2.size)
  have gR3 := (hb3.block _ (by omega)).trans gR
  obtain ⟨r0, r1, r2, r3, r4⟩ := box_cells5 gR3
  have f0 := frozen5 gR3 0
  have f1 := frozen5 gR3 1
  have f2 := frozen5 gR3 2
  have f3 := frozen5 gR3 3
  have f4 := frozen5 gR3 4
  have hX := hiq (And.intro (put5_at gR3 (.int .i64 0) (.string ⟨#[]⟩) (.int .i64 0) (.int .i64 0) (.string ⟨#[]⟩)) (put5_below (hb0.trans (hb3.mono hb0.size)) (b := (w.heap.size + 1 + 1)) (by omega) (.int .i64 0) (.string ⟨#[]⟩) (.int .i64 0) (.int .i64 0) (.string ⟨#[]⟩)))
  clear HAA gX gO gR gR3 hb3 hal hb2 hR
  go_wp2
  obtain ⟨x1, x2⟩ := hX.out
  obtain ⟨s0, s1, s2, s3, s4⟩ := box_cells5 x1
  exact bodyPost_ret (v := .tuple #[.agg #[.int .i64 0, .string ⟨#[]⟩, .int .i64 0, .int .i64 0, .string ⟨#[]⟩], .int .i64 E]) (by simp [results, Tryz.results33, go_sem, s0, s1, s2, s3, s4]) rfl ⟨by rw [HI.out]; rfl, x2⟩
theorem rinv_reg (S : Nat -> Prop) (v : CV) (x : Col) (o : Op) (s c : Nat) (w : World) (h : RdC S w v x) (hm : Sml x) (ho : o.ok) (F : Fits x o s c) (hk : o.kind = 4) : Calls Tryz.prog 33 #[v.val, o.val] w (InvPost x o w) := by
  unfold InvPost
  have HA : Hid (∀ W, Below w.heap.size w W -> Calls Tryz.prog 15 #[v.val, o.val] W (ColQ (opApply x o) 0 W)) := fun W q => by
    have := rapply_q ((h.below q).mono (fun _ _ _ => trivial)) hm ho
    rw [F.zero] at this; exact this
  have HS : Hid (∀ W, Below w.heap.size w W -> Calls Tryz.prog 43 #[v.val, .string o.sig] W fun e w' => e = .returned (.int .i64 (s : Int)) /\ Below W.heap.size W w') := fun W hb => by
    have := source_ref S v x o.sig W (h.below hb)
    rw [F.src] at this; exact this
  have HI : Hid (inverse x o = ({ o with text := (x.tk s o.tok).norm }, 0)) := by show _ = _; unfold inverse; rw [if_neg (by simp [F.zero]), if_pos hk, F.place]
  have hs := F.ks
  have ht0 := F.t0
  have ht1 := F.t1
  generalize inverse x o = RP at *
  generalize opApply x o = Y at *
  obtain ⟨sec, sa, sn, sc, ta, tn, tc, ca, cn, cc⟩ := v
  obtain ⟨ok, og, ot, oo, ox⟩ := o
  have hln : x.toks.length = x.sigla.length := F.heads.len
  obtain ⟨-, -, h2, h3, h4⟩ := h
  dsimp only at h2 h3 h4 ht0 ht1 hk HI
  subst hk
  obtain ⟨tk, rfl⟩ : ∃ tk : Nat, ot = (tk : Int) := ⟨ot.toNat, by omega⟩
  change Calls _ _ #[.agg #[.string sec, .slice sa sn sc, .slice ta tn tc, .slice ca cn cc], .agg #[.int .i64 4, .string og, .int .i64 (tk : Int), .int .i64 oo, .string ox]] _ _
  change Hid (∀ W, _ -> Calls _ _ #[.agg #[.string sec, .slice sa sn sc, .slice ta tn tc, .slice ca cn cc], .agg #[.int .i64 4, .string og, .int .i64 (tk : Int), .int .i64 oo, .string ox]] _ _) at HA
  change Hid (∀ W, _ -> Calls _ _ #[.agg #[.string sec, .slice sa sn sc, .slice ta tn tc, .slice ca cn cc], .string og] _ _) at HS
  obtain ⟨r, bo, off, a1, n1, c1', hu, hmem, rfl, -, hbl, hr, d1⟩ := h3.row (j := s) (by rw [h3.len, hln]; exact hs)
  have htr : x.tks s = r := by unfold Col.tks; rw [hu]; rfl
  rw [htr] at ht1
  obtain ⟨t, b2, off2, hu2, hmem2, rfl, -, hbl2, -, ⟨e0, e1, e2, e3, e4, e5⟩⟩ := hr.tok (j := tk) (by rw [hr.len]; omega)
  have htk : x.tk s (tk : Int) = t := by unfold Col.tk; rw [htr, Int.toNat_natCast, hu2]; rfl
  rw [htk] at HI
  have hsn : s < tn := by rw [h3.len, hln]; exact hs
  have htn : tk < n1 := by rw [hr.len]; omega
  have htb := h3.bound
  have hrb := hr.bound
  obtain ⟨tx, nm, pg, ln, fl, na⟩ := t
  dsimp only at e1 HI
  clear e0 e2 e3 e4 e5 hu hmem hu2 hmem2 htr htk hr h2 h3 h4 ht1 hs F hln hm ho
  obtain ⟨W1, hW1, hb0, hs1, gX, gO, gR⟩ := box3r w #[.string sec, .slice sa sn sc, .slice (some ⟨bo, off, none⟩) tn tc, .slice ca cn cc] #[.int .i64 4, .string og, .int .i64 (tk : Int), .int .i64 oo, .string ox] #[.int .i64 0, .string ⟨#[]⟩, .int .i64 0, .int .i64 0, .string ⟨#[]⟩] 26 28 28
  have HAA := hiq (HA.out _ hb0)
  clear HA
  obtain ⟨c0, c1, c2, c3, -⟩ := box_cells4 gX
  obtain ⟨o0, o1, o2, o3, o4⟩ := box_cells5 gO
  rw [hW1] at c0 c1 c2 c3 o0 o1 o2 o3 o4
  go_enter Tryz.func33, Tryz.ntmps33
  go_wp2_with fail
  rw [<- hW1] at *
  clear hW1
  refine HAA.out.mono ?_
  rintro e W2 ⟨v', he, hR, hb2⟩
  obtain ⟨sec3, sa3, sn3, sc3, ta3, tn3, tc3, ca3, cn3, cc3⟩ := v'
  change e = .returned (.tuple #[.agg #[.string sec3, .slice sa3 sn3 sc3, .slice ta3 tn3 tc3, .slice ca3 cn3 cc3], .int .i64 0]) at he
  subst he
  have hal : Below W2.heap.size W2 (W2.alloc (.cells #[.string sec3, .slice sa3 sn3 sc3, .slice ta3 tn3 tc3, .slice ca3 cn3 cc3] 26)) := (Below.refl _ _).alloc (Nat.le_refl _) _
  have hb3 := hb2.trans (hal.mono hb2.size)
  have gX3 := (hb3.block _ (by omega)).trans gX
  have gO3 := (hb3.block _ (by omega)).trans gO
  have gR3 := (hb3.block _ (by omega)).trans gR
  obtain ⟨c0, c1, c2, c3, -⟩ := box_cells4 gX3
  obtain ⟨o0, o1, o2, o3, o4⟩ := box_cells5 gO3
  replace d1 := clq (hb0.trans (hb3.mono hb0.size)) d1
  replace e1 := clq (hb0.trans (hb3.mono hb0.size)) e1
  have hbw := hb0.trans (hb3.mono hb0.size)
  clear HAA gX gO gR hb3 hal hb2 hR
  go_wp2_with fail
  generalize W2.alloc (.cells #[.string sec3, .slice sa3 sn3 sc3, .slice ta3 tn3 tc3, .slice ca3 cn3 cc3] 26) = W3 at *
  obtain ⟨X, Wf, hX, hS1, hS2⟩ := family (fun V => Below W3.heap.size W3 V) W3 (Below.refl _ _)
  have HS2q := hiq hS2
  have q_c0 := fun x => clq (hS1 x) c0
  have q_c1 := fun x => clq (hS1 x) c1
  have q_c2 := fun x => clq (hS1 x) c2
  have q_c3 := fun x => clq (hS1 x) c3
  have q_o1 := fun x => clq (hS1 x) o1
  have q_o2 := fun x => clq (hS1 x) o2
  have q_d1 := fun x => clq (hS1 x) d1
  have q_e1 := fun x => clq (hS1 x) e1
  clear hS1 hS2
  have hd0 : Below W3.heap.size W3 W3.drew := (Below.refl _ _).drew
  refine wp_region_tree (Wf := Wf) 14 (.read 0 (.read 1 (.read 2 (.read 3 (.read 4 (.read 8 (.read 9 (.act 5 (.read 6 (.read 7 (.read 10 (.read 11 (.read 12 (.read 13 .fin)))))))))))))) (by kernel_rfl) (by kernel_rfl) (fun _ _ d _ _ h => by cases d <;> exact h) (HS2q.out _ hd0) ?_
  refine wpTree_read _ rfl (fun K hK => ?_); unfold rOp; go_simp; (refine hK _ ?_; clear hK K)
  refine wpTree_read _ rfl (fun K hK => ?_); unfold rOp; go_simp; (refine hK _ ?_; clear hK K)
  refine wpTree_read _ rfl (fun K hK => ?_); unfold rOp; go_simp; (refine hK _ ?_; clear hK K)
  refine wpTree_read _ rfl (fun K hK => ?_); unfold rOp; go_simp; (refine hK _ ?_; clear hK K)
  refine wpTree_read _ rfl (fun K hK => ?_); unfold rOp; go_simp; (refine hK _ ?_; clear hK K)
  refine wpTree_read _ rfl (fun K hK => ?_); unfold rOp; go_simp; (refine hK _ ?_; clear hK K)
  refine wpTree_read _ rfl (fun K hK => ?_); unfold rOp; go_simp; (refine hK _ ?_; clear hK K)
  have hd := hd0
  clear hd0
  generalize W3.drew = V at *
  refine wpTree_act _ rfl ?_
  have HQ := hiq (HS.out V (hbw.trans (hd.mono hbw.size)))
  go_wp2_with fail
  refine HQ.out.mono ?_
  clear HQ
  rintro e V2 ⟨rfl, hst⟩
  replace hd := hd.trans (hst.mono hd.size)
  clear hst
  generalize V2 = V at *
  go_wp2_with fail
  refine ⟨HS2q.out _ hd, ?_⟩
  refine wpTree_read _ rfl (fun K hK => ?_); unfold rOp; go_simp; (refine hK _ ?_; clear hK K)
  refine wpTree_read _ rfl (fun K hK => ?_); unfold rOp; go_simp; (refine hK _ ?_; clear hK K)
  refine wpTree_read _ rfl (fun K hK => ?_); unfold rOp; go_simp; (refine hK _ ?_; clear hK K)
  refine wpTree_read _ rfl (fun K hK => ?_); unfold rOp; go_simp; (refine hK _ ?_; clear hK K)
  refine wpTree_read _ rfl (fun K hK => ?_); unfold rOp; go_simp; (refine hK _ ?_; clear hK K)
  refine wpTree_read _ rfl (fun K hK => ?_); unfold rOp; go_simp; (refine hK _ ?_; clear hK K)
  refine wpTree_fin ?_
  clear HS2q hX q_c0 q_c1 q_c2 q_c3 q_o1 q_o2 q_d1 q_e1
  have gO4 := (hd.block _ (Array.getElem?_eq_some_iff.1 gO3).1).trans gO3
  have gR4 := (hd.block _ (Array.getElem?_eq_some_iff.1 gR3).1).trans gR3
  replace hbw := hbw.trans (hd.mono hbw.size)
  have gO5 : (V.setCell ⟨(w.heap.size + 1), 4, none⟩ (.string nm)).heap[(w.heap.size + 1)]? = some (.cells #[.int .i64 4, .string og, .int .i64 (tk : Int), .int .i64 oo, .string nm] 28 (0, 0)) := heap_set_at (j := 4) gO4 _
  have gR5 : (V.setCell ⟨(w.heap.size + 1), 4, none⟩ (.string nm)).heap[(w.heap.size + 1 + 1)]? = some (.cells #[.int .i64 0, .string ⟨#[]⟩, .int .i64 0, .int .i64 0, .string ⟨#[]⟩] 28 (0, 0)) := (heap_setCell_other (by omega) _).trans gR4
  have hb5 : Below w.heap.size w (V.setCell ⟨(w.heap.size + 1), 4, none⟩ (.string nm)) := below_setc hbw (by omega) _ _
  clear c0 c1 c2 c3 o0 o1 o2 o3 o4
  obtain ⟨-, -, -, -, o4⟩ := box_cells5 gO4
  have fo4 := frozen5 gO4 4
  obtain ⟨p0, p1, p2, p3, p4⟩ := box_cells5 gO5
  obtain ⟨r0, r1, r2, r3, r4⟩ := box_cells5 gR5
  have f0 := frozen5 gR5 0
  have f1 := frozen5 gR5 1
  have f2 := frozen5 gR5 2
  have f3 := frozen5 gR5 3
  have f4 := frozen5 gR5 4
  have hX := hiq (And.intro (put5_at gR5 (.int .i64 4) (.string og) (.int .i64 (tk : Int)) (.int .i64 oo) (.string nm)) (put5_below hb5 (b := (w.heap.size + 1 + 1)) (by omega) (.int .i64 4) (.string og) (.int .i64 (tk : Int)) (.int .i64 oo) (.string nm)))
  clear gX3 gO3 gR3 gO4 gR4 gO5 gR5 hbw hb5 hd HS
  go_wp2
  obtain ⟨x1, x2⟩ := hX.out
  obtain ⟨s0, s1, s2, s3, s4⟩ := box_cells5 x1
  exact bodyPost_ret (v := .tuple #[.agg #[.int .i64 4, .string og, .int .i64 (tk : Int), .int .i64 oo, .string nm], .int .i64 0]) (by simp [results, Tryz.results33, go_sem, s0, s1, s2, s3, s4]) rfl ⟨by rw [HI.out]; rfl, x2⟩
theorem find_hit {P : Op -> Bool} {L : List Op} {k : Nat} {p : Op} (h0 : (L.take k).find? P = none) (h : L[k]? = some p) (hp : P p = true) : L.find? P = some p := by
  obtain ⟨hl, e⟩ := List.getElem?_eq_some_iff.1 h
  have e2 : L = L.take k ++ p :: L.drop (k + 1) := by rw [<- e, <- List.drop_eq_getElem_cons hl, List.take_append_drop]
  rw [e2, List.find?_append, h0]; simp [hp]
theorem find_miss {P : Op -> Bool} {L : List Op} {k : Nat} {p : Op} (h0 : (L.take k).find? P = none) (h : L[k]? = some p) (hp : P p = false) : (L.take (k + 1)).find? P = none := by
  rw [List.take_add_one, h, List.find?_append, h0]; simp [hp]
theorem rinv_find (S : Nat -> Prop) (v : CV) (x : Col) (o : Op) (w : World) (h : RdC S w v x) (hm : Sml x) (ho : o.ok) (hx : o.text.size <= 1000000) (he : opErr x o = 0) (hk : o.kind ≠ 4) (hln : (allOps (opApply x o)).length <= 4096) : Calls Tryz.prog 33 #[v.val, o.val] w (InvPost x o w) := by
  unfold InvPost
  have hyv := (apply_valid he).1
  have hym := sml_op (o := o) hm hx
  have HA : Hid (∀ W, Below w.heap.size w W -> Calls Tryz.prog 15 #[v.val, o.val] W (ColQ (opApply x o) 0 W)) := fun W q => by
    have := rapply_q ((h.below q).mono (fun _ _ _ => trivial)) hm ho
    rw [he] at this; exact this
  have HI : Hid (((allOps (opApply x o)).find? (fun b => decide (opErr (opApply x o) b = 0) && decide (opApply (opApply x o) b = x)) = none -> inverse x o = (Op.zero, 6)) /\ ∀ d, (allOps (opApply x o)).find? (fun b => decide (opErr (opApply x o) b = 0) && decide (opApply (opApply x o) b = x)) = some d -> inverse x o = (d, 0)) := by
    unfold inverse
    rw [if_neg (by simp [he]), if_neg hk]
    unfold invFind
    constructor
    · intro e; rw [e]
    · intro d e; rw [e]
  generalize inverse x o = RP at *
  generalize opApply x o = Y at *
  obtain ⟨P, hP⟩ : ∃ P : Op -> Bool, P = fun b => decide (opErr Y b = 0) && decide (opApply Y b = x) := ⟨_, rfl⟩
  rw [<- hP] at HI
  have HP : Hid (∀ b, P b = (decide (opErr Y b = 0) && decide (opApply Y b = x))) := fun b => by rw [hP]
  clear hP he
  have HAL : Hid (∀ (u : CV) W, RdC (fun _ => True) W u Y -> Calls Tryz.prog 67 #[u.val] W fun e w' => ∃ a n c, e = .returned (.slice a n c) /\ OwnQ 28 5 Op.cells w' W.heap.size a n c (allOps Y) /\ Below W.heap.size W w') := fun u W q => rall_ref _ u Y W q hym hyv hln
  have HLL := hiq hln
  have HRP : Hid (∀ (T : Nat -> Prop) (u : CV) (b : Op) W, RdC T W u Y -> b.ok -> Calls Tryz.prog 15 #[u.val, b.val] W fun e w' => ∃ v : CV, e = .returned (.tuple #[v.val, .int .i64 (opErr Y b)]) /\ RdC (fun j => T j \/ W.heap.size <= j) w' v (opApply Y b) /\ Below W.heap.size W w') := fun T u b W q hb => rapply_ref T u Y b W q hym hb
  have HOK : Hid (∀ (u : CV) W, RdC (fun _ => True) W u Y -> ∀ b ∈ allOps Y, b.ok) := fun u W hu b hb => (allops_okI hu hyv b hb).1
  have HSM : Hid (∀ (u : CV) (y : Col) W, Below w.heap.size w W -> RdC (fun _ => True) W u y -> Calls Tryz.prog 20 #[u.val, v.val] W fun e w' => e = .returned (.bool (decide (y = x))) /\ Below W.heap.size W w') := fun u y W hb q => sameC_ref _ _ u v y x W q (h.below hb)
  generalize allOps Y = L at *
  clear h hm ho hx hyv hym hln
  obtain ⟨sec, sa, sn, sc, ta, tn, tc, ca, cn, cc⟩ := v
  obtain ⟨ok, og, ot, oo, ox⟩ := o
  dsimp only at hk
  have t4 : ((ok : Int) == 4) = false := by simpa using hk
  change Calls _ _ #[.agg #[.string sec, .slice sa sn sc, .slice ta tn tc, .slice ca cn cc], .agg #[.int .i64 ok, .string og, .int .i64 ot, .int .i64 oo, .string ox]] _ _
  change Hid (∀ W, _ -> Calls _ _ #[.agg #[.string sec, .slice sa sn sc, .slice ta tn tc, .slice ca cn cc], .agg #[.int .i64 ok, .string og, .int .i64 ot, .int .i64 oo, .string ox]] _ _) at HA
  change Hid (∀ (u : CV) (y : Col) W, _ -> _ -> Calls _ _ #[_, .agg #[.string sec, .slice sa sn sc, .slice ta tn tc, .slice ca cn cc]] _ _) at HSM
  obtain ⟨W1, hW1, hb0, hs1, gX, gO, gR⟩ := box3r w #[.string sec, .slice sa sn sc, .slice ta tn tc, .slice ca cn cc] #[.int .i64 ok, .string og, .int .i64 ot, .int .i64 oo, .string ox] #[.int .i64 0, .string ⟨#[]⟩, .int .i64 0, .int .i64 0, .string ⟨#[]⟩] 26 28 28
  have HAA := hiq (HA.out _ hb0)
  clear HA hk
  obtain ⟨c0, c1, c2, c3, -⟩ := box_cells4 gX
  obtain ⟨o0, o1, o2, o3, o4⟩ := box_cells5 gO
  rw [hW1] at c0 c1 c2 c3 o0 o1 o2 o3 o4
  go_enter Tryz.func33, Tryz.ntmps33
  go_wp2_with fail
  rw [<- hW1] at *
  clear hW1
  refine HAA.out.mono ?_
  rintro e W2 ⟨v', he, hR, hb2⟩
  obtain ⟨sec3, sa3, sn3, sc3, ta3, tn3, tc3, ca3, cn3, cc3⟩ := v'
  change e = .returned (.tuple #[.agg #[.string sec3, .slice sa3 sn3 sc3, .slice ta3 tn3 tc3, .slice ca3 cn3 cc3], .int .i64 0]) at he
  subst he
  have hal : Below W2.heap.size W2 (W2.alloc (.cells #[.string sec3, .slice sa3 sn3 sc3, .slice ta3 tn3 tc3, .slice ca3 cn3 cc3] 26)) := (Below.refl _ _).alloc (Nat.le_refl _) _
  have hb3 := hb2.trans (hal.mono hb2.size)
  have gY := World.alloc_heap_new W2 (.cells #[.string sec3, .slice sa3 sn3 sc3, .slice ta3 tn3 tc3, .slice ca3 cn3 cc3] 26)
  have gX3 := (hb3.block _ (by omega)).trans gX
  have gO3 := (hb3.block _ (by omega)).trans gO
  have gR3 := (hb3.block _ (by omega)).trans gR
  obtain ⟨o0, o1, o2, o3, o4⟩ := box_cells5 gO3
  obtain ⟨y0, y1, y2, y3, -⟩ := box_cells4 gY
  have hbw := hb0.trans (hb3.mono hb0.size)
  have HRY := hiq (hR.below hal)
  have hsY : W2.heap.size < (W2.alloc (.cells #[.string sec3, .slice sa3 sn3 sc3, .slice ta3 tn3 tc3, .slice ca3 cn3 cc3] 26)).heap.size := by simp
  clear HAA gX gO gR hb2 hR c0 c1 c2 c3 hal gO3
  have HQ := hiq (HAL.out ⟨sec3, sa3, sn3, sc3, ta3, tn3, tc3, ca3, cn3, cc3⟩ _ HRY.out)
  change Hid (Calls _ _ #[.agg #[.string sec3, .slice sa3 sn3 sc3, .slice ta3 tn3 tc3, .slice ca3 cn3 cc3]] _ _) at HQ
  clear HAL
  go_wp2_with fail
  generalize W2.alloc (.cells #[.string sec3, .slice sa3 sn3 sc3, .slice ta3 tn3 tc3, .slice ca3 cn3 cc3] 26) = W3 at *
  refine HQ.out.mono ?_
  rintro e W4 ⟨a, n, c, rfl, hO, hst⟩
  have hn : n <= 4096 := by rw [hO.len]; exact HLL.out
  have HN := hiq hO.len
  have hokL := HOK.out _ _ HRY.out
  have HOQ : Hid (Opsq (fun _ => True) W4 a n c L) := hO.sq (R := rOpn) (s := 56) op_len (by omega) (fun _ _ => trivial) (fun o ho => ⟨rfl, hokL o ho⟩)
  have HOL := hiq hokL
  replace HRY := hiq (HRY.out.below hst)
  have hs4 := hst.size
  have gX4 := (hst.block _ (by have := hb3.size; omega)).trans gX3
  have gR4 := (hst.block _ (by have := hb3.size; omega)).trans gR3
  have gY4 := (hst.block _ (Array.getElem?_eq_some_iff.1 gY).1).trans gY
  replace hbw := hbw.trans (hst.mono hbw.size)
  have hs5 : w.heap.size + 3 <= W4.heap.size := by have := hb3.size; omega
  clear HQ hO hst gX3 gR3 gY hokL HOK HLL hsY hs4 y0 y1 y2 y3 o0 o1 o2 o3 o4 hb3 hb0 hs1
  go_wp2_with fail
  go_loopw [9] (fun i wr => ∃ k : Nat, i = .int .i64 k /\ k <= n /\ Hid ((L.take k).find? P = none) /\ Below W4.heap.size W4 wr) (fun i _ => n - (intOf i).toNat)
  case atStart => exact ⟨0, rfl, Nat.zero_le _, rfl, Below.refl _ _⟩
  case round =>
    obtain ⟨k, rfl, hk, hx, hB⟩ := hrel
    have hsz := hB.size
    have hbr := hbw.trans (hB.mono hbw.size)
    have gX5 := (hB.block _ (by omega)).trans gX4
    have gR5 := (hB.block _ (by omega)).trans gR4
    have gY5 := (hB.block _ (Array.getElem?_eq_some_iff.1 gY4).1).trans gY4
    have hYs := (Array.getElem?_eq_some_iff.1 gY5).1
    by_cases hkl : k < n
    · obtain ⟨p, b5, of5, hp, hpm, ea, -, hb5, hpo, f0, f1, f2, f3, f4⟩ := (HOQ.out.below rOpn_ok hB).op hkl
      subst ea
      have HPb := hiq (HP.out p)
      have HFH := hiq (fun e => find_hit (P := P) hx.out hp e)
      have HFM := hiq (fun e => find_miss (P := P) hx.out hp e)
      have HB4 := hiq (fun W (hW : Below wr.heap.size wr W) => HRP.out (fun b => b < wr.heap.size) ⟨sec3, sa3, sn3, sc3, ta3, tn3, tc3, ca3, cn3, cc3⟩ p W (((HRY.out.below hB).mono (fun b _ q => q)).below hW) hpo)
      obtain ⟨pk, pg, pt, po, px⟩ := p
      dsimp only at f0 f1 f2 f3 f4
      change Hid (∀ W, _ -> Calls _ _ #[.agg #[.string sec3, .slice sa3 sn3 sc3, .slice ta3 tn3 tc3, .slice ca3 cn3 cc3], .agg #[.int .i64 pk, .string pg, .int .i64 pt, .int .i64 po, .string px]] _ _) at HB4
      clear hp hpm hpo
      generalize opErr Y ⟨pk, pg, pt, po, px⟩ = E at *
      generalize opApply Y ⟨pk, pg, pt, po, px⟩ = Z at *
      obtain ⟨y0, y1, y2, y3, -⟩ := box_cells4 gY5
      have HBr := hiq hB
      clear hB hx
      go_wp2_with fail
      obtain ⟨X, Wf, hX, hS1, hS2⟩ := family (fun V => Below wr.heap.size wr V) wr (Below.refl _ _)
      have HS2q := hiq hS2
      have q_y0 := fun x => clq (hS1 x) y0
      have q_y1 := fun x => clq (hS1 x) y1
      have q_y2 := fun x => clq (hS1 x) y2
      have q_y3 := fun x => clq (hS1 x) y3
      have q_f0 := fun x => clq (hS1 x) f0
      have q_f1 := fun x => clq (hS1 x) f1
      have q_f2 := fun x => clq (hS1 x) f2
      have q_f3 := fun x => clq (hS1 x) f3
      have q_f4 := fun x => clq (hS1 x) f4
      clear hS1 hS2
      have hd0 : Below wr.heap.size wr wr.drew := (Below.refl _ _).drew
      refine wp_region_tree (Wf := Wf) 11 (.read 0 (.read 1 (.read 2 (.read 3 (.read 4 (.two 5 (.read 6 (.read 7 (.read 8 (.act 9 (.act 10 .fin))))) 9 (.act 5 (.read 6 (.read 7 (.read 8 (.act 10 .fin))))))))))) (by kernel_rfl) (by kernel_rfl) (fun _ _ d _ _ h => by cases d <;> exact h) (HS2q.out _ hd0) ?_
      refine wpTree_read _ rfl (fun K hK => ?_); unfold rOp; go_simp; (refine hK _ ?_; clear hK K)
      refine wpTree_read _ rfl (fun K hK => ?_); unfold rOp; go_simp; (refine hK _ ?_; clear hK K)
      refine wpTree_read _ rfl (fun K hK => ?_); unfold rOp; go_simp; (refine hK _ ?_; clear hK K)
      refine wpTree_read _ rfl (fun K hK => ?_); unfold rOp; go_simp; (refine hK _ ?_; clear hK K)
      refine wpTree_read _ rfl (fun K hK => ?_); unfold rOp; go_simp; (refine hK _ ?_; clear hK K)
      clear q_y0 q_y1 q_y2 q_y3 q_f0 q_f1 q_f2 q_f3 q_f4
      have hd := hd0
      clear hd0
      generalize wr.drew = V at *
      repeat' first
        | refine wpTree_two ?_ ?_
        | (refine wpTree_read (k := 6) _ rfl (fun K hK => ?_); unfold rOp; go_simp; (refine hK _ ?_; clear hK K))
        | (refine wpTree_read (k := 7) _ rfl (fun K hK => ?_); unfold rOp; go_simp; (refine hK _ ?_; clear hK K))
        | (refine wpTree_read (k := 8) _ rfl (fun K hK => ?_); unfold rOp; go_simp; (refine hK _ ?_; clear hK K))
        | (refine wpTree_act (k := 5) _ rfl ?_
           have HQ := hiq (HB4.out _ hd)
           go_wp2_with fail
           refine HQ.out.mono ?_
           clear HQ
           have hvs := hd.size
           rintro e V2 ⟨v, he, hR, hst⟩
           obtain ⟨sec5, sa5, sn5, sc5, ta5, tn5, tc5, ca5, cn5, cc5⟩ := v
           change e = .returned (.tuple #[.agg #[.string sec5, .slice sa5 sn5 sc5, .slice ta5 tn5 tc5, .slice ca5 cn5 cc5], .int .i64 E]) at he
           subst he
           try (have hRX := hR.mono (S' := fun b => b ≠ bF) (fun b q _ => by have := (Array.getElem?_eq_some_iff.1 hF).1; omega))
           try (replace hF := (hst.block _ (Array.getElem?_eq_some_iff.1 hF).1).trans hF)
           replace hd := hd.trans (hst.mono hd.size)
           clear hst hvs
           generalize V2 = V at *
           go_wp2_with fail
           refine ⟨HS2q.out _ hd, ?_⟩)
        | (refine wpTree_act (k := 9) _ rfl ?_
           have hst : Below V.heap.size V (V.alloc (.cells #[.string ⟨#[]⟩, .slice none 0 0, .slice none 0 0, .slice none 0 0] 26)) := (Below.refl _ _).alloc (Nat.le_refl _) _
           have hF := World.alloc_heap_new V (.cells #[.string ⟨#[]⟩, .slice none 0 0, .slice none 0 0, .slice none 0 0] 26)
           have hBF : wr.heap.size <= V.heap.size := hd.size
           try (have hRX := ((hR.mono (S' := fun b => b < V.heap.size) (fun b _ q => q)).below hst).mono (S' := fun b => b ≠ V.heap.size) (fun b q _ => by omega))
           replace hd := hd.trans (hst.mono hd.size)
           clear hst
           go_wp2_with fail
           generalize V.heap.size = bF at *
           generalize V.alloc (.cells #[.string ⟨#[]⟩, .slice none 0 0, .slice none 0 0, .slice none 0 0] 26) = V at *
           refine ⟨HS2q.out _ hd, ?_⟩)
        | (refine wpTree_act (k := 10) _ rfl ?_
           have yf0 := frozen5 hF 0
           have yf1 := frozen5 hF 1
           have yf2 := frozen5 hF 2
           have yf3 := frozen5 hF 3
           obtain ⟨y0, y1, y2, y3, -⟩ := box_cells4 hF
           have hG := put4_at hF (.string sec5) (.slice sa5 sn5 sc5) (.slice ta5 tn5 tc5) (.slice ca5 cn5 cc5)
           have hpt : Below wr.heap.size wr ((((V.setCell ⟨bF, 0, none⟩ (.string sec5)).setCell ⟨bF, 1, none⟩ (.slice sa5 sn5 sc5)).setCell ⟨bF, 2, none⟩ (.slice ta5 tn5 tc5)).setCell ⟨bF, 3, none⟩ (.slice ca5 cn5 cc5)) := put4_below hd hBF _ _ _ _
           have hRN : RdC (fun b => b ≠ bF) ((((V.setCell ⟨bF, 0, none⟩ (.string sec5)).setCell ⟨bF, 1, none⟩ (.slice sa5 sn5 sc5)).setCell ⟨bF, 2, none⟩ (.slice ta5 tn5 tc5)).setCell ⟨bF, 3, none⟩ (.slice ca5 cn5 cc5)) ⟨sec5, sa5, sn5, sc5, ta5, tn5, tc5, ca5, cn5, cc5⟩ Z := hRX.keep (put4_keep (by simp) _ _ _ _)
           change (((((V.setCell ⟨bF, 0, none⟩ (.string sec5)).setCell ⟨bF, 1, none⟩ (.slice sa5 sn5 sc5)).setCell ⟨bF, 2, none⟩ (.slice ta5 tn5 tc5)).setCell ⟨bF, 3, none⟩ (.slice ca5 cn5 cc5))).heap[bF]? = _ at hG
           go_wp2_with fail
           generalize ((((V.setCell ⟨bF, 0, none⟩ (.string sec5)).setCell ⟨bF, 1, none⟩ (.slice sa5 sn5 sc5)).setCell ⟨bF, 2, none⟩ (.slice ta5 tn5 tc5)).setCell ⟨bF, 3, none⟩ (.slice ca5 cn5 cc5)) = VN at *
           refine ⟨HS2q.out _ hpt, ?_⟩)
      all_goals refine wpTree_fin ?_
      all_goals
        clear yf0 yf1 yf2 yf3 y0 y1 y2 y3 hF hRX hR HB4 hd HS2q hX
        obtain ⟨b0, b1, b2, b3, -⟩ := box_cells4 hG
        have hpb := hbr.trans (hpt.mono hbr.size)
        obtain ⟨c0, c1, c2, c3, -⟩ := box_cells4 ((hpt.block _ (by omega)).trans gX5)
        by_cases h0 : E = 0
        · subst h0
          have HQ := hiq (HSM.out ⟨sec5, sa5, sn5, sc5, ta5, tn5, tc5, ca5, cn5, cc5⟩ Z VN hpb (hRN.mono (fun _ _ _ => trivial)))
          change Hid (Calls _ _ #[.agg #[.string sec5, .slice sa5 sn5 sc5, .slice ta5 tn5 tc5, .slice ca5 cn5 cc5], _] _ _) at HQ
          go_wp2_with fail
          refine HQ.out.mono ?_
          rintro e W9 ⟨rfl, hst⟩
          have hq9 := hpt.trans (hst.mono hpt.size)
          have hpb9 := hpb.trans (hst.mono hpb.size)
          have HBn := hiq (HBr.out.trans (hq9.mono hsz))
          generalize hD : decide (Z = x) = D at *
          cases D with
          | true =>
            have hPP : P ⟨pk, pg, pt, po, px⟩ = true := by rw [HPb.out]; rfl
            have HR1 := hiq (HI.out.2 _ (HFH.out hPP))
            have gR9 := (hq9.block _ (by omega)).trans gR5
            replace f0 := clq hq9 f0; replace f1 := clq hq9 f1; replace f2 := clq hq9 f2; replace f3 := clq hq9 f3; replace f4 := clq hq9 f4
            obtain ⟨r0, r1, r2, r3, r4⟩ := box_cells5 gR9
            have g0 := frozen5 gR9 0
            have g1 := frozen5 gR9 1
            have g2 := frozen5 gR9 2
            have g3 := frozen5 gR9 3
            have g4 := frozen5 gR9 4
            have hX := hiq (And.intro (put5_at gR9 (.int .i64 pk) (.string pg) (.int .i64 pt) (.int .i64 po) (.string px)) (put5_below hpb9 (b := (w.heap.size + 1 + 1)) (by omega) (.int .i64 pk) (.string pg) (.int .i64 pt) (.int .i64 po) (.string px)))
            clear gR9 HQ hst hPP hG hRN
            go_wp2
            obtain ⟨x1, x2⟩ := hX.out
            obtain ⟨s0, s1, s2, s3, s4⟩ := box_cells5 x1
            exact bodyPost_ret (v := .tuple #[.agg #[.int .i64 pk, .string pg, .int .i64 pt, .int .i64 po, .string px], .int .i64 0]) (by simp [results, Tryz.results33, go_sem, s0, s1, s2, s3, s4]) rfl ⟨by rw [HR1.out]; rfl, x2⟩
          | false =>
            have hPP : P ⟨pk, pg, pt, po, px⟩ = false := by rw [HPb.out]; rfl
            have HX2 := hiq (HFM.out hPP)
            clear HQ hst hPP hG hRN
            go_wp2
            go_roundw
            case rel => exact ⟨k + 1, by go_num, by omega, HX2.out, HBn.out⟩
            case measure => simp [intOf]; omega
        · have t0 : ((E : Int) == 0) = false := by simpa using h0
          have hPP : P ⟨pk, pg, pt, po, px⟩ = false := by rw [HPb.out, decide_eq_false h0]; rfl
          have HX2 := hiq (HFM.out hPP)
          have HBn := hiq (HBr.out.trans (hpt.mono hsz))
          clear hPP hG hRN
          go_wp2
          go_roundw
          case rel => exact ⟨k + 1, by go_num, by omega, HX2.out, HBn.out⟩
          case measure => simp [intOf]; omega
    · obtain rfl : k = n := by omega
      have HR1 : Hid (RP = (Op.zero, 6)) := HI.out.1 (by have := hx.out; rw [HN.out, List.take_length] at this; exact this)
      obtain ⟨r0, r1, r2, r3, r4⟩ := box_cells5 gR5
      have g0 := frozen5 gR5 0
      have g1 := frozen5 gR5 1
      have g2 := frozen5 gR5 2
      have g3 := frozen5 gR5 3
      have g4 := frozen5 gR5 4
      have hX := hiq (And.intro (put5_at gR5 (.int .i64 0) (.string ⟨#[]⟩) (.int .i64 0) (.int .i64 0) (.string ⟨#[]⟩)) (put5_below hbr (b := (w.heap.size + 1 + 1)) (by omega) (.int .i64 0) (.string ⟨#[]⟩) (.int .i64 0) (.int .i64 0) (.string ⟨#[]⟩)))
      clear gR5 hx
      go_wp2
      obtain ⟨x1, x2⟩ := hX.out
      obtain ⟨s0, s1, s2, s3, s4⟩ := box_cells5 x1
      exact bodyPost_ret (v := .tuple #[.agg #[.int .i64 0, .string ⟨#[]⟩, .int .i64 0, .int .i64 0, .string ⟨#[]⟩], .int .i64 6]) (by simp [results, Tryz.results33, go_sem, s0, s1, s2, s3, s4]) rfl ⟨by rw [HR1.out]; rfl, x2⟩
theorem rinverse_ref (S : Nat -> Prop) (v : CV) (x : Col) (o : Op) (w : World) (h : RdC S w v x) (hm : Sml x) (ho : o.ok) (hx : o.text.size <= 1000000) (hln : opErr x o = 0 -> (allOps (opApply x o)).length <= 4096) : Calls Tryz.prog 33 #[v.val, o.val] w (InvPost x o w) := by
  by_cases he : opErr x o = 0
  · by_cases hk : o.kind = 4
    · obtain ⟨s, c, F⟩ := fits_of he
      exact rinv_reg S v x o s c w h hm ho F hk
    · exact rinv_find S v x o w h hm ho hx he hk (hln he)
  · exact rinv_err S v x o w h hm ho he
end Go.Proofs.YtbdgmgddliploaaGreatDoor
