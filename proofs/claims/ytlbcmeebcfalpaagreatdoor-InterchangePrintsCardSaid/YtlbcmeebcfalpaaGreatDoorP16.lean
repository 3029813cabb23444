/- Joined: ISs3, ISs4, ISs5, ISc. -/
import Derived.Test.YtlbcmeebcfalpaaGreatDoorP15
set_option linter.unusedVariables false
set_option linter.unusedSimpArgs false
set_option maxRecDepth 100000
set_option maxHeartbeats 16000000
namespace Go.Proofs.YtlbcmeebcfalpaaGreatDoor
open Go.RowKit

theorem sme_sty {l l' : List Dv} (hi : LT.Inv .sty (.struc l)) (hi' : LT.Inv .sty (.struc l')) {w : World} {P : Ending -> World -> Prop} (HC : AllS w (fun g => ∀ V, Below w.heap.size w V -> P (.returned (.bool g)) V) true (LT.fk .sty) l l') : Calls Tryz.prog 93 #[.agg (Dv.cellsL l).toArray, .agg (Dv.cellsL l').toArray] w P := by
  have HG := hiq (keepB_new w 38 (Dv.cellsL l).toArray (Dv.cellsL l').toArray)
  have HK : Hid (∀ V V', KeepB w 38 (Dv.cellsL l).toArray (Dv.cellsL l').toArray V -> Below V.heap.size V V' -> KeepB w 38 (Dv.cellsL l).toArray (Dv.cellsL l').toArray V') := fun V V' h hb => h.next hb
  have HX : Hid (∀ V, KeepB w 38 (Dv.cellsL l).toArray (Dv.cellsL l').toArray V -> CellsAt V w.heap.size 0 (Dv.cellsL l) /\ CellsAt V (w.heap.size + 1) 0 (Dv.cellsL l')) := fun V h => h.cells
  generalize (Dv.cellsL l).toArray = A at *
  generalize (Dv.cellsL l').toArray = A2 at *
  dsimp only [LT.Inv] at hi hi'
  repeat (rcases (hi : ∃ _, _) with ⟨_, hi⟩)
  repeat (rcases (hi' : ∃ _, _) with ⟨_, hi'⟩)
  injection hi with hi
  injection hi' with hi'
  subst hi
  subst hi'
  simp only [Dv.cells, Dv.cellsL, List.cons_append, List.nil_append, List.append_nil, CellsAt, Nat.zero_add, Nat.reduceAdd, and_true] at HX
  dsimp only [LT.fk, AllS, SFact, LT.isQ, LT.tid, LT.sf, LT.slf] at HC
  simp only [Dv.val, Dv.cells, Dv.cellsL, List.cons_append, List.nil_append, List.append_nil] at HC
  obtain ⟨r0, H0, HC⟩ := HC
  obtain ⟨r1, H1, HC⟩ := HC
  obtain ⟨r2, H2, HC⟩ := HC
  obtain ⟨r3, H3, HC⟩ := HC
  obtain ⟨r4, H4, HC⟩ := HC
  obtain ⟨r5, H5, HC⟩ := HC
  obtain ⟨r6, H6, HC⟩ := HC
  obtain ⟨r7, H7, HC⟩ := HC
  obtain ⟨r8, H8, HC⟩ := HC
  obtain ⟨r9, H9, HC⟩ := HC
  obtain ⟨r10, H10, HC⟩ := HC
  obtain ⟨r11, H11, HC⟩ := HC
  obtain ⟨r12, H12, HC⟩ := HC
  have E0 := eqr_int w H0.out
  have E1 := eqr_int w H1.out
  have E2 := eqr_int w H2.out
  have E3 := eqr_int w H3.out
  have E4 := eqr_int w H4.out
  have E5 := eqr_int w H5.out
  have E6 := eqr_int w H6.out
  have E7 := eqr_int w H7.out
  have E8 := eqr_int w H8.out
  have E9 := eqr_int w H9.out
  have E10 := eqr_int w H10.out
  have HZ := hiq HC
  clear HC
  go_enter Tryz.func93, Tryz.ntmps93
  generalize hC1 : Code.region 1 _ _ = C1
  go_wp2_with fail
  rename_i K hK
  have hk1 := HG.out
  generalize World.alloc (World.alloc _ _) _ = W1 at *
  have q := HX.out _ hk1
  have HK1 := hiq hk1
  clear hk1 HG
  subst hC1
  try simp only [List.append_eq, List.cons_append, List.nil_append]
  refine wp_region_cut [5, 7, 7, 7, 7, 7, 7, 7, 7, 7, 7, 7, 7] ?_
  refine wpCut_cons ?_
  simp only [List.take_succ_cons, List.take_zero, List.drop_succ_cons, List.drop_zero]
  go_wp2_with fail
  cases r0
  case false =>
    refine wpCut_skip 94 4 9 (by kernel_rfl) rfl rfl ?_
    intro a ha hd
    refine hK _ _ (wp_ret (bodyPost_ret (v := .bool false) ?_ hd (HZ.out _ HK1.out.below)))
    simp [results, Tryz.results93, ha]
  refine wpCut_cons ?_
  simp only [List.take_succ_cons, List.take_zero, List.drop_succ_cons, List.drop_zero]
  go_wp2_with fail
  cases r1
  case false =>
    refine wpCut_skip 94 4 16 (by kernel_rfl) rfl rfl ?_
    intro a ha hd
    refine hK _ _ (wp_ret (bodyPost_ret (v := .bool false) ?_ hd (HZ.out _ HK1.out.below)))
    simp [results, Tryz.results93, ha]
  refine wpCut_cons ?_
  simp only [List.take_succ_cons, List.take_zero, List.drop_succ_cons, List.drop_zero]
  go_wp2_with fail
  cases r2
  case false =>
    refine wpCut_skip 94 4 23 (by kernel_rfl) rfl rfl ?_
    intro a ha hd
    refine hK _ _ (wp_ret (bodyPost_ret (v := .bool false) ?_ hd (HZ.out _ HK1.out.below)))
    simp [results, Tryz.results93, ha]
  refine wpCut_cons ?_
  simp only [List.take_succ_cons, List.take_zero, List.drop_succ_cons, List.drop_zero]
  go_wp2_with fail
  cases r3
  case false =>
    refine wpCut_skip 94 4 30 (by kernel_rfl) rfl rfl ?_
    intro a ha hd
    refine hK _ _ (wp_ret (bodyPost_ret (v := .bool false) ?_ hd (HZ.out _ HK1.out.below)))
    simp [results, Tryz.results93, ha]
  refine wpCut_cons ?_
  simp only [List.take_succ_cons, List.take_zero, List.drop_succ_cons, List.drop_zero]
  go_wp2_with fail
  cases r4
  case false =>
    refine wpCut_skip 94 4 37 (by kernel_rfl) rfl rfl ?_
    intro a ha hd
    refine hK _ _ (wp_ret (bodyPost_ret (v := .bool false) ?_ hd (HZ.out _ HK1.out.below)))
    simp [results, Tryz.results93, ha]
  refine wpCut_cons ?_
  simp only [List.take_succ_cons, List.take_zero, List.drop_succ_cons, List.drop_zero]
  go_wp2_with fail
  cases r5
  case false =>
    refine wpCut_skip 94 4 44 (by kernel_rfl) rfl rfl ?_
    intro a ha hd
    refine hK _ _ (wp_ret (bodyPost_ret (v := .bool false) ?_ hd (HZ.out _ HK1.out.below)))
    simp [results, Tryz.results93, ha]
  refine wpCut_cons ?_
  simp only [List.take_succ_cons, List.take_zero, List.drop_succ_cons, List.drop_zero]
  go_wp2_with fail
  cases r6
  case false =>
    refine wpCut_skip 94 4 51 (by kernel_rfl) rfl rfl ?_
    intro a ha hd
    refine hK _ _ (wp_ret (bodyPost_ret (v := .bool false) ?_ hd (HZ.out _ HK1.out.below)))
    simp [results, Tryz.results93, ha]
  refine wpCut_cons ?_
  simp only [List.take_succ_cons, List.take_zero, List.drop_succ_cons, List.drop_zero]
  go_wp2_with fail
  cases r7
  case false =>
    refine wpCut_skip 94 4 58 (by kernel_rfl) rfl rfl ?_
    intro a ha hd
    refine hK _ _ (wp_ret (bodyPost_ret (v := .bool false) ?_ hd (HZ.out _ HK1.out.below)))
    simp [results, Tryz.results93, ha]
  refine wpCut_cons ?_
  simp only [List.take_succ_cons, List.take_zero, List.drop_succ_cons, List.drop_zero]
  go_wp2_with fail
  cases r8
  case false =>
    refine wpCut_skip 94 4 65 (by kernel_rfl) rfl rfl ?_
    intro a ha hd
    refine hK _ _ (wp_ret (bodyPost_ret (v := .bool false) ?_ hd (HZ.out _ HK1.out.below)))
    simp [results, Tryz.results93, ha]
  refine wpCut_cons ?_
  simp only [List.take_succ_cons, List.take_zero, List.drop_succ_cons, List.drop_zero]
  go_wp2_with fail
  cases r9
  case false =>
    refine wpCut_skip 94 4 72 (by kernel_rfl) rfl rfl ?_
    intro a ha hd
    refine hK _ _ (wp_ret (bodyPost_ret (v := .bool false) ?_ hd (HZ.out _ HK1.out.below)))
    simp [results, Tryz.results93, ha]
  refine wpCut_cons ?_
  simp only [List.take_succ_cons, List.take_zero, List.drop_succ_cons, List.drop_zero]
  go_wp2_with fail
  cases r10
  case false =>
    refine wpCut_skip 94 4 79 (by kernel_rfl) rfl rfl ?_
    intro a ha hd
    refine hK _ _ (wp_ret (bodyPost_ret (v := .bool false) ?_ hd (HZ.out _ HK1.out.below)))
    simp [results, Tryz.results93, ha]
  refine wpCut_cons ?_
  simp only [List.take_succ_cons, List.take_zero, List.drop_succ_cons, List.drop_zero]
  go_wp2_with fail
  refine (H11.out _ HK1.out.below).mono ?_
  rintro e V ⟨rfl, hb⟩
  replace HK1 := hiq (HK.out _ _ HK1.out hb)
  replace q := HX.out _ HK1.out
  clear hb
  go_wp2_with fail
  cases r11
  case false =>
    refine wpCut_skip 94 4 86 (by kernel_rfl) rfl rfl ?_
    intro a ha hd
    refine hK _ _ (wp_ret (bodyPost_ret (v := .bool false) ?_ hd (HZ.out _ HK1.out.below)))
    simp [results, Tryz.results93, ha]
  refine wpCut_cons ?_
  simp only [List.take_succ_cons, List.take_zero, List.drop_succ_cons, List.drop_zero]
  go_wp2_with fail
  refine (H12.out _ HK1.out.below).mono ?_
  rintro e V ⟨rfl, hb⟩
  replace HK1 := hiq (HK.out _ _ HK1.out hb)
  replace q := HX.out _ HK1.out
  clear hb
  go_wp2_with fail
  cases r12
  case false =>
    refine wpCut_skip 94 4 93 (by kernel_rfl) rfl rfl ?_
    intro a ha hd
    refine hK _ _ (wp_ret (bodyPost_ret (v := .bool false) ?_ hd (HZ.out _ HK1.out.below)))
    simp [results, Tryz.results93, ha]
  refine wpCut_nil ?_
  go_wp2
  exact HZ.out _ HK1.out.below
end Go.Proofs.YtlbcmeebcfalpaaGreatDoor
namespace Go.Proofs.YtlbcmeebcfalpaaGreatDoor
open Go.RowKit

theorem sme_edi {l l' : List Dv} (hi : LT.Inv .edi (.struc l)) (hi' : LT.Inv .edi (.struc l')) {w : World} {P : Ending -> World -> Prop} (HC : AllS w (fun g => ∀ V, Below w.heap.size w V -> P (.returned (.bool g)) V) true (LT.fk .edi) l l') : Calls Tryz.prog 36 #[.agg (Dv.cellsL l).toArray, .agg (Dv.cellsL l').toArray] w P := by
  have HG := hiq (keepB_new w 40 (Dv.cellsL l).toArray (Dv.cellsL l').toArray)
  have HK : Hid (∀ V V', KeepB w 40 (Dv.cellsL l).toArray (Dv.cellsL l').toArray V -> Below V.heap.size V V' -> KeepB w 40 (Dv.cellsL l).toArray (Dv.cellsL l').toArray V') := fun V V' h hb => h.next hb
  have HX : Hid (∀ V, KeepB w 40 (Dv.cellsL l).toArray (Dv.cellsL l').toArray V -> CellsAt V w.heap.size 0 (Dv.cellsL l) /\ CellsAt V (w.heap.size + 1) 0 (Dv.cellsL l')) := fun V h => h.cells
  generalize (Dv.cellsL l).toArray = A at *
  generalize (Dv.cellsL l').toArray = A2 at *
  dsimp only [LT.Inv] at hi hi'
  repeat (rcases (hi : ∃ _, _) with ⟨_, hi⟩)
  repeat (rcases (hi' : ∃ _, _) with ⟨_, hi'⟩)
  injection hi with hi
  injection hi' with hi'
  subst hi
  subst hi'
  simp only [Dv.cells, Dv.cellsL, List.cons_append, List.nil_append, List.append_nil, CellsAt, Nat.zero_add, Nat.reduceAdd, and_true] at HX
  dsimp only [LT.fk, AllS, SFact, LT.isQ, LT.tid, LT.sf, LT.slf] at HC
  simp only [Dv.val, Dv.cells, Dv.cellsL, List.cons_append, List.nil_append, List.append_nil] at HC
  obtain ⟨r0, H0, HC⟩ := HC
  obtain ⟨r1, H1, HC⟩ := HC
  obtain ⟨r2, H2, HC⟩ := HC
  obtain ⟨r3, H3, HC⟩ := HC
  obtain ⟨r4, H4, HC⟩ := HC
  obtain ⟨r5, H5, HC⟩ := HC
  obtain ⟨r6, H6, HC⟩ := HC
  obtain ⟨r7, H7, HC⟩ := HC
  obtain ⟨r8, H8, HC⟩ := HC
  obtain ⟨r9, H9, HC⟩ := HC
  have E0 := eqr_text w H0.out
  have E3 := eqr_cst H3.out
  have E7 := eqr_int w H7.out
  have HZ := hiq HC
  clear HC
  go_enter Tryz.func36, Tryz.ntmps36
  generalize hC1 : Code.region 1 _ _ = C1
  go_wp2_with fail
  rename_i K hK
  have hk1 := HG.out
  generalize World.alloc (World.alloc _ _) _ = W1 at *
  have q := HX.out _ hk1
  have HK1 := hiq hk1
  clear hk1 HG
  subst hC1
  try simp only [List.append_eq, List.cons_append, List.nil_append]
  refine wp_region_cut [5, 7, 7, 7, 7, 7, 7, 7, 7, 7] ?_
  refine wpCut_cons ?_
  simp only [List.take_succ_cons, List.take_zero, List.drop_succ_cons, List.drop_zero]
  go_wp2_with fail
  cases r0
  case false =>
    refine wpCut_skip 73 4 9 (by kernel_rfl) rfl rfl ?_
    intro a ha hd
    refine hK _ _ (wp_ret (bodyPost_ret (v := .bool false) ?_ hd (HZ.out _ HK1.out.below)))
    simp [results, Tryz.results36, ha]
  refine wpCut_cons ?_
  simp only [List.take_succ_cons, List.take_zero, List.drop_succ_cons, List.drop_zero]
  go_wp2_with fail
  refine (H1.out _ HK1.out.below).mono ?_
  rintro e V ⟨rfl, hb⟩
  replace HK1 := hiq (HK.out _ _ HK1.out hb)
  replace q := HX.out _ HK1.out
  clear hb
  go_wp2_with fail
  cases r1
  case false =>
    refine wpCut_skip 73 4 16 (by kernel_rfl) rfl rfl ?_
    intro a ha hd
    refine hK _ _ (wp_ret (bodyPost_ret (v := .bool false) ?_ hd (HZ.out _ HK1.out.below)))
    simp [results, Tryz.results36, ha]
  refine wpCut_cons ?_
  simp only [List.take_succ_cons, List.take_zero, List.drop_succ_cons, List.drop_zero]
  go_wp2_with fail
  refine (H2.out _ HK1.out.below).mono ?_
  rintro e V ⟨rfl, hb⟩
  replace HK1 := hiq (HK.out _ _ HK1.out hb)
  replace q := HX.out _ HK1.out
  clear hb
  go_wp2_with fail
  cases r2
  case false =>
    refine wpCut_skip 73 4 23 (by kernel_rfl) rfl rfl ?_
    intro a ha hd
    refine hK _ _ (wp_ret (bodyPost_ret (v := .bool false) ?_ hd (HZ.out _ HK1.out.below)))
    simp [results, Tryz.results36, ha]
  refine wpCut_cons ?_
  simp only [List.take_succ_cons, List.take_zero, List.drop_succ_cons, List.drop_zero]
  go_wp2_with fail
  cases r3
  case false =>
    refine wpCut_skip 73 4 30 (by kernel_rfl) rfl rfl ?_
    intro a ha hd
    refine hK _ _ (wp_ret (bodyPost_ret (v := .bool false) ?_ hd (HZ.out _ HK1.out.below)))
    simp [results, Tryz.results36, ha]
  refine wpCut_cons ?_
  simp only [List.take_succ_cons, List.take_zero, List.drop_succ_cons, List.drop_zero]
  go_wp2_with fail
  refine (H4.out _ HK1.out.below).mono ?_
  rintro e V ⟨rfl, hb⟩
  replace HK1 := hiq (HK.out _ _ HK1.out hb)
  replace q := HX.out _ HK1.out
  clear hb
  go_wp2_with fail
  cases r4
  case false =>
    refine wpCut_skip 73 4 37 (by kernel_rfl) rfl rfl ?_
    intro a ha hd
    refine hK _ _ (wp_ret (bodyPost_ret (v := .bool false) ?_ hd (HZ.out _ HK1.out.below)))
    simp [results, Tryz.results36, ha]
  refine wpCut_cons ?_
  simp only [List.take_succ_cons, List.take_zero, List.drop_succ_cons, List.drop_zero]
  go_wp2_with fail
  refine (H5.out _ HK1.out.below).mono ?_
  rintro e V ⟨rfl, hb⟩
  replace HK1 := hiq (HK.out _ _ HK1.out hb)
  replace q := HX.out _ HK1.out
  clear hb
  go_wp2_with fail
  cases r5
  case false =>
    refine wpCut_skip 73 4 44 (by kernel_rfl) rfl rfl ?_
    intro a ha hd
    refine hK _ _ (wp_ret (bodyPost_ret (v := .bool false) ?_ hd (HZ.out _ HK1.out.below)))
    simp [results, Tryz.results36, ha]
  refine wpCut_cons ?_
  simp only [List.take_succ_cons, List.take_zero, List.drop_succ_cons, List.drop_zero]
  go_wp2_with fail
  refine (H6.out _ HK1.out.below).mono ?_
  rintro e V ⟨rfl, hb⟩
  replace HK1 := hiq (HK.out _ _ HK1.out hb)
  replace q := HX.out _ HK1.out
  clear hb
  go_wp2_with fail
  cases r6
  case false =>
    refine wpCut_skip 73 4 51 (by kernel_rfl) rfl rfl ?_
    intro a ha hd
    refine hK _ _ (wp_ret (bodyPost_ret (v := .bool false) ?_ hd (HZ.out _ HK1.out.below)))
    simp [results, Tryz.results36, ha]
  refine wpCut_cons ?_
  simp only [List.take_succ_cons, List.take_zero, List.drop_succ_cons, List.drop_zero]
  go_wp2_with fail
  cases r7
  case false =>
    refine wpCut_skip 73 4 58 (by kernel_rfl) rfl rfl ?_
    intro a ha hd
    refine hK _ _ (wp_ret (bodyPost_ret (v := .bool false) ?_ hd (HZ.out _ HK1.out.below)))
    simp [results, Tryz.results36, ha]
  refine wpCut_cons ?_
  simp only [List.take_succ_cons, List.take_zero, List.drop_succ_cons, List.drop_zero]
  go_wp2_with fail
  refine (H8.out _ HK1.out.below).mono ?_
  rintro e V ⟨rfl, hb⟩
  replace HK1 := hiq (HK.out _ _ HK1.out hb)
  replace q := HX.out _ HK1.out
  clear hb
  go_wp2_with fail
  cases r8
  case false =>
    refine wpCut_skip 73 4 65 (by kernel_rfl) rfl rfl ?_
    intro a ha hd
    refine hK _ _ (wp_ret (bodyPost_ret (v := .bool false) ?_ hd (HZ.out _ HK1.out.below)))
    simp [results, Tryz.results36, ha]
  refine wpCut_cons ?_
  simp only [List.take_succ_cons, List.take_zero, List.drop_succ_cons, List.drop_zero]
  go_wp2_with fail
  refine (H9.out _ HK1.out.below).mono ?_
  rintro e V ⟨rfl, hb⟩
  replace HK1 := hiq (HK.out _ _ HK1.out hb)
  replace q := HX.out _ HK1.out
  clear hb
  go_wp2_with fail
  cases r9
  case false =>
    refine wpCut_skip 73 4 72 (by kernel_rfl) rfl rfl ?_
    intro a ha hd
    refine hK _ _ (wp_ret (bodyPost_ret (v := .bool false) ?_ hd (HZ.out _ HK1.out.below)))
    simp [results, Tryz.results36, ha]
  refine wpCut_nil ?_
  go_wp2
  exact HZ.out _ HK1.out.below
end Go.Proofs.YtlbcmeebcfalpaaGreatDoor
namespace Go.Proofs.YtlbcmeebcfalpaaGreatDoor
open Go.RowKit

theorem sme_inp {l l' : List Dv} (hi : LT.Inv .inp (.struc l)) (hi' : LT.Inv .inp (.struc l')) {w : World} {P : Ending -> World -> Prop} (HC : AllS w (fun g => ∀ V, Below w.heap.size w V -> P (.returned (.bool g)) V) true (LT.fk .inp) l l') : Calls Tryz.prog 47 #[.agg (Dv.cellsL l).toArray, .agg (Dv.cellsL l').toArray] w P := by
  have HG := hiq (keepB_new w 58 (Dv.cellsL l).toArray (Dv.cellsL l').toArray)
  have HK : Hid (∀ V V', KeepB w 58 (Dv.cellsL l).toArray (Dv.cellsL l').toArray V -> Below V.heap.size V V' -> KeepB w 58 (Dv.cellsL l).toArray (Dv.cellsL l').toArray V') := fun V V' h hb => h.next hb
  have HX : Hid (∀ V, KeepB w 58 (Dv.cellsL l).toArray (Dv.cellsL l').toArray V -> CellsAt V w.heap.size 0 (Dv.cellsL l) /\ CellsAt V (w.heap.size + 1) 0 (Dv.cellsL l')) := fun V h => h.cells
  generalize (Dv.cellsL l).toArray = A at *
  generalize (Dv.cellsL l').toArray = A2 at *
  dsimp only [LT.Inv] at hi hi'
  repeat (rcases (hi : ∃ _, _) with ⟨_, hi⟩)
  repeat (rcases (hi' : ∃ _, _) with ⟨_, hi'⟩)
  injection hi with hi
  injection hi' with hi'
  subst hi
  subst hi'
  simp only [Dv.cells, Dv.cellsL, List.cons_append, List.nil_append, List.append_nil, CellsAt, Nat.zero_add, Nat.reduceAdd, and_true] at HX
  dsimp only [LT.fk, AllS, SFact, LT.isQ, LT.tid, LT.sf, LT.slf] at HC
  simp only [Dv.val, Dv.cells, Dv.cellsL, List.cons_append, List.nil_append, List.append_nil] at HC
  obtain ⟨r0, H0, HC⟩ := HC
  obtain ⟨r1, H1, HC⟩ := HC
  obtain ⟨r2, H2, HC⟩ := HC
  obtain ⟨r3, H3, HC⟩ := HC
  obtain ⟨r4, H4, HC⟩ := HC
  obtain ⟨r5, H5, HC⟩ := HC
  obtain ⟨r6, H6, HC⟩ := HC
  obtain ⟨r7, H7, HC⟩ := HC
  obtain ⟨r8, H8, HC⟩ := HC
  obtain ⟨r9, H9, HC⟩ := HC
  obtain ⟨r10, H10, HC⟩ := HC
  obtain ⟨r11, H11, HC⟩ := HC
  obtain ⟨r12, H12, HC⟩ := HC
  have E0 := eqr_text w H0.out
  have E3 := eqr_cst H3.out
  have E7 := eqr_int w H7.out
  have E11 := eqr_text w H11.out
  have HZ := hiq HC
  clear HC
  go_enter Tryz.func47, Tryz.ntmps47
  generalize hC1 : Code.region 1 _ _ = C1
  go_wp2_with fail
  rename_i K hK
  have hk1 := HG.out
  generalize World.alloc (World.alloc _ _) _ = W1 at *
  have q := HX.out _ hk1
  have HK1 := hiq hk1
  clear hk1 HG
  subst hC1
  try simp only [List.append_eq, List.cons_append, List.nil_append]
  refine wp_region_cut [5, 7, 7, 7, 7, 7, 7, 7, 7, 7, 7, 7, 7] ?_
  refine wpCut_cons ?_
  simp only [List.take_succ_cons, List.take_zero, List.drop_succ_cons, List.drop_zero]
  go_wp2_with fail
  cases r0
  case false =>
    refine wpCut_skip 94 4 9 (by kernel_rfl) rfl rfl ?_
    intro a ha hd
    refine hK _ _ (wp_ret (bodyPost_ret (v := .bool false) ?_ hd (HZ.out _ HK1.out.below)))
    simp [results, Tryz.results47, ha]
  refine wpCut_cons ?_
  simp only [List.take_succ_cons, List.take_zero, List.drop_succ_cons, List.drop_zero]
  go_wp2_with fail
  refine (H1.out _ HK1.out.below).mono ?_
  rintro e V ⟨rfl, hb⟩
  replace HK1 := hiq (HK.out _ _ HK1.out hb)
  replace q := HX.out _ HK1.out
  clear hb
  go_wp2_with fail
  cases r1
  case false =>
    refine wpCut_skip 94 4 16 (by kernel_rfl) rfl rfl ?_
    intro a ha hd
    refine hK _ _ (wp_ret (bodyPost_ret (v := .bool false) ?_ hd (HZ.out _ HK1.out.below)))
    simp [results, Tryz.results47, ha]
  refine wpCut_cons ?_
  simp only [List.take_succ_cons, List.take_zero, List.drop_succ_cons, List.drop_zero]
  go_wp2_with fail
  refine (H2.out _ HK1.out.below).mono ?_
  rintro e V ⟨rfl, hb⟩
  replace HK1 := hiq (HK.out _ _ HK1.out hb)
  replace q := HX.out _ HK1.out
  clear hb
  go_wp2_with fail
  cases r2
  case false =>
    refine wpCut_skip 94 4 23 (by kernel_rfl) rfl rfl ?_
    intro a ha hd
    refine hK _ _ (wp_ret (bodyPost_ret (v := .bool false) ?_ hd (HZ.out _ HK1.out.below)))
    simp [results, Tryz.results47, ha]
  refine wpCut_cons ?_
  simp only [List.take_succ_cons, List.take_zero, List.drop_succ_cons, List.drop_zero]
  go_wp2_with fail
  cases r3
  case false =>
    refine wpCut_skip 94 4 30 (by kernel_rfl) rfl rfl ?_
    intro a ha hd
    refine hK _ _ (wp_ret (bodyPost_ret (v := .bool false) ?_ hd (HZ.out _ HK1.out.below)))
    simp [results, Tryz.results47, ha]
  refine wpCut_cons ?_
  simp only [List.take_succ_cons, List.take_zero, List.drop_succ_cons, List.drop_zero]
  go_wp2_with fail
  refine (H4.out _ HK1.out.below).mono ?_
  rintro e V ⟨rfl, hb⟩
  replace HK1 := hiq (HK.out _ _ HK1.out hb)
  replace q := HX.out _ HK1.out
  clear hb
  go_wp2_with fail
  cases r4
  case false =>
    refine wpCut_skip 94 4 37 (by kernel_rfl) rfl rfl ?_
    intro a ha hd
    refine hK _ _ (wp_ret (bodyPost_ret (v := .bool false) ?_ hd (HZ.out _ HK1.out.below)))
    simp [results, Tryz.results47, ha]
  refine wpCut_cons ?_
  simp only [List.take_succ_cons, List.take_zero, List.drop_succ_cons, List.drop_zero]
  go_wp2_with fail
  refine (H5.out _ HK1.out.below).mono ?_
  rintro e V ⟨rfl, hb⟩
  replace HK1 := hiq (HK.out _ _ HK1.out hb)
  replace q := HX.out _ HK1.out
  clear hb
  go_wp2_with fail
  cases r5
  case false =>
    refine wpCut_skip 94 4 44 (by kernel_rfl) rfl rfl ?_
    intro a ha hd
    refine hK _ _ (wp_ret (bodyPost_ret (v := .bool false) ?_ hd (HZ.out _ HK1.out.below)))
    simp [results, Tryz.results47, ha]
  refine wpCut_cons ?_
  simp only [List.take_succ_cons, List.take_zero, List.drop_succ_cons, List.drop_zero]
  go_wp2_with fail
  refine (H6.out _ HK1.out.below).mono ?_
  rintro e V ⟨rfl, hb⟩
  replace HK1 := hiq (HK.out _ _ HK1.out hb)
  replace q := HX.out _ HK1.out
  clear hb
  go_wp2_with fail
  cases r6
  case false =>
    refine wpCut_skip 94 4 51 (by kernel_rfl) rfl rfl ?_
    intro a ha hd
    refine hK _ _ (wp_ret (bodyPost_ret (v := .bool false) ?_ hd (HZ.out _ HK1.out.below)))
    simp [results, Tryz.results47, ha]
  refine wpCut_cons ?_
  simp only [List.take_succ_cons, List.take_zero, List.drop_succ_cons, List.drop_zero]
  go_wp2_with fail
  cases r7
  case false =>
    refine wpCut_skip 94 4 58 (by kernel_rfl) rfl rfl ?_
    intro a ha hd
    refine hK _ _ (wp_ret (bodyPost_ret (v := .bool false) ?_ hd (HZ.out _ HK1.out.below)))
    simp [results, Tryz.results47, ha]
  refine wpCut_cons ?_
  simp only [List.take_succ_cons, List.take_zero, List.drop_succ_cons, List.drop_zero]
  go_wp2_with fail
  refine (H8.out _ HK1.out.below).mono ?_
  rintro e V ⟨rfl, hb⟩
  replace HK1 := hiq (HK.out _ _ HK1.out hb)
  replace q := HX.out _ HK1.out
  clear hb
  go_wp2_with fail
  cases r8
  case false =>
    refine wpCut_skip 94 4 65 (by kernel_rfl) rfl rfl ?_
    intro a ha hd
    refine hK _ _ (wp_ret (bodyPost_ret (v := .bool false) ?_ hd (HZ.out _ HK1.out.below)))
    simp [results, Tryz.results47, ha]
  refine wpCut_cons ?_
  simp only [List.take_succ_cons, List.take_zero, List.drop_succ_cons, List.drop_zero]
  go_wp2_with fail
  refine (H9.out _ HK1.out.below).mono ?_
  rintro e V ⟨rfl, hb⟩
  replace HK1 := hiq (HK.out _ _ HK1.out hb)
  replace q := HX.out _ HK1.out
  clear hb
  go_wp2_with fail
  cases r9
  case false =>
    refine wpCut_skip 94 4 72 (by kernel_rfl) rfl rfl ?_
    intro a ha hd
    refine hK _ _ (wp_ret (bodyPost_ret (v := .bool false) ?_ hd (HZ.out _ HK1.out.below)))
    simp [results, Tryz.results47, ha]
  refine wpCut_cons ?_
  simp only [List.take_succ_cons, List.take_zero, List.drop_succ_cons, List.drop_zero]
  go_wp2_with fail
  refine (H10.out _ HK1.out.below).mono ?_
  rintro e V ⟨rfl, hb⟩
  replace HK1 := hiq (HK.out _ _ HK1.out hb)
  replace q := HX.out _ HK1.out
  clear hb
  go_wp2_with fail
  cases r10
  case false =>
    refine wpCut_skip 94 4 79 (by kernel_rfl) rfl rfl ?_
    intro a ha hd
    refine hK _ _ (wp_ret (bodyPost_ret (v := .bool false) ?_ hd (HZ.out _ HK1.out.below)))
    simp [results, Tryz.results47, ha]
  refine wpCut_cons ?_
  simp only [List.take_succ_cons, List.take_zero, List.drop_succ_cons, List.drop_zero]
  go_wp2_with fail
  cases r11
  case false =>
    refine wpCut_skip 94 4 86 (by kernel_rfl) rfl rfl ?_
    intro a ha hd
    refine hK _ _ (wp_ret (bodyPost_ret (v := .bool false) ?_ hd (HZ.out _ HK1.out.below)))
    simp [results, Tryz.results47, ha]
  refine wpCut_cons ?_
  simp only [List.take_succ_cons, List.take_zero, List.drop_succ_cons, List.drop_zero]
  go_wp2_with fail
  refine (H12.out _ HK1.out.below).mono ?_
  rintro e V ⟨rfl, hb⟩
  replace HK1 := hiq (HK.out _ _ HK1.out hb)
  replace q := HX.out _ HK1.out
  clear hb
  go_wp2_with fail
  cases r12
  case false =>
    refine wpCut_skip 94 4 93 (by kernel_rfl) rfl rfl ?_
    intro a ha hd
    refine hK _ _ (wp_ret (bodyPost_ret (v := .bool false) ?_ hd (HZ.out _ HK1.out.below)))
    simp [results, Tryz.results47, ha]
  refine wpCut_nil ?_
  go_wp2
  exact HZ.out _ HK1.out.below
end Go.Proofs.YtlbcmeebcfalpaaGreatDoor
namespace Go.Proofs.YtlbcmeebcfalpaaGreatDoor
open Go.RowKit

def SOk (d : Dv) : Prop := ∀ (T : LT) (d' : Dv), T.isX = true -> Has T.ty d -> Has T.ty d' -> ∀ (S S' : Nat -> Prop) (w : World), RdD S w d -> RdD S' w d' -> Calls Tryz.prog T.sf #[d.val, d'.val] w (SmeP d.toV d'.toV w)
@[reducible] def FK.ok2 : FK -> Bool | .one U => U.isQ || U.isX | .many U => U.isSA || U.isSB
theorem LT.fk_ok2 (T : LT) (h : T.isX = true) : ∀ x ∈ T.fk, x.ok2 = true := by cases T <;> first | (cases h; done) | decide
theorem LT.sa_x (T : LT) (h : T.isSA = true) : T.isX = true := by cases T <;> first | rfl | cases h
theorem LT.sb_q (T : LT) (h : T.isSB = true) : T.isQ = true := by cases T <;> first | rfl | cases h
theorem LT.x_w (T : LT) (h : T.isX = true) : T = .toks \/ T.isW = true := by cases T <;> first | exact .inl rfl | exact .inr rfl | cases h
theorem list_sok {U : LT} (hE : (U.isSA || U.isSB) = true) {S S' : Nat -> Prop} {w : World} {a a' : Option Addr} {c c' : Nat} {l m : List Dv} (hl : ∀ x ∈ l, Has U.ty x) (hm : ∀ x ∈ m, Has U.ty x) (hr : RdD S w (.list U.k U.s a c l)) (hr' : RdD S' w (.list U.k U.s a' c' m)) (hk : ∀ x ∈ l, SOk x) :
    Calls Tryz.prog U.slf #[.slice a l.length c, .slice a' m.length c'] w (SmeP (Dv.list U.k U.s a c l).toV (Dv.list U.k U.s a' c' m).toV w) := by
  have hI := rdD_list.1 hr
  have hI' := rdD_list.1 hr'
  rw [Dv.toV, Dv.toV, Dv.toVL_map, Dv.toVL_map]
  cases hA : U.isSA
  · rw [hA] at hE
    have hB : U.isSB = true := hE
    exact sb_any U hB hI hI' hl hm (fun d hd d' hd' W _ => (eqr_any U (U.sb_q hB) (hl d hd) (hm d' hd')).1)
  · refine sa_any U hA hI hI' hl hm (fun d hd d' hd' W hW => ?_)
    obtain ⟨j, hj⟩ := List.mem_iff_getElem?.1 hd
    obtain ⟨i, hi⟩ := List.mem_iff_getElem?.1 hd'
    exact hk d hd U d' (U.sa_x hA) (hl d hd) (hm d' hd') S S' W ((hI.2.2.2 j d hj).2.below hW) ((hI'.2.2.2 i d' hi).2.below hW)
theorem hasL_len : ∀ {ts : List Ty} {l : List Dv}, HasL ts l -> l.length = ts.length
  | [], l, h => by rw [h.nil_inv]; rfl
  | t :: ts, l, h => by
    obtain ⟨d, r, rfl, -, h2⟩ := h.cons_inv
    rw [List.length_cons, List.length_cons, hasL_len h2]
theorem hasL_get : ∀ {ts : List Ty} {l : List Dv}, HasL ts l -> ∀ (i : Nat) (t : Ty) (d : Dv), ts[i]? = some t -> l[i]? = some d -> Has t d
  | [], l, h, i, t, d, ht, _ => by cases ht
  | t :: ts, l, h, i, t', d', ht, hd => by
    obtain ⟨d, r, rfl, h1, h2⟩ := h.cons_inv
    cases i with
    | zero => cases ht; cases hd; exact h1
    | succ i => exact hasL_get h2 i t' d' (by simpa using ht) (by simpa using hd)
theorem sme_st (T : LT) (hX : T.isX = true) (hW : T.isW = true) {l l' : List Dv} (h : Has T.ty (.struc l)) (h' : Has T.ty (.struc l')) {w : World} {P : Ending -> World -> Prop} (HC : AllS w (fun g => ∀ V, Below w.heap.size w V -> P (.returned (.bool g)) V) true T.fk l l') : Calls Tryz.prog T.sf #[(Dv.struc l).val, (Dv.struc l').val] w P := by
  have hi := T.inv h
  have hi' := T.inv h'
  cases T
  case wit => exact sme_wit hi hi' HC
  case rul => exact sme_rul hi hi' HC
  case grp => exact sme_grp hi hi' HC
  case pat => exact sme_pat hi hi' HC
  case nod => exact sme_nod hi hi' HC
  case exp => exact sme_exp hi hi' HC
  case sec => exact sme_sec hi hi' HC
  case sty => exact sme_sty hi hi' HC
  case edi => exact sme_edi hi hi' HC
  case inp => exact sme_inp hi hi' HC
  all_goals first | (cases hX; done) | (cases hW; done)
theorem sfact_one {w : World} {U : LT} {d d' : Dv} {r : Bool} (h1 : U.isQ = true -> EqR .eql U.tid d.val d'.val r) (h2 : U.isQ = false -> ∀ V, Below w.heap.size w V -> Calls Tryz.prog U.sf #[d.val, d'.val] V (fun e V' => e = .returned (.bool r) /\ Below V.heap.size V V')) : SFact w (.one U) d d' r := by
  unfold SFact
  dsimp only
  generalize U.isQ = q at *
  cases q
  · exact h2 rfl
  · exact h1 rfl
theorem s_all (d : Dv) : SOk d /\ ∀ k s a c l, d = .list k s a c l -> ∀ x ∈ l, SOk x := by
  have main : ∀ d : Dv, (∀ l, d = .struc l -> ∀ x ∈ l, SOk x /\ ∀ k s a c m, x = .list k s a c m -> ∀ y ∈ m, SOk y) -> (∀ k s a c l, d = .list k s a c l -> ∀ x ∈ l, SOk x) -> SOk d := by
    intro d h1 h2 T d' hX hT hT' S S' w hr hr'
    rcases T.x_w hX with rfl | hW
    · obtain ⟨a, c, l, rfl, hl⟩ := hT.list_inv
      obtain ⟨a', c', m, rfl, hm⟩ := hT'.list_inv
      exact list_sok (U := .tok) rfl hl hm hr hr' (h2 _ _ _ _ _ rfl)
    · obtain ⟨l, rfl, hl⟩ := has_struc_of T hW hT
      obtain ⟨l', rfl, hl'⟩ := has_struc_of T hW hT'
      obtain ⟨f1, -, -⟩ := T.fk_ok hW
      rw [f1] at hl hl'
      have n1 := hasL_len hl
      have n2 := hasL_len hl'
      rw [List.length_map] at n1 n2
      refine sme_st T hX hW hT hT' (allS_of T.fk l l' true n1 n2 (fun i k x x' hk hx hx' => ?_) (fun V hV => ⟨?_, hV⟩))
      · have g1 := hasL_get hl i k.ty x (by simp [hk]) hx
        have g2 := hasL_get hl' i k.ty x' (by simp [hk]) hx'
        have m1 := List.mem_of_getElem? hx
        have m2 := List.mem_of_getElem? hx'
        have ho := T.fk_ok2 hX k (List.mem_of_getElem? hk)
        obtain ⟨s1, s2⟩ := h1 _ rfl x m1
        have r1 := rdD_struc.1 hr x m1
        have r2 := rdD_struc.1 hr' x' m2
        cases k with
        | one U =>
          refine sfact_one (fun hq => (eqr_any U hq g1 g2).2) (fun hq V hV => ?_)
          have hx : U.isX = true := by simpa [FK.ok2, hq] using ho
          exact s1 U x' hx g1 g2 S S' V (r1.below hV) (r2.below hV)
        | many U =>
          obtain ⟨a, c, y, rfl, hy⟩ := Has.list_inv g1
          obtain ⟨a', c', y', rfl, hy'⟩ := Has.list_inv g2
          intro V hV
          exact list_sok (U := U) ho hy hy' (r1.below hV) (r2.below hV) (s2 _ _ _ _ _ rfl)
      · rw [Dv.toV, Dv.toV]; simp [sameV]
  induction d using Dv.ind with
  | hi n => exact ⟨main _ (fun l e => by cases e) (fun k s a c l e => by cases e), fun k s a c l e => by cases e⟩
  | hb b => exact ⟨main _ (fun l e => by cases e) (fun k s a c l e => by cases e), fun k s a c l e => by cases e⟩
  | ht t => exact ⟨main _ (fun l e => by cases e) (fun k s a c l e => by cases e), fun k s a c l e => by cases e⟩
  | hs L ih => exact ⟨main _ (fun l e => by cases e; exact ih) (fun k s a c l e => by cases e), fun k s a c l e => by cases e⟩
  | hl k s a c L ih => exact ⟨main _ (fun l e => by cases e) (fun k s a c l e => by cases e; exact fun x hx => (ih x hx).1), fun k s a c l e => by cases e; exact fun x hx => (ih x hx).1⟩
/-- Every comparison of the reference. -/
theorem same_of (T : LT) (hX : T.isX = true) {d d' : Dv} (hT : Has T.ty d) (hT' : Has T.ty d') {S S' : Nat -> Prop} {w : World} (hr : RdD S w d) (hr' : RdD S' w d') : Calls Tryz.prog T.sf #[d.val, d'.val] w (SmeP d.toV d'.toV w) := (s_all d).1 T d' hX hT hT' S S' w hr hr'
theorem Same_ref {d d2 : Dv} (hT : Has (LT.ty .edi) d) (hT2 : Has (LT.ty .edi) d2) {S S2 : Nat -> Prop} {w : World} (hr : RdD S w d) (hr2 : RdD S2 w d2) : Calls Tryz.prog 15 #[d.val, d2.val] w (SmeP d.toV d2.toV w) := by
  obtain ⟨hl1, -, ho1, hv1⟩ := LT.len .edi hT
  obtain ⟨hl2, -, ho2, hv2⟩ := LT.len .edi hT2
  have hk := keepB_new w (LT.tid .edi) d.cells.toArray d2.cells.toArray
  have HL := hiq (And.intro (LT.ld .edi rfl hl1 hk.fst) (LT.ld .edi rfl hl2 hk.snd))
  have HM := hiq (same_of .edi rfl hT hT2 (hr.below hk.below) (hr2.below hk.below))
  have HB := hiq hk.below
  rw [hv1 rfl, hv2 rfl] at HM ⊢
  clear hl1 ho1 hv1 hl2 ho2 hv2 hT hT2 hr hr2 hk
  generalize d.cells.toArray = A at *
  generalize d2.cells.toArray = A2 at *
  dsimp only [LT.tid, LT.sf] at HL HM HB
  go_enter Tryz.func15, Tryz.ntmps15
  generalize hC1 : Code.region 1 _ _ = C1
  go_wp2_with fail
  generalize World.alloc (World.alloc _ _) _ = W1 at *
  subst hC1
  go_wp2_with (first | ((with_reducible refine wpList_ldL HL.out.1 rfl _ rfl ?_ ?_); rfl) | ((with_reducible refine wpList_ldL HL.out.2 rfl _ rfl ?_ ?_); rfl) | fail)
  refine HM.out.mono ?_
  rintro e V ⟨rfl, hb⟩
  have HZ := hiq (HB.out.trans (hb.mono HB.out.size))
  clear hb HM
  go_wp2
  go_ret
  exact ⟨rfl, HZ.out⟩
theorem SameInput_ref {d d2 : Dv} (hT : Has (LT.ty .inp) d) (hT2 : Has (LT.ty .inp) d2) {S S2 : Nat -> Prop} {w : World} (hr : RdD S w d) (hr2 : RdD S2 w d2) : Calls Tryz.prog 26 #[d.val, d2.val] w (SmeP d.toV d2.toV w) := by
  obtain ⟨hl1, -, ho1, hv1⟩ := LT.len .inp hT
  obtain ⟨hl2, -, ho2, hv2⟩ := LT.len .inp hT2
  have hk := keepB_new w (LT.tid .inp) d.cells.toArray d2.cells.toArray
  have HL := hiq (And.intro (LT.ld .inp rfl hl1 hk.fst) (LT.ld .inp rfl hl2 hk.snd))
  have HM := hiq (same_of .inp rfl hT hT2 (hr.below hk.below) (hr2.below hk.below))
  have HB := hiq hk.below
  rw [hv1 rfl, hv2 rfl] at HM ⊢
  clear hl1 ho1 hv1 hl2 ho2 hv2 hT hT2 hr hr2 hk
  generalize d.cells.toArray = A at *
  generalize d2.cells.toArray = A2 at *
  dsimp only [LT.tid, LT.sf] at HL HM HB
  go_enter Tryz.func26, Tryz.ntmps26
  generalize hC1 : Code.region 1 _ _ = C1
  go_wp2_with fail
  generalize World.alloc (World.alloc _ _) _ = W1 at *
  subst hC1
  go_wp2_with (first | ((with_reducible refine wpList_ldL HL.out.1 rfl _ rfl ?_ ?_); rfl) | ((with_reducible refine wpList_ldL HL.out.2 rfl _ rfl ?_ ?_); rfl) | fail)
  refine HM.out.mono ?_
  rintro e V ⟨rfl, hb⟩
  have HZ := hiq (HB.out.trans (hb.mono HB.out.size))
  clear hb HM
  go_wp2
  go_ret
  exact ⟨rfl, HZ.out⟩
end Go.Proofs.YtlbcmeebcfalpaaGreatDoor
