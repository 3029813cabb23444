/- Joined: ISs1, ISs2, ISs3, ISs4. -/
import Derived.Test.YtlbcmeebcfalpaaGreatDoorR14
set_option linter.unusedVariables false
set_option linter.unusedSimpArgs false
set_option maxRecDepth 100000
set_option maxHeartbeats 16000000
namespace Go.Proofs.YtlbcmeebcfalpaaGreatDoor
open Go.RowKit

theorem sme_grp {l l' : List Dv} (hi : LT.Inv .grp (.struc l)) (hi' : LT.Inv .grp (.struc l')) {w : World} {P : Ending -> World -> Prop} (HC : AllS w (fun g => ∀ V, Below w.heap.size w V -> P (.returned (.bool g)) V) true (LT.fk .grp) l l') : Calls Tryz.prog 193 #[.agg (Dv.cellsL l).toArray, .agg (Dv.cellsL l').toArray] w P := by
  have HG := hiq (keepB_new w 120 (Dv.cellsL l).toArray (Dv.cellsL l').toArray)
  have HK : Hid (∀ V V', KeepB w 120 (Dv.cellsL l).toArray (Dv.cellsL l').toArray V -> Below V.heap.size V V' -> KeepB w 120 (Dv.cellsL l).toArray (Dv.cellsL l').toArray V') := fun V V' h hb => h.next hb
  have HX : Hid (∀ V, KeepB w 120 (Dv.cellsL l).toArray (Dv.cellsL l').toArray V -> CellsAt V w.heap.size 0 (Dv.cellsL l) /\ CellsAt V (w.heap.size + 1) 0 (Dv.cellsL l')) := fun V h => h.cells
  generalize (Dv.cellsL l).toArray = A at *
  generalize (Dv.cellsL l').toArray = A2 at *
  dsimp only [LT.Inv] at hi hi'
  repeat (rcases (hi : ∃ _, _) with ⟨_, hi⟩)
  repeat (rcases (hi' : ∃ _, _) with ⟨_, hi'⟩)
  injection hi with hi
  injection hi' with hi'
  subst hi
  subst hi'
  simp only [Dv.cells, Dv.cellsL, List.cons_append, List.nil_append, List.append_nil, CellsAt, Nat.zero_add, Nat.reduceAdd, and_true] at HX
  dsimp only [LT.fk, AllS, SFact, LT.isQ, LT.tid, LT.sf, LT.slf] at HC
  simp only [Dv.val, Dv.cells, Dv.cellsL, List.cons_append, List.nil_append, List.append_nil] at HC
  obtain ⟨r0, H0, HC⟩ := HC
  obtain ⟨r1, H1, HC⟩ := HC
  have E0 := eqr_text w H0.out
  have HZ := hiq HC
  clear HC
  go_enter Tryz.func193, Tryz.ntmps193
  generalize hC1 : Code.region 1 _ _ = C1
  go_wp2_with fail
  rename_i K hK
  have hk1 := HG.out
  generalize World.alloc (World.alloc _ _) _ = W1 at *
  have q := HX.out _ hk1
  have HK1 := hiq hk1
  clear hk1 HG
  subst hC1
  try simp only [List.cons_append, List.nil_append]
  refine wp_region_cut [5, 7] ?_
  refine wpCut_cons ?_
  simp only [List.take_succ_cons, List.take_zero, List.drop_succ_cons, List.drop_zero]
  go_wp2_with fail
  cases r0
  case false =>
    refine wpCut_skip 17 4 9 (by kernel_rfl) rfl rfl ?_
    intro a ha hd
    refine hK _ _ (wp_ret (bodyPost_ret (v := .bool false) ?_ hd (HZ.out _ HK1.out.below)))
    simp [results, Tryz.results193, ha]
  refine wpCut_cons ?_
  simp only [List.take_succ_cons, List.take_zero, List.drop_succ_cons, List.drop_zero]
  go_wp2_with fail
  refine (H1.out _ HK1.out.below).mono ?_
  rintro e V ⟨rfl, hb⟩
  replace HK1 := hiq (HK.out _ _ HK1.out hb)
  replace q := HX.out _ HK1.out
  clear hb
  go_wp2_with fail
  cases r1
  case false =>
    refine wpCut_skip 17 4 16 (by kernel_rfl) rfl rfl ?_
    intro a ha hd
    refine hK _ _ (wp_ret (bodyPost_ret (v := .bool false) ?_ hd (HZ.out _ HK1.out.below)))
    simp [results, Tryz.results193, ha]
  refine wpCut_nil ?_
  go_wp2
  exact HZ.out _ HK1.out.below
theorem sme_pat {l l' : List Dv} (hi : LT.Inv .pat (.struc l)) (hi' : LT.Inv .pat (.struc l')) {w : World} {P : Ending -> World -> Prop} (HC : AllS w (fun g => ∀ V, Below w.heap.size w V -> P (.returned (.bool g)) V) true (LT.fk .pat) l l') : Calls Tryz.prog 194 #[.agg (Dv.cellsL l).toArray, .agg (Dv.cellsL l').toArray] w P := by
  have HG := hiq (keepB_new w 124 (Dv.cellsL l).toArray (Dv.cellsL l').toArray)
  have HK : Hid (∀ V V', KeepB w 124 (Dv.cellsL l).toArray (Dv.cellsL l').toArray V -> Below V.heap.size V V' -> KeepB w 124 (Dv.cellsL l).toArray (Dv.cellsL l').toArray V') := fun V V' h hb => h.next hb
  have HX : Hid (∀ V, KeepB w 124 (Dv.cellsL l).toArray (Dv.cellsL l').toArray V -> CellsAt V w.heap.size 0 (Dv.cellsL l) /\ CellsAt V (w.heap.size + 1) 0 (Dv.cellsL l')) := fun V h => h.cells
  generalize (Dv.cellsL l).toArray = A at *
  generalize (Dv.cellsL l').toArray = A2 at *
  dsimp only [LT.Inv] at hi hi'
  repeat (rcases (hi : ∃ _, _) with ⟨_, hi⟩)
  repeat (rcases (hi' : ∃ _, _) with ⟨_, hi'⟩)
  injection hi with hi
  injection hi' with hi'
  subst hi
  subst hi'
  simp only [Dv.cells, Dv.cellsL, List.cons_append, List.nil_append, List.append_nil, CellsAt, Nat.zero_add, Nat.reduceAdd, and_true] at HX
  dsimp only [LT.fk, AllS, SFact, LT.isQ, LT.tid, LT.sf, LT.slf] at HC
  simp only [Dv.val, Dv.cells, Dv.cellsL, List.cons_append, List.nil_append, List.append_nil] at HC
  obtain ⟨r0, H0, HC⟩ := HC
  obtain ⟨r1, H1, HC⟩ := HC
  have E0 := eqr_text w H0.out
  have HZ := hiq HC
  clear HC
  go_enter Tryz.func194, Tryz.ntmps194
  generalize hC1 : Code.region 1 _ _ = C1
  go_wp2_with fail
  rename_i K hK
  have hk1 := HG.out
  generalize World.alloc (World.alloc _ _) _ = W1 at *
  have q := HX.out _ hk1
  have HK1 := hiq hk1
  clear hk1 HG
  subst hC1
  try simp only [List.cons_append, List.nil_append]
  refine wp_region_cut [5, 7] ?_
  refine wpCut_cons ?_
  simp only [List.take_succ_cons, List.take_zero, List.drop_succ_cons, List.drop_zero]
  go_wp2_with fail
  cases r0
  case false =>
    refine wpCut_skip 17 4 9 (by kernel_rfl) rfl rfl ?_
    intro a ha hd
    refine hK _ _ (wp_ret (bodyPost_ret (v := .bool false) ?_ hd (HZ.out _ HK1.out.below)))
    simp [results, Tryz.results194, ha]
  refine wpCut_cons ?_
  simp only [List.take_succ_cons, List.take_zero, List.drop_succ_cons, List.drop_zero]
  go_wp2_with fail
  refine (H1.out _ HK1.out.below).mono ?_
  rintro e V ⟨rfl, hb⟩
  replace HK1 := hiq (HK.out _ _ HK1.out hb)
  replace q := HX.out _ HK1.out
  clear hb
  go_wp2_with fail
  cases r1
  case false =>
    refine wpCut_skip 17 4 16 (by kernel_rfl) rfl rfl ?_
    intro a ha hd
    refine hK _ _ (wp_ret (bodyPost_ret (v := .bool false) ?_ hd (HZ.out _ HK1.out.below)))
    simp [results, Tryz.results194, ha]
  refine wpCut_nil ?_
  go_wp2
  exact HZ.out _ HK1.out.below
theorem sme_rul {l l' : List Dv} (hi : LT.Inv .rul (.struc l)) (hi' : LT.Inv .rul (.struc l')) {w : World} {P : Ending -> World -> Prop} (HC : AllS w (fun g => ∀ V, Below w.heap.size w V -> P (.returned (.bool g)) V) true (LT.fk .rul) l l') : Calls Tryz.prog 192 #[.agg (Dv.cellsL l).toArray, .agg (Dv.cellsL l').toArray] w P := by
  have HG := hiq (keepB_new w 115 (Dv.cellsL l).toArray (Dv.cellsL l').toArray)
  have HK : Hid (∀ V V', KeepB w 115 (Dv.cellsL l).toArray (Dv.cellsL l').toArray V -> Below V.heap.size V V' -> KeepB w 115 (Dv.cellsL l).toArray (Dv.cellsL l').toArray V') := fun V V' h hb => h.next hb
  have HX : Hid (∀ V, KeepB w 115 (Dv.cellsL l).toArray (Dv.cellsL l').toArray V -> CellsAt V w.heap.size 0 (Dv.cellsL l) /\ CellsAt V (w.heap.size + 1) 0 (Dv.cellsL l')) := fun V h => h.cells
  generalize (Dv.cellsL l).toArray = A at *
  generalize (Dv.cellsL l').toArray = A2 at *
  dsimp only [LT.Inv] at hi hi'
  repeat (rcases (hi : ∃ _, _) with ⟨_, hi⟩)
  repeat (rcases (hi' : ∃ _, _) with ⟨_, hi'⟩)
  injection hi with hi
  injection hi' with hi'
  subst hi
  subst hi'
  simp only [Dv.cells, Dv.cellsL, List.cons_append, List.nil_append, List.append_nil, CellsAt, Nat.zero_add, Nat.reduceAdd, and_true] at HX
  dsimp only [LT.fk, AllS, SFact, LT.isQ, LT.tid, LT.sf, LT.slf] at HC
  simp only [Dv.val, Dv.cells, Dv.cellsL, List.cons_append, List.nil_append, List.append_nil] at HC
  obtain ⟨r0, H0, HC⟩ := HC
  obtain ⟨r1, H1, HC⟩ := HC
  have E0 := eqr_text w H0.out
  have HZ := hiq HC
  clear HC
  go_enter Tryz.func192, Tryz.ntmps192
  generalize hC1 : Code.region 1 _ _ = C1
  go_wp2_with fail
  rename_i K hK
  have hk1 := HG.out
  generalize World.alloc (World.alloc _ _) _ = W1 at *
  have q := HX.out _ hk1
  have HK1 := hiq hk1
  clear hk1 HG
  subst hC1
  try simp only [List.cons_append, List.nil_append]
  refine wp_region_cut [5, 7] ?_
  refine wpCut_cons ?_
  simp only [List.take_succ_cons, List.take_zero, List.drop_succ_cons, List.drop_zero]
  go_wp2_with fail
  cases r0
  case false =>
    refine wpCut_skip 17 4 9 (by kernel_rfl) rfl rfl ?_
    intro a ha hd
    refine hK _ _ (wp_ret (bodyPost_ret (v := .bool false) ?_ hd (HZ.out _ HK1.out.below)))
    simp [results, Tryz.results192, ha]
  refine wpCut_cons ?_
  simp only [List.take_succ_cons, List.take_zero, List.drop_succ_cons, List.drop_zero]
  go_wp2_with fail
  refine (H1.out _ HK1.out.below).mono ?_
  rintro e V ⟨rfl, hb⟩
  replace HK1 := hiq (HK.out _ _ HK1.out hb)
  replace q := HX.out _ HK1.out
  clear hb
  go_wp2_with fail
  cases r1
  case false =>
    refine wpCut_skip 17 4 16 (by kernel_rfl) rfl rfl ?_
    intro a ha hd
    refine hK _ _ (wp_ret (bodyPost_ret (v := .bool false) ?_ hd (HZ.out _ HK1.out.below)))
    simp [results, Tryz.results192, ha]
  refine wpCut_nil ?_
  go_wp2
  exact HZ.out _ HK1.out.below
theorem sme_wit {l l' : List Dv} (hi : LT.Inv .wit (.struc l)) (hi' : LT.Inv .wit (.struc l')) {w : World} {P : Ending -> World -> Prop} (HC : AllS w (fun g => ∀ V, Below w.heap.size w V -> P (.returned (.bool g)) V) true (LT.fk .wit) l l') : Calls Tryz.prog 191 #[.agg (Dv.cellsL l).toArray, .agg (Dv.cellsL l').toArray] w P := by
  have HG := hiq (keepB_new w 66 (Dv.cellsL l).toArray (Dv.cellsL l').toArray)
  have HK : Hid (∀ V V', KeepB w 66 (Dv.cellsL l).toArray (Dv.cellsL l').toArray V -> Below V.heap.size V V' -> KeepB w 66 (Dv.cellsL l).toArray (Dv.cellsL l').toArray V') := fun V V' h hb => h.next hb
  have HX : Hid (∀ V, KeepB w 66 (Dv.cellsL l).toArray (Dv.cellsL l').toArray V -> CellsAt V w.heap.size 0 (Dv.cellsL l) /\ CellsAt V (w.heap.size + 1) 0 (Dv.cellsL l')) := fun V h => h.cells
  generalize (Dv.cellsL l).toArray = A at *
  generalize (Dv.cellsL l').toArray = A2 at *
  dsimp only [LT.Inv] at hi hi'
  repeat (rcases (hi : ∃ _, _) with ⟨_, hi⟩)
  repeat (rcases (hi' : ∃ _, _) with ⟨_, hi'⟩)
  injection hi with hi
  injection hi' with hi'
  subst hi
  subst hi'
  simp only [Dv.cells, Dv.cellsL, List.cons_append, List.nil_append, List.append_nil, CellsAt, Nat.zero_add, Nat.reduceAdd, and_true] at HX
  dsimp only [LT.fk, AllS, SFact, LT.isQ, LT.tid, LT.sf, LT.slf] at HC
  simp only [Dv.val, Dv.cells, Dv.cellsL, List.cons_append, List.nil_append, List.append_nil] at HC
  obtain ⟨r0, H0, HC⟩ := HC
  obtain ⟨r1, H1, HC⟩ := HC
  have E0 := eqr_text w H0.out
  have HZ := hiq HC
  clear HC
  go_enter Tryz.func191, Tryz.ntmps191
  generalize hC1 : Code.region 1 _ _ = C1
  go_wp2_with fail
  rename_i K hK
  have hk1 := HG.out
  generalize World.alloc (World.alloc _ _) _ = W1 at *
  have q := HX.out _ hk1
  have HK1 := hiq hk1
  clear hk1 HG
  subst hC1
  try simp only [List.cons_append, List.nil_append]
  refine wp_region_cut [5, 7] ?_
  refine wpCut_cons ?_
  simp only [List.take_succ_cons, List.take_zero, List.drop_succ_cons, List.drop_zero]
  go_wp2_with fail
  cases r0
  case false =>
    refine wpCut_skip 17 4 9 (by kernel_rfl) rfl rfl ?_
    intro a ha hd
    refine hK _ _ (wp_ret (bodyPost_ret (v := .bool false) ?_ hd (HZ.out _ HK1.out.below)))
    simp [results, Tryz.results191, ha]
  refine wpCut_cons ?_
  simp only [List.take_succ_cons, List.take_zero, List.drop_succ_cons, List.drop_zero]
  go_wp2_with fail
  refine (H1.out _ HK1.out.below).mono ?_
  rintro e V ⟨rfl, hb⟩
  replace HK1 := hiq (HK.out _ _ HK1.out hb)
  replace q := HX.out _ HK1.out
  clear hb
  go_wp2_with fail
  cases r1
  case false =>
    refine wpCut_skip 17 4 16 (by kernel_rfl) rfl rfl ?_
    intro a ha hd
    refine hK _ _ (wp_ret (bodyPost_ret (v := .bool false) ?_ hd (HZ.out _ HK1.out.below)))
    simp [results, Tryz.results191, ha]
  refine wpCut_nil ?_
  go_wp2
  exact HZ.out _ HK1.out.below
theorem sme_nod {l l' : List Dv} (hi : LT.Inv .nod (.struc l)) (hi' : LT.Inv .nod (.struc l')) {w : World} {P : Ending -> World -> Prop} (HC : AllS w (fun g => ∀ V, Below w.heap.size w V -> P (.returned (.bool g)) V) true (LT.fk .nod) l l') : Calls Tryz.prog 257 #[.agg (Dv.cellsL l).toArray, .agg (Dv.cellsL l').toArray] w P := by
  have HG := hiq (keepB_new w 64 (Dv.cellsL l).toArray (Dv.cellsL l').toArray)
  have HK : Hid (∀ V V', KeepB w 64 (Dv.cellsL l).toArray (Dv.cellsL l').toArray V -> Below V.heap.size V V' -> KeepB w 64 (Dv.cellsL l).toArray (Dv.cellsL l').toArray V') := fun V V' h hb => h.next hb
  have HX : Hid (∀ V, KeepB w 64 (Dv.cellsL l).toArray (Dv.cellsL l').toArray V -> CellsAt V w.heap.size 0 (Dv.cellsL l) /\ CellsAt V (w.heap.size + 1) 0 (Dv.cellsL l')) := fun V h => h.cells
  generalize (Dv.cellsL l).toArray = A at *
  generalize (Dv.cellsL l').toArray = A2 at *
  dsimp only [LT.Inv] at hi hi'
  repeat (rcases (hi : ∃ _, _) with ⟨_, hi⟩)
  repeat (rcases (hi' : ∃ _, _) with ⟨_, hi'⟩)
  injection hi with hi
  injection hi' with hi'
  subst hi
  subst hi'
  simp only [Dv.cells, Dv.cellsL, List.cons_append, List.nil_append, List.append_nil, CellsAt, Nat.zero_add, Nat.reduceAdd, and_true] at HX
  dsimp only [LT.fk, AllS, SFact, LT.isQ, LT.tid, LT.sf, LT.slf] at HC
  simp only [Dv.val, Dv.cells, Dv.cellsL, List.cons_append, List.nil_append, List.append_nil] at HC
  obtain ⟨r0, H0, HC⟩ := HC
  obtain ⟨r1, H1, HC⟩ := HC
  obtain ⟨r2, H2, HC⟩ := HC
  obtain ⟨r3, H3, HC⟩ := HC
  have E0 := eqr_int w H0.out
  have E1 := eqr_text w H1.out
  have E2 := eqr_int w H2.out
  have HZ := hiq HC
  clear HC
  go_enter Tryz.func257, Tryz.ntmps257
  generalize hC1 : Code.region 1 _ _ = C1
  go_wp2_with fail
  rename_i K hK
  have hk1 := HG.out
  generalize World.alloc (World.alloc _ _) _ = W1 at *
  have q := HX.out _ hk1
  have HK1 := hiq hk1
  clear hk1 HG
  subst hC1
  try simp only [List.cons_append, List.nil_append]
  refine wp_region_cut [5, 7, 7, 7] ?_
  refine wpCut_cons ?_
  simp only [List.take_succ_cons, List.take_zero, List.drop_succ_cons, List.drop_zero]
  go_wp2_with fail
  cases r0
  case false =>
    refine wpCut_skip 31 4 9 (by kernel_rfl) rfl rfl ?_
    intro a ha hd
    refine hK _ _ (wp_ret (bodyPost_ret (v := .bool false) ?_ hd (HZ.out _ HK1.out.below)))
    simp [results, Tryz.results257, ha]
  refine wpCut_cons ?_
  simp only [List.take_succ_cons, List.take_zero, List.drop_succ_cons, List.drop_zero]
  go_wp2_with fail
  cases r1
  case false =>
    refine wpCut_skip 31 4 16 (by kernel_rfl) rfl rfl ?_
    intro a ha hd
    refine hK _ _ (wp_ret (bodyPost_ret (v := .bool false) ?_ hd (HZ.out _ HK1.out.below)))
    simp [results, Tryz.results257, ha]
  refine wpCut_cons ?_
  simp only [List.take_succ_cons, List.take_zero, List.drop_succ_cons, List.drop_zero]
  go_wp2_with fail
  cases r2
  case false =>
    refine wpCut_skip 31 4 23 (by kernel_rfl) rfl rfl ?_
    intro a ha hd
    refine hK _ _ (wp_ret (bodyPost_ret (v := .bool false) ?_ hd (HZ.out _ HK1.out.below)))
    simp [results, Tryz.results257, ha]
  refine wpCut_cons ?_
  simp only [List.take_succ_cons, List.take_zero, List.drop_succ_cons, List.drop_zero]
  go_wp2_with fail
  refine (H3.out _ HK1.out.below).mono ?_
  rintro e V ⟨rfl, hb⟩
  replace HK1 := hiq (HK.out _ _ HK1.out hb)
  replace q := HX.out _ HK1.out
  clear hb
  go_wp2_with fail
  cases r3
  case false =>
    refine wpCut_skip 31 4 30 (by kernel_rfl) rfl rfl ?_
    intro a ha hd
    refine hK _ _ (wp_ret (bodyPost_ret (v := .bool false) ?_ hd (HZ.out _ HK1.out.below)))
    simp [results, Tryz.results257, ha]
  refine wpCut_nil ?_
  go_wp2
  exact HZ.out _ HK1.out.below
theorem sme_exp {l l' : List Dv} (hi : LT.Inv .exp (.struc l)) (hi' : LT.Inv .exp (.struc l')) {w : World} {P : Ending -> World -> Prop} (HC : AllS w (fun g => ∀ V, Below w.heap.size w V -> P (.returned (.bool g)) V) true (LT.fk .exp) l l') : Calls Tryz.prog 239 #[.agg (Dv.cellsL l).toArray, .agg (Dv.cellsL l').toArray] w P := by
  have HG := hiq (keepB_new w 113 (Dv.cellsL l).toArray (Dv.cellsL l').toArray)
  have HK : Hid (∀ V V', KeepB w 113 (Dv.cellsL l).toArray (Dv.cellsL l').toArray V -> Below V.heap.size V V' -> KeepB w 113 (Dv.cellsL l).toArray (Dv.cellsL l').toArray V') := fun V V' h hb => h.next hb
  have HX : Hid (∀ V, KeepB w 113 (Dv.cellsL l).toArray (Dv.cellsL l').toArray V -> CellsAt V w.heap.size 0 (Dv.cellsL l) /\ CellsAt V (w.heap.size + 1) 0 (Dv.cellsL l')) := fun V h => h.cells
  generalize (Dv.cellsL l).toArray = A at *
  generalize (Dv.cellsL l').toArray = A2 at *
  dsimp only [LT.Inv] at hi hi'
  repeat (rcases (hi : ∃ _, _) with ⟨_, hi⟩)
  repeat (rcases (hi' : ∃ _, _) with ⟨_, hi'⟩)
  injection hi with hi
  injection hi' with hi'
  subst hi
  subst hi'
  simp only [Dv.cells, Dv.cellsL, List.cons_append, List.nil_append, List.append_nil, CellsAt, Nat.zero_add, Nat.reduceAdd, and_true] at HX
  dsimp only [LT.fk, AllS, SFact, LT.isQ, LT.tid, LT.sf, LT.slf] at HC
  simp only [Dv.val, Dv.cells, Dv.cellsL, List.cons_append, List.nil_append, List.append_nil] at HC
  obtain ⟨r0, H0, HC⟩ := HC
  obtain ⟨r1, H1, HC⟩ := HC
  obtain ⟨r2, H2, HC⟩ := HC
  obtain ⟨r3, H3, HC⟩ := HC
  have E0 := eqr_int w H0.out
  have E1 := eqr_int w H1.out
  have E2 := eqr_text w H2.out
  have HZ := hiq HC
  clear HC
  go_enter Tryz.func239, Tryz.ntmps239
  generalize hC1 : Code.region 1 _ _ = C1
  go_wp2_with fail
  rename_i K hK
  have hk1 := HG.out
  generalize World.alloc (World.alloc _ _) _ = W1 at *
  have q := HX.out _ hk1
  have HK1 := hiq hk1
  clear hk1 HG
  subst hC1
  try simp only [List.cons_append, List.nil_append]
  refine wp_region_cut [5, 7, 7, 7] ?_
  refine wpCut_cons ?_
  simp only [List.take_succ_cons, List.take_zero, List.drop_succ_cons, List.drop_zero]
  go_wp2_with fail
  cases r0
  case false =>
    refine wpCut_skip 31 4 9 (by kernel_rfl) rfl rfl ?_
    intro a ha hd
    refine hK _ _ (wp_ret (bodyPost_ret (v := .bool false) ?_ hd (HZ.out _ HK1.out.below)))
    simp [results, Tryz.results239, ha]
  refine wpCut_cons ?_
  simp only [List.take_succ_cons, List.take_zero, List.drop_succ_cons, List.drop_zero]
  go_wp2_with fail
  cases r1
  case false =>
    refine wpCut_skip 31 4 16 (by kernel_rfl) rfl rfl ?_
    intro a ha hd
    refine hK _ _ (wp_ret (bodyPost_ret (v := .bool false) ?_ hd (HZ.out _ HK1.out.below)))
    simp [results, Tryz.results239, ha]
  refine wpCut_cons ?_
  simp only [List.take_succ_cons, List.take_zero, List.drop_succ_cons, List.drop_zero]
  go_wp2_with fail
  cases r2
  case false =>
    refine wpCut_skip 31 4 23 (by kernel_rfl) rfl rfl ?_
    intro a ha hd
    refine hK _ _ (wp_ret (bodyPost_ret (v := .bool false) ?_ hd (HZ.out _ HK1.out.below)))
    simp [results, Tryz.results239, ha]
  refine wpCut_cons ?_
  simp only [List.take_succ_cons, List.take_zero, List.drop_succ_cons, List.drop_zero]
  go_wp2_with fail
  refine (H3.out _ HK1.out.below).mono ?_
  rintro e V ⟨rfl, hb⟩
  replace HK1 := hiq (HK.out _ _ HK1.out hb)
  replace q := HX.out _ HK1.out
  clear hb
  go_wp2_with fail
  cases r3
  case false =>
    refine wpCut_skip 31 4 30 (by kernel_rfl) rfl rfl ?_
    intro a ha hd
    refine hK _ _ (wp_ret (bodyPost_ret (v := .bool false) ?_ hd (HZ.out _ HK1.out.below)))
    simp [results, Tryz.results239, ha]
  refine wpCut_nil ?_
  go_wp2
  exact HZ.out _ HK1.out.below
end Go.Proofs.YtlbcmeebcfalpaaGreatDoor
namespace Go.Proofs.YtlbcmeebcfalpaaGreatDoor
open Go.RowKit

theorem sme_sec {l l' : List Dv} (hi : LT.Inv .sec (.struc l)) (hi' : LT.Inv .sec (.struc l')) {w : World} {P : Ending -> World -> Prop} (HC : AllS w (fun g => ∀ V, Below w.heap.size w V -> P (.returned (.bool g)) V) true (LT.fk .sec) l l') : Calls Tryz.prog 195 #[.agg (Dv.cellsL l).toArray, .agg (Dv.cellsL l').toArray] w P := by
  have HG := hiq (keepB_new w 87 (Dv.cellsL l).toArray (Dv.cellsL l').toArray)
  have HK : Hid (∀ V V', KeepB w 87 (Dv.cellsL l).toArray (Dv.cellsL l').toArray V -> Below V.heap.size V V' -> KeepB w 87 (Dv.cellsL l).toArray (Dv.cellsL l').toArray V') := fun V V' h hb => h.next hb
  have HX : Hid (∀ V, KeepB w 87 (Dv.cellsL l).toArray (Dv.cellsL l').toArray V -> CellsAt V w.heap.size 0 (Dv.cellsL l) /\ CellsAt V (w.heap.size + 1) 0 (Dv.cellsL l')) := fun V h => h.cells
  generalize (Dv.cellsL l).toArray = A at *
  generalize (Dv.cellsL l').toArray = A2 at *
  dsimp only [LT.Inv] at hi hi'
  repeat (rcases (hi : ∃ _, _) with ⟨_, hi⟩)
  repeat (rcases (hi' : ∃ _, _) with ⟨_, hi'⟩)
  injection hi with hi
  injection hi' with hi'
  subst hi
  subst hi'
  simp only [Dv.cells, Dv.cellsL, List.cons_append, List.nil_append, List.append_nil, CellsAt, Nat.zero_add, Nat.reduceAdd, and_true] at HX
  dsimp only [LT.fk, AllS, SFact, LT.isQ, LT.tid, LT.sf, LT.slf] at HC
  simp only [Dv.val, Dv.cells, Dv.cellsL, List.cons_append, List.nil_append, List.append_nil] at HC
  obtain ⟨r0, H0, HC⟩ := HC
  obtain ⟨r1, H1, HC⟩ := HC
  obtain ⟨r2, H2, HC⟩ := HC
  obtain ⟨r3, H3, HC⟩ := HC
  obtain ⟨r4, H4, HC⟩ := HC
  have E0 := eqr_text w H0.out
  have E4 := eqr_text w H4.out
  have HZ := hiq HC
  clear HC
  go_enter Tryz.func195, Tryz.ntmps195
  generalize hC1 : Code.region 1 _ _ = C1
  go_wp2_with fail
  rename_i K hK
  have hk1 := HG.out
  generalize World.alloc (World.alloc _ _) _ = W1 at *
  have q := HX.out _ hk1
  have HK1 := hiq hk1
  clear hk1 HG
  subst hC1
  try simp only [List.cons_append, List.nil_append]
  refine wp_region_cut [5, 7, 7, 7, 7] ?_
  refine wpCut_cons ?_
  simp only [List.take_succ_cons, List.take_zero, List.drop_succ_cons, List.drop_zero]
  go_wp2_with fail
  cases r0
  case false =>
    refine wpCut_skip 38 4 9 (by kernel_rfl) rfl rfl ?_
    intro a ha hd
    refine hK _ _ (wp_ret (bodyPost_ret (v := .bool false) ?_ hd (HZ.out _ HK1.out.below)))
    simp [results, Tryz.results195, ha]
  refine wpCut_cons ?_
  simp only [List.take_succ_cons, List.take_zero, List.drop_succ_cons, List.drop_zero]
  go_wp2_with fail
  refine (H1.out _ HK1.out.below).mono ?_
  rintro e V ⟨rfl, hb⟩
  replace HK1 := hiq (HK.out _ _ HK1.out hb)
  replace q := HX.out _ HK1.out
  clear hb
  go_wp2_with fail
  cases r1
  case false =>
    refine wpCut_skip 38 4 16 (by kernel_rfl) rfl rfl ?_
    intro a ha hd
    refine hK _ _ (wp_ret (bodyPost_ret (v := .bool false) ?_ hd (HZ.out _ HK1.out.below)))
    simp [results, Tryz.results195, ha]
  refine wpCut_cons ?_
  simp only [List.take_succ_cons, List.take_zero, List.drop_succ_cons, List.drop_zero]
  go_wp2_with fail
  refine (H2.out _ HK1.out.below).mono ?_
  rintro e V ⟨rfl, hb⟩
  replace HK1 := hiq (HK.out _ _ HK1.out hb)
  replace q := HX.out _ HK1.out
  clear hb
  go_wp2_with fail
  cases r2
  case false =>
    refine wpCut_skip 38 4 23 (by kernel_rfl) rfl rfl ?_
    intro a ha hd
    refine hK _ _ (wp_ret (bodyPost_ret (v := .bool false) ?_ hd (HZ.out _ HK1.out.below)))
    simp [results, Tryz.results195, ha]
  refine wpCut_cons ?_
  simp only [List.take_succ_cons, List.take_zero, List.drop_succ_cons, List.drop_zero]
  go_wp2_with fail
  refine (H3.out _ HK1.out.below).mono ?_
  rintro e V ⟨rfl, hb⟩
  replace HK1 := hiq (HK.out _ _ HK1.out hb)
  replace q := HX.out _ HK1.out
  clear hb
  go_wp2_with fail
  cases r3
  case false =>
    refine wpCut_skip 38 4 30 (by kernel_rfl) rfl rfl ?_
    intro a ha hd
    refine hK _ _ (wp_ret (bodyPost_ret (v := .bool false) ?_ hd (HZ.out _ HK1.out.below)))
    simp [results, Tryz.results195, ha]
  refine wpCut_cons ?_
  simp only [List.take_succ_cons, List.take_zero, List.drop_succ_cons, List.drop_zero]
  go_wp2_with fail
  cases r4
  case false =>
    refine wpCut_skip 38 4 37 (by kernel_rfl) rfl rfl ?_
    intro a ha hd
    refine hK _ _ (wp_ret (bodyPost_ret (v := .bool false) ?_ hd (HZ.out _ HK1.out.below)))
    simp [results, Tryz.results195, ha]
  refine wpCut_nil ?_
  go_wp2
  exact HZ.out _ HK1.out.below
end Go.Proofs.YtlbcmeebcfalpaaGreatDoor
namespace Go.Proofs.YtlbcmeebcfalpaaGreatDoor
open Go.RowKit

theorem sme_sty {l l' : List Dv} (hi : LT.Inv .sty (.struc l)) (hi' : LT.Inv .sty (.struc l')) {w : World} {P : Ending -> World -> Prop} (HC : AllS w (fun g => ∀ V, Below w.heap.size w V -> P (.returned (.bool g)) V) true (LT.fk .sty) l l') : Calls Tryz.prog 93 #[.agg (Dv.cellsL l).toArray, .agg (Dv.cellsL l').toArray] w P := by
  have HG := hiq (keepB_new w 38 (Dv.cellsL l).toArray (Dv.cellsL l').toArray)
  have HK : Hid (∀ V V', KeepB w 38 (Dv.cellsL l).toArray (Dv.cellsL l').toArray V -> Below V.heap.size V V' -> KeepB w 38 (Dv.cellsL l).toArray (Dv.cellsL l').toArray V') := fun V V' h hb => h.next hb
  have HX : Hid (∀ V, KeepB w 38 (Dv.cellsL l).toArray (Dv.cellsL l').toArray V -> CellsAt V w.heap.size 0 (Dv.cellsL l) /\ CellsAt V (w.heap.size + 1) 0 (Dv.cellsL l')) := fun V h => h.cells
  generalize (Dv.cellsL l).toArray = A at *
  generalize (Dv.cellsL l').toArray = A2 at *
  dsimp only [LT.Inv] at hi hi'
  repeat (rcases (hi : ∃ _, _) with ⟨_, hi⟩)
  repeat (rcases (hi' : ∃ _, _) with ⟨_, hi'⟩)
  injection hi with hi
  injection hi' with hi'
  subst hi
  subst hi'
  simp only [Dv.cells, Dv.cellsL, List.cons_append, List.nil_append, List.append_nil, CellsAt, Nat.zero_add, Nat.reduceAdd, and_true] at HX
  dsimp only [LT.fk, AllS, SFact, LT.isQ, LT.tid, LT.sf, LT.slf] at HC
  simp only [Dv.val, Dv.cells, Dv.cellsL, List.cons_append, List.nil_append, List.append_nil] at HC
  obtain ⟨r0, H0, HC⟩ := HC
  obtain ⟨r1, H1, HC⟩ := HC
  obtain ⟨r2, H2, HC⟩ := HC
  obtain ⟨r3, H3, HC⟩ := HC
  obtain ⟨r4, H4, HC⟩ := HC
  obtain ⟨r5, H5, HC⟩ := HC
  obtain ⟨r6, H6, HC⟩ := HC
  obtain ⟨r7, H7, HC⟩ := HC
  obtain ⟨r8, H8, HC⟩ := HC
  obtain ⟨r9, H9, HC⟩ := HC
  obtain ⟨r10, H10, HC⟩ := HC
  obtain ⟨r11, H11, HC⟩ := HC
  obtain ⟨r12, H12, HC⟩ := HC
  have E0 := eqr_int w H0.out
  have E1 := eqr_int w H1.out
  have E2 := eqr_int w H2.out
  have E3 := eqr_int w H3.out
  have E4 := eqr_int w H4.out
  have E5 := eqr_int w H5.out
  have E6 := eqr_int w H6.out
  have E7 := eqr_int w H7.out
  have E8 := eqr_int w H8.out
  have E9 := eqr_int w H9.out
  have E10 := eqr_int w H10.out
  have HZ := hiq HC
  clear HC
  go_enter Tryz.func93, Tryz.ntmps93
  generalize hC1 : Code.region 1 _ _ = C1
  go_wp2_with fail
  rename_i K hK
  have hk1 := HG.out
  generalize World.alloc (World.alloc _ _) _ = W1 at *
  have q := HX.out _ hk1
  have HK1 := hiq hk1
  clear hk1 HG
  subst hC1
  try simp only [List.append_eq, List.cons_append, List.nil_append]
  refine wp_region_cut [5, 7, 7, 7, 7, 7, 7, 7, 7, 7, 7, 7, 7] ?_
  refine wpCut_cons ?_
  simp only [List.take_succ_cons, List.take_zero, List.drop_succ_cons, List.drop_zero]
  go_wp2_with fail
  cases r0
  case false =>
    refine wpCut_skip 94 4 9 (by kernel_rfl) rfl rfl ?_
    intro a ha hd
    refine hK _ _ (wp_ret (bodyPost_ret (v := .bool false) ?_ hd (HZ.out _ HK1.out.below)))
    simp [results, Tryz.results93, ha]
  refine wpCut_cons ?_
  simp only [List.take_succ_cons, List.take_zero, List.drop_succ_cons, List.drop_zero]
  go_wp2_with fail
  cases r1
  case false =>
    refine wpCut_skip 94 4 16 (by kernel_rfl) rfl rfl ?_
    intro a ha hd
    refine hK _ _ (wp_ret (bodyPost_ret (v := .bool false) ?_ hd (HZ.out _ HK1.out.below)))
    simp [results, Tryz.results93, ha]
  refine wpCut_cons ?_
  simp only [List.take_succ_cons, List.take_zero, List.drop_succ_cons, List.drop_zero]
  go_wp2_with fail
  cases r2
  case false =>
    refine wpCut_skip 94 4 23 (by kernel_rfl) rfl rfl ?_
    intro a ha hd
    refine hK _ _ (wp_ret (bodyPost_ret (v := .bool false) ?_ hd (HZ.out _ HK1.out.below)))
    simp [results, Tryz.results93, ha]
  refine wpCut_cons ?_
  simp only [List.take_succ_cons, List.take_zero, List.drop_succ_cons, List.drop_zero]
  go_wp2_with fail
  cases r3
  case false =>
    refine wpCut_skip 94 4 30 (by kernel_rfl) rfl rfl ?_
    intro a ha hd
    refine hK _ _ (wp_ret (bodyPost_ret (v := .bool false) ?_ hd (HZ.out _ HK1.out.below)))
    simp [results, Tryz.results93, ha]
  refine wpCut_cons ?_
  simp only [List.take_succ_cons, List.take_zero, List.drop_succ_cons, List.drop_zero]
  go_wp2_with fail
  cases r4
  case false =>
    refine wpCut_skip 94 4 37 (by kernel_rfl) rfl rfl ?_
    intro a ha hd
    refine hK _ _ (wp_ret (bodyPost_ret (v := .bool false) ?_ hd (HZ.out _ HK1.out.below)))
    simp [results, Tryz.results93, ha]
  refine wpCut_cons ?_
  simp only [List.take_succ_cons, List.take_zero, List.drop_succ_cons, List.drop_zero]
  go_wp2_with fail
  cases r5
  case false =>
    refine wpCut_skip 94 4 44 (by kernel_rfl) rfl rfl ?_
    intro a ha hd
    refine hK _ _ (wp_ret (bodyPost_ret (v := .bool false) ?_ hd (HZ.out _ HK1.out.below)))
    simp [results, Tryz.results93, ha]
  refine wpCut_cons ?_
  simp only [List.take_succ_cons, List.take_zero, List.drop_succ_cons, List.drop_zero]
  go_wp2_with fail
  cases r6
  case false =>
    refine wpCut_skip 94 4 51 (by kernel_rfl) rfl rfl ?_
    intro a ha hd
    refine hK _ _ (wp_ret (bodyPost_ret (v := .bool false) ?_ hd (HZ.out _ HK1.out.below)))
    simp [results, Tryz.results93, ha]
  refine wpCut_cons ?_
  simp only [List.take_succ_cons, List.take_zero, List.drop_succ_cons, List.drop_zero]
  go_wp2_with fail
  cases r7
  case false =>
    refine wpCut_skip 94 4 58 (by kernel_rfl) rfl rfl ?_
    intro a ha hd
    refine hK _ _ (wp_ret (bodyPost_ret (v := .bool false) ?_ hd (HZ.out _ HK1.out.below)))
    simp [results, Tryz.results93, ha]
  refine wpCut_cons ?_
  simp only [List.take_succ_cons, List.take_zero, List.drop_succ_cons, List.drop_zero]
  go_wp2_with fail
  cases r8
  case false =>
    refine wpCut_skip 94 4 65 (by kernel_rfl) rfl rfl ?_
    intro a ha hd
    refine hK _ _ (wp_ret (bodyPost_ret (v := .bool false) ?_ hd (HZ.out _ HK1.out.below)))
    simp [results, Tryz.results93, ha]
  refine wpCut_cons ?_
  simp only [List.take_succ_cons, List.take_zero, List.drop_succ_cons, List.drop_zero]
  go_wp2_with fail
  cases r9
  case false =>
    refine wpCut_skip 94 4 72 (by kernel_rfl) rfl rfl ?_
    intro a ha hd
    refine hK _ _ (wp_ret (bodyPost_ret (v := .bool false) ?_ hd (HZ.out _ HK1.out.below)))
    simp [results, Tryz.results93, ha]
  refine wpCut_cons ?_
  simp only [List.take_succ_cons, List.take_zero, List.drop_succ_cons, List.drop_zero]
  go_wp2_with fail
  cases r10
  case false =>
    refine wpCut_skip 94 4 79 (by kernel_rfl) rfl rfl ?_
    intro a ha hd
    refine hK _ _ (wp_ret (bodyPost_ret (v := .bool false) ?_ hd (HZ.out _ HK1.out.below)))
    simp [results, Tryz.results93, ha]
  refine wpCut_cons ?_
  simp only [List.take_succ_cons, List.take_zero, List.drop_succ_cons, List.drop_zero]
  go_wp2_with fail
  refine (H11.out _ HK1.out.below).mono ?_
  rintro e V ⟨rfl, hb⟩
  replace HK1 := hiq (HK.out _ _ HK1.out hb)
  replace q := HX.out _ HK1.out
  clear hb
  go_wp2_with fail
  cases r11
  case false =>
    refine wpCut_skip 94 4 86 (by kernel_rfl) rfl rfl ?_
    intro a ha hd
    refine hK _ _ (wp_ret (bodyPost_ret (v := .bool false) ?_ hd (HZ.out _ HK1.out.below)))
    simp [results, Tryz.results93, ha]
  refine wpCut_cons ?_
  simp only [List.take_succ_cons, List.take_zero, List.drop_succ_cons, List.drop_zero]
  go_wp2_with fail
  refine (H12.out _ HK1.out.below).mono ?_
  rintro e V ⟨rfl, hb⟩
  replace HK1 := hiq (HK.out _ _ HK1.out hb)
  replace q := HX.out _ HK1.out
  clear hb
  go_wp2_with fail
  cases r12
  case false =>
    refine wpCut_skip 94 4 93 (by kernel_rfl) rfl rfl ?_
    intro a ha hd
    refine hK _ _ (wp_ret (bodyPost_ret (v := .bool false) ?_ hd (HZ.out _ HK1.out.below)))
    simp [results, Tryz.results93, ha]
  refine wpCut_nil ?_
  go_wp2
  exact HZ.out _ HK1.out.below
end Go.Proofs.YtlbcmeebcfalpaaGreatDoor
namespace Go.Proofs.YtlbcmeebcfalpaaGreatDoor
open Go.RowKit

theorem sme_edi {l l' : List Dv} (hi : LT.Inv .edi (.struc l)) (hi' : LT.Inv .edi (.struc l')) {w : World} {P : Ending -> World -> Prop} (HC : AllS w (fun g => ∀ V, Below w.heap.size w V -> P (.returned (.bool g)) V) true (LT.fk .edi) l l') : Calls Tryz.prog 36 #[.agg (Dv.cellsL l).toArray, .agg (Dv.cellsL l').toArray] w P := by
  have HG := hiq (keepB_new w 40 (Dv.cellsL l).toArray (Dv.cellsL l').toArray)
  have HK : Hid (∀ V V', KeepB w 40 (Dv.cellsL l).toArray (Dv.cellsL l').toArray V -> Below V.heap.size V V' -> KeepB w 40 (Dv.cellsL l).toArray (Dv.cellsL l').toArray V') := fun V V' h hb => h.next hb
  have HX : Hid (∀ V, KeepB w 40 (Dv.cellsL l).toArray (Dv.cellsL l').toArray V -> CellsAt V w.heap.size 0 (Dv.cellsL l) /\ CellsAt V (w.heap.size + 1) 0 (Dv.cellsL l')) := fun V h => h.cells
  generalize (Dv.cellsL l).toArray = A at *
  generalize (Dv.cellsL l').toArray = A2 at *
  dsimp only [LT.Inv] at hi hi'
  repeat (rcases (hi : ∃ _, _) with ⟨_, hi⟩)
  repeat (rcases (hi' : ∃ _, _) with ⟨_, hi'⟩)
  injection hi with hi
  injection hi' with hi'
  subst hi
  subst hi'
  simp only [Dv.cells, Dv.cellsL, List.cons_append, List.nil_append, List.append_nil, CellsAt, Nat.zero_add, Nat.reduceAdd, and_true] at HX
  dsimp only [LT.fk, AllS, SFact, LT.isQ, LT.tid, LT.sf, LT.slf] at HC
  simp only [Dv.val, Dv.cells, Dv.cellsL, List.cons_append, List.nil_append, List.append_nil] at HC
  obtain ⟨r0, H0, HC⟩ := HC
  obtain ⟨r1, H1, HC⟩ := HC
  obtain ⟨r2, H2, HC⟩ := HC
  obtain ⟨r3, H3, HC⟩ := HC
  obtain ⟨r4, H4, HC⟩ := HC
  obtain ⟨r5, H5, HC⟩ := HC
  obtain ⟨r6, H6, HC⟩ := HC
  obtain ⟨r7, H7, HC⟩ := HC
  obtain ⟨r8, H8, HC⟩ := HC
  obtain ⟨r9, H9, HC⟩ := HC
  have E0 := eqr_text w H0.out
  have E3 := eqr_cst H3.out
  have E7 := eqr_int w H7.out
  have HZ := hiq HC
  clear HC
  go_enter Tryz.func36, Tryz.ntmps36
  generalize hC1 : Code.region 1 _ _ = C1
  go_wp2_with fail
  rename_i K hK
  have hk1 := HG.out
  generalize World.alloc (World.alloc _ _) _ = W1 at *
  have q := HX.out _ hk1
  have HK1 := hiq hk1
  clear hk1 HG
  subst hC1
  try simp only [List.append_eq, List.cons_append, List.nil_append]
  refine wp_region_cut [5, 7, 7, 7, 7, 7, 7, 7, 7, 7] ?_
  refine wpCut_cons ?_
  simp only [List.take_succ_cons, List.take_zero, List.drop_succ_cons, List.drop_zero]
  go_wp2_with fail
  cases r0
  case false =>
    refine wpCut_skip 73 4 9 (by kernel_rfl) rfl rfl ?_
    intro a ha hd
    refine hK _ _ (wp_ret (bodyPost_ret (v := .bool false) ?_ hd (HZ.out _ HK1.out.below)))
    simp [results, Tryz.results36, ha]
  refine wpCut_cons ?_
  simp only [List.take_succ_cons, List.take_zero, List.drop_succ_cons, List.drop_zero]
  go_wp2_with fail
  refine (H1.out _ HK1.out.below).mono ?_
  rintro e V ⟨rfl, hb⟩
  replace HK1 := hiq (HK.out _ _ HK1.out hb)
  replace q := HX.out _ HK1.out
  clear hb
  go_wp2_with fail
  cases r1
  case false =>
    refine wpCut_skip 73 4 16 (by kernel_rfl) rfl rfl ?_
    intro a ha hd
    refine hK _ _ (wp_ret (bodyPost_ret (v := .bool false) ?_ hd (HZ.out _ HK1.out.below)))
    simp [results, Tryz.results36, ha]
  refine wpCut_cons ?_
  simp only [List.take_succ_cons, List.take_zero, List.drop_succ_cons, List.drop_zero]
  go_wp2_with fail
  refine (H2.out _ HK1.out.below).mono ?_
  rintro e V ⟨rfl, hb⟩
  replace HK1 := hiq (HK.out _ _ HK1.out hb)
  replace q := HX.out _ HK1.out
  clear hb
  go_wp2_with fail
  cases r2
  case false =>
    refine wpCut_skip 73 4 23 (by kernel_rfl) rfl rfl ?_
    intro a ha hd
    refine hK _ _ (wp_ret (bodyPost_ret (v := .bool false) ?_ hd (HZ.out _ HK1.out.below)))
    simp [results, Tryz.results36, ha]
  refine wpCut_cons ?_
  simp only [List.take_succ_cons, List.take_zero, List.drop_succ_cons, List.drop_zero]
  go_wp2_with fail
  cases r3
  case false =>
    refine wpCut_skip 73 4 30 (by kernel_rfl) rfl rfl ?_
    intro a ha hd
    refine hK _ _ (wp_ret (bodyPost_ret (v := .bool false) ?_ hd (HZ.out _ HK1.out.below)))
    simp [results, Tryz.results36, ha]
  refine wpCut_cons ?_
  simp only [List.take_succ_cons, List.take_zero, List.drop_succ_cons, List.drop_zero]
  go_wp2_with fail
  refine (H4.out _ HK1.out.below).mono ?_
  rintro e V ⟨rfl, hb⟩
  replace HK1 := hiq (HK.out _ _ HK1.out hb)
  replace q := HX.out _ HK1.out
  clear hb
  go_wp2_with fail
  cases r4
  case false =>
    refine wpCut_skip 73 4 37 (by kernel_rfl) rfl rfl ?_
    intro a ha hd
    refine hK _ _ (wp_ret (bodyPost_ret (v := .bool false) ?_ hd (HZ.out _ HK1.out.below)))
    simp [results, Tryz.results36, ha]
  refine wpCut_cons ?_
  simp only [List.take_succ_cons, List.take_zero, List.drop_succ_cons, List.drop_zero]
  go_wp2_with fail
  refine (H5.out _ HK1.out.below).mono ?_
  rintro e V ⟨rfl, hb⟩
  replace HK1 := hiq (HK.out _ _ HK1.out hb)
  replace q := HX.out _ HK1.out
  clear hb
  go_wp2_with fail
  cases r5
  case false =>
    refine wpCut_skip 73 4 44 (by kernel_rfl) rfl rfl ?_
    intro a ha hd
    refine hK _ _ (wp_ret (bodyPost_ret (v := .bool false) ?_ hd (HZ.out _ HK1.out.below)))
    simp [results, Tryz.results36, ha]
  refine wpCut_cons ?_
  simp only [List.take_succ_cons, List.take_zero, List.drop_succ_cons, List.drop_zero]
  go_wp2_with fail
  refine (H6.out _ HK1.out.below).mono ?_
  rintro e V ⟨rfl, hb⟩
  replace HK1 := hiq (HK.out _ _ HK1.out hb)
  replace q := HX.out _ HK1.out
  clear hb
  go_wp2_with fail
  cases r6
  case false =>
    refine wpCut_skip 73 4 51 (by kernel_rfl) rfl rfl ?_
    intro a ha hd
    refine hK _ _ (wp_ret (bodyPost_ret (v := .bool false) ?_ hd (HZ.out _ HK1.out.below)))
    simp [results, Tryz.results36, ha]
  refine wpCut_cons ?_
  simp only [List.take_succ_cons, List.take_zero, List.drop_succ_cons, List.drop_zero]
  go_wp2_with fail
  cases r7
  case false =>
    refine wpCut_skip 73 4 58 (by kernel_rfl) rfl rfl ?_
    intro a ha hd
    refine hK _ _ (wp_ret (bodyPost_ret (v := .bool false) ?_ hd (HZ.out _ HK1.out.below)))
    simp [results, Tryz.results36, ha]
  refine wpCut_cons ?_
  simp only [List.take_succ_cons, List.take_zero, List.drop_succ_cons, List.drop_zero]
  go_wp2_with fail
  refine (H8.out _ HK1.out.below).mono ?_
  rintro e V ⟨rfl, hb⟩
  replace HK1 := hiq (HK.out _ _ HK1.out hb)
  replace q := HX.out _ HK1.out
  clear hb
  go_wp2_with fail
  cases r8
  case false =>
    refine wpCut_skip 73 4 65 (by kernel_rfl) rfl rfl ?_
    intro a ha hd
    refine hK _ _ (wp_ret (bodyPost_ret (v := .bool false) ?_ hd (HZ.out _ HK1.out.below)))
    simp [results, Tryz.results36, ha]
  refine wpCut_cons ?_
  simp only [List.take_succ_cons, List.take_zero, List.drop_succ_cons, List.drop_zero]
  go_wp2_with fail
  refine (H9.out _ HK1.out.below).mono ?_
  rintro e V ⟨rfl, hb⟩
  replace HK1 := hiq (HK.out _ _ HK1.out hb)
  replace q := HX.out _ HK1.out
  clear hb
  go_wp2_with fail
  cases r9
  case false =>
    refine wpCut_skip 73 4 72 (by kernel_rfl) rfl rfl ?_
    intro a ha hd
    refine hK _ _ (wp_ret (bodyPost_ret (v := .bool false) ?_ hd (HZ.out _ HK1.out.below)))
    simp [results, Tryz.results36, ha]
  refine wpCut_nil ?_
  go_wp2
  exact HZ.out _ HK1.out.below
end Go.Proofs.YtlbcmeebcfalpaaGreatDoor
