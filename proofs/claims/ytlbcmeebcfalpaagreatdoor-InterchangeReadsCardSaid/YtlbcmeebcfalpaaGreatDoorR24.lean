/- Joined: ITw1, ITw2. -/
import Derived.Test.YtlbcmeebcfalpaaGreatDoorR23
set_option linter.unusedVariables false
set_option linter.unusedSimpArgs false
set_option maxRecDepth 100000
set_option maxHeartbeats 16000000
namespace Go.Proofs.YtlbcmeebcfalpaaGreatDoor
open Go.RowKit

theorem to_rew {k nn : Int} {t : ByteArray} {a : Option Addr} {c : Nat} {l : List Vl} {w : World} {P : Ending -> World -> Prop} (h : TPre .rew w P #[.int .i64 k, .int .i64 nn, .string t, .slice a l.length c] (.slice a l.length c) 2) : Calls Tryz.prog 184 #[.agg #[.int .i64 k, .int .i64 nn, .string t, .slice a l.length c]] w P := by
  obtain ⟨hst, hts, hcall⟩ := h
  dsimp only [LT.tid, LT.zero] at hst hts
  obtain ⟨y0, y1, y2, y3, -⟩ := box_cells hts.1.val
  have HST := hiq hst
  have HTS := hiq hts
  have HC := hiq hcall
  clear hst hts hcall
  go_enter Tryz.func184, Tryz.ntmps184
  generalize hC1 : Code.region 1 _ _ = C1
  have HC1 := hiq hC1
  clear hC1
  generalize hCF : Code.region 7 _ _ = CF
  have HCF := hiq hCF
  clear hCF
  go_wp2_with fail
  rw [<- HC1.out]
  clear HC1
  refine wp_region_cut [2] ?_
  refine wpCut_cons ?_
  simp only [List.take_succ_cons, List.take_zero, List.drop_succ_cons, List.drop_zero]
  go_wp2_with fail
  generalize World.alloc (World.alloc (World.alloc w _) _) _ = W2 at *
  refine wpCut_nil (wpList_stO HST.out rfl _ _ rfl rfl rfl ?_)
  go_wp2_with fail
  clear y0 y1 y2 y3 HST
  generalize putL W2 _ _ _ = W3 at *
  obtain ⟨g, hcl, hbad, hgood⟩ := HC.out _ HTS.out
  clear HC HTS
  refine hcl.mono ?_
  rintro e V0 ⟨rfl, hz⟩
  clear hcl
  cases g
  case false =>
    obtain ⟨A, WF, hl2, hst2, hl3, hP⟩ := hbad rfl _ hz
    clear hbad hgood hz
    dsimp only [LT.tid] at hl2 hst2 hl3
    go_wp2_with (first | ((with_reducible refine wpList_ldL hl2.out rfl _ rfl ?_ ?_); rfl) | ((with_reducible refine wpList_stO hst2.out rfl _ _ rfl ?_ ?_ ?_); rfl; rfl) | fail)
    exact ret_ldL2 hl3.out rfl rfl rfl rfl hP.out
  obtain ⟨bb, off, n9, c9, ha, hn9, hto⟩ := hgood rfl
  replace hto := hto _ hz
  clear hbad hgood hz
  injection ha with ha1 ha2 ha3
  subst ha1
  subst ha2
  subst ha3
  dsimp only [ToC, LT.fk, FK.tfn, FK.ftid, FK.sz, LT.tf, LT.tlf, LT.tid, LT.sl, LT.k] at hto
  simp only [Nat.zero_mul, Nat.add_zero, Nat.zero_add, Nat.reduceAdd, Nat.reduceMul, Nat.one_mul] at hto
  obtain ⟨y3, k1, n1, t1, a1, m1, c1, z0, z1, z2, z3, hm⟩ := hto
  go_wp2_with fail
  refine hm.out.mono ?_
  rintro e V ⟨v, ok0, V1, rfl, hs, hto⟩
  clear y3 z0 z1 z2 z3 hm
  obtain ⟨y3, k1, n1, t1, a1, m1, c1, z0, z1, z2, z3, hm⟩ := hto
  go_wp2_with (first | ((with_reducible refine wpList_stO hs.out rfl _ _ rfl ?_ ?_ ?_); rfl; rfl) | fail)
  clear hs
  refine hm.out.mono ?_
  rintro e V ⟨v, ok1, V1, rfl, hs, hto⟩
  clear y3 z0 z1 z2 z3 hm
  obtain ⟨A, WF, hl2, hst2, hl3, hP⟩ := hto
  go_wp2_with (first | ((with_reducible refine wpList_stO hs.out rfl _ _ rfl ?_ ?_ ?_); rfl; rfl) | fail)
  rename_i K hK
  rw [<- HCF.out]
  clear HCF hs
  try simp only [List.append_eq, List.cons_append, List.nil_append]
  refine wp_region_cut [5] ?_
  refine wpCut_cons ?_
  simp only [List.take_succ_cons, List.take_zero, List.drop_succ_cons, List.drop_zero]
  refine wpCut_list [3, 2] _ _ _ ?_
  refine wpCut_cons ?_
  simp only [List.take_succ_cons, List.take_zero, List.drop_succ_cons, List.drop_zero]
  go_wp2_with (first | ((with_reducible refine wpList_ldL hl2.out rfl _ rfl ?_ ?_); rfl) | fail)
  cases ok0
  case false =>
    refine wpCut_skipC 35 34 31 32 (by kernel_rfl) rfl rfl ?_
    intro a ha hlo hd hs
    show wpCut _ _ [] _ a _
    refine wpCut_fin rfl rfl rfl rfl rfl rfl ((hlo 2 (by decide)).trans rfl) ((hlo 30 (by decide)).trans rfl) ha hst2.out (by rw [hs]; decide) ?_
    intro a' e2 e3 e4
    exact hK _ _ (ret_at hl3.out rfl e2 e3 (e4.trans (hd.trans rfl)) hP.out)
  refine wpCut_cons ?_
  simp only [List.take_succ_cons, List.take_zero, List.drop_succ_cons, List.drop_zero]
  go_wp2_with fail
  refine wpCut_nil (wpList_nil ?_)
  show wpCut _ _ [] _ _ _
  refine wpCut_fin rfl rfl rfl rfl rfl rfl rfl rfl rfl hst2.out (show 3 < 35 by decide) ?_
  intro a' e2 e3 e4
  exact hK _ _ (ret_at hl3.out rfl e2 e3 (e4.trans rfl) hP.out)
theorem to_grp {k nn : Int} {t : ByteArray} {a : Option Addr} {c : Nat} {l : List Vl} {w : World} {P : Ending -> World -> Prop} (h : TPre .grp w P #[.int .i64 k, .int .i64 nn, .string t, .slice a l.length c] (.slice a l.length c) 2) : Calls Tryz.prog 186 #[.agg #[.int .i64 k, .int .i64 nn, .string t, .slice a l.length c]] w P := by
  obtain ⟨hst, hts, hcall⟩ := h
  dsimp only [LT.tid, LT.zero] at hst hts
  obtain ⟨y0, y1, y2, y3, -⟩ := box_cells hts.1.val
  have HST := hiq hst
  have HTS := hiq hts
  have HC := hiq hcall
  clear hst hts hcall
  go_enter Tryz.func186, Tryz.ntmps186
  generalize hC1 : Code.region 1 _ _ = C1
  have HC1 := hiq hC1
  clear hC1
  generalize hCF : Code.region 7 _ _ = CF
  have HCF := hiq hCF
  clear hCF
  go_wp2_with fail
  rw [<- HC1.out]
  clear HC1
  refine wp_region_cut [2] ?_
  refine wpCut_cons ?_
  simp only [List.take_succ_cons, List.take_zero, List.drop_succ_cons, List.drop_zero]
  go_wp2_with fail
  generalize World.alloc (World.alloc (World.alloc w _) _) _ = W2 at *
  refine wpCut_nil (wpList_stO HST.out rfl _ _ rfl rfl rfl ?_)
  go_wp2_with fail
  clear y0 y1 y2 y3 HST
  generalize putL W2 _ _ _ = W3 at *
  obtain ⟨g, hcl, hbad, hgood⟩ := HC.out _ HTS.out
  clear HC HTS
  refine hcl.mono ?_
  rintro e V0 ⟨rfl, hz⟩
  clear hcl
  cases g
  case false =>
    obtain ⟨A, WF, hl2, hst2, hl3, hP⟩ := hbad rfl _ hz
    clear hbad hgood hz
    dsimp only [LT.tid] at hl2 hst2 hl3
    go_wp2_with (first | ((with_reducible refine wpList_ldL hl2.out rfl _ rfl ?_ ?_); rfl) | ((with_reducible refine wpList_stO hst2.out rfl _ _ rfl ?_ ?_ ?_); rfl; rfl) | fail)
    exact ret_ldL2 hl3.out rfl rfl rfl rfl hP.out
  obtain ⟨bb, off, n9, c9, ha, hn9, hto⟩ := hgood rfl
  replace hto := hto _ hz
  clear hbad hgood hz
  injection ha with ha1 ha2 ha3
  subst ha1
  subst ha2
  subst ha3
  dsimp only [ToC, LT.fk, FK.tfn, FK.ftid, FK.sz, LT.tf, LT.tlf, LT.tid, LT.sl, LT.k] at hto
  simp only [Nat.zero_mul, Nat.add_zero, Nat.zero_add, Nat.reduceAdd, Nat.reduceMul, Nat.one_mul] at hto
  obtain ⟨y3, k1, n1, t1, a1, m1, c1, z0, z1, z2, z3, hm⟩ := hto
  go_wp2_with fail
  refine hm.out.mono ?_
  rintro e V ⟨v, ok0, V1, rfl, hs, hto⟩
  clear y3 z0 z1 z2 z3 hm
  obtain ⟨y3, k1, n1, t1, a1, m1, c1, z0, z1, z2, z3, hm⟩ := hto
  go_wp2_with (first | ((with_reducible refine wpList_stO hs.out rfl _ _ rfl ?_ ?_ ?_); rfl; rfl) | fail)
  clear hs
  refine hm.out.mono ?_
  rintro e V ⟨v, ok1, V1, rfl, hs, hto⟩
  clear y3 z0 z1 z2 z3 hm
  obtain ⟨A, WF, hl2, hst2, hl3, hP⟩ := hto
  go_wp2_with (first | ((with_reducible refine wpList_stO hs.out rfl _ _ rfl ?_ ?_ ?_); rfl; rfl) | fail)
  rename_i K hK
  rw [<- HCF.out]
  clear HCF hs
  try simp only [List.append_eq, List.cons_append, List.nil_append]
  refine wp_region_cut [5] ?_
  refine wpCut_cons ?_
  simp only [List.take_succ_cons, List.take_zero, List.drop_succ_cons, List.drop_zero]
  refine wpCut_list [3, 2] _ _ _ ?_
  refine wpCut_cons ?_
  simp only [List.take_succ_cons, List.take_zero, List.drop_succ_cons, List.drop_zero]
  go_wp2_with (first | ((with_reducible refine wpList_ldL hl2.out rfl _ rfl ?_ ?_); rfl) | fail)
  cases ok0
  case false =>
    refine wpCut_skipC 35 34 31 32 (by kernel_rfl) rfl rfl ?_
    intro a ha hlo hd hs
    show wpCut _ _ [] _ a _
    refine wpCut_fin rfl rfl rfl rfl rfl rfl ((hlo 2 (by decide)).trans rfl) ((hlo 30 (by decide)).trans rfl) ha hst2.out (by rw [hs]; decide) ?_
    intro a' e2 e3 e4
    exact hK _ _ (ret_at hl3.out rfl e2 e3 (e4.trans (hd.trans rfl)) hP.out)
  refine wpCut_cons ?_
  simp only [List.take_succ_cons, List.take_zero, List.drop_succ_cons, List.drop_zero]
  go_wp2_with fail
  refine wpCut_nil (wpList_nil ?_)
  show wpCut _ _ [] _ _ _
  refine wpCut_fin rfl rfl rfl rfl rfl rfl rfl rfl rfl hst2.out (show 3 < 35 by decide) ?_
  intro a' e2 e3 e4
  exact hK _ _ (ret_at hl3.out rfl e2 e3 (e4.trans rfl) hP.out)
theorem to_pat {k nn : Int} {t : ByteArray} {a : Option Addr} {c : Nat} {l : List Vl} {w : World} {P : Ending -> World -> Prop} (h : TPre .pat w P #[.int .i64 k, .int .i64 nn, .string t, .slice a l.length c] (.slice a l.length c) 2) : Calls Tryz.prog 187 #[.agg #[.int .i64 k, .int .i64 nn, .string t, .slice a l.length c]] w P := by
  obtain ⟨hst, hts, hcall⟩ := h
  dsimp only [LT.tid, LT.zero] at hst hts
  obtain ⟨y0, y1, y2, y3, -⟩ := box_cells hts.1.val
  have HST := hiq hst
  have HTS := hiq hts
  have HC := hiq hcall
  clear hst hts hcall
  go_enter Tryz.func187, Tryz.ntmps187
  generalize hC1 : Code.region 1 _ _ = C1
  have HC1 := hiq hC1
  clear hC1
  generalize hCF : Code.region 7 _ _ = CF
  have HCF := hiq hCF
  clear hCF
  go_wp2_with fail
  rw [<- HC1.out]
  clear HC1
  refine wp_region_cut [2] ?_
  refine wpCut_cons ?_
  simp only [List.take_succ_cons, List.take_zero, List.drop_succ_cons, List.drop_zero]
  go_wp2_with fail
  generalize World.alloc (World.alloc (World.alloc w _) _) _ = W2 at *
  refine wpCut_nil (wpList_stO HST.out rfl _ _ rfl rfl rfl ?_)
  go_wp2_with fail
  clear y0 y1 y2 y3 HST
  generalize putL W2 _ _ _ = W3 at *
  obtain ⟨g, hcl, hbad, hgood⟩ := HC.out _ HTS.out
  clear HC HTS
  refine hcl.mono ?_
  rintro e V0 ⟨rfl, hz⟩
  clear hcl
  cases g
  case false =>
    obtain ⟨A, WF, hl2, hst2, hl3, hP⟩ := hbad rfl _ hz
    clear hbad hgood hz
    dsimp only [LT.tid] at hl2 hst2 hl3
    go_wp2_with (first | ((with_reducible refine wpList_ldL hl2.out rfl _ rfl ?_ ?_); rfl) | ((with_reducible refine wpList_stO hst2.out rfl _ _ rfl ?_ ?_ ?_); rfl; rfl) | fail)
    exact ret_ldL2 hl3.out rfl rfl rfl rfl hP.out
  obtain ⟨bb, off, n9, c9, ha, hn9, hto⟩ := hgood rfl
  replace hto := hto _ hz
  clear hbad hgood hz
  injection ha with ha1 ha2 ha3
  subst ha1
  subst ha2
  subst ha3
  dsimp only [ToC, LT.fk, FK.tfn, FK.ftid, FK.sz, LT.tf, LT.tlf, LT.tid, LT.sl, LT.k] at hto
  simp only [Nat.zero_mul, Nat.add_zero, Nat.zero_add, Nat.reduceAdd, Nat.reduceMul, Nat.one_mul] at hto
  obtain ⟨y3, k1, n1, t1, a1, m1, c1, z0, z1, z2, z3, hm⟩ := hto
  go_wp2_with fail
  refine hm.out.mono ?_
  rintro e V ⟨v, ok0, V1, rfl, hs, hto⟩
  clear y3 z0 z1 z2 z3 hm
  obtain ⟨y3, k1, n1, t1, a1, m1, c1, z0, z1, z2, z3, hm⟩ := hto
  go_wp2_with (first | ((with_reducible refine wpList_stO hs.out rfl _ _ rfl ?_ ?_ ?_); rfl; rfl) | fail)
  clear hs
  refine hm.out.mono ?_
  rintro e V ⟨v, ok1, V1, rfl, hs, hto⟩
  clear y3 z0 z1 z2 z3 hm
  obtain ⟨A, WF, hl2, hst2, hl3, hP⟩ := hto
  go_wp2_with (first | ((with_reducible refine wpList_stO hs.out rfl _ _ rfl ?_ ?_ ?_); rfl; rfl) | fail)
  rename_i K hK
  rw [<- HCF.out]
  clear HCF hs
  try simp only [List.append_eq, List.cons_append, List.nil_append]
  refine wp_region_cut [5] ?_
  refine wpCut_cons ?_
  simp only [List.take_succ_cons, List.take_zero, List.drop_succ_cons, List.drop_zero]
  refine wpCut_list [3, 2] _ _ _ ?_
  refine wpCut_cons ?_
  simp only [List.take_succ_cons, List.take_zero, List.drop_succ_cons, List.drop_zero]
  go_wp2_with (first | ((with_reducible refine wpList_ldL hl2.out rfl _ rfl ?_ ?_); rfl) | fail)
  cases ok0
  case false =>
    refine wpCut_skipC 35 34 31 32 (by kernel_rfl) rfl rfl ?_
    intro a ha hlo hd hs
    show wpCut _ _ [] _ a _
    refine wpCut_fin rfl rfl rfl rfl rfl rfl ((hlo 2 (by decide)).trans rfl) ((hlo 30 (by decide)).trans rfl) ha hst2.out (by rw [hs]; decide) ?_
    intro a' e2 e3 e4
    exact hK _ _ (ret_at hl3.out rfl e2 e3 (e4.trans (hd.trans rfl)) hP.out)
  refine wpCut_cons ?_
  simp only [List.take_succ_cons, List.take_zero, List.drop_succ_cons, List.drop_zero]
  go_wp2_with fail
  refine wpCut_nil (wpList_nil ?_)
  show wpCut _ _ [] _ _ _
  refine wpCut_fin rfl rfl rfl rfl rfl rfl rfl rfl rfl hst2.out (show 3 < 35 by decide) ?_
  intro a' e2 e3 e4
  exact hK _ _ (ret_at hl3.out rfl e2 e3 (e4.trans rfl) hP.out)
theorem to_rul {k nn : Int} {t : ByteArray} {a : Option Addr} {c : Nat} {l : List Vl} {w : World} {P : Ending -> World -> Prop} (h : TPre .rul w P #[.int .i64 k, .int .i64 nn, .string t, .slice a l.length c] (.slice a l.length c) 2) : Calls Tryz.prog 185 #[.agg #[.int .i64 k, .int .i64 nn, .string t, .slice a l.length c]] w P := by
  obtain ⟨hst, hts, hcall⟩ := h
  dsimp only [LT.tid, LT.zero] at hst hts
  obtain ⟨y0, y1, y2, y3, -⟩ := box_cells hts.1.val
  have HST := hiq hst
  have HTS := hiq hts
  have HC := hiq hcall
  clear hst hts hcall
  go_enter Tryz.func185, Tryz.ntmps185
  generalize hC1 : Code.region 1 _ _ = C1
  have HC1 := hiq hC1
  clear hC1
  generalize hCF : Code.region 7 _ _ = CF
  have HCF := hiq hCF
  clear hCF
  go_wp2_with fail
  rw [<- HC1.out]
  clear HC1
  refine wp_region_cut [2] ?_
  refine wpCut_cons ?_
  simp only [List.take_succ_cons, List.take_zero, List.drop_succ_cons, List.drop_zero]
  go_wp2_with fail
  generalize World.alloc (World.alloc (World.alloc w _) _) _ = W2 at *
  refine wpCut_nil (wpList_stO HST.out rfl _ _ rfl rfl rfl ?_)
  go_wp2_with fail
  clear y0 y1 y2 y3 HST
  generalize putL W2 _ _ _ = W3 at *
  obtain ⟨g, hcl, hbad, hgood⟩ := HC.out _ HTS.out
  clear HC HTS
  refine hcl.mono ?_
  rintro e V0 ⟨rfl, hz⟩
  clear hcl
  cases g
  case false =>
    obtain ⟨A, WF, hl2, hst2, hl3, hP⟩ := hbad rfl _ hz
    clear hbad hgood hz
    dsimp only [LT.tid] at hl2 hst2 hl3
    go_wp2_with (first | ((with_reducible refine wpList_ldL hl2.out rfl _ rfl ?_ ?_); rfl) | ((with_reducible refine wpList_stO hst2.out rfl _ _ rfl ?_ ?_ ?_); rfl; rfl) | fail)
    exact ret_ldL2 hl3.out rfl rfl rfl rfl hP.out
  obtain ⟨bb, off, n9, c9, ha, hn9, hto⟩ := hgood rfl
  replace hto := hto _ hz
  clear hbad hgood hz
  injection ha with ha1 ha2 ha3
  subst ha1
  subst ha2
  subst ha3
  dsimp only [ToC, LT.fk, FK.tfn, FK.ftid, FK.sz, LT.tf, LT.tlf, LT.tid, LT.sl, LT.k] at hto
  simp only [Nat.zero_mul, Nat.add_zero, Nat.zero_add, Nat.reduceAdd, Nat.reduceMul, Nat.one_mul] at hto
  obtain ⟨y3, k1, n1, t1, a1, m1, c1, z0, z1, z2, z3, hm⟩ := hto
  go_wp2_with fail
  refine hm.out.mono ?_
  rintro e V ⟨v, ok0, V1, rfl, hs, hto⟩
  clear y3 z0 z1 z2 z3 hm
  obtain ⟨y3, k1, n1, t1, a1, m1, c1, z0, z1, z2, z3, hm⟩ := hto
  go_wp2_with (first | ((with_reducible refine wpList_stO hs.out rfl _ _ rfl ?_ ?_ ?_); rfl; rfl) | fail)
  clear hs
  refine hm.out.mono ?_
  rintro e V ⟨v, ok1, V1, rfl, hs, hto⟩
  clear y3 z0 z1 z2 z3 hm
  obtain ⟨A, WF, hl2, hst2, hl3, hP⟩ := hto
  go_wp2_with (first | ((with_reducible refine wpList_stO hs.out rfl _ _ rfl ?_ ?_ ?_); rfl; rfl) | fail)
  rename_i K hK
  rw [<- HCF.out]
  clear HCF hs
  try simp only [List.append_eq, List.cons_append, List.nil_append]
  refine wp_region_cut [5] ?_
  refine wpCut_cons ?_
  simp only [List.take_succ_cons, List.take_zero, List.drop_succ_cons, List.drop_zero]
  refine wpCut_list [3, 2] _ _ _ ?_
  refine wpCut_cons ?_
  simp only [List.take_succ_cons, List.take_zero, List.drop_succ_cons, List.drop_zero]
  go_wp2_with (first | ((with_reducible refine wpList_ldL hl2.out rfl _ rfl ?_ ?_); rfl) | fail)
  cases ok0
  case false =>
    refine wpCut_skipC 35 34 31 32 (by kernel_rfl) rfl rfl ?_
    intro a ha hlo hd hs
    show wpCut _ _ [] _ a _
    refine wpCut_fin rfl rfl rfl rfl rfl rfl ((hlo 2 (by decide)).trans rfl) ((hlo 30 (by decide)).trans rfl) ha hst2.out (by rw [hs]; decide) ?_
    intro a' e2 e3 e4
    exact hK _ _ (ret_at hl3.out rfl e2 e3 (e4.trans (hd.trans rfl)) hP.out)
  refine wpCut_cons ?_
  simp only [List.take_succ_cons, List.take_zero, List.drop_succ_cons, List.drop_zero]
  go_wp2_with fail
  refine wpCut_nil (wpList_nil ?_)
  show wpCut _ _ [] _ _ _
  refine wpCut_fin rfl rfl rfl rfl rfl rfl rfl rfl rfl hst2.out (show 3 < 35 by decide) ?_
  intro a' e2 e3 e4
  exact hK _ _ (ret_at hl3.out rfl e2 e3 (e4.trans rfl) hP.out)
end Go.Proofs.YtlbcmeebcfalpaaGreatDoor
namespace Go.Proofs.YtlbcmeebcfalpaaGreatDoor
open Go.RowKit

theorem to_dec {k nn : Int} {t : ByteArray} {a : Option Addr} {c : Nat} {l : List Vl} {w : World} {P : Ending -> World -> Prop} (h : TPre .dec w P #[.int .i64 k, .int .i64 nn, .string t, .slice a l.length c] (.slice a l.length c) 4) : Calls Tryz.prog 256 #[.agg #[.int .i64 k, .int .i64 nn, .string t, .slice a l.length c]] w P := by
  obtain ⟨hst, hts, hcall⟩ := h
  dsimp only [LT.tid, LT.zero] at hst hts
  obtain ⟨y0, y1, y2, y3, -⟩ := box_cells hts.1.val
  have HST := hiq hst
  have HTS := hiq hts
  have HC := hiq hcall
  clear hst hts hcall
  go_enter Tryz.func256, Tryz.ntmps256
  generalize hC1 : Code.region 1 _ _ = C1
  have HC1 := hiq hC1
  clear hC1
  generalize hCF : Code.region 9 _ _ = CF
  have HCF := hiq hCF
  clear hCF
  go_wp2_with fail
  rw [<- HC1.out]
  clear HC1
  refine wp_region_cut [2] ?_
  refine wpCut_cons ?_
  simp only [List.take_succ_cons, List.take_zero, List.drop_succ_cons, List.drop_zero]
  go_wp2_with fail
  generalize World.alloc (World.alloc (World.alloc w _) _) _ = W2 at *
  refine wpCut_nil (wpList_stO HST.out rfl _ _ rfl rfl rfl ?_)
  go_wp2_with fail
  clear y0 y1 y2 y3 HST
  generalize putL W2 _ _ _ = W3 at *
  obtain ⟨g, hcl, hbad, hgood⟩ := HC.out _ HTS.out
  clear HC HTS
  refine hcl.mono ?_
  rintro e V0 ⟨rfl, hz⟩
  clear hcl
  cases g
  case false =>
    obtain ⟨A, WF, hl2, hst2, hl3, hP⟩ := hbad rfl _ hz
    clear hbad hgood hz
    dsimp only [LT.tid] at hl2 hst2 hl3
    go_wp2_with (first | ((with_reducible refine wpList_ldL hl2.out rfl _ rfl ?_ ?_); rfl) | ((with_reducible refine wpList_stO hst2.out rfl _ _ rfl ?_ ?_ ?_); rfl; rfl) | fail)
    exact ret_ldL2 hl3.out rfl rfl rfl rfl hP.out
  obtain ⟨bb, off, n9, c9, ha, hn9, hto⟩ := hgood rfl
  replace hto := hto _ hz
  clear hbad hgood hz
  injection ha with ha1 ha2 ha3
  subst ha1
  subst ha2
  subst ha3
  dsimp only [ToC, LT.fk, FK.tfn, FK.ftid, FK.sz, LT.tf, LT.tlf, LT.tid, LT.sl, LT.k] at hto
  simp only [Nat.zero_mul, Nat.add_zero, Nat.zero_add, Nat.reduceAdd, Nat.reduceMul, Nat.one_mul] at hto
  obtain ⟨y3, k1, n1, t1, a1, m1, c1, z0, z1, z2, z3, hm⟩ := hto
  go_wp2_with fail
  refine hm.out.mono ?_
  rintro e V ⟨v, ok0, V1, rfl, hs, hto⟩
  clear y3 z0 z1 z2 z3 hm
  obtain ⟨y3, k1, n1, t1, a1, m1, c1, z0, z1, z2, z3, hm⟩ := hto
  go_wp2_with (first | ((with_reducible refine wpList_stO hs.out rfl _ _ rfl ?_ ?_ ?_); rfl; rfl) | fail)
  clear hs
  refine hm.out.mono ?_
  rintro e V ⟨v, ok1, V1, rfl, hs, hto⟩
  clear y3 z0 z1 z2 z3 hm
  obtain ⟨y3, k1, n1, t1, a1, m1, c1, z0, z1, z2, z3, hm⟩ := hto
  go_wp2_with (first | ((with_reducible refine wpList_stO hs.out rfl _ _ rfl ?_ ?_ ?_); rfl; rfl) | fail)
  clear hs
  refine hm.out.mono ?_
  rintro e V ⟨v, ok2, V1, rfl, hs, hto⟩
  clear y3 z0 z1 z2 z3 hm
  obtain ⟨y3, k1, n1, t1, a1, m1, c1, z0, z1, z2, z3, hm⟩ := hto
  go_wp2_with (first | ((with_reducible refine wpList_stO hs.out rfl _ _ rfl ?_ ?_ ?_); rfl; rfl) | fail)
  clear hs
  refine hm.out.mono ?_
  rintro e V ⟨v, ok3, V1, rfl, hs, hto⟩
  clear y3 z0 z1 z2 z3 hm
  obtain ⟨A, WF, hl2, hst2, hl3, hP⟩ := hto
  go_wp2_with (first | ((with_reducible refine wpList_stO hs.out rfl _ _ rfl ?_ ?_ ?_); rfl; rfl) | fail)
  rename_i K hK
  rw [<- HCF.out]
  clear HCF hs
  try simp only [List.append_eq, List.cons_append, List.nil_append]
  refine wp_region_cut [11] ?_
  refine wpCut_cons ?_
  simp only [List.take_succ_cons, List.take_zero, List.drop_succ_cons, List.drop_zero]
  refine wpCut_list [3, 3, 3, 2] _ _ _ ?_
  refine wpCut_cons ?_
  simp only [List.take_succ_cons, List.take_zero, List.drop_succ_cons, List.drop_zero]
  go_wp2_with (first | ((with_reducible refine wpList_ldL hl2.out rfl _ rfl ?_ ?_); rfl) | fail)
  cases ok0
  case false =>
    refine wpCut_skipC 61 60 51 52 (by kernel_rfl) rfl rfl ?_
    intro a ha hlo hd hs
    show wpCut _ _ [] _ a _
    refine wpCut_fin rfl rfl rfl rfl rfl rfl ((hlo 2 (by decide)).trans rfl) ((hlo 50 (by decide)).trans rfl) ha hst2.out (by rw [hs]; decide) ?_
    intro a' e2 e3 e4
    exact hK _ _ (ret_at hl3.out rfl e2 e3 (e4.trans (hd.trans rfl)) hP.out)
  refine wpCut_cons ?_
  simp only [List.take_succ_cons, List.take_zero, List.drop_succ_cons, List.drop_zero]
  go_wp2_with fail
  cases ok1
  case false =>
    refine wpCut_skipC 61 60 51 55 (by kernel_rfl) rfl rfl ?_
    intro a ha hlo hd hs
    show wpCut _ _ [] _ a _
    refine wpCut_fin rfl rfl rfl rfl rfl rfl ((hlo 2 (by decide)).trans rfl) ((hlo 50 (by decide)).trans rfl) ha hst2.out (by rw [hs]; decide) ?_
    intro a' e2 e3 e4
    exact hK _ _ (ret_at hl3.out rfl e2 e3 (e4.trans (hd.trans rfl)) hP.out)
  refine wpCut_cons ?_
  simp only [List.take_succ_cons, List.take_zero, List.drop_succ_cons, List.drop_zero]
  go_wp2_with fail
  cases ok2
  case false =>
    refine wpCut_skipC 61 60 51 58 (by kernel_rfl) rfl rfl ?_
    intro a ha hlo hd hs
    show wpCut _ _ [] _ a _
    refine wpCut_fin rfl rfl rfl rfl rfl rfl ((hlo 2 (by decide)).trans rfl) ((hlo 50 (by decide)).trans rfl) ha hst2.out (by rw [hs]; decide) ?_
    intro a' e2 e3 e4
    exact hK _ _ (ret_at hl3.out rfl e2 e3 (e4.trans (hd.trans rfl)) hP.out)
  refine wpCut_cons ?_
  simp only [List.take_succ_cons, List.take_zero, List.drop_succ_cons, List.drop_zero]
  go_wp2_with fail
  refine wpCut_nil (wpList_nil ?_)
  show wpCut _ _ [] _ _ _
  refine wpCut_fin rfl rfl rfl rfl rfl rfl rfl rfl rfl hst2.out (show 3 < 61 by decide) ?_
  intro a' e2 e3 e4
  exact hK _ _ (ret_at hl3.out rfl e2 e3 (e4.trans rfl) hP.out)
theorem to_nod {k nn : Int} {t : ByteArray} {a : Option Addr} {c : Nat} {l : List Vl} {w : World} {P : Ending -> World -> Prop} (h : TPre .nod w P #[.int .i64 k, .int .i64 nn, .string t, .slice a l.length c] (.slice a l.length c) 4) : Calls Tryz.prog 253 #[.agg #[.int .i64 k, .int .i64 nn, .string t, .slice a l.length c]] w P := by
  obtain ⟨hst, hts, hcall⟩ := h
  dsimp only [LT.tid, LT.zero] at hst hts
  obtain ⟨y0, y1, y2, y3, -⟩ := box_cells hts.1.val
  have HST := hiq hst
  have HTS := hiq hts
  have HC := hiq hcall
  clear hst hts hcall
  go_enter Tryz.func253, Tryz.ntmps253
  generalize hC1 : Code.region 1 _ _ = C1
  have HC1 := hiq hC1
  clear hC1
  generalize hCF : Code.region 9 _ _ = CF
  have HCF := hiq hCF
  clear hCF
  go_wp2_with fail
  rw [<- HC1.out]
  clear HC1
  refine wp_region_cut [2] ?_
  refine wpCut_cons ?_
  simp only [List.take_succ_cons, List.take_zero, List.drop_succ_cons, List.drop_zero]
  go_wp2_with fail
  generalize World.alloc (World.alloc (World.alloc w _) _) _ = W2 at *
  refine wpCut_nil (wpList_stO HST.out rfl _ _ rfl rfl rfl ?_)
  go_wp2_with fail
  clear y0 y1 y2 y3 HST
  generalize putL W2 _ _ _ = W3 at *
  obtain ⟨g, hcl, hbad, hgood⟩ := HC.out _ HTS.out
  clear HC HTS
  refine hcl.mono ?_
  rintro e V0 ⟨rfl, hz⟩
  clear hcl
  cases g
  case false =>
    obtain ⟨A, WF, hl2, hst2, hl3, hP⟩ := hbad rfl _ hz
    clear hbad hgood hz
    dsimp only [LT.tid] at hl2 hst2 hl3
    go_wp2_with (first | ((with_reducible refine wpList_ldL hl2.out rfl _ rfl ?_ ?_); rfl) | ((with_reducible refine wpList_stO hst2.out rfl _ _ rfl ?_ ?_ ?_); rfl; rfl) | fail)
    exact ret_ldL2 hl3.out rfl rfl rfl rfl hP.out
  obtain ⟨bb, off, n9, c9, ha, hn9, hto⟩ := hgood rfl
  replace hto := hto _ hz
  clear hbad hgood hz
  injection ha with ha1 ha2 ha3
  subst ha1
  subst ha2
  subst ha3
  dsimp only [ToC, LT.fk, FK.tfn, FK.ftid, FK.sz, LT.tf, LT.tlf, LT.tid, LT.sl, LT.k] at hto
  simp only [Nat.zero_mul, Nat.add_zero, Nat.zero_add, Nat.reduceAdd, Nat.reduceMul, Nat.one_mul] at hto
  obtain ⟨y3, k1, n1, t1, a1, m1, c1, z0, z1, z2, z3, hm⟩ := hto
  go_wp2_with fail
  refine hm.out.mono ?_
  rintro e V ⟨v, ok0, V1, rfl, hs, hto⟩
  clear y3 z0 z1 z2 z3 hm
  obtain ⟨y3, k1, n1, t1, a1, m1, c1, z0, z1, z2, z3, hm⟩ := hto
  go_wp2_with (first | ((with_reducible refine wpList_stO hs.out rfl _ _ rfl ?_ ?_ ?_); rfl; rfl) | fail)
  clear hs
  refine hm.out.mono ?_
  rintro e V ⟨v, ok1, V1, rfl, hs, hto⟩
  clear y3 z0 z1 z2 z3 hm
  obtain ⟨y3, k1, n1, t1, a1, m1, c1, z0, z1, z2, z3, hm⟩ := hto
  go_wp2_with (first | ((with_reducible refine wpList_stO hs.out rfl _ _ rfl ?_ ?_ ?_); rfl; rfl) | fail)
  clear hs
  refine hm.out.mono ?_
  rintro e V ⟨v, ok2, V1, rfl, hs, hto⟩
  clear y3 z0 z1 z2 z3 hm
  obtain ⟨y3, k1, n1, t1, a1, m1, c1, z0, z1, z2, z3, hm⟩ := hto
  go_wp2_with (first | ((with_reducible refine wpList_stO hs.out rfl _ _ rfl ?_ ?_ ?_); rfl; rfl) | fail)
  clear hs
  refine hm.out.mono ?_
  rintro e V ⟨v, ok3, V1, rfl, hs, hto⟩
  clear y3 z0 z1 z2 z3 hm
  obtain ⟨A, WF, hl2, hst2, hl3, hP⟩ := hto
  go_wp2_with (first | ((with_reducible refine wpList_stO hs.out rfl _ _ rfl ?_ ?_ ?_); rfl; rfl) | fail)
  rename_i K hK
  rw [<- HCF.out]
  clear HCF hs
  try simp only [List.append_eq, List.cons_append, List.nil_append]
  refine wp_region_cut [11] ?_
  refine wpCut_cons ?_
  simp only [List.take_succ_cons, List.take_zero, List.drop_succ_cons, List.drop_zero]
  refine wpCut_list [3, 3, 3, 2] _ _ _ ?_
  refine wpCut_cons ?_
  simp only [List.take_succ_cons, List.take_zero, List.drop_succ_cons, List.drop_zero]
  go_wp2_with (first | ((with_reducible refine wpList_ldL hl2.out rfl _ rfl ?_ ?_); rfl) | fail)
  cases ok0
  case false =>
    refine wpCut_skipC 61 60 51 52 (by kernel_rfl) rfl rfl ?_
    intro a ha hlo hd hs
    show wpCut _ _ [] _ a _
    refine wpCut_fin rfl rfl rfl rfl rfl rfl ((hlo 2 (by decide)).trans rfl) ((hlo 50 (by decide)).trans rfl) ha hst2.out (by rw [hs]; decide) ?_
    intro a' e2 e3 e4
    exact hK _ _ (ret_at hl3.out rfl e2 e3 (e4.trans (hd.trans rfl)) hP.out)
  refine wpCut_cons ?_
  simp only [List.take_succ_cons, List.take_zero, List.drop_succ_cons, List.drop_zero]
  go_wp2_with fail
  cases ok1
  case false =>
    refine wpCut_skipC 61 60 51 55 (by kernel_rfl) rfl rfl ?_
    intro a ha hlo hd hs
    show wpCut _ _ [] _ a _
    refine wpCut_fin rfl rfl rfl rfl rfl rfl ((hlo 2 (by decide)).trans rfl) ((hlo 50 (by decide)).trans rfl) ha hst2.out (by rw [hs]; decide) ?_
    intro a' e2 e3 e4
    exact hK _ _ (ret_at hl3.out rfl e2 e3 (e4.trans (hd.trans rfl)) hP.out)
  refine wpCut_cons ?_
  simp only [List.take_succ_cons, List.take_zero, List.drop_succ_cons, List.drop_zero]
  go_wp2_with fail
  cases ok2
  case false =>
    refine wpCut_skipC 61 60 51 58 (by kernel_rfl) rfl rfl ?_
    intro a ha hlo hd hs
    show wpCut _ _ [] _ a _
    refine wpCut_fin rfl rfl rfl rfl rfl rfl ((hlo 2 (by decide)).trans rfl) ((hlo 50 (by decide)).trans rfl) ha hst2.out (by rw [hs]; decide) ?_
    intro a' e2 e3 e4
    exact hK _ _ (ret_at hl3.out rfl e2 e3 (e4.trans (hd.trans rfl)) hP.out)
  refine wpCut_cons ?_
  simp only [List.take_succ_cons, List.take_zero, List.drop_succ_cons, List.drop_zero]
  go_wp2_with fail
  refine wpCut_nil (wpList_nil ?_)
  show wpCut _ _ [] _ _ _
  refine wpCut_fin rfl rfl rfl rfl rfl rfl rfl rfl rfl hst2.out (show 3 < 61 by decide) ?_
  intro a' e2 e3 e4
  exact hK _ _ (ret_at hl3.out rfl e2 e3 (e4.trans rfl) hP.out)
theorem to_exp {k nn : Int} {t : ByteArray} {a : Option Addr} {c : Nat} {l : List Vl} {w : World} {P : Ending -> World -> Prop} (h : TPre .exp w P #[.int .i64 k, .int .i64 nn, .string t, .slice a l.length c] (.slice a l.length c) 4) : Calls Tryz.prog 233 #[.agg #[.int .i64 k, .int .i64 nn, .string t, .slice a l.length c]] w P := by
  obtain ⟨hst, hts, hcall⟩ := h
  dsimp only [LT.tid, LT.zero] at hst hts
  obtain ⟨y0, y1, y2, y3, -⟩ := box_cells hts.1.val
  have HST := hiq hst
  have HTS := hiq hts
  have HC := hiq hcall
  clear hst hts hcall
  go_enter Tryz.func233, Tryz.ntmps233
  generalize hC1 : Code.region 1 _ _ = C1
  have HC1 := hiq hC1
  clear hC1
  generalize hCF : Code.region 9 _ _ = CF
  have HCF := hiq hCF
  clear hCF
  go_wp2_with fail
  rw [<- HC1.out]
  clear HC1
  refine wp_region_cut [2] ?_
  refine wpCut_cons ?_
  simp only [List.take_succ_cons, List.take_zero, List.drop_succ_cons, List.drop_zero]
  go_wp2_with fail
  generalize World.alloc (World.alloc (World.alloc w _) _) _ = W2 at *
  refine wpCut_nil (wpList_stO HST.out rfl _ _ rfl rfl rfl ?_)
  go_wp2_with fail
  clear y0 y1 y2 y3 HST
  generalize putL W2 _ _ _ = W3 at *
  obtain ⟨g, hcl, hbad, hgood⟩ := HC.out _ HTS.out
  clear HC HTS
  refine hcl.mono ?_
  rintro e V0 ⟨rfl, hz⟩
  clear hcl
  cases g
  case false =>
    obtain ⟨A, WF, hl2, hst2, hl3, hP⟩ := hbad rfl _ hz
    clear hbad hgood hz
    dsimp only [LT.tid] at hl2 hst2 hl3
    go_wp2_with (first | ((with_reducible refine wpList_ldL hl2.out rfl _ rfl ?_ ?_); rfl) | ((with_reducible refine wpList_stO hst2.out rfl _ _ rfl ?_ ?_ ?_); rfl; rfl) | fail)
    exact ret_ldL2 hl3.out rfl rfl rfl rfl hP.out
  obtain ⟨bb, off, n9, c9, ha, hn9, hto⟩ := hgood rfl
  replace hto := hto _ hz
  clear hbad hgood hz
  injection ha with ha1 ha2 ha3
  subst ha1
  subst ha2
  subst ha3
  dsimp only [ToC, LT.fk, FK.tfn, FK.ftid, FK.sz, LT.tf, LT.tlf, LT.tid, LT.sl, LT.k] at hto
  simp only [Nat.zero_mul, Nat.add_zero, Nat.zero_add, Nat.reduceAdd, Nat.reduceMul, Nat.one_mul] at hto
  obtain ⟨y3, k1, n1, t1, a1, m1, c1, z0, z1, z2, z3, hm⟩ := hto
  go_wp2_with fail
  refine hm.out.mono ?_
  rintro e V ⟨v, ok0, V1, rfl, hs, hto⟩
  clear y3 z0 z1 z2 z3 hm
  obtain ⟨y3, k1, n1, t1, a1, m1, c1, z0, z1, z2, z3, hm⟩ := hto
  go_wp2_with (first | ((with_reducible refine wpList_stO hs.out rfl _ _ rfl ?_ ?_ ?_); rfl; rfl) | fail)
  clear hs
  refine hm.out.mono ?_
  rintro e V ⟨v, ok1, V1, rfl, hs, hto⟩
  clear y3 z0 z1 z2 z3 hm
  obtain ⟨y3, k1, n1, t1, a1, m1, c1, z0, z1, z2, z3, hm⟩ := hto
  go_wp2_with (first | ((with_reducible refine wpList_stO hs.out rfl _ _ rfl ?_ ?_ ?_); rfl; rfl) | fail)
  clear hs
  refine hm.out.mono ?_
  rintro e V ⟨v, ok2, V1, rfl, hs, hto⟩
  clear y3 z0 z1 z2 z3 hm
  obtain ⟨y3, k1, n1, t1, a1, m1, c1, z0, z1, z2, z3, hm⟩ := hto
  go_wp2_with (first | ((with_reducible refine wpList_stO hs.out rfl _ _ rfl ?_ ?_ ?_); rfl; rfl) | fail)
  clear hs
  refine hm.out.mono ?_
  rintro e V ⟨v, ok3, V1, rfl, hs, hto⟩
  clear y3 z0 z1 z2 z3 hm
  obtain ⟨A, WF, hl2, hst2, hl3, hP⟩ := hto
  go_wp2_with (first | ((with_reducible refine wpList_stO hs.out rfl _ _ rfl ?_ ?_ ?_); rfl; rfl) | fail)
  rename_i K hK
  rw [<- HCF.out]
  clear HCF hs
  try simp only [List.append_eq, List.cons_append, List.nil_append]
  refine wp_region_cut [11] ?_
  refine wpCut_cons ?_
  simp only [List.take_succ_cons, List.take_zero, List.drop_succ_cons, List.drop_zero]
  refine wpCut_list [3, 3, 3, 2] _ _ _ ?_
  refine wpCut_cons ?_
  simp only [List.take_succ_cons, List.take_zero, List.drop_succ_cons, List.drop_zero]
  go_wp2_with (first | ((with_reducible refine wpList_ldL hl2.out rfl _ rfl ?_ ?_); rfl) | fail)
  cases ok0
  case false =>
    refine wpCut_skipC 61 60 51 52 (by kernel_rfl) rfl rfl ?_
    intro a ha hlo hd hs
    show wpCut _ _ [] _ a _
    refine wpCut_fin rfl rfl rfl rfl rfl rfl ((hlo 2 (by decide)).trans rfl) ((hlo 50 (by decide)).trans rfl) ha hst2.out (by rw [hs]; decide) ?_
    intro a' e2 e3 e4
    exact hK _ _ (ret_at hl3.out rfl e2 e3 (e4.trans (hd.trans rfl)) hP.out)
  refine wpCut_cons ?_
  simp only [List.take_succ_cons, List.take_zero, List.drop_succ_cons, List.drop_zero]
  go_wp2_with fail
  cases ok1
  case false =>
    refine wpCut_skipC 61 60 51 55 (by kernel_rfl) rfl rfl ?_
    intro a ha hlo hd hs
    show wpCut _ _ [] _ a _
    refine wpCut_fin rfl rfl rfl rfl rfl rfl ((hlo 2 (by decide)).trans rfl) ((hlo 50 (by decide)).trans rfl) ha hst2.out (by rw [hs]; decide) ?_
    intro a' e2 e3 e4
    exact hK _ _ (ret_at hl3.out rfl e2 e3 (e4.trans (hd.trans rfl)) hP.out)
  refine wpCut_cons ?_
  simp only [List.take_succ_cons, List.take_zero, List.drop_succ_cons, List.drop_zero]
  go_wp2_with fail
  cases ok2
  case false =>
    refine wpCut_skipC 61 60 51 58 (by kernel_rfl) rfl rfl ?_
    intro a ha hlo hd hs
    show wpCut _ _ [] _ a _
    refine wpCut_fin rfl rfl rfl rfl rfl rfl ((hlo 2 (by decide)).trans rfl) ((hlo 50 (by decide)).trans rfl) ha hst2.out (by rw [hs]; decide) ?_
    intro a' e2 e3 e4
    exact hK _ _ (ret_at hl3.out rfl e2 e3 (e4.trans (hd.trans rfl)) hP.out)
  refine wpCut_cons ?_
  simp only [List.take_succ_cons, List.take_zero, List.drop_succ_cons, List.drop_zero]
  go_wp2_with fail
  refine wpCut_nil (wpList_nil ?_)
  show wpCut _ _ [] _ _ _
  refine wpCut_fin rfl rfl rfl rfl rfl rfl rfl rfl rfl hst2.out (show 3 < 61 by decide) ?_
  intro a' e2 e3 e4
  exact hK _ _ (ret_at hl3.out rfl e2 e3 (e4.trans rfl) hP.out)
theorem to_cst {k nn : Int} {t : ByteArray} {a : Option Addr} {c : Nat} {l : List Vl} {w : World} {P : Ending -> World -> Prop} (h : TPre .cst w P #[.int .i64 k, .int .i64 nn, .string t, .slice a l.length c] (.slice a l.length c) 4) : Calls Tryz.prog 80 #[.agg #[.int .i64 k, .int .i64 nn, .string t, .slice a l.length c]] w P := by
  obtain ⟨hst, hts, hcall⟩ := h
  dsimp only [LT.tid, LT.zero] at hst hts
  obtain ⟨y0, y1, y2, y3, -⟩ := box_cells hts.1.val
  have HST := hiq hst
  have HTS := hiq hts
  have HC := hiq hcall
  clear hst hts hcall
  go_enter Tryz.func80, Tryz.ntmps80
  generalize hC1 : Code.region 1 _ _ = C1
  have HC1 := hiq hC1
  clear hC1
  generalize hCF : Code.region 9 _ _ = CF
  have HCF := hiq hCF
  clear hCF
  go_wp2_with fail
  rw [<- HC1.out]
  clear HC1
  refine wp_region_cut [2] ?_
  refine wpCut_cons ?_
  simp only [List.take_succ_cons, List.take_zero, List.drop_succ_cons, List.drop_zero]
  go_wp2_with fail
  generalize World.alloc (World.alloc (World.alloc w _) _) _ = W2 at *
  refine wpCut_nil (wpList_stO HST.out rfl _ _ rfl rfl rfl ?_)
  go_wp2_with fail
  clear y0 y1 y2 y3 HST
  generalize putL W2 _ _ _ = W3 at *
  obtain ⟨g, hcl, hbad, hgood⟩ := HC.out _ HTS.out
  clear HC HTS
  refine hcl.mono ?_
  rintro e V0 ⟨rfl, hz⟩
  clear hcl
  cases g
  case false =>
    obtain ⟨A, WF, hl2, hst2, hl3, hP⟩ := hbad rfl _ hz
    clear hbad hgood hz
    dsimp only [LT.tid] at hl2 hst2 hl3
    go_wp2_with (first | ((with_reducible refine wpList_ldL hl2.out rfl _ rfl ?_ ?_); rfl) | ((with_reducible refine wpList_stO hst2.out rfl _ _ rfl ?_ ?_ ?_); rfl; rfl) | fail)
    exact ret_ldL2 hl3.out rfl rfl rfl rfl hP.out
  obtain ⟨bb, off, n9, c9, ha, hn9, hto⟩ := hgood rfl
  replace hto := hto _ hz
  clear hbad hgood hz
  injection ha with ha1 ha2 ha3
  subst ha1
  subst ha2
  subst ha3
  dsimp only [ToC, LT.fk, FK.tfn, FK.ftid, FK.sz, LT.tf, LT.tlf, LT.tid, LT.sl, LT.k] at hto
  simp only [Nat.zero_mul, Nat.add_zero, Nat.zero_add, Nat.reduceAdd, Nat.reduceMul, Nat.one_mul] at hto
  obtain ⟨y3, k1, n1, t1, a1, m1, c1, z0, z1, z2, z3, hm⟩ := hto
  go_wp2_with fail
  refine hm.out.mono ?_
  rintro e V ⟨v, ok0, V1, rfl, hs, hto⟩
  clear y3 z0 z1 z2 z3 hm
  obtain ⟨y3, k1, n1, t1, a1, m1, c1, z0, z1, z2, z3, hm⟩ := hto
  go_wp2_with (first | ((with_reducible refine wpList_stO hs.out rfl _ _ rfl ?_ ?_ ?_); rfl; rfl) | fail)
  clear hs
  refine hm.out.mono ?_
  rintro e V ⟨v, ok1, V1, rfl, hs, hto⟩
  clear y3 z0 z1 z2 z3 hm
  obtain ⟨y3, k1, n1, t1, a1, m1, c1, z0, z1, z2, z3, hm⟩ := hto
  go_wp2_with (first | ((with_reducible refine wpList_stO hs.out rfl _ _ rfl ?_ ?_ ?_); rfl; rfl) | fail)
  clear hs
  refine hm.out.mono ?_
  rintro e V ⟨v, ok2, V1, rfl, hs, hto⟩
  clear y3 z0 z1 z2 z3 hm
  obtain ⟨y3, k1, n1, t1, a1, m1, c1, z0, z1, z2, z3, hm⟩ := hto
  go_wp2_with (first | ((with_reducible refine wpList_stO hs.out rfl _ _ rfl ?_ ?_ ?_); rfl; rfl) | fail)
  clear hs
  refine hm.out.mono ?_
  rintro e V ⟨v, ok3, V1, rfl, hs, hto⟩
  clear y3 z0 z1 z2 z3 hm
  obtain ⟨A, WF, hl2, hst2, hl3, hP⟩ := hto
  go_wp2_with (first | ((with_reducible refine wpList_stO hs.out rfl _ _ rfl ?_ ?_ ?_); rfl; rfl) | fail)
  rename_i K hK
  rw [<- HCF.out]
  clear HCF hs
  try simp only [List.append_eq, List.cons_append, List.nil_append]
  refine wp_region_cut [11] ?_
  refine wpCut_cons ?_
  simp only [List.take_succ_cons, List.take_zero, List.drop_succ_cons, List.drop_zero]
  refine wpCut_list [3, 3, 3, 2] _ _ _ ?_
  refine wpCut_cons ?_
  simp only [List.take_succ_cons, List.take_zero, List.drop_succ_cons, List.drop_zero]
  go_wp2_with (first | ((with_reducible refine wpList_ldL hl2.out rfl _ rfl ?_ ?_); rfl) | fail)
  cases ok0
  case false =>
    refine wpCut_skipC 61 60 51 52 (by kernel_rfl) rfl rfl ?_
    intro a ha hlo hd hs
    show wpCut _ _ [] _ a _
    refine wpCut_fin rfl rfl rfl rfl rfl rfl ((hlo 2 (by decide)).trans rfl) ((hlo 50 (by decide)).trans rfl) ha hst2.out (by rw [hs]; decide) ?_
    intro a' e2 e3 e4
    exact hK _ _ (ret_at hl3.out rfl e2 e3 (e4.trans (hd.trans rfl)) hP.out)
  refine wpCut_cons ?_
  simp only [List.take_succ_cons, List.take_zero, List.drop_succ_cons, List.drop_zero]
  go_wp2_with fail
  cases ok1
  case false =>
    refine wpCut_skipC 61 60 51 55 (by kernel_rfl) rfl rfl ?_
    intro a ha hlo hd hs
    show wpCut _ _ [] _ a _
    refine wpCut_fin rfl rfl rfl rfl rfl rfl ((hlo 2 (by decide)).trans rfl) ((hlo 50 (by decide)).trans rfl) ha hst2.out (by rw [hs]; decide) ?_
    intro a' e2 e3 e4
    exact hK _ _ (ret_at hl3.out rfl e2 e3 (e4.trans (hd.trans rfl)) hP.out)
  refine wpCut_cons ?_
  simp only [List.take_succ_cons, List.take_zero, List.drop_succ_cons, List.drop_zero]
  go_wp2_with fail
  cases ok2
  case false =>
    refine wpCut_skipC 61 60 51 58 (by kernel_rfl) rfl rfl ?_
    intro a ha hlo hd hs
    show wpCut _ _ [] _ a _
    refine wpCut_fin rfl rfl rfl rfl rfl rfl ((hlo 2 (by decide)).trans rfl) ((hlo 50 (by decide)).trans rfl) ha hst2.out (by rw [hs]; decide) ?_
    intro a' e2 e3 e4
    exact hK _ _ (ret_at hl3.out rfl e2 e3 (e4.trans (hd.trans rfl)) hP.out)
  refine wpCut_cons ?_
  simp only [List.take_succ_cons, List.take_zero, List.drop_succ_cons, List.drop_zero]
  go_wp2_with fail
  refine wpCut_nil (wpList_nil ?_)
  show wpCut _ _ [] _ _ _
  refine wpCut_fin rfl rfl rfl rfl rfl rfl rfl rfl rfl hst2.out (show 3 < 61 by decide) ?_
  intro a' e2 e3 e4
  exact hK _ _ (ret_at hl3.out rfl e2 e3 (e4.trans rfl) hP.out)
end Go.Proofs.YtlbcmeebcfalpaaGreatDoor
