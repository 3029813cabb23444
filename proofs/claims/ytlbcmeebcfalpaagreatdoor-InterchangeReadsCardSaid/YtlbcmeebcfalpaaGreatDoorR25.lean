/- Joined: ITw3, ITw4, ITw5, ITa. -/
import Derived.Test.YtlbcmeebcfalpaaGreatDoorR23
import Derived.Test.YtlbcmeebcfalpaaGreatDoorR24
set_option linter.unusedVariables false
set_option linter.unusedSimpArgs false
set_option maxRecDepth 100000
set_option maxHeartbeats 16000000
namespace Go.Proofs.YtlbcmeebcfalpaaGreatDoor
open Go.RowKit

theorem to_op {k nn : Int} {t : ByteArray} {a : Option Addr} {c : Nat} {l : List Vl} {w : World} {P : Ending -> World -> Prop} (h : TPre .op w P #[.int .i64 k, .int .i64 nn, .string t, .slice a l.length c] (.slice a l.length c) 5) : Calls Tryz.prog 255 #[.agg #[.int .i64 k, .int .i64 nn, .string t, .slice a l.length c]] w P := by
  obtain ⟨hst, hts, hcall⟩ := h
  dsimp only [LT.tid, LT.zero] at hst hts
  obtain ⟨y0, y1, y2, y3, -⟩ := box_cells hts.1.val
  have HST := hiq hst
  have HTS := hiq hts
  have HC := hiq hcall
  clear hst hts hcall
  go_enter Tryz.func255, Tryz.ntmps255
  generalize hC1 : Code.region 1 _ _ = C1
  have HC1 := hiq hC1
  clear hC1
  generalize hCF : Code.region 10 _ _ = CF
  have HCF := hiq hCF
  clear hCF
  go_wp2_with fail
  rw [<- HC1.out]
  clear HC1
  refine wp_region_cut [2] ?_
  refine wpCut_cons ?_
  simp only [List.take_succ_cons, List.take_zero, List.drop_succ_cons, List.drop_zero]
  go_wp2_with fail
  generalize World.alloc (World.alloc (World.alloc w _) _) _ = W2 at *
  refine wpCut_nil (wpList_stO HST.out rfl _ _ rfl rfl rfl ?_)
  go_wp2_with fail
  clear y0 y1 y2 y3 HST
  generalize putL W2 _ _ _ = W3 at *
  obtain ⟨g, hcl, hbad, hgood⟩ := HC.out _ HTS.out
  clear HC HTS
  refine hcl.mono ?_
  rintro e V0 ⟨rfl, hz⟩
  clear hcl
  cases g
  case false =>
    obtain ⟨A, WF, hl2, hst2, hl3, hP⟩ := hbad rfl _ hz
    clear hbad hgood hz
    dsimp only [LT.tid] at hl2 hst2 hl3
    go_wp2_with (first | ((with_reducible refine wpList_ldL hl2.out rfl _ rfl ?_ ?_); rfl) | ((with_reducible refine wpList_stO hst2.out rfl _ _ rfl ?_ ?_ ?_); rfl; rfl) | fail)
    exact ret_ldL2 hl3.out rfl rfl rfl rfl hP.out
  obtain ⟨bb, off, n9, c9, ha, hn9, hto⟩ := hgood rfl
  replace hto := hto _ hz
  clear hbad hgood hz
  injection ha with ha1 ha2 ha3
  subst ha1
  subst ha2
  subst ha3
  dsimp only [ToC, LT.fk, FK.tfn, FK.ftid, FK.sz, LT.tf, LT.tlf, LT.tid, LT.sl, LT.k] at hto
  simp only [Nat.zero_mul, Nat.add_zero, Nat.zero_add, Nat.reduceAdd, Nat.reduceMul, Nat.one_mul] at hto
  obtain ⟨y3, k1, n1, t1, a1, m1, c1, z0, z1, z2, z3, hm⟩ := hto
  go_wp2_with fail
  refine hm.out.mono ?_
  rintro e V ⟨v, ok0, V1, rfl, hs, hto⟩
  clear y3 z0 z1 z2 z3 hm
  obtain ⟨y3, k1, n1, t1, a1, m1, c1, z0, z1, z2, z3, hm⟩ := hto
  go_wp2_with (first | ((with_reducible refine wpList_stO hs.out rfl _ _ rfl ?_ ?_ ?_); rfl; rfl) | fail)
  clear hs
  refine hm.out.mono ?_
  rintro e V ⟨v, ok1, V1, rfl, hs, hto⟩
  clear y3 z0 z1 z2 z3 hm
  obtain ⟨y3, k1, n1, t1, a1, m1, c1, z0, z1, z2, z3, hm⟩ := hto
  go_wp2_with (first | ((with_reducible refine wpList_stO hs.out rfl _ _ rfl ?_ ?_ ?_); rfl; rfl) | fail)
  clear hs
  refine hm.out.mono ?_
  rintro e V ⟨v, ok2, V1, rfl, hs, hto⟩
  clear y3 z0 z1 z2 z3 hm
  obtain ⟨y3, k1, n1, t1, a1, m1, c1, z0, z1, z2, z3, hm⟩ := hto
  go_wp2_with (first | ((with_reducible refine wpList_stO hs.out rfl _ _ rfl ?_ ?_ ?_); rfl; rfl) | fail)
  clear hs
  refine hm.out.mono ?_
  rintro e V ⟨v, ok3, V1, rfl, hs, hto⟩
  clear y3 z0 z1 z2 z3 hm
  obtain ⟨y3, k1, n1, t1, a1, m1, c1, z0, z1, z2, z3, hm⟩ := hto
  go_wp2_with (first | ((with_reducible refine wpList_stO hs.out rfl _ _ rfl ?_ ?_ ?_); rfl; rfl) | fail)
  clear hs
  refine hm.out.mono ?_
  rintro e V ⟨v, ok4, V1, rfl, hs, hto⟩
  clear y3 z0 z1 z2 z3 hm
  obtain ⟨A, WF, hl2, hst2, hl3, hP⟩ := hto
  go_wp2_with (first | ((with_reducible refine wpList_stO hs.out rfl _ _ rfl ?_ ?_ ?_); rfl; rfl) | fail)
  rename_i K hK
  rw [<- HCF.out]
  clear HCF hs
  try simp only [List.append_eq, List.cons_append, List.nil_append]
  refine wp_region_cut [14] ?_
  refine wpCut_cons ?_
  simp only [List.take_succ_cons, List.take_zero, List.drop_succ_cons, List.drop_zero]
  refine wpCut_list [3, 3, 3, 3, 2] _ _ _ ?_
  refine wpCut_cons ?_
  simp only [List.take_succ_cons, List.take_zero, List.drop_succ_cons, List.drop_zero]
  go_wp2_with (first | ((with_reducible refine wpList_ldL hl2.out rfl _ rfl ?_ ?_); rfl) | fail)
  cases ok0
  case false =>
    refine wpCut_skipC 74 73 61 62 (by kernel_rfl) rfl rfl ?_
    intro a ha hlo hd hs
    show wpCut _ _ [] _ a _
    refine wpCut_fin rfl rfl rfl rfl rfl rfl ((hlo 2 (by decide)).trans rfl) ((hlo 60 (by decide)).trans rfl) ha hst2.out (by rw [hs]; decide) ?_
    intro a' e2 e3 e4
    exact hK _ _ (ret_at hl3.out rfl e2 e3 (e4.trans (hd.trans rfl)) hP.out)
  refine wpCut_cons ?_
  simp only [List.take_succ_cons, List.take_zero, List.drop_succ_cons, List.drop_zero]
  go_wp2_with fail
  cases ok1
  case false =>
    refine wpCut_skipC 74 73 61 65 (by kernel_rfl) rfl rfl ?_
    intro a ha hlo hd hs
    show wpCut _ _ [] _ a _
    refine wpCut_fin rfl rfl rfl rfl rfl rfl ((hlo 2 (by decide)).trans rfl) ((hlo 60 (by decide)).trans rfl) ha hst2.out (by rw [hs]; decide) ?_
    intro a' e2 e3 e4
    exact hK _ _ (ret_at hl3.out rfl e2 e3 (e4.trans (hd.trans rfl)) hP.out)
  refine wpCut_cons ?_
  simp only [List.take_succ_cons, List.take_zero, List.drop_succ_cons, List.drop_zero]
  go_wp2_with fail
  cases ok2
  case false =>
    refine wpCut_skipC 74 73 61 68 (by kernel_rfl) rfl rfl ?_
    intro a ha hlo hd hs
    show wpCut _ _ [] _ a _
    refine wpCut_fin rfl rfl rfl rfl rfl rfl ((hlo 2 (by decide)).trans rfl) ((hlo 60 (by decide)).trans rfl) ha hst2.out (by rw [hs]; decide) ?_
    intro a' e2 e3 e4
    exact hK _ _ (ret_at hl3.out rfl e2 e3 (e4.trans (hd.trans rfl)) hP.out)
  refine wpCut_cons ?_
  simp only [List.take_succ_cons, List.take_zero, List.drop_succ_cons, List.drop_zero]
  go_wp2_with fail
  cases ok3
  case false =>
    refine wpCut_skipC 74 73 61 71 (by kernel_rfl) rfl rfl ?_
    intro a ha hlo hd hs
    show wpCut _ _ [] _ a _
    refine wpCut_fin rfl rfl rfl rfl rfl rfl ((hlo 2 (by decide)).trans rfl) ((hlo 60 (by decide)).trans rfl) ha hst2.out (by rw [hs]; decide) ?_
    intro a' e2 e3 e4
    exact hK _ _ (ret_at hl3.out rfl e2 e3 (e4.trans (hd.trans rfl)) hP.out)
  refine wpCut_cons ?_
  simp only [List.take_succ_cons, List.take_zero, List.drop_succ_cons, List.drop_zero]
  go_wp2_with fail
  refine wpCut_nil (wpList_nil ?_)
  show wpCut _ _ [] _ _ _
  refine wpCut_fin rfl rfl rfl rfl rfl rfl rfl rfl rfl hst2.out (show 3 < 74 by decide) ?_
  intro a' e2 e3 e4
  exact hK _ _ (ret_at hl3.out rfl e2 e3 (e4.trans rfl) hP.out)
theorem to_sec {k nn : Int} {t : ByteArray} {a : Option Addr} {c : Nat} {l : List Vl} {w : World} {P : Ending -> World -> Prop} (h : TPre .sec w P #[.int .i64 k, .int .i64 nn, .string t, .slice a l.length c] (.slice a l.length c) 5) : Calls Tryz.prog 188 #[.agg #[.int .i64 k, .int .i64 nn, .string t, .slice a l.length c]] w P := by
  obtain ⟨hst, hts, hcall⟩ := h
  dsimp only [LT.tid, LT.zero] at hst hts
  obtain ⟨y0, y1, y2, y3, -⟩ := box_cells hts.1.val
  have HST := hiq hst
  have HTS := hiq hts
  have HC := hiq hcall
  clear hst hts hcall
  go_enter Tryz.func188, Tryz.ntmps188
  generalize hC1 : Code.region 1 _ _ = C1
  have HC1 := hiq hC1
  clear hC1
  generalize hCF : Code.region 10 _ _ = CF
  have HCF := hiq hCF
  clear hCF
  go_wp2_with fail
  rw [<- HC1.out]
  clear HC1
  refine wp_region_cut [2] ?_
  refine wpCut_cons ?_
  simp only [List.take_succ_cons, List.take_zero, List.drop_succ_cons, List.drop_zero]
  go_wp2_with fail
  generalize World.alloc (World.alloc (World.alloc w _) _) _ = W2 at *
  refine wpCut_nil (wpList_stO HST.out rfl _ _ rfl rfl rfl ?_)
  go_wp2_with fail
  clear y0 y1 y2 y3 HST
  generalize putL W2 _ _ _ = W3 at *
  obtain ⟨g, hcl, hbad, hgood⟩ := HC.out _ HTS.out
  clear HC HTS
  refine hcl.mono ?_
  rintro e V0 ⟨rfl, hz⟩
  clear hcl
  cases g
  case false =>
    obtain ⟨A, WF, hl2, hst2, hl3, hP⟩ := hbad rfl _ hz
    clear hbad hgood hz
    dsimp only [LT.tid] at hl2 hst2 hl3
    go_wp2_with (first | ((with_reducible refine wpList_ldL hl2.out rfl _ rfl ?_ ?_); rfl) | ((with_reducible refine wpList_stO hst2.out rfl _ _ rfl ?_ ?_ ?_); rfl; rfl) | fail)
    exact ret_ldL2 hl3.out rfl rfl rfl rfl hP.out
  obtain ⟨bb, off, n9, c9, ha, hn9, hto⟩ := hgood rfl
  replace hto := hto _ hz
  clear hbad hgood hz
  injection ha with ha1 ha2 ha3
  subst ha1
  subst ha2
  subst ha3
  dsimp only [ToC, LT.fk, FK.tfn, FK.ftid, FK.sz, LT.tf, LT.tlf, LT.tid, LT.sl, LT.k] at hto
  simp only [Nat.zero_mul, Nat.add_zero, Nat.zero_add, Nat.reduceAdd, Nat.reduceMul, Nat.one_mul] at hto
  obtain ⟨y3, k1, n1, t1, a1, m1, c1, z0, z1, z2, z3, hm⟩ := hto
  go_wp2_with fail
  refine hm.out.mono ?_
  rintro e V ⟨v, ok0, V1, rfl, hs, hto⟩
  clear y3 z0 z1 z2 z3 hm
  obtain ⟨y3, k1, n1, t1, a1, m1, c1, z0, z1, z2, z3, hm⟩ := hto
  go_wp2_with (first | ((with_reducible refine wpList_stO hs.out rfl _ _ rfl ?_ ?_ ?_); rfl; rfl) | fail)
  clear hs
  refine hm.out.mono ?_
  rintro e V ⟨v, ok1, V1, rfl, hs, hto⟩
  clear y3 z0 z1 z2 z3 hm
  obtain ⟨y3, k1, n1, t1, a1, m1, c1, z0, z1, z2, z3, hm⟩ := hto
  go_wp2_with (first | ((with_reducible refine wpList_stO hs.out rfl _ _ rfl ?_ ?_ ?_); rfl; rfl) | fail)
  clear hs
  refine hm.out.mono ?_
  rintro e V ⟨v, ok2, V1, rfl, hs, hto⟩
  clear y3 z0 z1 z2 z3 hm
  obtain ⟨y3, k1, n1, t1, a1, m1, c1, z0, z1, z2, z3, hm⟩ := hto
  go_wp2_with (first | ((with_reducible refine wpList_stO hs.out rfl _ _ rfl ?_ ?_ ?_); rfl; rfl) | fail)
  clear hs
  refine hm.out.mono ?_
  rintro e V ⟨v, ok3, V1, rfl, hs, hto⟩
  clear y3 z0 z1 z2 z3 hm
  obtain ⟨y3, k1, n1, t1, a1, m1, c1, z0, z1, z2, z3, hm⟩ := hto
  go_wp2_with (first | ((with_reducible refine wpList_stO hs.out rfl _ _ rfl ?_ ?_ ?_); rfl; rfl) | fail)
  clear hs
  refine hm.out.mono ?_
  rintro e V ⟨v, ok4, V1, rfl, hs, hto⟩
  clear y3 z0 z1 z2 z3 hm
  obtain ⟨A, WF, hl2, hst2, hl3, hP⟩ := hto
  go_wp2_with (first | ((with_reducible refine wpList_stO hs.out rfl _ _ rfl ?_ ?_ ?_); rfl; rfl) | fail)
  rename_i K hK
  rw [<- HCF.out]
  clear HCF hs
  try simp only [List.append_eq, List.cons_append, List.nil_append]
  refine wp_region_cut [14] ?_
  refine wpCut_cons ?_
  simp only [List.take_succ_cons, List.take_zero, List.drop_succ_cons, List.drop_zero]
  refine wpCut_list [3, 3, 3, 3, 2] _ _ _ ?_
  refine wpCut_cons ?_
  simp only [List.take_succ_cons, List.take_zero, List.drop_succ_cons, List.drop_zero]
  go_wp2_with (first | ((with_reducible refine wpList_ldL hl2.out rfl _ rfl ?_ ?_); rfl) | fail)
  cases ok0
  case false =>
    refine wpCut_skipC 74 73 61 62 (by kernel_rfl) rfl rfl ?_
    intro a ha hlo hd hs
    show wpCut _ _ [] _ a _
    refine wpCut_fin rfl rfl rfl rfl rfl rfl ((hlo 2 (by decide)).trans rfl) ((hlo 60 (by decide)).trans rfl) ha hst2.out (by rw [hs]; decide) ?_
    intro a' e2 e3 e4
    exact hK _ _ (ret_at hl3.out rfl e2 e3 (e4.trans (hd.trans rfl)) hP.out)
  refine wpCut_cons ?_
  simp only [List.take_succ_cons, List.take_zero, List.drop_succ_cons, List.drop_zero]
  go_wp2_with fail
  cases ok1
  case false =>
    refine wpCut_skipC 74 73 61 65 (by kernel_rfl) rfl rfl ?_
    intro a ha hlo hd hs
    show wpCut _ _ [] _ a _
    refine wpCut_fin rfl rfl rfl rfl rfl rfl ((hlo 2 (by decide)).trans rfl) ((hlo 60 (by decide)).trans rfl) ha hst2.out (by rw [hs]; decide) ?_
    intro a' e2 e3 e4
    exact hK _ _ (ret_at hl3.out rfl e2 e3 (e4.trans (hd.trans rfl)) hP.out)
  refine wpCut_cons ?_
  simp only [List.take_succ_cons, List.take_zero, List.drop_succ_cons, List.drop_zero]
  go_wp2_with fail
  cases ok2
  case false =>
    refine wpCut_skipC 74 73 61 68 (by kernel_rfl) rfl rfl ?_
    intro a ha hlo hd hs
    show wpCut _ _ [] _ a _
    refine wpCut_fin rfl rfl rfl rfl rfl rfl ((hlo 2 (by decide)).trans rfl) ((hlo 60 (by decide)).trans rfl) ha hst2.out (by rw [hs]; decide) ?_
    intro a' e2 e3 e4
    exact hK _ _ (ret_at hl3.out rfl e2 e3 (e4.trans (hd.trans rfl)) hP.out)
  refine wpCut_cons ?_
  simp only [List.take_succ_cons, List.take_zero, List.drop_succ_cons, List.drop_zero]
  go_wp2_with fail
  cases ok3
  case false =>
    refine wpCut_skipC 74 73 61 71 (by kernel_rfl) rfl rfl ?_
    intro a ha hlo hd hs
    show wpCut _ _ [] _ a _
    refine wpCut_fin rfl rfl rfl rfl rfl rfl ((hlo 2 (by decide)).trans rfl) ((hlo 60 (by decide)).trans rfl) ha hst2.out (by rw [hs]; decide) ?_
    intro a' e2 e3 e4
    exact hK _ _ (ret_at hl3.out rfl e2 e3 (e4.trans (hd.trans rfl)) hP.out)
  refine wpCut_cons ?_
  simp only [List.take_succ_cons, List.take_zero, List.drop_succ_cons, List.drop_zero]
  go_wp2_with fail
  refine wpCut_nil (wpList_nil ?_)
  show wpCut _ _ [] _ _ _
  refine wpCut_fin rfl rfl rfl rfl rfl rfl rfl rfl rfl hst2.out (show 3 < 74 by decide) ?_
  intro a' e2 e3 e4
  exact hK _ _ (ret_at hl3.out rfl e2 e3 (e4.trans rfl) hP.out)
end Go.Proofs.YtlbcmeebcfalpaaGreatDoor
namespace Go.Proofs.YtlbcmeebcfalpaaGreatDoor
open Go.RowKit

theorem to_sty {k nn : Int} {t : ByteArray} {a : Option Addr} {c : Nat} {l : List Vl} {w : World} {P : Ending -> World -> Prop} (h : TPre .sty w P #[.int .i64 k, .int .i64 nn, .string t, .slice a l.length c] (.slice a l.length c) 13) : Calls Tryz.prog 86 #[.agg #[.int .i64 k, .int .i64 nn, .string t, .slice a l.length c]] w P := by
  obtain ⟨hst, hts, hcall⟩ := h
  dsimp only [LT.tid, LT.zero] at hst hts
  obtain ⟨y0, y1, y2, y3, -⟩ := box_cells hts.1.val
  have HST := hiq hst
  have HTS := hiq hts
  have HC := hiq hcall
  clear hst hts hcall
  go_enter Tryz.func86, Tryz.ntmps86
  generalize hC1 : Code.region 1 _ _ = C1
  have HC1 := hiq hC1
  clear hC1
  generalize hCF : Code.region 18 _ _ = CF
  have HCF := hiq hCF
  clear hCF
  go_wp2_with fail
  rw [<- HC1.out]
  clear HC1
  refine wp_region_cut [2] ?_
  refine wpCut_cons ?_
  simp only [List.take_succ_cons, List.take_zero, List.drop_succ_cons, List.drop_zero]
  go_wp2_with fail
  generalize World.alloc (World.alloc (World.alloc w _) _) _ = W2 at *
  refine wpCut_nil (wpList_stO HST.out rfl _ _ rfl rfl rfl ?_)
  go_wp2_with fail
  clear y0 y1 y2 y3 HST
  generalize putL W2 _ _ _ = W3 at *
  obtain ⟨g, hcl, hbad, hgood⟩ := HC.out _ HTS.out
  clear HC HTS
  refine hcl.mono ?_
  rintro e V0 ⟨rfl, hz⟩
  clear hcl
  cases g
  case false =>
    obtain ⟨A, WF, hl2, hst2, hl3, hP⟩ := hbad rfl _ hz
    clear hbad hgood hz
    dsimp only [LT.tid] at hl2 hst2 hl3
    go_wp2_with (first | ((with_reducible refine wpList_ldL hl2.out rfl _ rfl ?_ ?_); rfl) | ((with_reducible refine wpList_stO hst2.out rfl _ _ rfl ?_ ?_ ?_); rfl; rfl) | fail)
    exact ret_ldL2 hl3.out rfl rfl rfl rfl hP.out
  obtain ⟨bb, off, n9, c9, ha, hn9, hto⟩ := hgood rfl
  replace hto := hto _ hz
  clear hbad hgood hz
  injection ha with ha1 ha2 ha3
  subst ha1
  subst ha2
  subst ha3
  dsimp only [ToC, LT.fk, FK.tfn, FK.ftid, FK.sz, LT.tf, LT.tlf, LT.tid, LT.sl, LT.k] at hto
  simp only [Nat.zero_mul, Nat.add_zero, Nat.zero_add, Nat.reduceAdd, Nat.reduceMul, Nat.one_mul] at hto
  obtain ⟨y3, k1, n1, t1, a1, m1, c1, z0, z1, z2, z3, hm⟩ := hto
  go_wp2_with fail
  refine hm.out.mono ?_
  rintro e V ⟨v, ok0, V1, rfl, hs, hto⟩
  clear y3 z0 z1 z2 z3 hm
  obtain ⟨y3, k1, n1, t1, a1, m1, c1, z0, z1, z2, z3, hm⟩ := hto
  go_wp2_with (first | ((with_reducible refine wpList_stO hs.out rfl _ _ rfl ?_ ?_ ?_); rfl; rfl) | fail)
  clear hs
  refine hm.out.mono ?_
  rintro e V ⟨v, ok1, V1, rfl, hs, hto⟩
  clear y3 z0 z1 z2 z3 hm
  obtain ⟨y3, k1, n1, t1, a1, m1, c1, z0, z1, z2, z3, hm⟩ := hto
  go_wp2_with (first | ((with_reducible refine wpList_stO hs.out rfl _ _ rfl ?_ ?_ ?_); rfl; rfl) | fail)
  clear hs
  refine hm.out.mono ?_
  rintro e V ⟨v, ok2, V1, rfl, hs, hto⟩
  clear y3 z0 z1 z2 z3 hm
  obtain ⟨y3, k1, n1, t1, a1, m1, c1, z0, z1, z2, z3, hm⟩ := hto
  go_wp2_with (first | ((with_reducible refine wpList_stO hs.out rfl _ _ rfl ?_ ?_ ?_); rfl; rfl) | fail)
  clear hs
  refine hm.out.mono ?_
  rintro e V ⟨v, ok3, V1, rfl, hs, hto⟩
  clear y3 z0 z1 z2 z3 hm
  obtain ⟨y3, k1, n1, t1, a1, m1, c1, z0, z1, z2, z3, hm⟩ := hto
  go_wp2_with (first | ((with_reducible refine wpList_stO hs.out rfl _ _ rfl ?_ ?_ ?_); rfl; rfl) | fail)
  clear hs
  refine hm.out.mono ?_
  rintro e V ⟨v, ok4, V1, rfl, hs, hto⟩
  clear y3 z0 z1 z2 z3 hm
  obtain ⟨y3, k1, n1, t1, a1, m1, c1, z0, z1, z2, z3, hm⟩ := hto
  go_wp2_with (first | ((with_reducible refine wpList_stO hs.out rfl _ _ rfl ?_ ?_ ?_); rfl; rfl) | fail)
  clear hs
  refine hm.out.mono ?_
  rintro e V ⟨v, ok5, V1, rfl, hs, hto⟩
  clear y3 z0 z1 z2 z3 hm
  obtain ⟨y3, k1, n1, t1, a1, m1, c1, z0, z1, z2, z3, hm⟩ := hto
  go_wp2_with (first | ((with_reducible refine wpList_stO hs.out rfl _ _ rfl ?_ ?_ ?_); rfl; rfl) | fail)
  clear hs
  refine hm.out.mono ?_
  rintro e V ⟨v, ok6, V1, rfl, hs, hto⟩
  clear y3 z0 z1 z2 z3 hm
  obtain ⟨y3, k1, n1, t1, a1, m1, c1, z0, z1, z2, z3, hm⟩ := hto
  go_wp2_with (first | ((with_reducible refine wpList_stO hs.out rfl _ _ rfl ?_ ?_ ?_); rfl; rfl) | fail)
  clear hs
  refine hm.out.mono ?_
  rintro e V ⟨v, ok7, V1, rfl, hs, hto⟩
  clear y3 z0 z1 z2 z3 hm
  obtain ⟨y3, k1, n1, t1, a1, m1, c1, z0, z1, z2, z3, hm⟩ := hto
  go_wp2_with (first | ((with_reducible refine wpList_stO hs.out rfl _ _ rfl ?_ ?_ ?_); rfl; rfl) | fail)
  clear hs
  refine hm.out.mono ?_
  rintro e V ⟨v, ok8, V1, rfl, hs, hto⟩
  clear y3 z0 z1 z2 z3 hm
  obtain ⟨y3, k1, n1, t1, a1, m1, c1, z0, z1, z2, z3, hm⟩ := hto
  go_wp2_with (first | ((with_reducible refine wpList_stO hs.out rfl _ _ rfl ?_ ?_ ?_); rfl; rfl) | fail)
  clear hs
  refine hm.out.mono ?_
  rintro e V ⟨v, ok9, V1, rfl, hs, hto⟩
  clear y3 z0 z1 z2 z3 hm
  obtain ⟨y3, k1, n1, t1, a1, m1, c1, z0, z1, z2, z3, hm⟩ := hto
  go_wp2_with (first | ((with_reducible refine wpList_stO hs.out rfl _ _ rfl ?_ ?_ ?_); rfl; rfl) | fail)
  clear hs
  refine hm.out.mono ?_
  rintro e V ⟨v, ok10, V1, rfl, hs, hto⟩
  clear y3 z0 z1 z2 z3 hm
  obtain ⟨y3, k1, n1, t1, a1, m1, c1, z0, z1, z2, z3, hm⟩ := hto
  go_wp2_with (first | ((with_reducible refine wpList_stO hs.out rfl _ _ rfl ?_ ?_ ?_); rfl; rfl) | fail)
  clear hs
  refine hm.out.mono ?_
  rintro e V ⟨v, ok11, V1, rfl, hs, hto⟩
  clear y3 z0 z1 z2 z3 hm
  obtain ⟨y3, k1, n1, t1, a1, m1, c1, z0, z1, z2, z3, hm⟩ := hto
  go_wp2_with (first | ((with_reducible refine wpList_stO hs.out rfl _ _ rfl ?_ ?_ ?_); rfl; rfl) | fail)
  clear hs
  refine hm.out.mono ?_
  rintro e V ⟨v, ok12, V1, rfl, hs, hto⟩
  clear y3 z0 z1 z2 z3 hm
  obtain ⟨A, WF, hl2, hst2, hl3, hP⟩ := hto
  go_wp2_with (first | ((with_reducible refine wpList_stO hs.out rfl _ _ rfl ?_ ?_ ?_); rfl; rfl) | fail)
  rename_i K hK
  rw [<- HCF.out]
  clear HCF hs
  try simp only [List.append_eq, List.cons_append, List.nil_append]
  refine wp_region_cut [38] ?_
  refine wpCut_cons ?_
  simp only [List.take_succ_cons, List.take_zero, List.drop_succ_cons, List.drop_zero]
  refine wpCut_list [3, 3, 3, 3, 3, 3, 3, 3, 3, 3, 3, 3, 2] _ _ _ ?_
  refine wpCut_cons ?_
  simp only [List.take_succ_cons, List.take_zero, List.drop_succ_cons, List.drop_zero]
  go_wp2_with (first | ((with_reducible refine wpList_ldL hl2.out rfl _ rfl ?_ ?_); rfl) | fail)
  cases ok0
  case false =>
    refine wpCut_skipC 178 177 141 142 (by kernel_rfl) rfl rfl ?_
    intro a ha hlo hd hs
    show wpCut _ _ [] _ a _
    refine wpCut_fin rfl rfl rfl rfl rfl rfl ((hlo 2 (by decide)).trans rfl) ((hlo 140 (by decide)).trans rfl) ha hst2.out (by rw [hs]; decide) ?_
    intro a' e2 e3 e4
    exact hK _ _ (ret_at hl3.out rfl e2 e3 (e4.trans (hd.trans rfl)) hP.out)
  refine wpCut_cons ?_
  simp only [List.take_succ_cons, List.take_zero, List.drop_succ_cons, List.drop_zero]
  go_wp2_with fail
  cases ok1
  case false =>
    refine wpCut_skipC 178 177 141 145 (by kernel_rfl) rfl rfl ?_
    intro a ha hlo hd hs
    show wpCut _ _ [] _ a _
    refine wpCut_fin rfl rfl rfl rfl rfl rfl ((hlo 2 (by decide)).trans rfl) ((hlo 140 (by decide)).trans rfl) ha hst2.out (by rw [hs]; decide) ?_
    intro a' e2 e3 e4
    exact hK _ _ (ret_at hl3.out rfl e2 e3 (e4.trans (hd.trans rfl)) hP.out)
  refine wpCut_cons ?_
  simp only [List.take_succ_cons, List.take_zero, List.drop_succ_cons, List.drop_zero]
  go_wp2_with fail
  cases ok2
  case false =>
    refine wpCut_skipC 178 177 141 148 (by kernel_rfl) rfl rfl ?_
    intro a ha hlo hd hs
    show wpCut _ _ [] _ a _
    refine wpCut_fin rfl rfl rfl rfl rfl rfl ((hlo 2 (by decide)).trans rfl) ((hlo 140 (by decide)).trans rfl) ha hst2.out (by rw [hs]; decide) ?_
    intro a' e2 e3 e4
    exact hK _ _ (ret_at hl3.out rfl e2 e3 (e4.trans (hd.trans rfl)) hP.out)
  refine wpCut_cons ?_
  simp only [List.take_succ_cons, List.take_zero, List.drop_succ_cons, List.drop_zero]
  go_wp2_with fail
  cases ok3
  case false =>
    refine wpCut_skipC 178 177 141 151 (by kernel_rfl) rfl rfl ?_
    intro a ha hlo hd hs
    show wpCut _ _ [] _ a _
    refine wpCut_fin rfl rfl rfl rfl rfl rfl ((hlo 2 (by decide)).trans rfl) ((hlo 140 (by decide)).trans rfl) ha hst2.out (by rw [hs]; decide) ?_
    intro a' e2 e3 e4
    exact hK _ _ (ret_at hl3.out rfl e2 e3 (e4.trans (hd.trans rfl)) hP.out)
  refine wpCut_cons ?_
  simp only [List.take_succ_cons, List.take_zero, List.drop_succ_cons, List.drop_zero]
  go_wp2_with fail
  cases ok4
  case false =>
    refine wpCut_skipC 178 177 141 154 (by kernel_rfl) rfl rfl ?_
    intro a ha hlo hd hs
    show wpCut _ _ [] _ a _
    refine wpCut_fin rfl rfl rfl rfl rfl rfl ((hlo 2 (by decide)).trans rfl) ((hlo 140 (by decide)).trans rfl) ha hst2.out (by rw [hs]; decide) ?_
    intro a' e2 e3 e4
    exact hK _ _ (ret_at hl3.out rfl e2 e3 (e4.trans (hd.trans rfl)) hP.out)
  refine wpCut_cons ?_
  simp only [List.take_succ_cons, List.take_zero, List.drop_succ_cons, List.drop_zero]
  go_wp2_with fail
  cases ok5
  case false =>
    refine wpCut_skipC 178 177 141 157 (by kernel_rfl) rfl rfl ?_
    intro a ha hlo hd hs
    show wpCut _ _ [] _ a _
    refine wpCut_fin rfl rfl rfl rfl rfl rfl ((hlo 2 (by decide)).trans rfl) ((hlo 140 (by decide)).trans rfl) ha hst2.out (by rw [hs]; decide) ?_
    intro a' e2 e3 e4
    exact hK _ _ (ret_at hl3.out rfl e2 e3 (e4.trans (hd.trans rfl)) hP.out)
  refine wpCut_cons ?_
  simp only [List.take_succ_cons, List.take_zero, List.drop_succ_cons, List.drop_zero]
  go_wp2_with fail
  cases ok6
  case false =>
    refine wpCut_skipC 178 177 141 160 (by kernel_rfl) rfl rfl ?_
    intro a ha hlo hd hs
    show wpCut _ _ [] _ a _
    refine wpCut_fin rfl rfl rfl rfl rfl rfl ((hlo 2 (by decide)).trans rfl) ((hlo 140 (by decide)).trans rfl) ha hst2.out (by rw [hs]; decide) ?_
    intro a' e2 e3 e4
    exact hK _ _ (ret_at hl3.out rfl e2 e3 (e4.trans (hd.trans rfl)) hP.out)
  refine wpCut_cons ?_
  simp only [List.take_succ_cons, List.take_zero, List.drop_succ_cons, List.drop_zero]
  go_wp2_with fail
  cases ok7
  case false =>
    refine wpCut_skipC 178 177 141 163 (by kernel_rfl) rfl rfl ?_
    intro a ha hlo hd hs
    show wpCut _ _ [] _ a _
    refine wpCut_fin rfl rfl rfl rfl rfl rfl ((hlo 2 (by decide)).trans rfl) ((hlo 140 (by decide)).trans rfl) ha hst2.out (by rw [hs]; decide) ?_
    intro a' e2 e3 e4
    exact hK _ _ (ret_at hl3.out rfl e2 e3 (e4.trans (hd.trans rfl)) hP.out)
  refine wpCut_cons ?_
  simp only [List.take_succ_cons, List.take_zero, List.drop_succ_cons, List.drop_zero]
  go_wp2_with fail
  cases ok8
  case false =>
    refine wpCut_skipC 178 177 141 166 (by kernel_rfl) rfl rfl ?_
    intro a ha hlo hd hs
    show wpCut _ _ [] _ a _
    refine wpCut_fin rfl rfl rfl rfl rfl rfl ((hlo 2 (by decide)).trans rfl) ((hlo 140 (by decide)).trans rfl) ha hst2.out (by rw [hs]; decide) ?_
    intro a' e2 e3 e4
    exact hK _ _ (ret_at hl3.out rfl e2 e3 (e4.trans (hd.trans rfl)) hP.out)
  refine wpCut_cons ?_
  simp only [List.take_succ_cons, List.take_zero, List.drop_succ_cons, List.drop_zero]
  go_wp2_with fail
  cases ok9
  case false =>
    refine wpCut_skipC 178 177 141 169 (by kernel_rfl) rfl rfl ?_
    intro a ha hlo hd hs
    show wpCut _ _ [] _ a _
    refine wpCut_fin rfl rfl rfl rfl rfl rfl ((hlo 2 (by decide)).trans rfl) ((hlo 140 (by decide)).trans rfl) ha hst2.out (by rw [hs]; decide) ?_
    intro a' e2 e3 e4
    exact hK _ _ (ret_at hl3.out rfl e2 e3 (e4.trans (hd.trans rfl)) hP.out)
  refine wpCut_cons ?_
  simp only [List.take_succ_cons, List.take_zero, List.drop_succ_cons, List.drop_zero]
  go_wp2_with fail
  cases ok10
  case false =>
    refine wpCut_skipC 178 177 141 172 (by kernel_rfl) rfl rfl ?_
    intro a ha hlo hd hs
    show wpCut _ _ [] _ a _
    refine wpCut_fin rfl rfl rfl rfl rfl rfl ((hlo 2 (by decide)).trans rfl) ((hlo 140 (by decide)).trans rfl) ha hst2.out (by rw [hs]; decide) ?_
    intro a' e2 e3 e4
    exact hK _ _ (ret_at hl3.out rfl e2 e3 (e4.trans (hd.trans rfl)) hP.out)
  refine wpCut_cons ?_
  simp only [List.take_succ_cons, List.take_zero, List.drop_succ_cons, List.drop_zero]
  go_wp2_with fail
  cases ok11
  case false =>
    refine wpCut_skipC 178 177 141 175 (by kernel_rfl) rfl rfl ?_
    intro a ha hlo hd hs
    show wpCut _ _ [] _ a _
    refine wpCut_fin rfl rfl rfl rfl rfl rfl ((hlo 2 (by decide)).trans rfl) ((hlo 140 (by decide)).trans rfl) ha hst2.out (by rw [hs]; decide) ?_
    intro a' e2 e3 e4
    exact hK _ _ (ret_at hl3.out rfl e2 e3 (e4.trans (hd.trans rfl)) hP.out)
  refine wpCut_cons ?_
  simp only [List.take_succ_cons, List.take_zero, List.drop_succ_cons, List.drop_zero]
  go_wp2_with fail
  refine wpCut_nil (wpList_nil ?_)
  show wpCut _ _ [] _ _ _
  refine wpCut_fin rfl rfl rfl rfl rfl rfl rfl rfl rfl hst2.out (show 3 < 178 by decide) ?_
  intro a' e2 e3 e4
  exact hK _ _ (ret_at hl3.out rfl e2 e3 (e4.trans rfl) hP.out)
end Go.Proofs.YtlbcmeebcfalpaaGreatDoor
namespace Go.Proofs.YtlbcmeebcfalpaaGreatDoor
open Go.RowKit

theorem to_edi {k nn : Int} {t : ByteArray} {a : Option Addr} {c : Nat} {l : List Vl} {w : World} {P : Ending -> World -> Prop} (h : TPre .edi w P #[.int .i64 k, .int .i64 nn, .string t, .slice a l.length c] (.slice a l.length c) 10) : Calls Tryz.prog 35 #[.agg #[.int .i64 k, .int .i64 nn, .string t, .slice a l.length c]] w P := by
  obtain ⟨hst, hts, hcall⟩ := h
  dsimp only [LT.tid, LT.zero] at hst hts
  obtain ⟨y0, y1, y2, y3, -⟩ := box_cells hts.1.val
  have HST := hiq hst
  have HTS := hiq hts
  have HC := hiq hcall
  clear hst hts hcall
  go_enter Tryz.func35, Tryz.ntmps35
  generalize hC1 : Code.region 1 _ _ = C1
  have HC1 := hiq hC1
  clear hC1
  generalize hCF : Code.region 15 _ _ = CF
  have HCF := hiq hCF
  clear hCF
  go_wp2_with fail
  rw [<- HC1.out]
  clear HC1
  refine wp_region_cut [2] ?_
  refine wpCut_cons ?_
  simp only [List.take_succ_cons, List.take_zero, List.drop_succ_cons, List.drop_zero]
  go_wp2_with fail
  generalize World.alloc (World.alloc (World.alloc w _) _) _ = W2 at *
  refine wpCut_nil (wpList_stO HST.out rfl _ _ rfl rfl rfl ?_)
  go_wp2_with fail
  clear y0 y1 y2 y3 HST
  generalize putL W2 _ _ _ = W3 at *
  obtain ⟨g, hcl, hbad, hgood⟩ := HC.out _ HTS.out
  clear HC HTS
  refine hcl.mono ?_
  rintro e V0 ⟨rfl, hz⟩
  clear hcl
  cases g
  case false =>
    obtain ⟨A, WF, hl2, hst2, hl3, hP⟩ := hbad rfl _ hz
    clear hbad hgood hz
    dsimp only [LT.tid] at hl2 hst2 hl3
    go_wp2_with (first | ((with_reducible refine wpList_ldL hl2.out rfl _ rfl ?_ ?_); rfl) | ((with_reducible refine wpList_stO hst2.out rfl _ _ rfl ?_ ?_ ?_); rfl; rfl) | fail)
    exact ret_ldL2 hl3.out rfl rfl rfl rfl hP.out
  obtain ⟨bb, off, n9, c9, ha, hn9, hto⟩ := hgood rfl
  replace hto := hto _ hz
  clear hbad hgood hz
  injection ha with ha1 ha2 ha3
  subst ha1
  subst ha2
  subst ha3
  dsimp only [ToC, LT.fk, FK.tfn, FK.ftid, FK.sz, LT.tf, LT.tlf, LT.tid, LT.sl, LT.k] at hto
  simp only [Nat.zero_mul, Nat.add_zero, Nat.zero_add, Nat.reduceAdd, Nat.reduceMul, Nat.one_mul] at hto
  obtain ⟨y3, k1, n1, t1, a1, m1, c1, z0, z1, z2, z3, hm⟩ := hto
  go_wp2_with fail
  refine hm.out.mono ?_
  rintro e V ⟨v, ok0, V1, rfl, hs, hto⟩
  clear y3 z0 z1 z2 z3 hm
  obtain ⟨y3, k1, n1, t1, a1, m1, c1, z0, z1, z2, z3, hm⟩ := hto
  go_wp2_with (first | ((with_reducible refine wpList_stO hs.out rfl _ _ rfl ?_ ?_ ?_); rfl; rfl) | fail)
  clear hs
  refine hm.out.mono ?_
  rintro e V ⟨v, ok1, V1, rfl, hs, hto⟩
  clear y3 z0 z1 z2 z3 hm
  obtain ⟨y3, k1, n1, t1, a1, m1, c1, z0, z1, z2, z3, hm⟩ := hto
  go_wp2_with (first | ((with_reducible refine wpList_stO hs.out rfl _ _ rfl ?_ ?_ ?_); rfl; rfl) | fail)
  clear hs
  refine hm.out.mono ?_
  rintro e V ⟨v, ok2, V1, rfl, hs, hto⟩
  clear y3 z0 z1 z2 z3 hm
  obtain ⟨y3, k1, n1, t1, a1, m1, c1, z0, z1, z2, z3, hm⟩ := hto
  go_wp2_with (first | ((with_reducible refine wpList_stO hs.out rfl _ _ rfl ?_ ?_ ?_); rfl; rfl) | fail)
  clear hs
  refine hm.out.mono ?_
  rintro e V ⟨v, ok3, V1, rfl, hs, hto⟩
  clear y3 z0 z1 z2 z3 hm
  obtain ⟨y3, k1, n1, t1, a1, m1, c1, z0, z1, z2, z3, hm⟩ := hto
  go_wp2_with (first | ((with_reducible refine wpList_stO hs.out rfl _ _ rfl ?_ ?_ ?_); rfl; rfl) | fail)
  clear hs
  refine hm.out.mono ?_
  rintro e V ⟨v, ok4, V1, rfl, hs, hto⟩
  clear y3 z0 z1 z2 z3 hm
  obtain ⟨y3, k1, n1, t1, a1, m1, c1, z0, z1, z2, z3, hm⟩ := hto
  go_wp2_with (first | ((with_reducible refine wpList_stO hs.out rfl _ _ rfl ?_ ?_ ?_); rfl; rfl) | fail)
  clear hs
  refine hm.out.mono ?_
  rintro e V ⟨v, ok5, V1, rfl, hs, hto⟩
  clear y3 z0 z1 z2 z3 hm
  obtain ⟨y3, k1, n1, t1, a1, m1, c1, z0, z1, z2, z3, hm⟩ := hto
  go_wp2_with (first | ((with_reducible refine wpList_stO hs.out rfl _ _ rfl ?_ ?_ ?_); rfl; rfl) | fail)
  clear hs
  refine hm.out.mono ?_
  rintro e V ⟨v, ok6, V1, rfl, hs, hto⟩
  clear y3 z0 z1 z2 z3 hm
  obtain ⟨y3, k1, n1, t1, a1, m1, c1, z0, z1, z2, z3, hm⟩ := hto
  go_wp2_with (first | ((with_reducible refine wpList_stO hs.out rfl _ _ rfl ?_ ?_ ?_); rfl; rfl) | fail)
  clear hs
  refine hm.out.mono ?_
  rintro e V ⟨v, ok7, V1, rfl, hs, hto⟩
  clear y3 z0 z1 z2 z3 hm
  obtain ⟨y3, k1, n1, t1, a1, m1, c1, z0, z1, z2, z3, hm⟩ := hto
  go_wp2_with (first | ((with_reducible refine wpList_stO hs.out rfl _ _ rfl ?_ ?_ ?_); rfl; rfl) | fail)
  clear hs
  refine hm.out.mono ?_
  rintro e V ⟨v, ok8, V1, rfl, hs, hto⟩
  clear y3 z0 z1 z2 z3 hm
  obtain ⟨y3, k1, n1, t1, a1, m1, c1, z0, z1, z2, z3, hm⟩ := hto
  go_wp2_with (first | ((with_reducible refine wpList_stO hs.out rfl _ _ rfl ?_ ?_ ?_); rfl; rfl) | fail)
  clear hs
  refine hm.out.mono ?_
  rintro e V ⟨v, ok9, V1, rfl, hs, hto⟩
  clear y3 z0 z1 z2 z3 hm
  obtain ⟨A, WF, hl2, hst2, hl3, hP⟩ := hto
  go_wp2_with (first | ((with_reducible refine wpList_stO hs.out rfl _ _ rfl ?_ ?_ ?_); rfl; rfl) | fail)
  rename_i K hK
  rw [<- HCF.out]
  clear HCF hs
  try simp only [List.append_eq, List.cons_append, List.nil_append]
  refine wp_region_cut [29] ?_
  refine wpCut_cons ?_
  simp only [List.take_succ_cons, List.take_zero, List.drop_succ_cons, List.drop_zero]
  refine wpCut_list [3, 3, 3, 3, 3, 3, 3, 3, 3, 2] _ _ _ ?_
  refine wpCut_cons ?_
  simp only [List.take_succ_cons, List.take_zero, List.drop_succ_cons, List.drop_zero]
  go_wp2_with (first | ((with_reducible refine wpList_ldL hl2.out rfl _ rfl ?_ ?_); rfl) | fail)
  cases ok0
  case false =>
    refine wpCut_skipC 139 138 111 112 (by kernel_rfl) rfl rfl ?_
    intro a ha hlo hd hs
    show wpCut _ _ [] _ a _
    refine wpCut_fin rfl rfl rfl rfl rfl rfl ((hlo 2 (by decide)).trans rfl) ((hlo 110 (by decide)).trans rfl) ha hst2.out (by rw [hs]; decide) ?_
    intro a' e2 e3 e4
    exact hK _ _ (ret_at hl3.out rfl e2 e3 (e4.trans (hd.trans rfl)) hP.out)
  refine wpCut_cons ?_
  simp only [List.take_succ_cons, List.take_zero, List.drop_succ_cons, List.drop_zero]
  go_wp2_with fail
  cases ok1
  case false =>
    refine wpCut_skipC 139 138 111 115 (by kernel_rfl) rfl rfl ?_
    intro a ha hlo hd hs
    show wpCut _ _ [] _ a _
    refine wpCut_fin rfl rfl rfl rfl rfl rfl ((hlo 2 (by decide)).trans rfl) ((hlo 110 (by decide)).trans rfl) ha hst2.out (by rw [hs]; decide) ?_
    intro a' e2 e3 e4
    exact hK _ _ (ret_at hl3.out rfl e2 e3 (e4.trans (hd.trans rfl)) hP.out)
  refine wpCut_cons ?_
  simp only [List.take_succ_cons, List.take_zero, List.drop_succ_cons, List.drop_zero]
  go_wp2_with fail
  cases ok2
  case false =>
    refine wpCut_skipC 139 138 111 118 (by kernel_rfl) rfl rfl ?_
    intro a ha hlo hd hs
    show wpCut _ _ [] _ a _
    refine wpCut_fin rfl rfl rfl rfl rfl rfl ((hlo 2 (by decide)).trans rfl) ((hlo 110 (by decide)).trans rfl) ha hst2.out (by rw [hs]; decide) ?_
    intro a' e2 e3 e4
    exact hK _ _ (ret_at hl3.out rfl e2 e3 (e4.trans (hd.trans rfl)) hP.out)
  refine wpCut_cons ?_
  simp only [List.take_succ_cons, List.take_zero, List.drop_succ_cons, List.drop_zero]
  go_wp2_with fail
  cases ok3
  case false =>
    refine wpCut_skipC 139 138 111 121 (by kernel_rfl) rfl rfl ?_
    intro a ha hlo hd hs
    show wpCut _ _ [] _ a _
    refine wpCut_fin rfl rfl rfl rfl rfl rfl ((hlo 2 (by decide)).trans rfl) ((hlo 110 (by decide)).trans rfl) ha hst2.out (by rw [hs]; decide) ?_
    intro a' e2 e3 e4
    exact hK _ _ (ret_at hl3.out rfl e2 e3 (e4.trans (hd.trans rfl)) hP.out)
  refine wpCut_cons ?_
  simp only [List.take_succ_cons, List.take_zero, List.drop_succ_cons, List.drop_zero]
  go_wp2_with fail
  cases ok4
  case false =>
    refine wpCut_skipC 139 138 111 124 (by kernel_rfl) rfl rfl ?_
    intro a ha hlo hd hs
    show wpCut _ _ [] _ a _
    refine wpCut_fin rfl rfl rfl rfl rfl rfl ((hlo 2 (by decide)).trans rfl) ((hlo 110 (by decide)).trans rfl) ha hst2.out (by rw [hs]; decide) ?_
    intro a' e2 e3 e4
    exact hK _ _ (ret_at hl3.out rfl e2 e3 (e4.trans (hd.trans rfl)) hP.out)
  refine wpCut_cons ?_
  simp only [List.take_succ_cons, List.take_zero, List.drop_succ_cons, List.drop_zero]
  go_wp2_with fail
  cases ok5
  case false =>
    refine wpCut_skipC 139 138 111 127 (by kernel_rfl) rfl rfl ?_
    intro a ha hlo hd hs
    show wpCut _ _ [] _ a _
    refine wpCut_fin rfl rfl rfl rfl rfl rfl ((hlo 2 (by decide)).trans rfl) ((hlo 110 (by decide)).trans rfl) ha hst2.out (by rw [hs]; decide) ?_
    intro a' e2 e3 e4
    exact hK _ _ (ret_at hl3.out rfl e2 e3 (e4.trans (hd.trans rfl)) hP.out)
  refine wpCut_cons ?_
  simp only [List.take_succ_cons, List.take_zero, List.drop_succ_cons, List.drop_zero]
  go_wp2_with fail
  cases ok6
  case false =>
    refine wpCut_skipC 139 138 111 130 (by kernel_rfl) rfl rfl ?_
    intro a ha hlo hd hs
    show wpCut _ _ [] _ a _
    refine wpCut_fin rfl rfl rfl rfl rfl rfl ((hlo 2 (by decide)).trans rfl) ((hlo 110 (by decide)).trans rfl) ha hst2.out (by rw [hs]; decide) ?_
    intro a' e2 e3 e4
    exact hK _ _ (ret_at hl3.out rfl e2 e3 (e4.trans (hd.trans rfl)) hP.out)
  refine wpCut_cons ?_
  simp only [List.take_succ_cons, List.take_zero, List.drop_succ_cons, List.drop_zero]
  go_wp2_with fail
  cases ok7
  case false =>
    refine wpCut_skipC 139 138 111 133 (by kernel_rfl) rfl rfl ?_
    intro a ha hlo hd hs
    show wpCut _ _ [] _ a _
    refine wpCut_fin rfl rfl rfl rfl rfl rfl ((hlo 2 (by decide)).trans rfl) ((hlo 110 (by decide)).trans rfl) ha hst2.out (by rw [hs]; decide) ?_
    intro a' e2 e3 e4
    exact hK _ _ (ret_at hl3.out rfl e2 e3 (e4.trans (hd.trans rfl)) hP.out)
  refine wpCut_cons ?_
  simp only [List.take_succ_cons, List.take_zero, List.drop_succ_cons, List.drop_zero]
  go_wp2_with fail
  cases ok8
  case false =>
    refine wpCut_skipC 139 138 111 136 (by kernel_rfl) rfl rfl ?_
    intro a ha hlo hd hs
    show wpCut _ _ [] _ a _
    refine wpCut_fin rfl rfl rfl rfl rfl rfl ((hlo 2 (by decide)).trans rfl) ((hlo 110 (by decide)).trans rfl) ha hst2.out (by rw [hs]; decide) ?_
    intro a' e2 e3 e4
    exact hK _ _ (ret_at hl3.out rfl e2 e3 (e4.trans (hd.trans rfl)) hP.out)
  refine wpCut_cons ?_
  simp only [List.take_succ_cons, List.take_zero, List.drop_succ_cons, List.drop_zero]
  go_wp2_with fail
  refine wpCut_nil (wpList_nil ?_)
  show wpCut _ _ [] _ _ _
  refine wpCut_fin rfl rfl rfl rfl rfl rfl rfl rfl rfl hst2.out (show 3 < 139 by decide) ?_
  intro a' e2 e3 e4
  exact hK _ _ (ret_at hl3.out rfl e2 e3 (e4.trans rfl) hP.out)
end Go.Proofs.YtlbcmeebcfalpaaGreatDoor
namespace Go.Proofs.YtlbcmeebcfalpaaGreatDoor
open Go.RowKit

@[reducible] def LT.isR : LT -> Bool | .int => true | .text => true | .bool => true | .pos => false | .tok => false | .inp => false | .toks => false | _ => true
@[reducible] def FK.ok3 : FK -> Bool | .one U => U.isR | .many U => U.isL
theorem LT.fk_ok3 (T : LT) (h : T.isF = true) : (∀ x ∈ T.fk, x.ok3 = true) /\ 0 < T.fk.length /\ T.fk.length <= 100 := by cases T <;> first | (cases h; done) | decide
def ROk (v : Vl) : Prop := ∀ T : LT, T.isR = true -> ∀ (S : Nat -> Prop) (w : World), Rd S w v -> (∀ b, S b -> b < w.heap.size) -> SmV v.er -> Calls Tryz.prog T.tf #[v.val] w (ToQ T.ty v.er w)
def LOk (v : Vl) : Prop := ∀ T : LT, T.isL = true -> ∀ (S : Nat -> Prop) (w : World), Rd S w v -> (∀ b, S b -> b < w.heap.size) -> SmV v.er -> Calls Tryz.prog T.tlf #[v.val] w (ToQ (.list T.k T.s T.ty) v.er w)
theorem to_st (T : LT) (hF : T.isF = true) {k nn : Int} {t : ByteArray} {a : Option Addr} {c : Nat} {l : List Vl} {w : World} {P : Ending -> World -> Prop} (h : TPre T w P #[.int .i64 k, .int .i64 nn, .string t, .slice a l.length c] (.slice a l.length c) T.fk.length) : Calls Tryz.prog T.tf #[.agg #[.int .i64 k, .int .i64 nn, .string t, .slice a l.length c]] w P := by
  cases T
  case op => exact to_op h
  case dec => exact to_dec h
  case rew => exact to_rew h
  case grp => exact to_grp h
  case pat => exact to_pat h
  case sec => exact to_sec h
  case rul => exact to_rul h
  case wit => exact to_wit h
  case nod => exact to_nod h
  case exp => exact to_exp h
  case cst => exact to_cst h
  case sty => exact to_sty h
  case edi => exact to_edi h
  all_goals cases hF
theorem LT.r_cases (T : LT) (h : T.isR = true) : T = .int \/ T = .text \/ T = .bool \/ T.isF = true := by
  cases T <;> first | exact .inl rfl | exact .inr (.inl rfl) | exact .inr (.inr (.inl rfl)) | exact .inr (.inr (.inr rfl)) | cases h
theorem LT.l_cases (T : LT) (h : T.isL = true) : (T.isLA = true \/ T.isLB = true) /\ T.isR = true := by
  cases T <;> first | exact ⟨.inl rfl, rfl⟩ | exact ⟨.inr rfl, rfl⟩ | cases h
theorem r_all (v : Vl) : ROk v /\ LOk v := by
  induction v using Vl.ind with
  | h v ih =>
    refine ⟨fun T hT S w hr hS hm => ?_, fun T hT S w hr hS hm => ?_⟩
    · rcases T.r_cases hT with rfl | rfl | rfl | hF
      · exact toInt_ref S v w hr
      · exact toText_ref S v w hr
      · exact toBool_ref S v w hr
      · obtain ⟨g1, g2⟩ := T.fk_ok3 hF
        obtain ⟨k, nn, t, a, c, l⟩ := v
        obtain ⟨m1, m2⟩ := smV_iff.1 hm
        rw [Vl.er_items] at m1 m2
        have m1 : l.length <= 70000 := by have : (l.map Vl.er).length <= 70000 := m1; rwa [List.length_map] at this
        refine to_st T hF (tpre_of T (LT.isF_W hF) hr hS m1 g2 fun x hx u hu W hW => ?_)
        obtain ⟨j, hj⟩ := List.mem_iff_getElem?.1 hu
        have hru : Rd S W u := (((rd_iff.1 hr).2.2.2).2.2.2 j u hj).2.below hW
        have hSW : ∀ b, S b -> b < W.heap.size := fun b hb => Nat.lt_of_lt_of_le (hS b hb) hW.size
        have hmu : SmV u.er := m2 _ (List.mem_map_of_mem hu)
        have hi := ih u hu
        have ho := g1 x hx
        cases x with
        | one U => exact hi.1 U ho S W hru hSW hmu
        | many U => exact hi.2 U ho S W hru hSW hmu
    · obtain ⟨hc, hR⟩ := T.l_cases hT
      obtain ⟨m1, m2⟩ := smV_iff.1 hm
      rw [Vl.er_items] at m1 m2
      rw [List.length_map] at m1
      have hit : ∀ u ∈ v.items, ∀ W, Below w.heap.size w W -> Calls Tryz.prog T.tf #[u.val] W (ToQ T.ty u.er W) := fun u hu W hW => by
        obtain ⟨j, hj⟩ := List.mem_iff_getElem?.1 hu
        have hru : Rd S W u := (((rd_iff.1 hr).2.2.2).2.2.2 j u hj).2.below hW
        exact (ih u hu).1 T hR S W hru (fun b hb => Nat.lt_of_lt_of_le (hS b hb) hW.size) (m2 _ (List.mem_map_of_mem hu))
      rcases hc with hc | hc
      · exact tla_any T hc hr hS m1 hit
      · exact tlb_any T hc hr hS m1 hit
/-- The reference's reading of an edition. -/
theorem toEdition_ref (S : Nat -> Prop) (v : Vl) (w : World) (hr : Rd S w v) (hS : ∀ b, S b -> b < w.heap.size) (hm : SmV v.er) : Calls Tryz.prog 35 #[v.val] w (ToQ tyEdition v.er w) := (r_all v).1 .edi rfl S w hr hS hm
end Go.Proofs.YtlbcmeebcfalpaaGreatDoor
