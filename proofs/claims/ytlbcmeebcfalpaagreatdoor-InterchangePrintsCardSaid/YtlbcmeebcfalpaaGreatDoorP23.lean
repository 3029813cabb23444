/- Joined: IRfA, IRfB, IRfC, IRfD, IRfY. -/
import Derived.Test.YtlbcmeebcfalpaaGreatDoorP22
set_option linter.unusedVariables false
set_option linter.unusedSimpArgs false
set_option maxRecDepth 100000
set_option maxHeartbeats 16000000
namespace Go.Proofs.YtlbcmeebcfalpaaGreatDoor
open Go.RowKit

theorem LT.isA_F {T : LT} (h : T.isA = true) : T.isF = true := by cases T <;> first | rfl | cases h
theorem rfA_any (T : LT) (hL : T.isA = true) (f : Nat) (h : ReadsL T.ts (f - 1) T.rd) : Reads T.ty f T.fi (fun p => #[p, .func (.func T.rd) #[] #[]]) := by
  refine .of fun S rb wb a n c l g w hr hv hS hSw hG => ?_
  have hb1 : Below w.heap.size w (w.alloc (.cells T.zero.toArray T.tid)) := (Below.refl _ _).alloc (Nat.le_refl _) _
  have hz := World.alloc_heap_new w (.cells T.zero.toArray T.tid)
  have hr1 := hr.below hb1
  have hv1 := hv.below hb1
  have hlt := hr.lt
  have HS := hiq hS
  have HG := hiq hG
  have HF : Hid (∀ (W2 W3 W4 : World) (kk nn : Int) (t : ByteArray) (aa : Option Addr) (cc : Nat) (ll l' : List Vl) (a' : Option Addr) (n' c' : Nat) (g1 : Bool), Nx 3 l g (.mk kk nn t aa cc ll) l' g1 -> Inn S f rb wb W3 W4 aa cc ll a' n' c' l' g1 -> Below w.heap.size w W2 -> W2.heap[w.heap.size]? = some (.cells T.zero.toArray T.tid (0, 0)) -> Exc (Two rb wb) W2 W3 -> Below W3.heap.size W3 W4 -> Calls Tryz.prog T.rd #[.pointer (some ⟨W3.heap.size, 0, none⟩)] W4 (T.Fld S rb wb l g w W3)) := fun W2 W3 W4 kk nn t aa cc ll l' a' n' c' g1 hx hI hb2 hz2 hE3 hb4 =>
    (h (InS S W3) W3.heap.size wb aa ll.length cc ll g1 W4 hI.own hI.items hI.off hI.good).mono fun e W5 hm => T.fld_of (LT.isA_F hL) hx hI hG hb2 hz2 hSw hS hlt hE3 hb4 hm
  have hz1 : w.heap.size < (w.alloc (.cells T.zero.toArray T.tid)).heap.size := by simp
  clear h hr hv hS hG hSw
  cases T
  case' op => go_enter Tryz.func228, Tryz.ntmps228
  case' dec => go_enter Tryz.func231, Tryz.ntmps231
  case' rew => go_enter Tryz.func159, Tryz.ntmps159
  case' grp => go_enter Tryz.func167, Tryz.ntmps167
  case pat => cases hL
  case sec => cases hL
  case rul => cases hL
  case wit => cases hL
  case nod => cases hL
  case exp => cases hL
  case cst => cases hL
  case sty => cases hL
  case edi => cases hL
  case int => cases hL
  case bool => cases hL
  case text => cases hL
  case pos => cases hL
  case tok => cases hL
  case inp => cases hL
  case toks => cases hL
  all_goals
    dsimp only [LT.ty, LT.fi, LT.rd, LT.tid, LT.zero] at *
    go_wp2_with fail
    generalize w.alloc (.cells _ _) = W1 at *
    obtain ⟨-, x1, -, -, -⟩ := hr1.cells
    obtain ⟨X, Wf, hX, q1, hS2⟩ := family (fun V => V.cell? ⟨rb, 1, none⟩ = some (.pointer (some ⟨wb, 0, none⟩))) W1 x1
    have HS2 := hiq hS2
    have hd : Below W1.heap.size W1 W1.drew := (Below.refl _ _).drew
    have hd0 : W1.drew.cell? ⟨rb, 1, none⟩ = some (.pointer (some ⟨wb, 0, none⟩)) := x1
    have HN := hiq (next_any S rb wb 3 a n c l g W1.drew (hr1.below hd) (hv1.below hd) HS.out)
    have HB1 := hiq (hb1.trans (hd.mono hb1.size))
    have HZ := hiq ((hd.block w.heap.size hz1).trans hz)
    clear hS2 x1 hb1 hz hr1 hv1 hz1 hL
    refine wp_region_tree (Wf := Wf) 9 (.read 0 (.read 3 (.read 4 (.read 5 (.read 6 (.act 1 (.read 2 (.read 7 (.act 8 .fin))))))))) (by kernel_rfl) (by kernel_rfl) (fun _ _ d _ _ h => by cases d <;> exact h) (HS2.out _ hd0) ?_
    clear hd hd0
    generalize _root_.Go.World.drew _ = W2 at *
    refine wpTree_read _ rfl (fun K hK => ?_); unfold rOp; go_simp; (refine hK _ ?_; clear hK K)
    refine wpTree_read _ rfl (fun K hK => ?_); unfold rOp; go_simp; (refine hK _ ?_; clear hK K)
    refine wpTree_read _ rfl (fun K hK => ?_); unfold rOp; go_simp; (refine hK _ ?_; clear hK K)
    refine wpTree_read _ rfl (fun K hK => ?_); unfold rOp; go_simp; (refine hK _ ?_; clear hK K)
    refine wpTree_read _ rfl (fun K hK => ?_); unfold rOp; go_simp; (refine hK _ ?_; clear hK K)
    refine wpTree_act _ rfl ?_
    go_wp2_with fail
    refine HN.out.mono ?_
    rintro e W3 ⟨⟨kk, nn, t, aa, cc, ll⟩, a', n', c', l', g1, he, hx, hr3, hv3, hrd, hE⟩
    change e = .returned (.agg #[.int .i64 kk, .int .i64 nn, .string t, .slice aa ll.length cc]) at he
    subst he
    have hfd := valItems kk nn t aa ll.length cc
    go_wp2_with fail
    refine ⟨HS2.out _ hr3.cells.2.1, ?_⟩
    refine wpTree_read _ rfl (fun K hK => ?_); unfold rOp; go_simp; (refine hK _ ?_; clear hK K)
    refine wpTree_read _ rfl (fun K hK => ?_); unfold rOp; go_simp; (refine hK _ ?_; clear hK K)
    refine wpTree_act _ rfl ?_
    go_wp2_with fail
    have hI := Inn.mk' hx hr3 hv3 hrd HS.out HG.out
    have hb4 : Below W3.heap.size W3 (W3.alloc (.cells #[.slice aa ll.length cc, .pointer (some ⟨wb, 0, none⟩)] 74)) := (Below.refl _ _).alloc (Nat.le_refl _) _
    have hz4 : (W3.alloc (.cells #[.slice aa ll.length cc, .pointer (some ⟨wb, 0, none⟩)] 74)).heap.size = W3.heap.size + 1 := by simp
    generalize W3.alloc (.cells #[.slice aa ll.length cc, .pointer (some ⟨wb, 0, none⟩)] 74) = W4 at *
    refine ⟨HS2.out _ hI.outer.cells.2.1, ?_⟩
    refine wpTree_fin ?_
    have HM := hiq (HF.out _ _ _ _ _ _ _ _ _ _ _ _ _ _ hx hI HB1.out HZ.out hE hb4)
    clear hI hr3 hv3 hrd hE hb4 hz4 q1 HS2 hX hfd hx HF HN HB1 HZ
    go_wp2_with fail
    refine HM.out.mono ?_
    rintro e W5 ⟨d, a5, n5, c5, g5, WF, WG, he, hi, k1, k2, k3, k4, k5, o0, u1, u2, u3, sn, gt0, st0, hgt, HF, gt1, st1, hgt1, HG2⟩
    dsimp only [LT.Inv] at hi
    repeat (rcases (hi : ∃ _, _) with ⟨_, hi⟩)
    subst hi
    simp only [StL, LdV, Dv.cells, Dv.cellsL, List.cons_append, List.nil_append, List.append_nil, LT.k, LT.tid, LT.zero] at he sn gt0 st0 hgt gt1 st1 hgt1
    subst he
    have HF := hiq HF
    have HG2 := hiq HG2
    have HSN := hiq sn
    clear HM sn
    by_cases h0 : n5 = 0
    · subst h0
      clear gt1 st1 hgt1 HG2
      have HST := hiq st0
      have HGT := hiq hgt
      have HLD := hiq gt0
      clear st0 gt0 hgt
      go_wp2_with (first | ((with_reducible refine wpList_stL HSN.out rfl _ _ _ rfl ?_ ?_ ?_ ?_); rfl; rfl; kernel_rfl) | ((with_reducible refine wpList_ldL HLD.out rfl _ rfl ?_ ?_); rfl) | ((with_reducible refine wpList_stL HST.out rfl _ _ _ rfl ?_ ?_ ?_ ?_); rfl; rfl; kernel_rfl))
      exact ret_ldL HGT.out rfl rfl rfl (HF.out (by trivial))
    · have h1 : 0 < n5 := by omega
      clear gt0 st0 hgt HF
      have HST := hiq st1
      have HGT := hiq hgt1
      have HLD := hiq gt1
      clear st1 gt1 hgt1
      go_wp2_with (first | ((with_reducible refine wpList_stL HSN.out rfl _ _ _ rfl ?_ ?_ ?_ ?_); rfl; rfl; kernel_rfl) | ((with_reducible refine wpList_ldL HLD.out rfl _ rfl ?_ ?_); rfl) | ((with_reducible refine wpList_stL HST.out rfl _ _ _ rfl ?_ ?_ ?_ ?_); rfl; rfl; kernel_rfl))
      exact ret_ldL HGT.out rfl rfl rfl (HG2.out h1)
end Go.Proofs.YtlbcmeebcfalpaaGreatDoor
namespace Go.Proofs.YtlbcmeebcfalpaaGreatDoor
open Go.RowKit

theorem LT.isB_F {T : LT} (h : T.isB = true) : T.isF = true := by cases T <;> first | rfl | cases h
theorem rfB_any (T : LT) (hL : T.isB = true) (f : Nat) (h : ReadsL T.ts (f - 1) T.rd) : Reads T.ty f T.fi (fun p => #[p, .func (.func T.rd) #[] #[]]) := by
  refine .of fun S rb wb a n c l g w hr hv hS hSw hG => ?_
  have hb1 : Below w.heap.size w (w.alloc (.cells T.zero.toArray T.tid)) := (Below.refl _ _).alloc (Nat.le_refl _) _
  have hz := World.alloc_heap_new w (.cells T.zero.toArray T.tid)
  have hr1 := hr.below hb1
  have hv1 := hv.below hb1
  have hlt := hr.lt
  have HS := hiq hS
  have HG := hiq hG
  have HF : Hid (∀ (W2 W3 W4 : World) (kk nn : Int) (t : ByteArray) (aa : Option Addr) (cc : Nat) (ll l' : List Vl) (a' : Option Addr) (n' c' : Nat) (g1 : Bool), Nx 3 l g (.mk kk nn t aa cc ll) l' g1 -> Inn S f rb wb W3 W4 aa cc ll a' n' c' l' g1 -> Below w.heap.size w W2 -> W2.heap[w.heap.size]? = some (.cells T.zero.toArray T.tid (0, 0)) -> Exc (Two rb wb) W2 W3 -> Below W3.heap.size W3 W4 -> Calls Tryz.prog T.rd #[.pointer (some ⟨W3.heap.size, 0, none⟩)] W4 (T.Fld S rb wb l g w W3)) := fun W2 W3 W4 kk nn t aa cc ll l' a' n' c' g1 hx hI hb2 hz2 hE3 hb4 =>
    (h (InS S W3) W3.heap.size wb aa ll.length cc ll g1 W4 hI.own hI.items hI.off hI.good).mono fun e W5 hm => T.fld_of (LT.isB_F hL) hx hI hG hb2 hz2 hSw hS hlt hE3 hb4 hm
  have hz1 : w.heap.size < (w.alloc (.cells T.zero.toArray T.tid)).heap.size := by simp
  clear h hr hv hS hG hSw
  cases T
  case' pat => go_enter Tryz.func171, Tryz.ntmps171
  case' sec => go_enter Tryz.func174, Tryz.ntmps174
  case' rul => go_enter Tryz.func162, Tryz.ntmps162
  case op => cases hL
  case dec => cases hL
  case rew => cases hL
  case grp => cases hL
  case wit => cases hL
  case nod => cases hL
  case exp => cases hL
  case cst => cases hL
  case sty => cases hL
  case edi => cases hL
  case int => cases hL
  case bool => cases hL
  case text => cases hL
  case pos => cases hL
  case tok => cases hL
  case inp => cases hL
  case toks => cases hL
  all_goals
    dsimp only [LT.ty, LT.fi, LT.rd, LT.tid, LT.zero] at *
    go_wp2_with fail
    generalize w.alloc (.cells _ _) = W1 at *
    obtain ⟨-, x1, -, -, -⟩ := hr1.cells
    obtain ⟨X, Wf, hX, q1, hS2⟩ := family (fun V => V.cell? ⟨rb, 1, none⟩ = some (.pointer (some ⟨wb, 0, none⟩))) W1 x1
    have HS2 := hiq hS2
    have hd : Below W1.heap.size W1 W1.drew := (Below.refl _ _).drew
    have hd0 : W1.drew.cell? ⟨rb, 1, none⟩ = some (.pointer (some ⟨wb, 0, none⟩)) := x1
    have HN := hiq (next_any S rb wb 3 a n c l g W1.drew (hr1.below hd) (hv1.below hd) HS.out)
    have HB1 := hiq (hb1.trans (hd.mono hb1.size))
    have HZ := hiq ((hd.block w.heap.size hz1).trans hz)
    clear hS2 x1 hb1 hz hr1 hv1 hz1 hL
    refine wp_region_tree (Wf := Wf) 9 (.read 0 (.read 3 (.read 4 (.read 5 (.read 6 (.act 1 (.read 2 (.read 7 (.act 8 .fin))))))))) (by kernel_rfl) (by kernel_rfl) (fun _ _ d _ _ h => by cases d <;> exact h) (HS2.out _ hd0) ?_
    clear hd hd0
    generalize _root_.Go.World.drew _ = W2 at *
    refine wpTree_read _ rfl (fun K hK => ?_); unfold rOp; go_simp; (refine hK _ ?_; clear hK K)
    refine wpTree_read _ rfl (fun K hK => ?_); unfold rOp; go_simp; (refine hK _ ?_; clear hK K)
    refine wpTree_read _ rfl (fun K hK => ?_); unfold rOp; go_simp; (refine hK _ ?_; clear hK K)
    refine wpTree_read _ rfl (fun K hK => ?_); unfold rOp; go_simp; (refine hK _ ?_; clear hK K)
    refine wpTree_read _ rfl (fun K hK => ?_); unfold rOp; go_simp; (refine hK _ ?_; clear hK K)
    refine wpTree_act _ rfl ?_
    go_wp2_with fail
    refine HN.out.mono ?_
    rintro e W3 ⟨⟨kk, nn, t, aa, cc, ll⟩, a', n', c', l', g1, he, hx, hr3, hv3, hrd, hE⟩
    change e = .returned (.agg #[.int .i64 kk, .int .i64 nn, .string t, .slice aa ll.length cc]) at he
    subst he
    have hfd := valItems kk nn t aa ll.length cc
    go_wp2_with fail
    refine ⟨HS2.out _ hr3.cells.2.1, ?_⟩
    refine wpTree_read _ rfl (fun K hK => ?_); unfold rOp; go_simp; (refine hK _ ?_; clear hK K)
    refine wpTree_read _ rfl (fun K hK => ?_); unfold rOp; go_simp; (refine hK _ ?_; clear hK K)
    refine wpTree_act _ rfl ?_
    go_wp2_with fail
    have hI := Inn.mk' hx hr3 hv3 hrd HS.out HG.out
    have hb4 : Below W3.heap.size W3 (W3.alloc (.cells #[.slice aa ll.length cc, .pointer (some ⟨wb, 0, none⟩)] 74)) := (Below.refl _ _).alloc (Nat.le_refl _) _
    have hz4 : (W3.alloc (.cells #[.slice aa ll.length cc, .pointer (some ⟨wb, 0, none⟩)] 74)).heap.size = W3.heap.size + 1 := by simp
    generalize W3.alloc (.cells #[.slice aa ll.length cc, .pointer (some ⟨wb, 0, none⟩)] 74) = W4 at *
    refine ⟨HS2.out _ hI.outer.cells.2.1, ?_⟩
    refine wpTree_fin ?_
    have HM := hiq (HF.out _ _ _ _ _ _ _ _ _ _ _ _ _ _ hx hI HB1.out HZ.out hE hb4)
    clear hI hr3 hv3 hrd hE hb4 hz4 q1 HS2 hX hfd hx HF HN HB1 HZ
    go_wp2_with fail
    refine HM.out.mono ?_
    rintro e W5 ⟨d, a5, n5, c5, g5, WF, WG, he, hi, k1, k2, k3, k4, k5, o0, u1, u2, u3, sn, gt0, st0, hgt, HF, gt1, st1, hgt1, HG2⟩
    dsimp only [LT.Inv] at hi
    repeat (rcases (hi : ∃ _, _) with ⟨_, hi⟩)
    subst hi
    simp only [StL, LdV, Dv.cells, Dv.cellsL, List.cons_append, List.nil_append, List.append_nil, LT.k, LT.tid, LT.zero] at he sn gt0 st0 hgt gt1 st1 hgt1
    subst he
    have HF := hiq HF
    have HG2 := hiq HG2
    have HSN := hiq sn
    clear HM sn
    by_cases h0 : n5 = 0
    · subst h0
      clear gt1 st1 hgt1 HG2
      have HST := hiq st0
      have HGT := hiq hgt
      have HLD := hiq gt0
      clear st0 gt0 hgt
      go_wp2_with (first | ((with_reducible refine wpList_stL HSN.out rfl _ _ _ rfl ?_ ?_ ?_ ?_); rfl; rfl; kernel_rfl) | ((with_reducible refine wpList_ldL HLD.out rfl _ rfl ?_ ?_); rfl) | ((with_reducible refine wpList_stL HST.out rfl _ _ _ rfl ?_ ?_ ?_ ?_); rfl; rfl; kernel_rfl))
      exact ret_ldL HGT.out rfl rfl rfl (HF.out (by trivial))
    · have h1 : 0 < n5 := by omega
      clear gt0 st0 hgt HF
      have HST := hiq st1
      have HGT := hiq hgt1
      have HLD := hiq gt1
      clear st1 gt1 hgt1
      go_wp2_with (first | ((with_reducible refine wpList_stL HSN.out rfl _ _ _ rfl ?_ ?_ ?_ ?_); rfl; rfl; kernel_rfl) | ((with_reducible refine wpList_ldL HLD.out rfl _ rfl ?_ ?_); rfl) | ((with_reducible refine wpList_stL HST.out rfl _ _ _ rfl ?_ ?_ ?_ ?_); rfl; rfl; kernel_rfl))
      exact ret_ldL HGT.out rfl rfl rfl (HG2.out h1)
end Go.Proofs.YtlbcmeebcfalpaaGreatDoor
namespace Go.Proofs.YtlbcmeebcfalpaaGreatDoor
open Go.RowKit

theorem LT.isC_F {T : LT} (h : T.isC = true) : T.isF = true := by cases T <;> first | rfl | cases h
theorem rfC_any (T : LT) (hL : T.isC = true) (f : Nat) (h : ReadsL T.ts (f - 1) T.rd) : Reads T.ty f T.fi (fun p => #[p, .func (.func T.rd) #[] #[]]) := by
  refine .of fun S rb wb a n c l g w hr hv hS hSw hG => ?_
  have hb1 : Below w.heap.size w (w.alloc (.cells T.zero.toArray T.tid)) := (Below.refl _ _).alloc (Nat.le_refl _) _
  have hz := World.alloc_heap_new w (.cells T.zero.toArray T.tid)
  have hr1 := hr.below hb1
  have hv1 := hv.below hb1
  have hlt := hr.lt
  have HS := hiq hS
  have HG := hiq hG
  have HF : Hid (∀ (W2 W3 W4 : World) (kk nn : Int) (t : ByteArray) (aa : Option Addr) (cc : Nat) (ll l' : List Vl) (a' : Option Addr) (n' c' : Nat) (g1 : Bool), Nx 3 l g (.mk kk nn t aa cc ll) l' g1 -> Inn S f rb wb W3 W4 aa cc ll a' n' c' l' g1 -> Below w.heap.size w W2 -> W2.heap[w.heap.size]? = some (.cells T.zero.toArray T.tid (0, 0)) -> Exc (Two rb wb) W2 W3 -> Below W3.heap.size W3 W4 -> Calls Tryz.prog T.rd #[.pointer (some ⟨W3.heap.size, 0, none⟩)] W4 (T.Fld S rb wb l g w W3)) := fun W2 W3 W4 kk nn t aa cc ll l' a' n' c' g1 hx hI hb2 hz2 hE3 hb4 =>
    (h (InS S W3) W3.heap.size wb aa ll.length cc ll g1 W4 hI.own hI.items hI.off hI.good).mono fun e W5 hm => T.fld_of (LT.isC_F hL) hx hI hG hb2 hz2 hSw hS hlt hE3 hb4 hm
  have hz1 : w.heap.size < (w.alloc (.cells T.zero.toArray T.tid)).heap.size := by simp
  clear h hr hv hS hG hSw
  cases T
  case' wit => go_enter Tryz.func154, Tryz.ntmps154
  case' nod => go_enter Tryz.func224, Tryz.ntmps224
  case' exp => go_enter Tryz.func163, Tryz.ntmps163
  case' cst => go_enter Tryz.func61, Tryz.ntmps61
  case op => cases hL
  case dec => cases hL
  case rew => cases hL
  case grp => cases hL
  case pat => cases hL
  case sec => cases hL
  case rul => cases hL
  case sty => cases hL
  case edi => cases hL
  case int => cases hL
  case bool => cases hL
  case text => cases hL
  case pos => cases hL
  case tok => cases hL
  case inp => cases hL
  case toks => cases hL
  all_goals
    dsimp only [LT.ty, LT.fi, LT.rd, LT.tid, LT.zero] at *
    go_wp2_with fail
    generalize w.alloc (.cells _ _) = W1 at *
    obtain ⟨-, x1, -, -, -⟩ := hr1.cells
    obtain ⟨X, Wf, hX, q1, hS2⟩ := family (fun V => V.cell? ⟨rb, 1, none⟩ = some (.pointer (some ⟨wb, 0, none⟩))) W1 x1
    have HS2 := hiq hS2
    have hd : Below W1.heap.size W1 W1.drew := (Below.refl _ _).drew
    have hd0 : W1.drew.cell? ⟨rb, 1, none⟩ = some (.pointer (some ⟨wb, 0, none⟩)) := x1
    have HN := hiq (next_any S rb wb 3 a n c l g W1.drew (hr1.below hd) (hv1.below hd) HS.out)
    have HB1 := hiq (hb1.trans (hd.mono hb1.size))
    have HZ := hiq ((hd.block w.heap.size hz1).trans hz)
    clear hS2 x1 hb1 hz hr1 hv1 hz1 hL
    refine wp_region_tree (Wf := Wf) 9 (.read 0 (.read 3 (.read 4 (.read 5 (.read 6 (.act 1 (.read 2 (.read 7 (.act 8 .fin))))))))) (by kernel_rfl) (by kernel_rfl) (fun _ _ d _ _ h => by cases d <;> exact h) (HS2.out _ hd0) ?_
    clear hd hd0
    generalize _root_.Go.World.drew _ = W2 at *
    refine wpTree_read _ rfl (fun K hK => ?_); unfold rOp; go_simp; (refine hK _ ?_; clear hK K)
    refine wpTree_read _ rfl (fun K hK => ?_); unfold rOp; go_simp; (refine hK _ ?_; clear hK K)
    refine wpTree_read _ rfl (fun K hK => ?_); unfold rOp; go_simp; (refine hK _ ?_; clear hK K)
    refine wpTree_read _ rfl (fun K hK => ?_); unfold rOp; go_simp; (refine hK _ ?_; clear hK K)
    refine wpTree_read _ rfl (fun K hK => ?_); unfold rOp; go_simp; (refine hK _ ?_; clear hK K)
    refine wpTree_act _ rfl ?_
    go_wp2_with fail
    refine HN.out.mono ?_
    rintro e W3 ⟨⟨kk, nn, t, aa, cc, ll⟩, a', n', c', l', g1, he, hx, hr3, hv3, hrd, hE⟩
    change e = .returned (.agg #[.int .i64 kk, .int .i64 nn, .string t, .slice aa ll.length cc]) at he
    subst he
    have hfd := valItems kk nn t aa ll.length cc
    go_wp2_with fail
    refine ⟨HS2.out _ hr3.cells.2.1, ?_⟩
    refine wpTree_read _ rfl (fun K hK => ?_); unfold rOp; go_simp; (refine hK _ ?_; clear hK K)
    refine wpTree_read _ rfl (fun K hK => ?_); unfold rOp; go_simp; (refine hK _ ?_; clear hK K)
    refine wpTree_act _ rfl ?_
    go_wp2_with fail
    have hI := Inn.mk' hx hr3 hv3 hrd HS.out HG.out
    have hb4 : Below W3.heap.size W3 (W3.alloc (.cells #[.slice aa ll.length cc, .pointer (some ⟨wb, 0, none⟩)] 74)) := (Below.refl _ _).alloc (Nat.le_refl _) _
    have hz4 : (W3.alloc (.cells #[.slice aa ll.length cc, .pointer (some ⟨wb, 0, none⟩)] 74)).heap.size = W3.heap.size + 1 := by simp
    generalize W3.alloc (.cells #[.slice aa ll.length cc, .pointer (some ⟨wb, 0, none⟩)] 74) = W4 at *
    refine ⟨HS2.out _ hI.outer.cells.2.1, ?_⟩
    refine wpTree_fin ?_
    have HM := hiq (HF.out _ _ _ _ _ _ _ _ _ _ _ _ _ _ hx hI HB1.out HZ.out hE hb4)
    clear hI hr3 hv3 hrd hE hb4 hz4 q1 HS2 hX hfd hx HF HN HB1 HZ
    go_wp2_with fail
    refine HM.out.mono ?_
    rintro e W5 ⟨d, a5, n5, c5, g5, WF, WG, he, hi, k1, k2, k3, k4, k5, o0, u1, u2, u3, sn, gt0, st0, hgt, HF, gt1, st1, hgt1, HG2⟩
    dsimp only [LT.Inv] at hi
    repeat (rcases (hi : ∃ _, _) with ⟨_, hi⟩)
    subst hi
    simp only [StL, LdV, Dv.cells, Dv.cellsL, List.cons_append, List.nil_append, List.append_nil, LT.k, LT.tid, LT.zero] at he sn gt0 st0 hgt gt1 st1 hgt1
    subst he
    have HF := hiq HF
    have HG2 := hiq HG2
    have HSN := hiq sn
    clear HM sn
    by_cases h0 : n5 = 0
    · subst h0
      clear gt1 st1 hgt1 HG2
      have HST := hiq st0
      have HGT := hiq hgt
      have HLD := hiq gt0
      clear st0 gt0 hgt
      go_wp2_with (first | ((with_reducible refine wpList_stL HSN.out rfl _ _ _ rfl ?_ ?_ ?_ ?_); rfl; rfl; kernel_rfl) | ((with_reducible refine wpList_ldL HLD.out rfl _ rfl ?_ ?_); rfl) | ((with_reducible refine wpList_stL HST.out rfl _ _ _ rfl ?_ ?_ ?_ ?_); rfl; rfl; kernel_rfl))
      exact ret_ldL HGT.out rfl rfl rfl (HF.out (by trivial))
    · have h1 : 0 < n5 := by omega
      clear gt0 st0 hgt HF
      have HST := hiq st1
      have HGT := hiq hgt1
      have HLD := hiq gt1
      clear st1 gt1 hgt1
      go_wp2_with (first | ((with_reducible refine wpList_stL HSN.out rfl _ _ _ rfl ?_ ?_ ?_ ?_); rfl; rfl; kernel_rfl) | ((with_reducible refine wpList_ldL HLD.out rfl _ rfl ?_ ?_); rfl) | ((with_reducible refine wpList_stL HST.out rfl _ _ _ rfl ?_ ?_ ?_ ?_); rfl; rfl; kernel_rfl))
      exact ret_ldL HGT.out rfl rfl rfl (HG2.out h1)
end Go.Proofs.YtlbcmeebcfalpaaGreatDoor
namespace Go.Proofs.YtlbcmeebcfalpaaGreatDoor
open Go.RowKit

theorem LT.isD_F {T : LT} (h : T.isD = true) : T.isF = true := by cases T <;> first | rfl | cases h
theorem rfD_any (T : LT) (hL : T.isD = true) (f : Nat) (h : ReadsL T.ts (f - 1) T.rd) : Reads T.ty f T.fi (fun p => #[p, .func (.func T.rd) #[] #[]]) := by
  refine .of fun S rb wb a n c l g w hr hv hS hSw hG => ?_
  have hb1 : Below w.heap.size w (w.alloc (.cells T.zero.toArray T.tid)) := (Below.refl _ _).alloc (Nat.le_refl _) _
  have hz := World.alloc_heap_new w (.cells T.zero.toArray T.tid)
  have hr1 := hr.below hb1
  have hv1 := hv.below hb1
  have hlt := hr.lt
  have HS := hiq hS
  have HG := hiq hG
  have HF : Hid (∀ (W2 W3 W4 : World) (kk nn : Int) (t : ByteArray) (aa : Option Addr) (cc : Nat) (ll l' : List Vl) (a' : Option Addr) (n' c' : Nat) (g1 : Bool), Nx 3 l g (.mk kk nn t aa cc ll) l' g1 -> Inn S f rb wb W3 W4 aa cc ll a' n' c' l' g1 -> Below w.heap.size w W2 -> W2.heap[w.heap.size]? = some (.cells T.zero.toArray T.tid (0, 0)) -> Exc (Two rb wb) W2 W3 -> Below W3.heap.size W3 W4 -> Calls Tryz.prog T.rd #[.pointer (some ⟨W3.heap.size, 0, none⟩)] W4 (T.Fld S rb wb l g w W3)) := fun W2 W3 W4 kk nn t aa cc ll l' a' n' c' g1 hx hI hb2 hz2 hE3 hb4 =>
    (h (InS S W3) W3.heap.size wb aa ll.length cc ll g1 W4 hI.own hI.items hI.off hI.good).mono fun e W5 hm => T.fld_of (LT.isD_F hL) hx hI hG hb2 hz2 hSw hS hlt hE3 hb4 hm
  have hz1 : w.heap.size < (w.alloc (.cells T.zero.toArray T.tid)).heap.size := by simp
  clear h hr hv hS hG hSw
  cases T
  case' sty => go_enter Tryz.func72, Tryz.ntmps72
  case op => cases hL
  case dec => cases hL
  case rew => cases hL
  case grp => cases hL
  case pat => cases hL
  case sec => cases hL
  case rul => cases hL
  case wit => cases hL
  case nod => cases hL
  case exp => cases hL
  case cst => cases hL
  case edi => cases hL
  case int => cases hL
  case bool => cases hL
  case text => cases hL
  case pos => cases hL
  case tok => cases hL
  case inp => cases hL
  case toks => cases hL
  all_goals
    dsimp only [LT.ty, LT.fi, LT.rd, LT.tid, LT.zero] at *
    go_wp2_with fail
    generalize w.alloc (.cells _ _) = W1 at *
    obtain ⟨-, x1, -, -, -⟩ := hr1.cells
    obtain ⟨X, Wf, hX, q1, hS2⟩ := family (fun V => V.cell? ⟨rb, 1, none⟩ = some (.pointer (some ⟨wb, 0, none⟩))) W1 x1
    have HS2 := hiq hS2
    have hd : Below W1.heap.size W1 W1.drew := (Below.refl _ _).drew
    have hd0 : W1.drew.cell? ⟨rb, 1, none⟩ = some (.pointer (some ⟨wb, 0, none⟩)) := x1
    have HN := hiq (next_any S rb wb 3 a n c l g W1.drew (hr1.below hd) (hv1.below hd) HS.out)
    have HB1 := hiq (hb1.trans (hd.mono hb1.size))
    have HZ := hiq ((hd.block w.heap.size hz1).trans hz)
    clear hS2 x1 hb1 hz hr1 hv1 hz1 hL
    refine wp_region_tree (Wf := Wf) 9 (.read 0 (.read 3 (.read 4 (.read 5 (.read 6 (.act 1 (.read 2 (.read 7 (.act 8 .fin))))))))) (by kernel_rfl) (by kernel_rfl) (fun _ _ d _ _ h => by cases d <;> exact h) (HS2.out _ hd0) ?_
    clear hd hd0
    generalize _root_.Go.World.drew _ = W2 at *
    refine wpTree_read _ rfl (fun K hK => ?_); unfold rOp; go_simp; (refine hK _ ?_; clear hK K)
    refine wpTree_read _ rfl (fun K hK => ?_); unfold rOp; go_simp; (refine hK _ ?_; clear hK K)
    refine wpTree_read _ rfl (fun K hK => ?_); unfold rOp; go_simp; (refine hK _ ?_; clear hK K)
    refine wpTree_read _ rfl (fun K hK => ?_); unfold rOp; go_simp; (refine hK _ ?_; clear hK K)
    refine wpTree_read _ rfl (fun K hK => ?_); unfold rOp; go_simp; (refine hK _ ?_; clear hK K)
    refine wpTree_act _ rfl ?_
    go_wp2_with fail
    refine HN.out.mono ?_
    rintro e W3 ⟨⟨kk, nn, t, aa, cc, ll⟩, a', n', c', l', g1, he, hx, hr3, hv3, hrd, hE⟩
    change e = .returned (.agg #[.int .i64 kk, .int .i64 nn, .string t, .slice aa ll.length cc]) at he
    subst he
    have hfd := valItems kk nn t aa ll.length cc
    go_wp2_with fail
    refine ⟨HS2.out _ hr3.cells.2.1, ?_⟩
    refine wpTree_read _ rfl (fun K hK => ?_); unfold rOp; go_simp; (refine hK _ ?_; clear hK K)
    refine wpTree_read _ rfl (fun K hK => ?_); unfold rOp; go_simp; (refine hK _ ?_; clear hK K)
    refine wpTree_act _ rfl ?_
    go_wp2_with fail
    have hI := Inn.mk' hx hr3 hv3 hrd HS.out HG.out
    have hb4 : Below W3.heap.size W3 (W3.alloc (.cells #[.slice aa ll.length cc, .pointer (some ⟨wb, 0, none⟩)] 74)) := (Below.refl _ _).alloc (Nat.le_refl _) _
    have hz4 : (W3.alloc (.cells #[.slice aa ll.length cc, .pointer (some ⟨wb, 0, none⟩)] 74)).heap.size = W3.heap.size + 1 := by simp
    generalize W3.alloc (.cells #[.slice aa ll.length cc, .pointer (some ⟨wb, 0, none⟩)] 74) = W4 at *
    refine ⟨HS2.out _ hI.outer.cells.2.1, ?_⟩
    refine wpTree_fin ?_
    have HM := hiq (HF.out _ _ _ _ _ _ _ _ _ _ _ _ _ _ hx hI HB1.out HZ.out hE hb4)
    clear hI hr3 hv3 hrd hE hb4 hz4 q1 HS2 hX hfd hx HF HN HB1 HZ
    go_wp2_with fail
    refine HM.out.mono ?_
    rintro e W5 ⟨d, a5, n5, c5, g5, WF, WG, he, hi, k1, k2, k3, k4, k5, o0, u1, u2, u3, sn, gt0, st0, hgt, HF, gt1, st1, hgt1, HG2⟩
    dsimp only [LT.Inv] at hi
    repeat (rcases (hi : ∃ _, _) with ⟨_, hi⟩)
    subst hi
    simp only [StL, LdV, Dv.cells, Dv.cellsL, List.cons_append, List.nil_append, List.append_nil, LT.k, LT.tid, LT.zero] at he sn gt0 st0 hgt gt1 st1 hgt1
    subst he
    have HF := hiq HF
    have HG2 := hiq HG2
    have HSN := hiq sn
    clear HM sn
    by_cases h0 : n5 = 0
    · subst h0
      clear gt1 st1 hgt1 HG2
      have HST := hiq st0
      have HGT := hiq hgt
      have HLD := hiq gt0
      clear st0 gt0 hgt
      go_wp2_with (first | ((with_reducible refine wpList_stL HSN.out rfl _ _ _ rfl ?_ ?_ ?_ ?_); rfl; rfl; kernel_rfl) | ((with_reducible refine wpList_ldL HLD.out rfl _ rfl ?_ ?_); rfl) | ((with_reducible refine wpList_stL HST.out rfl _ _ _ rfl ?_ ?_ ?_ ?_); rfl; rfl; kernel_rfl))
      exact ret_ldL HGT.out rfl rfl rfl (HF.out (by trivial))
    · have h1 : 0 < n5 := by omega
      clear gt0 st0 hgt HF
      have HST := hiq st1
      have HGT := hiq hgt1
      have HLD := hiq gt1
      clear st1 gt1 hgt1
      go_wp2_with (first | ((with_reducible refine wpList_stL HSN.out rfl _ _ _ rfl ?_ ?_ ?_ ?_); rfl; rfl; kernel_rfl) | ((with_reducible refine wpList_ldL HLD.out rfl _ rfl ?_ ?_); rfl) | ((with_reducible refine wpList_stL HST.out rfl _ _ _ rfl ?_ ?_ ?_ ?_); rfl; rfl; kernel_rfl))
      exact ret_ldL HGT.out rfl rfl rfl (HG2.out h1)
end Go.Proofs.YtlbcmeebcfalpaaGreatDoor
namespace Go.Proofs.YtlbcmeebcfalpaaGreatDoor
open Go.RowKit

theorem LT.isY_F {T : LT} (h : T.isY = true) : T.isF = true := by cases T <;> first | rfl | cases h
theorem rfY_any (T : LT) (hL : T.isY = true) (f : Nat) (h : ReadsL T.ts (f - 1) T.rd) : Reads T.ty f T.fi (fun p => #[p, .func (.func T.rd) #[] #[]]) := by
  refine .of fun S rb wb a n c l g w hr hv hS hSw hG => ?_
  have hb1 : Below w.heap.size w (w.alloc (.cells T.zero.toArray T.tid)) := (Below.refl _ _).alloc (Nat.le_refl _) _
  have hz := World.alloc_heap_new w (.cells T.zero.toArray T.tid)
  have hr1 := hr.below hb1
  have hv1 := hv.below hb1
  have hlt := hr.lt
  have HS := hiq hS
  have HG := hiq hG
  have HF : Hid (∀ (W2 W3 W4 : World) (kk nn : Int) (t : ByteArray) (aa : Option Addr) (cc : Nat) (ll l' : List Vl) (a' : Option Addr) (n' c' : Nat) (g1 : Bool), Nx 3 l g (.mk kk nn t aa cc ll) l' g1 -> Inn S f rb wb W3 W4 aa cc ll a' n' c' l' g1 -> Below w.heap.size w W2 -> W2.heap[w.heap.size]? = some (.cells T.zero.toArray T.tid (0, 0)) -> Exc (Two rb wb) W2 W3 -> Below W3.heap.size W3 W4 -> Calls Tryz.prog T.rd #[.pointer (some ⟨W3.heap.size, 0, none⟩)] W4 (T.Fld S rb wb l g w W3)) := fun W2 W3 W4 kk nn t aa cc ll l' a' n' c' g1 hx hI hb2 hz2 hE3 hb4 =>
    (h (InS S W3) W3.heap.size wb aa ll.length cc ll g1 W4 hI.own hI.items hI.off hI.good).mono fun e W5 hm => T.fld_of (LT.isY_F hL) hx hI hG hb2 hz2 hSw hS hlt hE3 hb4 hm
  have hz1 : w.heap.size < (w.alloc (.cells T.zero.toArray T.tid)).heap.size := by simp
  clear h hr hv hS hG hSw
  cases T
  case' edi => go_enter Tryz.func32, Tryz.ntmps32
  case op => cases hL
  case dec => cases hL
  case rew => cases hL
  case grp => cases hL
  case pat => cases hL
  case sec => cases hL
  case rul => cases hL
  case wit => cases hL
  case nod => cases hL
  case exp => cases hL
  case cst => cases hL
  case sty => cases hL
  case int => cases hL
  case bool => cases hL
  case text => cases hL
  case pos => cases hL
  case tok => cases hL
  case inp => cases hL
  case toks => cases hL
  all_goals
    dsimp only [LT.ty, LT.fi, LT.rd, LT.tid, LT.zero] at *
    go_wp2_with fail
    generalize w.alloc (.cells _ _) = W1 at *
    obtain ⟨-, x1, -, -, -⟩ := hr1.cells
    obtain ⟨X, Wf, hX, q1, hS2⟩ := family (fun V => V.cell? ⟨rb, 1, none⟩ = some (.pointer (some ⟨wb, 0, none⟩))) W1 x1
    have HS2 := hiq hS2
    have hd : Below W1.heap.size W1 W1.drew := (Below.refl _ _).drew
    have hd0 : W1.drew.cell? ⟨rb, 1, none⟩ = some (.pointer (some ⟨wb, 0, none⟩)) := x1
    have HN := hiq (next_any S rb wb 3 a n c l g W1.drew (hr1.below hd) (hv1.below hd) HS.out)
    have HB1 := hiq (hb1.trans (hd.mono hb1.size))
    have HZ := hiq ((hd.block w.heap.size hz1).trans hz)
    clear hS2 x1 hb1 hz hr1 hv1 hz1 hL
    refine wp_region_tree (Wf := Wf) 9 (.read 0 (.read 3 (.read 4 (.read 5 (.read 6 (.act 1 (.read 2 (.read 7 (.act 8 .fin))))))))) (by kernel_rfl) (by kernel_rfl) (fun _ _ d _ _ h => by cases d <;> exact h) (HS2.out _ hd0) ?_
    clear hd hd0
    generalize _root_.Go.World.drew _ = W2 at *
    refine wpTree_read _ rfl (fun K hK => ?_); unfold rOp; go_simp; (refine hK _ ?_; clear hK K)
    refine wpTree_read _ rfl (fun K hK => ?_); unfold rOp; go_simp; (refine hK _ ?_; clear hK K)
    refine wpTree_read _ rfl (fun K hK => ?_); unfold rOp; go_simp; (refine hK _ ?_; clear hK K)
    refine wpTree_read _ rfl (fun K hK => ?_); unfold rOp; go_simp; (refine hK _ ?_; clear hK K)
    refine wpTree_read _ rfl (fun K hK => ?_); unfold rOp; go_simp; (refine hK _ ?_; clear hK K)
    refine wpTree_act _ rfl ?_
    go_wp2_with fail
    refine HN.out.mono ?_
    rintro e W3 ⟨⟨kk, nn, t, aa, cc, ll⟩, a', n', c', l', g1, he, hx, hr3, hv3, hrd, hE⟩
    change e = .returned (.agg #[.int .i64 kk, .int .i64 nn, .string t, .slice aa ll.length cc]) at he
    subst he
    have hfd := valItems kk nn t aa ll.length cc
    go_wp2_with fail
    refine ⟨HS2.out _ hr3.cells.2.1, ?_⟩
    refine wpTree_read _ rfl (fun K hK => ?_); unfold rOp; go_simp; (refine hK _ ?_; clear hK K)
    refine wpTree_read _ rfl (fun K hK => ?_); unfold rOp; go_simp; (refine hK _ ?_; clear hK K)
    refine wpTree_act _ rfl ?_
    go_wp2_with fail
    have hI := Inn.mk' hx hr3 hv3 hrd HS.out HG.out
    have hb4 : Below W3.heap.size W3 (W3.alloc (.cells #[.slice aa ll.length cc, .pointer (some ⟨wb, 0, none⟩)] 74)) := (Below.refl _ _).alloc (Nat.le_refl _) _
    have hz4 : (W3.alloc (.cells #[.slice aa ll.length cc, .pointer (some ⟨wb, 0, none⟩)] 74)).heap.size = W3.heap.size + 1 := by simp
    generalize W3.alloc (.cells #[.slice aa ll.length cc, .pointer (some ⟨wb, 0, none⟩)] 74) = W4 at *
    refine ⟨HS2.out _ hI.outer.cells.2.1, ?_⟩
    refine wpTree_fin ?_
    have HM := hiq (HF.out _ _ _ _ _ _ _ _ _ _ _ _ _ _ hx hI HB1.out HZ.out hE hb4)
    clear hI hr3 hv3 hrd hE hb4 hz4 q1 HS2 hX hfd hx HF HN HB1 HZ
    go_wp2_with fail
    refine HM.out.mono ?_
    rintro e W5 ⟨d, a5, n5, c5, g5, WF, WG, he, hi, k1, k2, k3, k4, k5, o0, u1, u2, u3, sn, gt0, st0, hgt, HF, gt1, st1, hgt1, HG2⟩
    dsimp only [LT.Inv] at hi
    repeat (rcases (hi : ∃ _, _) with ⟨_, hi⟩)
    subst hi
    simp only [StL, LdV, Dv.cells, Dv.cellsL, List.cons_append, List.nil_append, List.append_nil, LT.k, LT.tid, LT.zero] at he sn gt0 st0 hgt gt1 st1 hgt1
    subst he
    have HF := hiq HF
    have HG2 := hiq HG2
    have HSN := hiq sn
    clear HM sn
    by_cases h0 : n5 = 0
    · subst h0
      clear gt1 st1 hgt1 HG2
      have HST := hiq st0
      have HGT := hiq hgt
      have HLD := hiq gt0
      clear st0 gt0 hgt
      go_wp2_with (first | ((with_reducible refine wpList_stL HSN.out rfl _ _ _ rfl ?_ ?_ ?_ ?_); rfl; rfl; kernel_rfl) | ((with_reducible refine wpList_ldL HLD.out rfl _ rfl ?_ ?_); rfl) | ((with_reducible refine wpList_stL HST.out rfl _ _ _ rfl ?_ ?_ ?_ ?_); rfl; rfl; kernel_rfl))
      exact ret_ldL HGT.out rfl rfl rfl (HF.out (by trivial))
    · have h1 : 0 < n5 := by omega
      clear gt0 st0 hgt HF
      have HST := hiq st1
      have HGT := hiq hgt1
      have HLD := hiq gt1
      clear st1 gt1 hgt1
      go_wp2_with (first | ((with_reducible refine wpList_stL HSN.out rfl _ _ _ rfl ?_ ?_ ?_ ?_); rfl; rfl; kernel_rfl) | ((with_reducible refine wpList_ldL HLD.out rfl _ rfl ?_ ?_); rfl) | ((with_reducible refine wpList_stL HST.out rfl _ _ _ rfl ?_ ?_ ?_ ?_); rfl; rfl; kernel_rfl))
      exact ret_ldL HGT.out rfl rfl rfl (HG2.out h1)
end Go.Proofs.YtlbcmeebcfalpaaGreatDoor
