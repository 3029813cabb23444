/- Joined: IRfC, IRfD, IRfY, IRdE, IRdR. -/
import Derived.Test.YtlbcmeebcfalpaaGreatDoorR15
set_option linter.unusedVariables false
set_option linter.unusedSimpArgs false
set_option maxRecDepth 100000
set_option maxHeartbeats 16000000
namespace Go.Proofs.YtlbcmeebcfalpaaGreatDoor
open Go.RowKit

theorem LT.isC_F {T : LT} (h : T.isC = true) : T.isF = true := by cases T <;> first | rfl | cases h
theorem rfC_any (T : LT) (hL : T.isC = true) (f : Nat) (h : ReadsL T.ts (f - 1) T.rd) : Reads T.ty f T.fi (fun p => #[p, .func (.func T.rd) #[] #[]]) := by
  refine .of fun S rb wb a n c l g w hr hv hS hSw hG => ?_
  have hb1 : Below w.heap.size w (w.alloc (.cells T.zero.toArray T.tid)) := (Below.refl _ _).alloc (Nat.le_refl _) _
  have hz := World.alloc_heap_new w (.cells T.zero.toArray T.tid)
  have hr1 := hr.below hb1
  have hv1 := hv.below hb1
  have hlt := hr.lt
  have HS := hiq hS
  have HG := hiq hG
  have HF : Hid (∀ (W2 W3 W4 : World) (kk nn : Int) (t : ByteArray) (aa : Option Addr) (cc : Nat) (ll l' : List Vl) (a' : Option Addr) (n' c' : Nat) (g1 : Bool), Nx 3 l g (.mk kk nn t aa cc ll) l' g1 -> Inn S f rb wb W3 W4 aa cc ll a' n' c' l' g1 -> Below w.heap.size w W2 -> W2.heap[w.heap.size]? = some (.cells T.zero.toArray T.tid (0, 0)) -> Exc (Two rb wb) W2 W3 -> Below W3.heap.size W3 W4 -> Calls Tryz.prog T.rd #[.pointer (some ⟨W3.heap.size, 0, none⟩)] W4 (T.Fld S rb wb l g w W3)) := fun W2 W3 W4 kk nn t aa cc ll l' a' n' c' g1 hx hI hb2 hz2 hE3 hb4 =>
    (h (InS S W3) W3.heap.size wb aa ll.length cc ll g1 W4 hI.own hI.items hI.off hI.good).mono fun e W5 hm => T.fld_of (LT.isC_F hL) hx hI hG hb2 hz2 hSw hS hlt hE3 hb4 hm
  have hz1 : w.heap.size < (w.alloc (.cells T.zero.toArray T.tid)).heap.size := by simp
  clear h hr hv hS hG hSw
  cases T
  case' wit => go_enter Tryz.func154, Tryz.ntmps154
  case' nod => go_enter Tryz.func224, Tryz.ntmps224
  case' exp => go_enter Tryz.func163, Tryz.ntmps163
  case' cst => go_enter Tryz.func61, Tryz.ntmps61
  case op => cases hL
  case dec => cases hL
  case rew => cases hL
  case grp => cases hL
  case pat => cases hL
  case sec => cases hL
  case rul => cases hL
  case sty => cases hL
  case edi => cases hL
  case int => cases hL
  case bool => cases hL
  case text => cases hL
  case pos => cases hL
  case tok => cases hL
  case inp => cases hL
  case toks => cases hL
  all_goals
    dsimp only [LT.ty, LT.fi, LT.rd, LT.tid, LT.zero] at *
    go_wp2_with fail
    generalize w.alloc (.cells _ _) = W1 at *
    obtain ⟨-, x1, -, -, -⟩ := hr1.cells
    obtain ⟨X, Wf, hX, q1, hS2⟩ := family (fun V => V.cell? ⟨rb, 1, none⟩ = some (.pointer (some ⟨wb, 0, none⟩))) W1 x1
    have HS2 := hiq hS2
    have hd : Below W1.heap.size W1 W1.drew := (Below.refl _ _).drew
    have hd0 : W1.drew.cell? ⟨rb, 1, none⟩ = some (.pointer (some ⟨wb, 0, none⟩)) := x1
    have HN := hiq (next_any S rb wb 3 a n c l g W1.drew (hr1.below hd) (hv1.below hd) HS.out)
    have HB1 := hiq (hb1.trans (hd.mono hb1.size))
    have HZ := hiq ((hd.block w.heap.size hz1).trans hz)
    clear hS2 x1 hb1 hz hr1 hv1 hz1 hL
    refine wp_region_tree (Wf := Wf) 9 (.read 0 (.read 3 (.read 4 (.read 5 (.read 6 (.act 1 (.read 2 (.read 7 (.act 8 .fin))))))))) (by kernel_rfl) (by kernel_rfl) (fun _ _ d _ _ h => by cases d <;> exact h) (HS2.out _ hd0) ?_
    clear hd hd0
    generalize _root_.Go.World.drew _ = W2 at *
    refine wpTree_read _ rfl (fun K hK => ?_); unfold rOp; go_simp; (refine hK _ ?_; clear hK K)
    refine wpTree_read _ rfl (fun K hK => ?_); unfold rOp; go_simp; (refine hK _ ?_; clear hK K)
    refine wpTree_read _ rfl (fun K hK => ?_); unfold rOp; go_simp; (refine hK _ ?_; clear hK K)
    refine wpTree_read _ rfl (fun K hK => ?_); unfold rOp; go_simp; (refine hK _ ?_; clear hK K)
    refine wpTree_read _ rfl (fun K hK => ?_); unfold rOp; go_simp; (refine hK _ ?_; clear hK K)
    refine wpTree_act _ rfl ?_
    go_wp2_with fail
    refine HN.out.mono ?_
    rintro e W3 ⟨⟨kk, nn, t, aa, cc, ll⟩, a', n', c', l', g1, he, hx, hr3, hv3, hrd, hE⟩
    change e = .returned (.agg #[.int .i64 kk, .int .i64 nn, .string t, .slice aa ll.length cc]) at he
    subst he
    have hfd := valItems kk nn t aa ll.length cc
    go_wp2_with fail
    refine ⟨HS2.out _ hr3.cells.2.1, ?_⟩
    refine wpTree_read _ rfl (fun K hK => ?_); unfold rOp; go_simp; (refine hK _ ?_; clear hK K)
    refine wpTree_read _ rfl (fun K hK => ?_); unfold rOp; go_simp; (refine hK _ ?_; clear hK K)
    refine wpTree_act _ rfl ?_
    go_wp2_with fail
    have hI := Inn.mk' hx hr3 hv3 hrd HS.out HG.out
    have hb4 : Below W3.heap.size W3 (W3.alloc (.cells #[.slice aa ll.length cc, .pointer (some ⟨wb, 0, none⟩)] 74)) := (Below.refl _ _).alloc (Nat.le_refl _) _
    have hz4 : (W3.alloc (.cells #[.slice aa ll.length cc, .pointer (some ⟨wb, 0, none⟩)] 74)).heap.size = W3.heap.size + 1 := by simp
    generalize W3.alloc (.cells #[.slice aa ll.length cc, .pointer (some ⟨wb, 0, none⟩)] 74) = W4 at *
    refine ⟨HS2.out _ hI.outer.cells.2.1, ?_⟩
    refine wpTree_fin ?_
    have HM := hiq (HF.out _ _ _ _ _ _ _ _ _ _ _ _ _ _ hx hI HB1.out HZ.out hE hb4)
    clear hI hr3 hv3 hrd hE hb4 hz4 q1 HS2 hX hfd hx HF HN HB1 HZ
    go_wp2_with fail
    refine HM.out.mono ?_
    rintro e W5 ⟨d, a5, n5, c5, g5, WF, WG, he, hi, k1, k2, k3, k4, k5, o0, u1, u2, u3, sn, gt0, st0, hgt, HF, gt1, st1, hgt1, HG2⟩
    dsimp only [LT.Inv] at hi
    repeat (rcases (hi : ∃ _, _) with ⟨_, hi⟩)
    subst hi
    simp only [StL, LdV, Dv.cells, Dv.cellsL, List.cons_append, List.nil_append, List.append_nil, LT.k, LT.tid, LT.zero] at he sn gt0 st0 hgt gt1 st1 hgt1
    subst he
    have HF := hiq HF
    have HG2 := hiq HG2
    have HSN := hiq sn
    clear HM sn
    by_cases h0 : n5 = 0
    · subst h0
      clear gt1 st1 hgt1 HG2
      have HST := hiq st0
      have HGT := hiq hgt
      have HLD := hiq gt0
      clear st0 gt0 hgt
      go_wp2_with (first | ((with_reducible refine wpList_stL HSN.out rfl _ _ _ rfl ?_ ?_ ?_ ?_); rfl; rfl; kernel_rfl) | ((with_reducible refine wpList_ldL HLD.out rfl _ rfl ?_ ?_); rfl) | ((with_reducible refine wpList_stL HST.out rfl _ _ _ rfl ?_ ?_ ?_ ?_); rfl; rfl; kernel_rfl))
      exact ret_ldL HGT.out rfl rfl rfl (HF.out (by trivial))
    · have h1 : 0 < n5 := by omega
      clear gt0 st0 hgt HF
      have HST := hiq st1
      have HGT := hiq hgt1
      have HLD := hiq gt1
      clear st1 gt1 hgt1
      go_wp2_with (first | ((with_reducible refine wpList_stL HSN.out rfl _ _ _ rfl ?_ ?_ ?_ ?_); rfl; rfl; kernel_rfl) | ((with_reducible refine wpList_ldL HLD.out rfl _ rfl ?_ ?_); rfl) | ((with_reducible refine wpList_stL HST.out rfl _ _ _ rfl ?_ ?_ ?_ ?_); rfl; rfl; kernel_rfl))
      exact ret_ldL HGT.out rfl rfl rfl (HG2.out h1)
end Go.Proofs.YtlbcmeebcfalpaaGreatDoor
namespace Go.Proofs.YtlbcmeebcfalpaaGreatDoor
open Go.RowKit

theorem LT.isD_F {T : LT} (h : T.isD = true) : T.isF = true := by cases T <;> first | rfl | cases h
theorem rfD_any (T : LT) (hL : T.isD = true) (f : Nat) (h : ReadsL T.ts (f - 1) T.rd) : Reads T.ty f T.fi (fun p => #[p, .func (.func T.rd) #[] #[]]) := by
  refine .of fun S rb wb a n c l g w hr hv hS hSw hG => ?_
  have hb1 : Below w.heap.size w (w.alloc (.cells T.zero.toArray T.tid)) := (Below.refl _ _).alloc (Nat.le_refl _) _
  have hz := World.alloc_heap_new w (.cells T.zero.toArray T.tid)
  have hr1 := hr.below hb1
  have hv1 := hv.below hb1
  have hlt := hr.lt
  have HS := hiq hS
  have HG := hiq hG
  have HF : Hid (∀ (W2 W3 W4 : World) (kk nn : Int) (t : ByteArray) (aa : Option Addr) (cc : Nat) (ll l' : List Vl) (a' : Option Addr) (n' c' : Nat) (g1 : Bool), Nx 3 l g (.mk kk nn t aa cc ll) l' g1 -> Inn S f rb wb W3 W4 aa cc ll a' n' c' l' g1 -> Below w.heap.size w W2 -> W2.heap[w.heap.size]? = some (.cells T.zero.toArray T.tid (0, 0)) -> Exc (Two rb wb) W2 W3 -> Below W3.heap.size W3 W4 -> Calls Tryz.prog T.rd #[.pointer (some ⟨W3.heap.size, 0, none⟩)] W4 (T.Fld S rb wb l g w W3)) := fun W2 W3 W4 kk nn t aa cc ll l' a' n' c' g1 hx hI hb2 hz2 hE3 hb4 =>
    (h (InS S W3) W3.heap.size wb aa ll.length cc ll g1 W4 hI.own hI.items hI.off hI.good).mono fun e W5 hm => T.fld_of (LT.isD_F hL) hx hI hG hb2 hz2 hSw hS hlt hE3 hb4 hm
  have hz1 : w.heap.size < (w.alloc (.cells T.zero.toArray T.tid)).heap.size := by simp
  clear h hr hv hS hG hSw
  cases T
  case' sty => go_enter Tryz.func72, Tryz.ntmps72
  case op => cases hL
  case dec => cases hL
  case rew => cases hL
  case grp => cases hL
  case pat => cases hL
  case sec => cases hL
  case rul => cases hL
  case wit => cases hL
  case nod => cases hL
  case exp => cases hL
  case cst => cases hL
  case edi => cases hL
  case int => cases hL
  case bool => cases hL
  case text => cases hL
  case pos => cases hL
  case tok => cases hL
  case inp => cases hL
  case toks => cases hL
  all_goals
    dsimp only [LT.ty, LT.fi, LT.rd, LT.tid, LT.zero] at *
    go_wp2_with fail
    generalize w.alloc (.cells _ _) = W1 at *
    obtain ⟨-, x1, -, -, -⟩ := hr1.cells
    obtain ⟨X, Wf, hX, q1, hS2⟩ := family (fun V => V.cell? ⟨rb, 1, none⟩ = some (.pointer (some ⟨wb, 0, none⟩))) W1 x1
    have HS2 := hiq hS2
    have hd : Below W1.heap.size W1 W1.drew := (Below.refl _ _).drew
    have hd0 : W1.drew.cell? ⟨rb, 1, none⟩ = some (.pointer (some ⟨wb, 0, none⟩)) := x1
    have HN := hiq (next_any S rb wb 3 a n c l g W1.drew (hr1.below hd) (hv1.below hd) HS.out)
    have HB1 := hiq (hb1.trans (hd.mono hb1.size))
    have HZ := hiq ((hd.block w.heap.size hz1).trans hz)
    clear hS2 x1 hb1 hz hr1 hv1 hz1 hL
    refine wp_region_tree (Wf := Wf) 9 (.read 0 (.read 3 (.read 4 (.read 5 (.read 6 (.act 1 (.read 2 (.read 7 (.act 8 .fin))))))))) (by kernel_rfl) (by kernel_rfl) (fun _ _ d _ _ h => by cases d <;> exact h) (HS2.out _ hd0) ?_
    clear hd hd0
    generalize _root_.Go.World.drew _ = W2 at *
    refine wpTree_read _ rfl (fun K hK => ?_); unfold rOp; go_simp; (refine hK _ ?_; clear hK K)
    refine wpTree_read _ rfl (fun K hK => ?_); unfold rOp; go_simp; (refine hK _ ?_; clear hK K)
    refine wpTree_read _ rfl (fun K hK => ?_); unfold rOp; go_simp; (refine hK _ ?_; clear hK K)
    refine wpTree_read _ rfl (fun K hK => ?_); unfold rOp; go_simp; (refine hK _ ?_; clear hK K)
    refine wpTree_read _ rfl (fun K hK => ?_); unfold rOp; go_simp; (refine hK _ ?_; clear hK K)
    refine wpTree_act _ rfl ?_
    go_wp2_with fail
    refine HN.out.mono ?_
    rintro e W3 ⟨⟨kk, nn, t, aa, cc, ll⟩, a', n', c', l', g1, he, hx, hr3, hv3, hrd, hE⟩
    change e = .returned (.agg #[.int .i64 kk, .int .i64 nn, .string t, .slice aa ll.length cc]) at he
    subst he
    have hfd := valItems kk nn t aa ll.length cc
    go_wp2_with fail
    refine ⟨HS2.out _ hr3.cells.2.1, ?_⟩
    refine wpTree_read _ rfl (fun K hK => ?_); unfold rOp; go_simp; (refine hK _ ?_; clear hK K)
    refine wpTree_read _ rfl (fun K hK => ?_); unfold rOp; go_simp; (refine hK _ ?_; clear hK K)
    refine wpTree_act _ rfl ?_
    go_wp2_with fail
    have hI := Inn.mk' hx hr3 hv3 hrd HS.out HG.out
    have hb4 : Below W3.heap.size W3 (W3.alloc (.cells #[.slice aa ll.length cc, .pointer (some ⟨wb, 0, none⟩)] 74)) := (Below.refl _ _).alloc (Nat.le_refl _) _
    have hz4 : (W3.alloc (.cells #[.slice aa ll.length cc, .pointer (some ⟨wb, 0, none⟩)] 74)).heap.size = W3.heap.size + 1 := by simp
    generalize W3.alloc (.cells #[.slice aa ll.length cc, .pointer (some ⟨wb, 0, none⟩)] 74) = W4 at *
    refine ⟨HS2.out _ hI.outer.cells.2.1, ?_⟩
    refine wpTree_fin ?_
    have HM := hiq (HF.out _ _ _ _ _ _ _ _ _ _ _ _ _ _ hx hI HB1.out HZ.out hE hb4)
    clear hI hr3 hv3 hrd hE hb4 hz4 q1 HS2 hX hfd hx HF HN HB1 HZ
    go_wp2_with fail
    refine HM.out.mono ?_
    rintro e W5 ⟨d, a5, n5, c5, g5, WF, WG, he, hi, k1, k2, k3, k4, k5, o0, u1, u2, u3, sn, gt0, st0, hgt, HF, gt1, st1, hgt1, HG2⟩
    dsimp only [LT.Inv] at hi
    repeat (rcases (hi : ∃ _, _) with ⟨_, hi⟩)
    subst hi
    simp only [StL, LdV, Dv.cells, Dv.cellsL, List.cons_append, List.nil_append, List.append_nil, LT.k, LT.tid, LT.zero] at he sn gt0 st0 hgt gt1 st1 hgt1
    subst he
    have HF := hiq HF
    have HG2 := hiq HG2
    have HSN := hiq sn
    clear HM sn
    by_cases h0 : n5 = 0
    · subst h0
      clear gt1 st1 hgt1 HG2
      have HST := hiq st0
      have HGT := hiq hgt
      have HLD := hiq gt0
      clear st0 gt0 hgt
      go_wp2_with (first | ((with_reducible refine wpList_stL HSN.out rfl _ _ _ rfl ?_ ?_ ?_ ?_); rfl; rfl; kernel_rfl) | ((with_reducible refine wpList_ldL HLD.out rfl _ rfl ?_ ?_); rfl) | ((with_reducible refine wpList_stL HST.out rfl _ _ _ rfl ?_ ?_ ?_ ?_); rfl; rfl; kernel_rfl))
      exact ret_ldL HGT.out rfl rfl rfl (HF.out (by trivial))
    · have h1 : 0 < n5 := by omega
      clear gt0 st0 hgt HF
      have HST := hiq st1
      have HGT := hiq hgt1
      have HLD := hiq gt1
      clear st1 gt1 hgt1
      go_wp2_with (first | ((with_reducible refine wpList_stL HSN.out rfl _ _ _ rfl ?_ ?_ ?_ ?_); rfl; rfl; kernel_rfl) | ((with_reducible refine wpList_ldL HLD.out rfl _ rfl ?_ ?_); rfl) | ((with_reducible refine wpList_stL HST.out rfl _ _ _ rfl ?_ ?_ ?_ ?_); rfl; rfl; kernel_rfl))
      exact ret_ldL HGT.out rfl rfl rfl (HG2.out h1)
end Go.Proofs.YtlbcmeebcfalpaaGreatDoor
namespace Go.Proofs.YtlbcmeebcfalpaaGreatDoor
open Go.RowKit

theorem LT.isY_F {T : LT} (h : T.isY = true) : T.isF = true := by cases T <;> first | rfl | cases h
theorem rfY_any (T : LT) (hL : T.isY = true) (f : Nat) (h : ReadsL T.ts (f - 1) T.rd) : Reads T.ty f T.fi (fun p => #[p, .func (.func T.rd) #[] #[]]) := by
  refine .of fun S rb wb a n c l g w hr hv hS hSw hG => ?_
  have hb1 : Below w.heap.size w (w.alloc (.cells T.zero.toArray T.tid)) := (Below.refl _ _).alloc (Nat.le_refl _) _
  have hz := World.alloc_heap_new w (.cells T.zero.toArray T.tid)
  have hr1 := hr.below hb1
  have hv1 := hv.below hb1
  have hlt := hr.lt
  have HS := hiq hS
  have HG := hiq hG
  have HF : Hid (∀ (W2 W3 W4 : World) (kk nn : Int) (t : ByteArray) (aa : Option Addr) (cc : Nat) (ll l' : List Vl) (a' : Option Addr) (n' c' : Nat) (g1 : Bool), Nx 3 l g (.mk kk nn t aa cc ll) l' g1 -> Inn S f rb wb W3 W4 aa cc ll a' n' c' l' g1 -> Below w.heap.size w W2 -> W2.heap[w.heap.size]? = some (.cells T.zero.toArray T.tid (0, 0)) -> Exc (Two rb wb) W2 W3 -> Below W3.heap.size W3 W4 -> Calls Tryz.prog T.rd #[.pointer (some ⟨W3.heap.size, 0, none⟩)] W4 (T.Fld S rb wb l g w W3)) := fun W2 W3 W4 kk nn t aa cc ll l' a' n' c' g1 hx hI hb2 hz2 hE3 hb4 =>
    (h (InS S W3) W3.heap.size wb aa ll.length cc ll g1 W4 hI.own hI.items hI.off hI.good).mono fun e W5 hm => T.fld_of (LT.isY_F hL) hx hI hG hb2 hz2 hSw hS hlt hE3 hb4 hm
  have hz1 : w.heap.size < (w.alloc (.cells T.zero.toArray T.tid)).heap.size := by simp
  clear h hr hv hS hG hSw
  cases T
  case' edi => go_enter Tryz.func32, Tryz.ntmps32
  case op => cases hL
  case dec => cases hL
  case rew => cases hL
  case grp => cases hL
  case pat => cases hL
  case sec => cases hL
  case rul => cases hL
  case wit => cases hL
  case nod => cases hL
  case exp => cases hL
  case cst => cases hL
  case sty => cases hL
  case int => cases hL
  case bool => cases hL
  case text => cases hL
  case pos => cases hL
  case tok => cases hL
  case inp => cases hL
  case toks => cases hL
  all_goals
    dsimp only [LT.ty, LT.fi, LT.rd, LT.tid, LT.zero] at *
    go_wp2_with fail
    generalize w.alloc (.cells _ _) = W1 at *
    obtain ⟨-, x1, -, -, -⟩ := hr1.cells
    obtain ⟨X, Wf, hX, q1, hS2⟩ := family (fun V => V.cell? ⟨rb, 1, none⟩ = some (.pointer (some ⟨wb, 0, none⟩))) W1 x1
    have HS2 := hiq hS2
    have hd : Below W1.heap.size W1 W1.drew := (Below.refl _ _).drew
    have hd0 : W1.drew.cell? ⟨rb, 1, none⟩ = some (.pointer (some ⟨wb, 0, none⟩)) := x1
    have HN := hiq (next_any S rb wb 3 a n c l g W1.drew (hr1.below hd) (hv1.below hd) HS.out)
    have HB1 := hiq (hb1.trans (hd.mono hb1.size))
    have HZ := hiq ((hd.block w.heap.size hz1).trans hz)
    clear hS2 x1 hb1 hz hr1 hv1 hz1 hL
    refine wp_region_tree (Wf := Wf) 9 (.read 0 (.read 3 (.read 4 (.read 5 (.read 6 (.act 1 (.read 2 (.read 7 (.act 8 .fin))))))))) (by kernel_rfl) (by kernel_rfl) (fun _ _ d _ _ h => by cases d <;> exact h) (HS2.out _ hd0) ?_
    clear hd hd0
    generalize _root_.Go.World.drew _ = W2 at *
    refine wpTree_read _ rfl (fun K hK => ?_); unfold rOp; go_simp; (refine hK _ ?_; clear hK K)
    refine wpTree_read _ rfl (fun K hK => ?_); unfold rOp; go_simp; (refine hK _ ?_; clear hK K)
    refine wpTree_read _ rfl (fun K hK => ?_); unfold rOp; go_simp; (refine hK _ ?_; clear hK K)
    refine wpTree_read _ rfl (fun K hK => ?_); unfold rOp; go_simp; (refine hK _ ?_; clear hK K)
    refine wpTree_read _ rfl (fun K hK => ?_); unfold rOp; go_simp; (refine hK _ ?_; clear hK K)
    refine wpTree_act _ rfl ?_
    go_wp2_with fail
    refine HN.out.mono ?_
    rintro e W3 ⟨⟨kk, nn, t, aa, cc, ll⟩, a', n', c', l', g1, he, hx, hr3, hv3, hrd, hE⟩
    change e = .returned (.agg #[.int .i64 kk, .int .i64 nn, .string t, .slice aa ll.length cc]) at he
    subst he
    have hfd := valItems kk nn t aa ll.length cc
    go_wp2_with fail
    refine ⟨HS2.out _ hr3.cells.2.1, ?_⟩
    refine wpTree_read _ rfl (fun K hK => ?_); unfold rOp; go_simp; (refine hK _ ?_; clear hK K)
    refine wpTree_read _ rfl (fun K hK => ?_); unfold rOp; go_simp; (refine hK _ ?_; clear hK K)
    refine wpTree_act _ rfl ?_
    go_wp2_with fail
    have hI := Inn.mk' hx hr3 hv3 hrd HS.out HG.out
    have hb4 : Below W3.heap.size W3 (W3.alloc (.cells #[.slice aa ll.length cc, .pointer (some ⟨wb, 0, none⟩)] 74)) := (Below.refl _ _).alloc (Nat.le_refl _) _
    have hz4 : (W3.alloc (.cells #[.slice aa ll.length cc, .pointer (some ⟨wb, 0, none⟩)] 74)).heap.size = W3.heap.size + 1 := by simp
    generalize W3.alloc (.cells #[.slice aa ll.length cc, .pointer (some ⟨wb, 0, none⟩)] 74) = W4 at *
    refine ⟨HS2.out _ hI.outer.cells.2.1, ?_⟩
    refine wpTree_fin ?_
    have HM := hiq (HF.out _ _ _ _ _ _ _ _ _ _ _ _ _ _ hx hI HB1.out HZ.out hE hb4)
    clear hI hr3 hv3 hrd hE hb4 hz4 q1 HS2 hX hfd hx HF HN HB1 HZ
    go_wp2_with fail
    refine HM.out.mono ?_
    rintro e W5 ⟨d, a5, n5, c5, g5, WF, WG, he, hi, k1, k2, k3, k4, k5, o0, u1, u2, u3, sn, gt0, st0, hgt, HF, gt1, st1, hgt1, HG2⟩
    dsimp only [LT.Inv] at hi
    repeat (rcases (hi : ∃ _, _) with ⟨_, hi⟩)
    subst hi
    simp only [StL, LdV, Dv.cells, Dv.cellsL, List.cons_append, List.nil_append, List.append_nil, LT.k, LT.tid, LT.zero] at he sn gt0 st0 hgt gt1 st1 hgt1
    subst he
    have HF := hiq HF
    have HG2 := hiq HG2
    have HSN := hiq sn
    clear HM sn
    by_cases h0 : n5 = 0
    · subst h0
      clear gt1 st1 hgt1 HG2
      have HST := hiq st0
      have HGT := hiq hgt
      have HLD := hiq gt0
      clear st0 gt0 hgt
      go_wp2_with (first | ((with_reducible refine wpList_stL HSN.out rfl _ _ _ rfl ?_ ?_ ?_ ?_); rfl; rfl; kernel_rfl) | ((with_reducible refine wpList_ldL HLD.out rfl _ rfl ?_ ?_); rfl) | ((with_reducible refine wpList_stL HST.out rfl _ _ _ rfl ?_ ?_ ?_ ?_); rfl; rfl; kernel_rfl))
      exact ret_ldL HGT.out rfl rfl rfl (HF.out (by trivial))
    · have h1 : 0 < n5 := by omega
      clear gt0 st0 hgt HF
      have HST := hiq st1
      have HGT := hiq hgt1
      have HLD := hiq gt1
      clear st1 gt1 hgt1
      go_wp2_with (first | ((with_reducible refine wpList_stL HSN.out rfl _ _ _ rfl ?_ ?_ ?_ ?_); rfl; rfl; kernel_rfl) | ((with_reducible refine wpList_ldL HLD.out rfl _ rfl ?_ ?_); rfl) | ((with_reducible refine wpList_stL HST.out rfl _ _ _ rfl ?_ ?_ ?_ ?_); rfl; rfl; kernel_rfl))
      exact ret_ldL HGT.out rfl rfl rfl (HG2.out h1)
end Go.Proofs.YtlbcmeebcfalpaaGreatDoor
namespace Go.Proofs.YtlbcmeebcfalpaaGreatDoor
open Go.RowKit

/-- What holds at the head of each round. -/
def ERel (T : LT) (S : Nat -> Prop) (wb : Nat) (W3 W4 : World) (ll : List Vl) (g1 : Bool) (o : Value) (wr : World) : Prop :=
  ∃ (j : Nat) (a6 : Option Addr) (c6 : Nat) (ds : List Dv) (a5 : Option Addr) (n5 c5 : Nat) (l5 : List Vl) (g5 : Bool), o = .slice a6 j c6 /\ OwnD T.tid T.k wr W4.heap.size a6 j c6 ds /\ (∀ d ∈ ds, Has T.ty d) /\ Rdr wr W3.heap.size wb a5 n5 c5 g5 /\ Vals (InS S W3) wr a5 n5 c5 l5 /\ EGot T.ty ll g1 ds l5 g5 /\ Exc (Two W3.heap.size wb) W4 wr
/-- A round: how it ends, or what the item's call answers. -/
def ERound (T : LT) (R : Value -> World -> Prop) (P : Ending -> World -> Prop) (rb wb qb : Nat) (W3 W4 : World) (ll : List Vl) (o : Value) (wr : World) : Prop :=
  ∃ (j : Nat) (a6 : Option Addr) (c6 : Nat) (a5 : Option Addr) (n5 c5 : Nat) (g5 : Bool), o = .slice a6 j c6 /\ wr.cell? ⟨W3.heap.size, 0, none⟩ = some (.slice a5 n5 c5) /\ wr.cell? ⟨rb, 1, none⟩ = some (.pointer (some ⟨wb, 0, none⟩)) /\ wr.cell? ⟨wb, 0, none⟩ = some (.bool g5) /\
    Hid (n5 = 0 \/ g5 = true -> P (.returned (.slice a6 j c6)) wr) /\
    Hid (0 < n5 -> g5 = false -> j < ll.length /\ Calls Tryz.prog T.item (T.args W3.heap.size qb) wr fun e w2 => ∃ (d : Dv) (l : List Dv), e = .returned d.val /\ T.Inv d /\ AppP T.tid T.k T.s (w2.alloc (.cells d.cells.toArray T.tid)) W4.heap.size a6 j c6 l d w2.heap.size /\ Hid (∀ a8 c8 w8, OwnD T.tid T.k w8 W4.heap.size a8 (j + 1) c8 (l ++ [d]) -> Below W4.heap.size (w2.alloc (.cells d.cells.toArray T.tid)) w8 -> R (.slice a8 (j + 1) c8) w8))
theorem el_abs (T : LT) {S : Nat -> Prop} {f rb wb qb : Nat} {w W2 W3 W4 : World} {kk nn : Int} {t : ByteArray} {aa : Option Addr} {cc : Nat} {ll l l' : List Vl} {a' : Option Addr} {n' c' : Nat} {g g1 : Bool} (hx : Nx 3 l g (.mk kk nn t aa cc ll) l' g1) (hI : Inn S f rb wb W3 W4 aa cc ll a' n' c' l' g1) (hG : ∀ u ∈ l, GoodD f u.er) (hb2 : Below w.heap.size w W2) (hE3 : Exc (Two rb wb) W2 W3) (hb4 : Below W3.heap.size W3 W4) (hz4 : W4.heap.size = W3.heap.size + 1)
    (hit : 0 < f -> ∀ (S' : Nat -> Prop) (ob : Nat) (a : Option Addr) (n c : Nat) (l : List Vl) (g : Bool) (wr : World), Rdr wr ob wb a n c g -> Vals S' wr a n c l -> (∀ b, S' b -> b ≠ ob /\ b ≠ wb) -> (∀ u ∈ l, GoodD (f - 1) u.er) -> (T.isS = true -> wr.heap[qb]? = w.heap[qb]?) -> Calls Tryz.prog T.item (T.args ob qb) wr (RdOne S' T.ty ob wb l g wr)) (hq : T.isS = true -> qb < w.heap.size /\ qb ≠ rb /\ qb ≠ wb) :
    ∃ R : Value -> World -> Prop, R (.slice none 0 0) W4 /\ ∀ o wr, R o wr -> ERound T R (RdOne S (.list T.k T.s T.ty) rb wb l g w) rb wb qb W3 W4 ll o wr := by
  refine ⟨ERel T S wb W3 W4 ll g1, ⟨0, none, 0, [], aa, ll.length, cc, ll, g1, rfl, OwnD.nil _ _ _ _, (fun d hd => by cases hd), hI.own, hI.items, EGot.init _ _ _, Exc.refl _ _⟩, ?_⟩
  rintro o wr ⟨j, a6, c6, ds, a5, n5, c5, l5, g5, rfl, hO, hT, hr5, hv5, hg, hE5⟩
  obtain ⟨o0, -, o2, -, -⟩ := hr5.cells
  obtain ⟨-, u1, -, -, -⟩ := (hI.after hE5 hr5).1.cells
  refine ⟨j, a6, c6, a5, n5, c5, g5, rfl, o0, u1, o2, fun h1 => elems_end hx hI hG hb2 hE3 hb4 hO hT hr5 hg h1 hv5.1 hE5 T.kpos.2, fun h0 hg5 => ?_⟩
  subst hg5
  have hl5 := hv5.1
  have hroom := hg.room
  have hj := hO.1
  have hll := nx_len hx hG
  have hwr := hE5.size
  refine ⟨by omega, (hit (nx_pos hx hG (by omega)) (InS S W3) W3.heap.size a5 n5 c5 l5 false wr hr5 hv5 hI.off (fun u hu => hI.good u (hg.1.subset hu)) fun hs => ?_).mono ?_⟩
  · obtain ⟨h1, h2, h3⟩ := hq hs
    obtain ⟨o, ho⟩ : ∃ o, w.heap[qb]? = some o := ⟨_, Array.getElem?_eq_getElem h1⟩
    rw [ho]
    exact (fn_kept ho h2 h3 hb2 hE3 hb4 hE5).1
  · rintro e w2 ⟨d, a7, n7, c7, l7, g7, he, hTd, hrd, hgot, hr7, hv7, hE7⟩
    have hb6 : Below w2.heap.size w2 (w2.alloc (.cells d.cells.toArray T.tid)) := (Below.refl _ _).alloc (Nat.le_refl _) _
    have hs6 : (w2.alloc (.cells d.cells.toArray T.tid)).heap.size = w2.heap.size + 1 := by simp
    have hsz7 := hE7.size
    have hlo := hO.lt
    obtain ⟨k1, k2, k3, -⟩ := T.len hTd
    have ks := T.kpos.2
    have hltI := hI.lt
    have hO6 := (hO.exc hE7 (fun b hb => by rcases hb with e | e <;> omega)).below hb6
    refine ⟨d, ds, he, T.inv hTd, ⟨hO6, fun i x hx => ?_, ⟨k1, k3⟩, ⟨NewB wr w2, hrd.below hb6, fun b hb => ⟨by have := hb.1; omega, by rw [hs6]; have := hb.2; omega⟩, fun x hx hb => by have := (hlo x hx).2; have := hb.1; omega⟩, ⟨?_, by omega⟩, by rw [hs6]; omega⟩, fun a8 c8 w8 o8 b8 => ?_⟩
    · rw [Nat.zero_add]
      exact cell_box (World.alloc_heap_new w2 _) i (by simpa using hx)
    · have : (j + 1) * T.s <= 4097 * 1000 := Nat.mul_le_mul (by omega) ks
      omega
    · have hlt3 := hI.lt
      refine ⟨j + 1, a8, c8, _, a7, n7, c7, l7, g7, rfl, o8, fun x hx => ?_, (hr7.below hb6).belowB b8 (by omega) (by omega), (hv7.below hb6).keep (keepS_lt b8 fun b hb => by have := hb.2; omega), hg.step (by omega) hgot, ((hE5.trans hE7).trans (.below hb6)).then_below b8⟩
      rcases List.mem_append.1 hx with hx | hx
      · exact hT x hx
      · rw [List.mem_singleton] at hx; subst hx; exact hTd
theorem el_any (T : LT) (hL : T.isL = true) (f : Nat) (S : Nat -> Prop) (rb wb qb : Nat) (a : Option Addr) (n c : Nat) (l : List Vl) (g : Bool) (w : World) (hr : Rdr w rb wb a n c g) (hv : Vals S w a n c l) (hS : ∀ b, S b -> b ≠ rb /\ b ≠ wb) (hG : ∀ u ∈ l, GoodD f u.er)
    (hit : 0 < f -> ∀ (S' : Nat -> Prop) (ob : Nat) (a : Option Addr) (n c : Nat) (l : List Vl) (g : Bool) (wr : World), Rdr wr ob wb a n c g -> Vals S' wr a n c l -> (∀ b, S' b -> b ≠ ob /\ b ≠ wb) -> (∀ u ∈ l, GoodD (f - 1) u.er) -> (T.isS = true -> wr.heap[qb]? = w.heap[qb]?) -> Calls Tryz.prog T.item (T.args ob qb) wr (RdOne S' T.ty ob wb l g wr)) (hq : T.isS = true -> qb < w.heap.size /\ qb ≠ rb /\ qb ≠ wb) :
    Calls Tryz.prog T.el #[.pointer (some ⟨rb, 0, none⟩), .func (.func T.item) #[] (T.cap qb)] w (RdOne S (.list T.k T.s T.ty) rb wb l g w) := by
  obtain ⟨-, x1, -, -, -⟩ := hr.cells
  obtain ⟨X, Wf, hX, q1, hS2⟩ := family (fun V => V.cell? ⟨rb, 1, none⟩ = some (.pointer (some ⟨wb, 0, none⟩))) w x1
  have HS2 := hiq hS2
  have hd : Below w.heap.size w w.drew := (Below.refl _ _).drew
  have hd0 : w.drew.cell? ⟨rb, 1, none⟩ = some (.pointer (some ⟨wb, 0, none⟩)) := x1
  have HN := hiq (next_any S rb wb 3 a n c l g w.drew (hr.below hd) (hv.below hd) hS)
  have HA : Hid (∀ (W3 W4 : World) (kk nn : Int) (t : ByteArray) (aa : Option Addr) (cc : Nat) (ll l' : List Vl) (a' : Option Addr) (n' c' : Nat) (g1 : Bool), Nx 3 l g (.mk kk nn t aa cc ll) l' g1 -> Inn S f rb wb W3 W4 aa cc ll a' n' c' l' g1 -> Exc (Two rb wb) w.drew W3 -> Below W3.heap.size W3 W4 -> W4.heap.size = W3.heap.size + 1 -> ∃ R : Value -> World -> Prop, R (.slice none 0 0) W4 /\ ∀ o wr, R o wr -> ERound T R (RdOne S (.list T.k T.s T.ty) rb wb l g w) rb wb qb W3 W4 ll o wr) :=
    fun W3 W4 kk nn t aa cc ll l' a' n' c' g1 hx hI hE hb4 hz4 => el_abs T hx hI hG hd hE hb4 hz4 hit hq
  have HI := hiq T.info
  have HU := hiq (T.und (LT.isL_E hL))
  have HS := hiq hS
  have HG := hiq hG
  have hlt : rb < w.drew.heap.size /\ wb < w.drew.heap.size := hr.lt
  clear hr hv hS hG hS2 x1 hit hq
  cases T
  case' op => go_enter Tryz.func226, Tryz.ntmps226
  case' dec => go_enter Tryz.func229, Tryz.ntmps229
  case' rew => go_enter Tryz.func157, Tryz.ntmps157
  case' grp => go_enter Tryz.func165, Tryz.ntmps165
  case' pat => go_enter Tryz.func169, Tryz.ntmps169
  case' sec => go_enter Tryz.func172, Tryz.ntmps172
  case' rul => go_enter Tryz.func160, Tryz.ntmps160
  case' wit => go_enter Tryz.func152, Tryz.ntmps152
  case' nod => go_enter Tryz.func222, Tryz.ntmps222
  case' exp => go_enter Tryz.func251, Tryz.ntmps251
  case' int => go_enter Tryz.func168, Tryz.ntmps168
  case' bool => go_enter Tryz.func177, Tryz.ntmps177
  case' text => go_enter Tryz.func181, Tryz.ntmps181
  case cst => cases hL
  case sty => cases hL
  case edi => cases hL
  case pos => cases hL
  case tok => cases hL
  case inp => cases hL
  case toks => cases hL
  all_goals
    dsimp only [LT.ty, LT.el, LT.item, LT.cap, LT.tid, LT.sl, LT.k, LT.s, LT.zero, LT.isW] at *
    go_wp2_with fail
    refine wp_region_tree (Wf := Wf) 9 (.read 0 (.read 3 (.read 4 (.read 5 (.read 6 (.act 1 (.read 2 (.read 7 (.act 8 .fin))))))))) (by kernel_rfl) (by kernel_rfl) (fun _ _ d _ _ h => by cases d <;> exact h) (HS2.out _ hd0) ?_
    clear hd hd0
    generalize _root_.Go.World.drew _ = W2 at *
    refine wpTree_read _ rfl (fun K hK => ?_); unfold rOp; go_simp; (refine hK _ ?_; clear hK K)
    refine wpTree_read _ rfl (fun K hK => ?_); unfold rOp; go_simp; (refine hK _ ?_; clear hK K)
    refine wpTree_read _ rfl (fun K hK => ?_); unfold rOp; go_simp; (refine hK _ ?_; clear hK K)
    refine wpTree_read _ rfl (fun K hK => ?_); unfold rOp; go_simp; (refine hK _ ?_; clear hK K)
    refine wpTree_read _ rfl (fun K hK => ?_); unfold rOp; go_simp; (refine hK _ ?_; clear hK K)
    refine wpTree_act _ rfl ?_
    go_wp2_with fail
    refine HN.out.mono ?_
    rintro e W3 ⟨⟨kk, nn, t, aa, cc, ll⟩, a', n', c', l', g1, he, hx, hr3, hv3, hrd, hE⟩
    change e = .returned (.agg #[.int .i64 kk, .int .i64 nn, .string t, .slice aa ll.length cc]) at he
    subst he
    have hfd := valItems kk nn t aa ll.length cc
    go_wp2_with fail
    refine ⟨HS2.out _ hr3.cells.2.1, ?_⟩
    refine wpTree_read _ rfl (fun K hK => ?_); unfold rOp; go_simp; (refine hK _ ?_; clear hK K)
    refine wpTree_read _ rfl (fun K hK => ?_); unfold rOp; go_simp; (refine hK _ ?_; clear hK K)
    refine wpTree_act _ rfl ?_
    go_wp2_with fail
    have hI := Inn.mk' hx hr3 hv3 hrd HS.out HG.out
    have hb4 : Below W3.heap.size W3 (W3.alloc (.cells #[.slice aa ll.length cc, .pointer (some ⟨wb, 0, none⟩)] 74)) := (Below.refl _ _).alloc (Nat.le_refl _) _
    have hz4 : (W3.alloc (.cells #[.slice aa ll.length cc, .pointer (some ⟨wb, 0, none⟩)] 74)).heap.size = W3.heap.size + 1 := by simp
    generalize W3.alloc (.cells #[.slice aa ll.length cc, .pointer (some ⟨wb, 0, none⟩)] 74) = W4 at *
    refine ⟨HS2.out _ hI.outer.cells.2.1, ?_⟩
    refine wpTree_fin ?_
    obtain ⟨R, hR0, hR⟩ := HA.out _ _ _ _ _ _ _ _ _ _ _ _ _ hx hI hE hb4 hz4
    have HR := hiq hR
    have HR0 := hiq hR0
    clear hI hr3 hv3 hrd hE hb4 hz4 q1 HS2 hX hfd hx HN HA hR hR0 hL
    go_wp2_with fail
    go_loopw [6] (fun o wr => R o wr) (fun o _ => ll.length + 1 - lenOf o)
    case atStart => exact HR0.out
    case round =>
      obtain ⟨j, a6, c6, a5, n5, c5, g5, rfl, o0, u1, o2, hend, hgo⟩ := HR.out _ _ hrel
      clear hrel
      by_cases hn0 : n5 = 0
      · subst hn0
        clear hgo
        go_wp2
        go_ret
        exact hend.out (.inl (by trivial))
      by_cases hg5 : g5 = true
      · subst hg5
        have h1 : 0 < n5 := by omega
        clear hn0 hgo
        go_wp2
        go_ret
        exact hend.out (.inr (by trivial))
      · obtain rfl : g5 = false := by simpa using hg5
        have h1 : 0 < n5 := by omega
        obtain ⟨hjl, hcall⟩ := hgo.out h1 rfl
        dsimp only [LT.item, LT.args] at hcall
        have HM := hiq hcall
        have HJ := hiq hjl
        clear hend hn0 hg5 hgo hcall hjl
        go_wp2_with fail
        refine HM.out.mono ?_
        rintro e w2 ⟨d, ds, he, hi, hp, hnext⟩
        dsimp only [LT.Inv] at hi
        repeat (rcases (hi : ∃ _, _) with ⟨_, hi⟩)
        subst hi
        simp only [Dv.val, Dv.cells, Dv.cellsL, List.cons_append, List.nil_append, List.append_nil] at he hp hnext
        subst he
        go_wp2_with (at_builtin; refine wpList_appP hp HI.out HU.out rfl (by decide) rfl (.tmp 31) (.tmp 35) rfl rfl rfl ?_; intro a8 c8 w8 o8 b8)
        go_roundw
        case rel => exact hnext.out _ _ _ o8 b8
        case measure =>
          have := HJ.out
          simp only [lenOf]
          omega
end Go.Proofs.YtlbcmeebcfalpaaGreatDoor
namespace Go.Proofs.YtlbcmeebcfalpaaGreatDoor
open Go.RowKit

/-- One field more was read. -/
def AStep (I : Dv -> Prop) (T' : Ty) (S : Nat -> Prop) (ts : List Ty) (rb wb : Nat) (l : List Vl) (g : Bool) (w : World) (ds : List Dv) (e : Ending) (V : World) : Prop :=
  ∃ (d : Dv) (a' : Option Addr) (n' c' : Nat) (l' : List Vl) (g' : Bool), e = .returned d.val /\ I d /\ Acc S (ts ++ [T']) rb wb l g w V (ds ++ [d]) a' n' c' l' g'
theorem Acc.call {I : Dv -> Prop} {T' : Ty} {f : Nat} {F : FuncId} {ar : Value -> Array Value} (h : Reads T' f F ar) (hI : ∀ d, Has T' d -> I d) {S : Nat -> Prop} {rb wb : Nat} {l : List Vl} {g : Bool} {w : World} (hS : ∀ b, S b -> b ≠ rb /\ b ≠ wb) (hG : ∀ u ∈ l, GoodD f u.er) (hlt : rb < w.heap.size /\ wb < w.heap.size)
    {ts : List Ty} {W : World} {ds : List Dv} {a : Option Addr} {n c : Nat} {l1 : List Vl} {g1 : Bool} (A : Acc S ts rb wb l g w W ds a n c l1 g1) : Calls Tryz.prog F (ar (.pointer (some ⟨rb, 0, none⟩))) W (AStep I T' S ts rb wb l g w ds) := by
  refine (h S rb wb a n c l1 g1 W A.hr A.hv hS (A.good hG)).mono ?_
  rintro e V ⟨d, a', n', c', l', g', he, hT, hrd, hgot, hr, hv, hE⟩
  exact ⟨d, a', n', c', l', g', he, hI d hT, A.step hlt hT hrd hgot hr hv hE⟩
/-- All fields were read; the struct is put into its block. -/
def LT.End (T : LT) (S : Nat -> Prop) (rb wb : Nat) (l : List Vl) (g : Bool) (w W : World) (ds : List Dv) : Prop :=
  ∃ WF, StL w.heap.size (Dv.cellsL ds) W WF /\ LdV w.heap.size T.tid (.agg (Dv.cellsL ds).toArray) WF /\ RdMany S T.ts rb wb l g w (.returned (.agg (Dv.cellsL ds).toArray)) WF
theorem LT.end_of (T : LT) (hF : T.isF = true) {S : Nat -> Prop} {rb wb : Nat} {l l1 : List Vl} {g g1 : Bool} {w W1 W : World} {ds : List Dv} {a1 : Option Addr} {n1 c1 : Nat} (hlt : rb < w.heap.size /\ wb < w.heap.size) (hb : Below w.heap.size w W1) (hz : W1.heap[w.heap.size]? = some (.cells T.zero.toArray T.tid (0, 0))) (A : Acc (InS S w) T.ts rb wb l g W1 W ds a1 n1 c1 l1 g1) : T.End S rb wb l g w W ds := by
  have hz1 := (Array.getElem?_eq_some_iff.1 hz).1
  have z := A.exc.heap (fun hn => by rcases hn with e | e <;> omega) hz
  have hTy : Has T.ty (.struc ds) := by
    cases T
    case nod => exact .node (.struc A.has)
    case exp => exact .expr (.struc A.has)
    all_goals first | exact .struc A.has | cases hF
  obtain ⟨hl, hl2, h1, -⟩ := T.len hTy
  rw [Dv.cells] at hl h1
  have hzz := putL_at (Dv.cellsL ds) (by simp; omega) z
  obtain ⟨ds', a9, n9, c9, l9, g9, i1, h2, h3, h4, h5, h6, h7⟩ := A.put hb hz1 hlt (fun b hb => hb.2) rfl
  exact ⟨_, run_putL _ 0 _ W z (by simp; omega) h1, T.ld (LT.isF_W hF) hl hzz, ds', a9, n9, c9, l9, g9, i1, h2, h3, h4, h5, h6.mono (fun b hb _ => hb.1), h7⟩
/-- Which lists of structs, and which structs, a struct has. -/
@[reducible] def LT.us : LT -> LT -> Bool | .sec, .op => true | .sec, .dec => true | .wit, .nod => true | .nod, .nod => true | .exp, .exp => true | .edi, .wit => true | .edi, .rew => true | .edi, .rul => true | .edi, .grp => true | .edi, .pat => true | .edi, .sec => true | _, _ => false
@[reducible] def LT.uf : LT -> LT -> Bool | .rul, .exp => true | .edi, .cst => true | .edi, .sty => true | _, _ => false
abbrev IsList (k s : Nat) (d : Dv) : Prop := ∃ a c l, d = .list k s a c l
theorem isList {k s : Nat} {t : Ty} (d : Dv) (h : Has (.list k s t) d) : IsList k s d := by
  obtain ⟨a, c, l, rfl, -⟩ := h.list_inv
  exact ⟨a, c, l, rfl⟩
theorem elInt_any (f : Nat) : Reads (.list 1 8 .int) f 168 (fun p => #[p, .func (.func 69) #[] #[]]) := fun S rb wb a n c l g w hr hv hS hG =>
  el_any .int rfl f S rb wb 0 a n c l g w hr hv hS hG (fun _ S' ob a n c l g wr hr hv hS hG _ => rnum_any (f - 1) S' ob wb a n c l g wr hr hv hS hG) (fun h => by cases h)
theorem elBool_any (f : Nat) : Reads (.list 1 1 .bool) f 177 (fun p => #[p, .func (.func 178) #[] #[]]) := fun S rb wb a n c l g w hr hv hS hG =>
  el_any .bool rfl f S rb wb 0 a n c l g w hr hv hS hG (fun _ S' ob a n c l g wr hr hv hS hG _ => rtruth_any (f - 1) S' ob wb a n c l g wr hr hv hS hG) (fun h => by cases h)
theorem elText_any (f : Nat) : Reads (.list 1 16 .text) f 181 (fun p => #[p, .func (.func 56) #[] #[]]) := fun S rb wb a n c l g w hr hv hS hG =>
  el_any .text rfl f S rb wb 0 a n c l g w hr hv hS hG (fun _ S' ob a n c l g wr hr hv hS hG _ => rtext_any (f - 1) S' ob wb a n c l g wr hr hv hS hG) (fun h => by cases h)
theorem ss_any (T : LT) (hL : T.isS = true) (f : Nat) (h : 0 < f -> Reads T.ty (f - 1) T.fi (fun p => #[p, .func (.func T.rd) #[] #[]])) : Reads (.list T.k T.s T.ty) f T.ss (fun p => #[p, .func (.func T.rd) #[] #[]]) := by
  intro S rb wb a n c l g w hr hv hS hG
  have hb1 : Below w.heap.size w (w.alloc (.cells #[.func (.func T.rd) #[] #[]] T.ft)) := (Below.refl _ _).alloc (Nat.le_refl _) _
  have hlt := hr.lt
  have hn := World.alloc_heap_new w (.cells #[.func (.func T.rd) #[] #[]] T.ft)
  have HM : Hid (Calls Tryz.prog T.el #[.pointer (some ⟨rb, 0, none⟩), .func (.func T.st1) #[] #[.pointer (some ⟨w.heap.size, 0, none⟩)]] (w.alloc (.cells #[.func (.func T.rd) #[] #[]] T.ft)) (fun e W => ∃ a c n, e = .returned (.slice a n c) /\ RdOne S (.list T.k T.s T.ty) rb wb l g w (.returned (.slice a n c)) W)) := by
    have hc : T.cap w.heap.size = #[.pointer (some ⟨w.heap.size, 0, none⟩)] /\ T.item = T.st1 /\ ∀ p q, T.args p q = #[.pointer (some ⟨p, 0, none⟩), .pointer (some ⟨q, 0, none⟩)] := by
      cases T <;> first | (cases hL; done) | exact ⟨rfl, rfl, fun _ _ => rfl⟩
    have := el_any T (LT.isS_L hL) f S rb wb w.heap.size a n c l g _ (hr.below hb1) (hv.below hb1) hS hG (fun h0 S' ob a n c l g wr hr hv hS hG hq => by
      rw [hc.2.1, hc.2.2]
      exact st_any T hL (f - 1) (h h0) S' ob wb a n c l g wr hr hv hS hG _ (by rw [hq hL]; exact hn)) (fun _ => ⟨by simp, by omega, by omega⟩)
    rw [hc.1, hc.2.1] at this
    refine this.mono fun e W h1 => ?_
    have hF := h1.from_ hb1
    obtain ⟨d, a1, n1, c1, l1, g1, he, hT, -⟩ := h1
    obtain ⟨da, dc, dl, rfl, -⟩ := hT.list_inv
    change e = .returned (.slice da dl.length dc) at he
    subst he
    exact ⟨da, dc, dl.length, rfl, hF⟩
  clear h hr hv hS hG hb1 hlt hn
  change Calls _ _ #[.pointer (some ⟨rb, 0, none⟩), .func (.func T.rd) #[] #[]] _ _
  cases T
  case' op => go_enter Tryz.func175, Tryz.ntmps175
  case' dec => go_enter Tryz.func179, Tryz.ntmps179
  case' rew => go_enter Tryz.func59, Tryz.ntmps59
  case' grp => go_enter Tryz.func65, Tryz.ntmps65
  case' pat => go_enter Tryz.func67, Tryz.ntmps67
  case' sec => go_enter Tryz.func70, Tryz.ntmps70
  case' rul => go_enter Tryz.func63, Tryz.ntmps63
  case' wit => go_enter Tryz.func57, Tryz.ntmps57
  case' nod => go_enter Tryz.func155, Tryz.ntmps155
  case' exp => go_enter Tryz.func225, Tryz.ntmps225
  case cst => cases hL
  case sty => cases hL
  case edi => cases hL
  case int => cases hL
  case bool => cases hL
  case text => cases hL
  case pos => cases hL
  case tok => cases hL
  case inp => cases hL
  case toks => cases hL
  all_goals
    dsimp only [LT.ty, LT.el, LT.rd, LT.st1, LT.ft, LT.k, LT.s] at *
    go_wp2_with fail
    refine HM.out.mono ?_
    generalize w.alloc (.cells _ _) = W1 at *
    rintro e W ⟨da, dc, n, rfl, hF⟩
    have HF := hiq hF
    clear hF HM hL
    go_wp2
    go_ret
    exact HF.out
end Go.Proofs.YtlbcmeebcfalpaaGreatDoor
