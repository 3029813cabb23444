/- pairwise: what a pair costs; the moves. -/
import Derived.Test.YtaelfjlmkgimhaaGreatDoorPSrc
set_option linter.unusedVariables false
set_option linter.unusedSimpArgs false
namespace Go.Proofs.YtaelfjlmkgimhaaGreatDoor
open Go.RowKit

/-- Two sources with the costs of their gaps: where they lie. -/
structure SV where
  a : Option Addr
  n : Nat
  cp : Nat
  b : Option Addr
  m : Nat
  cq : Nat
  ga : Option Addr
  gc : Nat
  gb : Option Addr
  gd : Nat
def SV.arr (v : SV) (c : Cst) : Array Value := #[.int .i64 c.g, .int .i64 c.n, .int .i64 c.l, .int .i64 c.m, .slice v.a v.n v.cp, .slice v.b v.m v.cq, .slice v.ga v.n v.gc, .slice v.gb v.m v.gd]
def SV.val (v : SV) (c : Cst) : Value := .agg (v.arr c)
structure RdS (S : Nat → Prop) (w : World) (c : Cst) (v : SV) (l r : List Tok) : Prop where
  tl : Toks S w v.a v.n v.cp l
  tr : Toks S w v.b v.m v.cq r
  gl : Nums S w v.ga v.n v.gc (gL c l)
  gr : Nums S w v.gb v.m v.gd (gL c r)
theorem RdS.keep {S : Nat → Prop} {w w' : World} {c : Cst} {v : SV} {l r : List Tok} (h : RdS S w c v l r) (k : KeepS S w w') : RdS S w' c v l r := ⟨h.tl.keep rTok_ok k, h.tr.keep rTok_ok k, h.gl.keep rInt_ok k, h.gr.keep rInt_ok k⟩
theorem RdS.below {S : Nat → Prop} {w w' : World} {c : Cst} {v : SV} {l r : List Tok} (h : RdS S w c v l r) (k : Below w.heap.size w w') : RdS S w' c v l r := h.keep (.below k)
theorem RdS.mono {S S' : Nat → Prop} {w : World} {c : Cst} {v : SV} {l r : List Tok} (h : RdS S w c v l r) (k : ∀ b, S b → b < w.heap.size → S' b) : RdS S' w c v l r := ⟨h.tl.mono rTok_ok k, h.tr.mono rTok_ok k, h.gl.mono rInt_ok k, h.gr.mono rInt_ok k⟩
/-- Valid tokens and costs. -/
structure VdS (c : Cst) (l r : List Tok) : Prop where
  ok : c.ok
  vl : ∀ t ∈ l, t.err = 0
  vr : ∀ t ∈ r, t.err = 0
set_option maxRecDepth 100000 in
set_option maxHeartbeats 4000000 in
theorem spair_any (S : Nat → Prop) (c : Cst) (v : SV) (l r : List Tok) (i k : Nat) (x y : Tok) (w : World) (h : RdS S w c v l r) (hv : VdS c l r) (hx : l[i]? = some x) (hy : r[k]? = some y) (hn : v.n ≤ 32) (hm : v.m ≤ 32) (hE : Env w) :
    Calls Tryz.prog 56 #[v.val c, .int .i64 (i : Int), .int .i64 (k : Int)] w fun e w' => e = .returned (.int .i64 (pT c x y : Nat)) ∧ Below w.heap.size w w' := by
  have hin : i < v.n := by rw [h.tl.len]; exact (List.getElem?_eq_some_iff.1 hx).1
  have hkm : k < v.m := by rw [h.tr.len]; exact (List.getElem?_eq_some_iff.1 hy).1
  have hbA : Below w.heap.size w (w.alloc (.cells (v.arr c) 60)) := (Below.refl _ _).alloc (Nat.le_refl _) _
  obtain ⟨x', b1, o1, e1, -, ea, -, -, hxk, ⟨c0, c1, c2, c3, c4, c5⟩⟩ := (h.tl.below rTok_ok hbA).tok hin
  obtain ⟨y', b2, o2, e2, -, eb, -, -, hyk, ⟨d0, d1, d2, d3, d4, d5⟩⟩ := (h.tr.below rTok_ok hbA).tok hkm
  rw [hx] at e1; cases e1
  rw [hy] at e2; cases e2
  have HP := Lib.hid (fun W (hW : Below w.heap.size w W) => tPair_any c x y W hv.ok (hv.vl x (List.mem_of_getElem? hx)) (hv.vr y (List.mem_of_getElem? hy)) hxk hyk (hE.below hW))
  generalize pT c x y = R at *
  clear h hv hx hy hE hxk hyk
  obtain ⟨cg, cn, cl, cm⟩ := c
  obtain ⟨a, n, cp, b, m, cq, ga, gc, gb, gd⟩ := v
  obtain ⟨tx, nm, pg, ln, fl, nme⟩ := x
  obtain ⟨tx2, nm2, pg2, ln2, fl2, nme2⟩ := y
  dsimp only at ea eb hin hkm hn hm c0 c1 c2 c3 c4 c5 d0 d1 d2 d3 d4 d5
  subst ea
  subst eb
  dsimp only [Tok.val, Cst.val, Cst.arr] at HP
  dsimp only [SV.val, SV.arr] at c0 c1 c2 c3 c4 c5 d0 d1 d2 d3 d4 d5 hbA ⊢
  have hX := World.alloc_heap_new w (.cells #[.int .i64 cg, .int .i64 cn, .int .i64 cl, .int .i64 cm, .slice (some ⟨b1, o1, none⟩) n cp, .slice (some ⟨b2, o2, none⟩) m cq, .slice ga n gc, .slice gb m gd] 60)
  generalize hWA : w.alloc (.cells #[.int .i64 cg, .int .i64 cn, .int .i64 cl, .int .i64 cm, .slice (some ⟨b1, o1, none⟩) n cp, .slice (some ⟨b2, o2, none⟩) m cq, .slice ga n gc, .slice gb m gd] 60) = WA at *
  obtain ⟨s0, s1, s2, s3, s4, s5, -⟩ := box8 hX
  have HBA := Lib.hid hbA
  clear hX hbA
  go_enter Tryz.func56, Tryz.ntmps56
  go_wp2_with (fail)
  obtain ⟨X, Wf, hX, hS1, hS2⟩ := family (fun V => Below WA.heap.size WA V) WA (Below.refl _ _)
  have HS2 := Lib.hid hS2
  have q_s0 := fun x => cell_later (hS1 x) s0
  have q_s1 := fun x => cell_later (hS1 x) s1
  have q_s2 := fun x => cell_later (hS1 x) s2
  have q_s3 := fun x => cell_later (hS1 x) s3
  have q_s4 := fun x => cell_later (hS1 x) s4
  have q_s5 := fun x => cell_later (hS1 x) s5
  have q_c0 := fun x => cell_later (hS1 x) c0
  have q_c1 := fun x => cell_later (hS1 x) c1
  have q_c2 := fun x => cell_later (hS1 x) c2
  have q_c3 := fun x => cell_later (hS1 x) c3
  have q_c4 := fun x => cell_later (hS1 x) c4
  have q_c5 := fun x => cell_later (hS1 x) c5
  have q_d0 := fun x => cell_later (hS1 x) d0
  have q_d1 := fun x => cell_later (hS1 x) d1
  have q_d2 := fun x => cell_later (hS1 x) d2
  have q_d3 := fun x => cell_later (hS1 x) d3
  have q_d4 := fun x => cell_later (hS1 x) d4
  have q_d5 := fun x => cell_later (hS1 x) d5
  clear hS1 hS2
  have hd0 : Below WA.heap.size WA WA.drew := (Below.refl _ _).drew
  refine wp_region_tree (Wf := Wf) 17 (.read 0 (.read 1 (.read 2 (.read 3 (.read 4 (.read 5 (.read 6 (.read 7 (.read 8 (.read 9 (.read 10 (.read 11 (.act 12 (.read 13 (.read 14 (.read 15 (.act 16 .fin))))))))))))))))) (by kernel_rfl) (by kernel_rfl) (fun _ _ d _ _ h => by cases d <;> exact h) (HS2.out _ hd0) ?_
  refine wpTree_read _ rfl (fun K hK => ?_); unfold rOp; go_simp; (refine hK _ ?_; clear hK K)
  refine wpTree_read _ rfl (fun K hK => ?_); unfold rOp; go_simp; (refine hK _ ?_; clear hK K)
  refine wpTree_read _ rfl (fun K hK => ?_); unfold rOp; go_simp; (refine hK _ ?_; clear hK K)
  refine wpTree_read _ rfl (fun K hK => ?_); unfold rOp; go_simp; (refine hK _ ?_; clear hK K)
  refine wpTree_read _ rfl (fun K hK => ?_); unfold rOp; go_simp; (refine hK _ ?_; clear hK K)
  refine wpTree_read _ rfl (fun K hK => ?_); unfold rOp; go_simp; (refine hK _ ?_; clear hK K)
  refine wpTree_read _ rfl (fun K hK => ?_); unfold rOp; go_simp; (refine hK _ ?_; clear hK K)
  refine wpTree_read _ rfl (fun K hK => ?_); unfold rOp; go_simp; (refine hK _ ?_; clear hK K)
  refine wpTree_read _ rfl (fun K hK => ?_); unfold rOp; go_simp; (refine hK _ ?_; clear hK K)
  refine wpTree_read _ rfl (fun K hK => ?_); unfold rOp; go_simp; (refine hK _ ?_; clear hK K)
  refine wpTree_read _ rfl (fun K hK => ?_); unfold rOp; go_simp; (refine hK _ ?_; clear hK K)
  refine wpTree_read _ rfl (fun K hK => ?_); unfold rOp; go_simp; (refine hK _ ?_; clear hK K)
  refine wpTree_act _ rfl ?_
  go_wp2_with (go_at_call 82; refine (HP.out _ (HBA.out.trans (hd0.mono HBA.out.size))).mono ?_; rintro e w4 ⟨rfl, hb4⟩)
  have hd4 := hd0.trans (hb4.mono hd0.size)
  refine ⟨HS2.out _ hd4, ?_⟩
  refine wpTree_read _ rfl (fun K hK => ?_); unfold rOp; go_simp; (refine hK _ ?_; clear hK K)
  refine wpTree_read _ rfl (fun K hK => ?_); unfold rOp; go_simp; (refine hK _ ?_; clear hK K)
  refine wpTree_read _ rfl (fun K hK => ?_); unfold rOp; go_simp; (refine hK _ ?_; clear hK K)
  refine wpTree_act _ rfl ?_
  go_wp2_with (fail)
  refine ⟨HS2.out _ hd4, ?_⟩
  refine wpTree_fin ?_
  go_wp2_with (fail)
  go_ret
  exact ⟨rfl, HBA.out.trans (hd4.mono HBA.out.size)⟩
end Go.Proofs.YtaelfjlmkgimhaaGreatDoor
