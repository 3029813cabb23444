/- pairwise: the table of the least costs. -/
import Derived.Test.YtaelfjlmkgimhaaGreatDoorPGrp
import Derived.Laws.EntriesVeiled
set_option linter.unusedVariables false
set_option linter.unusedSimpArgs false
namespace Go.Proofs.YtaelfjlmkgimhaaGreatDoor
open Go.RowKit Go.Shelf
attribute [local go_sem] Oper.semAt_some

theorem made_out {w : World} {B g N : Nat} (M : Nat) (h : w.ownsRow B 27 1 (.slice (some ⟨g, 0, none⟩) N N) N (madeCells (Value.slice none 0 0).cells (N * 1)).toList) : w.heap[g]? = some (.cells (outA (fun _ => 0) M N 0) 27 (0, 0)) := by
  have e : (madeCells (Value.slice none 0 0).cells (N * 1)).toList = List.replicate N (Value.slice none 0 0) := by
    rw [Nat.mul_one]; exact toList_madeCells_one _ _
  rw [e] at h
  rw [(full_block h).1, outA_zero (fun _ => 0) M]
theorem cell?_setc_other {w : World} {b j b' j' : Nat} {v u : Value} (h : b' ≠ b) (hc : w.cell? ⟨b', j', none⟩ = some u) : (w.setCell ⟨b, j, none⟩ v).cell? ⟨b', j', none⟩ = some u :=
  (World.cell?_setCell_other w ⟨b, j, none⟩ ⟨b', j', none⟩ v (by intro e; exact h (by first | exact congrArg Addr.block e | exact (congrArg Addr.block e).symm))).trans hc
theorem made_row {w : World} {B g M : Nat} (h : w.ownsRow B 3 1 (.slice (some ⟨g, 0, none⟩) M M) M (madeCells (Value.int .i64 0).cells (M * 1)).toList) : w.heap[g]? = some (.cells (rowA (fun _ => 0) M) 3 (0, 0)) := by
  have e : (madeCells (Value.int .i64 0).cells (M * 1)).toList = List.replicate M (Value.int .i64 0) := by
    rw [Nat.mul_one]; exact toList_madeCells_one _ _
  rw [e] at h
  rw [(full_block h).1, rowA_zero M]
set_option maxRecDepth 100000 in
set_option maxHeartbeats 16000000 in
theorem grid_any (S : Nat → Prop) (c : Cst) (v : SV) (l r : List Tok) (w : World) (h : RdS S w c v l r) (hv : VdS c l r) (hn : v.n ≤ 32) (hm : v.m ≤ 32) (hE : Env w) :
    Calls Tryz.prog 29 #[v.val c] w fun e w' => ∃ g1 g2 r1, e = .returned (.tuple #[.slice (some ⟨g1, 0, none⟩) (v.n + 1) (v.n + 1), .slice (some ⟨g2, 0, none⟩) (v.n + 1) (v.n + 1)]) ∧
      Tbl w' w.heap.size g1 (v.n + 1) (v.m + 1) (v.n + 1) r1 (fun i k => (tabS c l r i k : Int)) ∧ Below w.heap.size w w' := by
  have hbA : Below w.heap.size w (w.alloc (.cells (v.arr c) 60)) := (Below.refl _ _).alloc (Nat.le_refl _) _
  have hX := World.alloc_heap_new w (.cells (v.arr c) 60)
  have hsA : (w.alloc (.cells (v.arr c) 60)).heap.size = w.heap.size + 1 := by simp
  have HLN := Lib.hid (And.intro h.tl.len h.tr.len)
  have HMV := Lib.hid (fun W (hW : Below w.heap.size w W) i k hi hk => moves_any S c v l r i k W (h.below hW) hv hi hk hn hm (hE.below hW))
  have HOK := Lib.hid hv.ok
  clear h hv hE
  have HPL := Lib.hid (fun mm W => plc_in mm W c v)
  obtain ⟨cg, cn, cl, cm⟩ := c
  obtain ⟨a, n, cp, b, m, cq, ga, gc, gb, gd⟩ := v
  dsimp only at hn hm HMV HLN ⊢
  dsimp only [SV.val, SV.arr] at hbA hX hsA HMV HPL ⊢
  obtain ⟨N, hN⟩ : ∃ N, N = n + 1 := ⟨_, rfl⟩
  obtain ⟨M, hM⟩ : ∃ M, M = m + 1 := ⟨_, rfl⟩
  have hNw : IntKind.i64.wrap (N : Int) = (N : Int) := by rw [IntKind.wrap_i64]; omega
  have hMw : IntKind.i64.wrap (M : Int) = (M : Int) := by rw [IntKind.wrap_i64]; omega
  have hNb : N ≤ 33 := by omega
  have hMb : M ≤ 33 := by omega
  have hNN : (n : Int) + 1 = (N : Int) := by omega
  have hMM : (m : Int) + 1 = (M : Int) := by omega
  have HNM := Lib.hid (And.intro hN hM)
  rw [← hN]
  clear hN hM
  generalize hWA : w.alloc (.cells #[.int .i64 cg, .int .i64 cn, .int .i64 cl, .int .i64 cm, .slice a n cp, .slice b m cq, .slice ga n gc, .slice gb m gd] 60) = WA at *
  obtain ⟨s0, s1, s2, s3, s4, s5, s6, s7, -⟩ := box8 hX
  have HX := Lib.hid hX
  have HBA := Lib.hid hbA
  have HSA := Lib.hid hsA
  obtain ⟨i0, hi, hz0, hz1, hz2⟩ := info_parts Tryz.infoInts
  clear hX hbA hsA
  refine (callsIn_wide (n := 10)).1 ?_
  refine callsIn_of_wp_marks Tryz.func29 rfl trivial ?_ rfl
  simp only [Tryz.ntmps29, List.size_toArray, List.length_cons, List.length_nil, Nat.reduceAdd, Nat.reduceSub, Array.replicate_succ, Array.replicate_zero, List.push_toArray, List.append_toArray, List.nil_append, List.cons_append]
  refine wpIn_wide.2 ?_
  go_wp2_with fail
  obtain ⟨X, Wf, hX, hS1, hS2⟩ := family (fun V => Below WA.heap.size WA V) WA (Below.refl _ _)
  have HS2 := Lib.hid hS2
  have q_s4 := fun x => cell_later (hS1 x) s4
  clear hS1 hS2
  have hd0 : Below WA.heap.size WA WA.drew := (Below.refl _ _).drew
  refine wp_region_treAN (Wf := Wf) 13 (.read 0 (.read 1 (.read 2 (.read 3 (.read 5 (.read 6 (.read 7 (.read 8 (.alt 4 (.alt 9 (.alt 10 (.act 11 (.act 12 .fin)) (.act 11 (.act 10 (.act 12 .fin)))) (.alt 10 (.alt 9 (.act 11 (.act 12 .fin)) (.act 11 (.alt 9 (.act 12 .fin) (.act 12 (.act 9 .fin))))) (.act 11 (.alt 9 (.act 10 (.act 12 .fin)) (.act 10 (.alt 9 (.act 12 .fin) (.act 12 (.act 9 .fin)))))))) (.alt 9 (.alt 4 (.alt 10 (.act 11 (.act 12 .fin)) (.act 11 (.act 10 (.act 12 .fin)))) (.alt 10 (.alt 4 (.act 11 (.act 12 .fin)) (.act 11 (.act 4 (.act 12 .fin)))) (.act 11 (.alt 4 (.act 10 (.act 12 .fin)) (.act 10 (.act 4 (.act 12 .fin))))))) (.alt 10 (.alt 4 (.alt 9 (.act 11 (.act 12 .fin)) (.act 11 (.alt 9 (.act 12 .fin) (.act 12 (.act 9 .fin))))) (.alt 9 (.alt 4 (.act 11 (.act 12 .fin)) (.act 11 (.act 4 (.act 12 .fin)))) (.act 11 (.alt 4 (.alt 9 (.act 12 .fin) (.act 12 (.act 9 .fin))) (.act 9 (.act 4 (.act 12 .fin))))))) (.act 11 (.alt 4 (.alt 9 (.act 10 (.act 12 .fin)) (.act 10 (.alt 9 (.act 12 .fin) (.act 12 (.act 9 .fin))))) (.alt 9 (.alt 4 (.act 10 (.act 12 .fin)) (.act 10 (.act 4 (.act 12 .fin)))) (.act 10 (.alt 4 (.alt 9 (.act 12 .fin) (.act 12 (.act 9 .fin))) (.act 9 (.act 4 (.act 12 .fin))))))))))))))))))) (by kernel_rfl) (by kernel_rfl) (HS2.out _ hd0) ?_
  refine wpTreA_read _ rfl (fun K hK => ?_); unfold rOp; go_simp; (refine hK _ ?_; clear hK K)
  refine wpTreA_read _ rfl (fun K hK => ?_); unfold rOp; go_simp; (refine hK _ ?_; clear hK K)
  refine wpTreA_read _ rfl (fun K hK => ?_); unfold rOp; go_simp; (refine hK _ ?_; clear hK K)
  refine wpTreA_read _ rfl (fun K hK => ?_); unfold rOp; go_simp; (refine hK _ ?_; clear hK K)
  refine wpTreA_read _ rfl (fun K hK => ?_); unfold rOp; go_simp; (refine hK _ ?_; clear hK K)
  refine wpTreA_read _ rfl (fun K hK => ?_); unfold rOp; go_simp; (refine hK _ ?_; clear hK K)
  refine wpTreA_read _ rfl (fun K hK => ?_); unfold rOp; go_simp; (refine hK _ ?_; clear hK K)
  refine wpTreA_read _ rfl (fun K hK => ?_); unfold rOp; go_simp; (refine hK _ ?_; clear hK K)
  clear q_s4
  generalize WA.drew = V at *
  have hd := hd0
  clear hd0
  refine treA_key (fun a0 a1 V => ∃ gL gW bL bW, a1 = (((a0.put (some 19) (.slice (some ⟨gL, 0, none⟩) N N)).put (some 24) (.slice (some ⟨gW, 0, none⟩) N N)).put (some 4) (.pointer (some ⟨bL, 0, none⟩))).put (some 5) (.pointer (some ⟨bW, 0, none⟩)) ∧
    V.heap[gL]? = some (.cells (outA (fun _ => 0) M N 0) 27 (0, 0)) ∧ V.heap[gW]? = some (.cells (outA (fun _ => 0) M N 0) 27 (0, 0)) ∧ V.heap[bL]? = some (.cells #[(.slice (some ⟨gL, 0, none⟩) N N)] 65 (0, 0)) ∧ V.heap[bW]? = some (.cells #[.slice none 0 0] 65 (0, 0)) ∧
    (gL ≠ gW ∧ gL ≠ bL ∧ gL ≠ bW ∧ gW ≠ bL ∧ gW ≠ bW ∧ bL ≠ bW) ∧ (WA.heap.size ≤ gL ∧ WA.heap.size ≤ gW ∧ WA.heap.size ≤ bL ∧ WA.heap.size ≤ bW) ∧ Below WA.heap.size WA V) ?_ ?_
  · clear hd
    clear V
    rintro a1 V ⟨gL, gW, bL, bW, rfl, FgL, FgW, FbL, FbW, hne, hge, hd⟩
    simp only [Act.put, List.setIfInBounds_toArray, List.set_cons_zero, List.set_cons_succ]
    obtain ⟨q1, q2, q3, q4, q5, q6⟩ := hne
    obtain ⟨p1, p2, p3, p4⟩ := hge
    have c13 := (one_box FbW).1
    have f13 := (one_box FbW).2
    replace FbW := one_set FbW (.slice (some ⟨gW, 0, none⟩) N N)
    replace FbL := (heap_setCell_other (b := bW) (j := 0) q6 (.slice (some ⟨gW, 0, none⟩) N N)).trans FbL
    replace FgL := (heap_setCell_other (b := bW) (j := 0) q3 (.slice (some ⟨gW, 0, none⟩) N N)).trans FgL
    replace FgW := (heap_setCell_other (b := bW) (j := 0) q5 (.slice (some ⟨gW, 0, none⟩) N N)).trans FgW
    replace hd := below_setc hd p4 0 (.slice (some ⟨gW, 0, none⟩) N N)
    have x4 := (one_box FbL).1
    have TL : Tbl (V.setCell ⟨bW, 0, none⟩ (.slice (some ⟨gW, 0, none⟩) N N)) WA.heap.size gL N M 0 (fun _ => 0) (fun _ _ => 0) := ⟨FgL, fun i h => by omega, p1, fun i h => by omega, fun i h => by omega, fun i k h => by omega⟩
    have TW : Tbl (V.setCell ⟨bW, 0, none⟩ (.slice (some ⟨gW, 0, none⟩) N N)) WA.heap.size gW N M 0 (fun _ => 0) (fun _ _ => 0) := ⟨FgW, fun i h => by omega, p2, fun i h => by omega, fun i h => by omega, fun i k h => by omega⟩
    have HP := Lib.hid (And.intro p1 (And.intro p2 (And.intro p3 p4)))
    have HQ := Lib.hid (And.intro q1 (And.intro q2 (And.intro q3 (And.intro q4 (And.intro q5 q6)))))
    have HT := Lib.hid (And.intro TL (And.intro TW (And.intro FbL (And.intro FbW hd))))
    clear TL TW FbL FbW hd FgL FgW p1 p2 p3 p4 q1 q2 q3 q4 q5 q6
    clear s0 s1 s2 s3 s4 s5 s6 s7
    go_wp2_with fail
    generalize V.setCell ⟨bW, 0, none⟩ (.slice (some ⟨gW, 0, none⟩) N N) = V at *
    go_loopw [27] (fun i wr => ∃ (j : Nat) (rL rW : Nat → Nat), i = .int .i64 j ∧ j ≤ N ∧ Hid (Tbl wr WA.heap.size gL N M j rL (fun _ _ => 0) ∧ Tbl wr WA.heap.size gW N M j rW (fun _ _ => 0) ∧ ((∀ i, i < j → rL i ≠ gW) ∧ (∀ i, i < j → rW i ≠ gL) ∧ (∀ i k, i < j → k < j → rL i ≠ rW k) ∧ (∀ i, i < j → rL i ≠ bL ∧ rL i ≠ bW ∧ rW i ≠ bL ∧ rW i ≠ bW)) ∧ wr.heap[bL]? = some (.cells #[(.slice (some ⟨gL, 0, none⟩) N N)] 65 (0, 0)) ∧ wr.heap[bW]? = some (.cells #[(.slice (some ⟨gW, 0, none⟩) N N)] 65 (0, 0)) ∧ Below WA.heap.size WA wr)) (fun i _ => N - (intOf i).toNat)
    case atStart => exact ⟨0, _, _, rfl, Nat.zero_le _, HT.out.1, HT.out.2.1, ⟨fun i h => by omega, fun i h => by omega, fun i k h => by omega, fun i h => by omega⟩, HT.out.2.2.1, HT.out.2.2.2.1, HT.out.2.2.2.2⟩
    case round =>
      clear HT c13 f13 x4
      obtain ⟨j, rL, rW, rfl, hj, hst⟩ := hrel
      by_cases hjN : j < N
      · obtain ⟨TL, TW, ⟨a1, a2, a3, a4⟩, FbL, FbW, hd⟩ := hst.out
        clear hst
        have FS := (hd.block w.heap.size (by have := HSA.out; omega)).trans HX.out
        obtain ⟨X, Wf, hX2, hS1, hS2⟩ := family (fun V : World => V.heap[bL]? = some (.cells #[(.slice (some ⟨gL, 0, none⟩) N N)] 65 (0, 0)) ∧ V.heap[bW]? = some (.cells #[(.slice (some ⟨gW, 0, none⟩) N N)] 65 (0, 0)) ∧ V.heap[w.heap.size]? = some (.cells #[.int .i64 cg, .int .i64 cn, .int .i64 cl, .int .i64 cm, .slice a n cp, .slice b m cq, .slice ga n gc, .slice gb m gd] 60 (0, 0))) wr.drew ⟨FbL, FbW, FS⟩
        have HS2 := Lib.hid hS2
        have q4 := fun x => (one_box (hS1 x).1).1
        have q5 := fun x => (one_box (hS1 x).2.1).1
        have qs := fun x => (box8 (hS1 x).2.2).2.2.2.2.2.1
        have hsz : wr.heap.size ≤ wr.drew.heap.size := Nat.le_refl _
        have HLT : Hid ((gL < wr.heap.size ∧ gW < wr.heap.size ∧ bL < wr.heap.size ∧ bW < wr.heap.size) ∧ ∀ i, i < j → rL i < wr.heap.size ∧ rW i < wr.heap.size) := ⟨⟨TL.glt, TW.glt, (Array.getElem?_eq_some_iff.1 FbL).1, (Array.getElem?_eq_some_iff.1 FbW).1⟩, fun i hi => ⟨TL.rlt hi, TW.rlt hi⟩⟩
        have HA := Lib.hid (And.intro a1 (And.intro a2 (And.intro a3 a4)))
        have TL2 : Tbl wr.drew WA.heap.size gL N M j rL (fun _ _ => 0) := TL.below (Below.refl _ _).drew
        have TW2 : Tbl wr.drew WA.heap.size gW N M j rW (fun _ _ => 0) := TW.below (Below.refl _ _).drew
        replace FbL : wr.drew.heap[bL]? = _ := FbL
        replace FbW : wr.drew.heap[bW]? = _ := FbW
        replace FS : wr.drew.heap[w.heap.size]? = _ := FS
        replace hd : Below WA.heap.size WA wr.drew := hd.drew
        have hd0s : WA.heap.size ≤ wr.heap.size := hd.size
        have hS0 := HS2.out wr.drew ⟨FbL, FbW, FS⟩
        obtain ⟨i1, ki, kz0, kz1, kz2⟩ := info_parts Tryz.infoInt
        clear hS1 hS2 TL TW a1 a2 a3 a4
        go_wp2_with fail
        refine wp_region_treAN (Wf := Wf) 17 (.read 0 (.read 1 (.read 2 (.read 3 (.read 4 (.read 5 (.read 6 (.read 7 (.read 9 (.read 10 (.read 11 (.read 12 (.alt 8 (.read 14 (.alt 13 (.act 15 (.read 16 .fin)) (.act 15 (.act 13 (.read 16 .fin))))) (.act 13 (.act 8 (.read 14 (.act 15 (.read 16 .fin)))))))))))))))))) (by kernel_rfl) (by kernel_rfl) hS0 ?_
        refine wpTreA_read _ rfl (fun K hK => ?_); unfold rOp; go_simp; (refine hK _ ?_; clear hK K)
        refine wpTreA_read _ rfl (fun K hK => ?_); unfold rOp; go_simp; (refine hK _ ?_; clear hK K)
        refine wpTreA_read _ rfl (fun K hK => ?_); unfold rOp; go_simp; (refine hK _ ?_; clear hK K)
        refine wpTreA_read _ rfl (fun K hK => ?_); unfold rOp; go_simp; (refine hK _ ?_; clear hK K)
        refine wpTreA_read _ rfl (fun K hK => ?_); unfold rOp; go_simp; (refine hK _ ?_; clear hK K)
        refine wpTreA_read _ rfl (fun K hK => ?_); unfold rOp; go_simp; (refine hK _ ?_; clear hK K)
        refine wpTreA_read _ rfl (fun K hK => ?_); unfold rOp; go_simp; (refine hK _ ?_; clear hK K)
        refine wpTreA_read _ rfl (fun K hK => ?_); unfold rOp; go_simp; (refine hK _ ?_; clear hK K)
        refine wpTreA_read _ rfl (fun K hK => ?_); unfold rOp; go_simp; (refine hK _ ?_; clear hK K)
        refine wpTreA_read _ rfl (fun K hK => ?_); unfold rOp; go_simp; (refine hK _ ?_; clear hK K)
        refine wpTreA_read _ rfl (fun K hK => ?_); unfold rOp; go_simp; (refine hK _ ?_; clear hK K)
        refine wpTreA_read _ rfl (fun K hK => ?_); unfold rOp; go_simp; (refine hK _ ?_; clear hK K)
        clear q4 q5 qs hS0
        generalize hszz : wr.heap.size = sz at *
        generalize wr.drew = V at *
        have TL := TL2
        have TW := TW2
        have hw := hsz
        clear TL2 TW2 hszz hsz
        refine treA_key (fun a0 a1 V => ∃ b1 b2, a1 = (((a0.put (some 38) (.slice (some ⟨b1, 0, none⟩) M M)).put (some 43) (.slice (some ⟨b2, 0, none⟩) M M)).put (some 44) (.pointer (some ⟨gL, j, none⟩))).put (some 45) (.pointer (some ⟨gW, j, none⟩)) ∧
          Tbl V WA.heap.size gL N M (j + 1) (fun i => if i = j then b1 else rL i) (fun _ _ => 0) ∧ Tbl V WA.heap.size gW N M j rW (fun _ _ => 0) ∧ V.heap[b2]? = some (.cells (rowA (fun _ => 0) M) 3 (0, 0)) ∧ sz ≤ b1 ∧ sz ≤ b2 ∧ b1 ≠ b2 ∧
          V.heap[bL]? = some (.cells #[(.slice (some ⟨gL, 0, none⟩) N N)] 65 (0, 0)) ∧ V.heap[bW]? = some (.cells #[(.slice (some ⟨gW, 0, none⟩) N N)] 65 (0, 0)) ∧ Below WA.heap.size WA V) ?_ ?_
        · clear TL TW FbL FbW FS hd hw
          clear V
          rintro a1 V ⟨b1, b2, rfl, TL, TW, F2, h1, h2, n12, FbL, FbW, hd⟩
          simp only [Act.put, List.setIfInBounds_toArray, List.set_cons_zero, List.set_cons_succ]
          have c17 := TW.cellN (Nat.lt_irrefl j) hjN
          have f17 := TW.freeO j
          have e1 : ∀ i, i < j + 1 → gW ≠ (fun i => if i = j then b1 else rL i) i := fun i hi => by
            dsimp only
            split
            · have := HLT.out.1; omega
            · exact (HA.out.1 i (by omega)).symm
          have e2 : ∀ i, i < j + 1 → (fun i => if i = j then b2 else rW i) i ≠ gL := fun i hi => by
            dsimp only
            split
            · have := HLT.out.1; omega
            · exact HA.out.2.1 i (by omega)
          have e3 : ∀ i k, i < j + 1 → k < j + 1 → (fun i => if i = j then b1 else rL i) i ≠ (fun i => if i = j then b2 else rW i) k := fun i k hi hk => by
            dsimp only
            split <;> split
            · omega
            · have := (HLT.out.2 k (by omega)).2; omega
            · have := (HLT.out.2 i (by omega)).1; omega
            · exact HA.out.2.2.1 i k (by omega) (by omega)
          have e4 : ∀ i, i < j + 1 → (fun i => if i = j then b1 else rL i) i ≠ bL ∧ (fun i => if i = j then b1 else rL i) i ≠ bW ∧ (fun i => if i = j then b2 else rW i) i ≠ bL ∧ (fun i => if i = j then b2 else rW i) i ≠ bW := fun i hi => by
            dsimp only
            by_cases e : i = j
            · rw [if_pos e, if_pos e]; have := HLT.out.1; omega
            · rw [if_neg e, if_neg e]; exact HA.out.2.2.2 i (by omega)
          have hTW := TW.addRow F2 (Nat.le_trans hd0s h2) (by have := HLT.out.1; omega) (fun i hi => by have := (HLT.out.2 i hi).2; omega)
          have hTL := TL.setOther (b := gW) (k := j) (Ne.symm HQ.out.1) e1 (.slice (some ⟨b2, 0, none⟩) M M)
          have hFL := (heap_setCell_other (b := gW) (j := j) (Ne.symm HQ.out.2.2.2.1) (.slice (some ⟨b2, 0, none⟩) M M)).trans FbL
          have hFW := (heap_setCell_other (b := gW) (j := j) (Ne.symm HQ.out.2.2.2.2.1) (.slice (some ⟨b2, 0, none⟩) M M)).trans FbW
          have hd' := below_setc hd HP.out.2.1 j (.slice (some ⟨b2, 0, none⟩) M M)
          have HEND := Lib.hid (And.intro hTL (And.intro hTW (And.intro (And.intro (fun i hi => (e1 i hi).symm) (And.intro e2 (And.intro e3 e4))) (And.intro hFL (And.intro hFW hd')))))
          clear hTL hTW hFL hFW hd' e1 e2 e3 e4 TL TW F2 FbL FbW hd
          go_wp2_with fail
          go_roundw
          case rel => exact ⟨j + 1, _, _, by go_num, by omega, HEND.out⟩
          case measure => simp [intOf]; omega
        · intro key
          repeat' first
            | refine wpTreA_alt ?_ ?_
            | (refine wpTreA_act (k := 8) _ rfl ?_
               refine wpList_make_full V rfl _ _ 27 rfl V.heap.size 3 i1 (.int .i64 0) 1 Tryz.underlying27 ki kz0 kz1 .i64 .i64 M M M rfl rfl rfl rfl (by rw [kz2]; omega) (by unfold maxLen; omega) (Nat.le_refl _) ?_
               intro V1 hrow hg
               have hst : Below V.heap.size V V1 := (Below.refl _ _).grown hg (Nat.le_refl _) (by simp)
               try (have n1 : b1 ≠ V.heap.size := by have := (Array.getElem?_eq_some_iff.1 F1).1; omega)
               try (have n2 : b2 ≠ V.heap.size := by have := (Array.getElem?_eq_some_iff.1 F2).1; omega)
               have hF1 : sz ≤ V.heap.size := hw
               replace TL := TL.below hst
               replace TW := TW.below hst
               replace FbL := (hst.block _ (Array.getElem?_eq_some_iff.1 FbL).1).trans FbL
               replace FbW := (hst.block _ (Array.getElem?_eq_some_iff.1 FbW).1).trans FbW
               replace FS := (hst.block _ (Array.getElem?_eq_some_iff.1 FS).1).trans FS
               try (replace F1 := (hst.block _ (Array.getElem?_eq_some_iff.1 F1).1).trans F1)
               try (replace F2 := (hst.block _ (Array.getElem?_eq_some_iff.1 F2).1).trans F2)
               replace hd := hd.trans (hst.mono hd.size)
               replace hw := Nat.le_trans hw hst.size
               have F1 := made_row hrow
               generalize V.heap.size = b1 at *
               clear hst hrow hg
               go_wp2_with fail
               refine ⟨HS2.out _ ⟨FbL, FbW, FS⟩, ?_⟩
               generalize V1 = V at *
               )
            | (refine wpTreA_act (k := 13) _ rfl ?_
               refine wpList_make_full V rfl _ _ 27 rfl V.heap.size 3 i1 (.int .i64 0) 1 Tryz.underlying27 ki kz0 kz1 .i64 .i64 M M M rfl rfl rfl rfl (by rw [kz2]; omega) (by unfold maxLen; omega) (Nat.le_refl _) ?_
               intro V1 hrow hg
               have hst : Below V.heap.size V V1 := (Below.refl _ _).grown hg (Nat.le_refl _) (by simp)
               try (have n1 : b1 ≠ V.heap.size := by have := (Array.getElem?_eq_some_iff.1 F1).1; omega)
               try (have n2 : b2 ≠ V.heap.size := by have := (Array.getElem?_eq_some_iff.1 F2).1; omega)
               have hF2 : sz ≤ V.heap.size := hw
               replace TL := TL.below hst
               replace TW := TW.below hst
               replace FbL := (hst.block _ (Array.getElem?_eq_some_iff.1 FbL).1).trans FbL
               replace FbW := (hst.block _ (Array.getElem?_eq_some_iff.1 FbW).1).trans FbW
               replace FS := (hst.block _ (Array.getElem?_eq_some_iff.1 FS).1).trans FS
               try (replace F1 := (hst.block _ (Array.getElem?_eq_some_iff.1 F1).1).trans F1)
               try (replace F2 := (hst.block _ (Array.getElem?_eq_some_iff.1 F2).1).trans F2)
               replace hd := hd.trans (hst.mono hd.size)
               replace hw := Nat.le_trans hw hst.size
               have F2 := made_row hrow
               generalize V.heap.size = b2 at *
               clear hst hrow hg
               go_wp2_with fail
               refine ⟨HS2.out _ ⟨FbL, FbW, FS⟩, ?_⟩
               generalize V1 = V at *
               )
            | (refine wpTreA_read (k := 14) _ rfl (fun K hK => ?_); unfold rOp; go_simp; (refine hK _ ?_; clear hK K))
            | (refine wpTreA_read (k := 16) _ rfl (fun K hK => ?_); unfold rOp; go_simp; (refine hK _ ?_; clear hK K))
            | (refine wpTreA_act (k := 15) _ rfl ?_
               have c15 := TL.cellN (Nat.lt_irrefl j) hjN
               have f15 := TL.freeO j
               have hTL := TL.addRow F1 (Nat.le_trans hd0s hF1) (by have := HLT.out.1; omega) (fun i hi => by have := (HLT.out.2 i hi).1; omega)
               replace TW := TW.setOther (b := gL) (k := j) HQ.out.1 (fun i hi => (HA.out.2.1 i hi).symm) (.slice (some ⟨b1, 0, none⟩) M M)
               replace FbL := (heap_setCell_other (b := gL) (j := j) (Ne.symm HQ.out.2.1) (.slice (some ⟨b1, 0, none⟩) M M)).trans FbL
               replace FbW := (heap_setCell_other (b := gL) (j := j) (Ne.symm HQ.out.2.2.1) (.slice (some ⟨b1, 0, none⟩) M M)).trans FbW
               replace FS := (heap_setCell_other (b := gL) (j := j) (by have := HP.out.1; have := HSA.out; omega) (.slice (some ⟨b1, 0, none⟩) M M)).trans FS
               try (replace F2 := (heap_setCell_other (b := gL) (j := j) (by have := HLT.out.1; omega) (.slice (some ⟨b1, 0, none⟩) M M)).trans F2)
               replace hd := below_setc hd HP.out.1 j (.slice (some ⟨b1, 0, none⟩) M M)
               replace hw : sz ≤ (V.setCell ⟨gL, j, none⟩ (.slice (some ⟨b1, 0, none⟩) M M)).heap.size := by simpa [World.setCell] using hw
               replace F1 := (heap_setCell_other (b := gL) (j := j) (by have := HLT.out.1; omega) (.slice (some ⟨b1, 0, none⟩) M M)).trans F1
               clear TL
               have TL := hTL
               clear hTL
               go_wp2_with fail
               refine ⟨HS2.out _ ⟨FbL, FbW, FS⟩, ?_⟩
               clear c15 f15
               generalize V.setCell ⟨gL, j, none⟩ (.slice (some ⟨b1, 0, none⟩) M M) = V at *)
            | exact wpTreA_fin (key _ _ ⟨b1, b2, rfl, TL, TW, F2, hF1, hF2, by omega, FbL, FbW, hd⟩)
      · have hjj : N = j := by omega
        subst hjj
        obtain ⟨TL, TW, HA, FbL, FbW, hd⟩ := hst.out
        have FS := (hd.block w.heap.size (by have := HSA.out; omega)).trans HX.out
        obtain ⟨s0, s1, s2, s3, s4, s5, s6, s7, -⟩ := box8 FS
        have x4 := (one_box FbL).1
        have HST := Lib.hid (And.intro TL (And.intro TW (And.intro HA (And.intro FbL (And.intro FbW (And.intro FS hd))))))
        have HPL1 := Lib.hid (fun W => (callsIn_wide (n := 10)).1 (HPL.out 10 W))
        clear hst TL TW HA FbL FbW FS hd HPL
        have hb1 : Below wr.heap.size wr (wr.alloc (.cells #[.func (.func 30) #[(.slice (some ⟨gL, 0, none⟩) N N)] #[]] 68)) := (Below.refl _ _).alloc (Nat.le_refl _) _
        have HB1 := Lib.hid hb1
        obtain ⟨s0', s1', s2', s3', s4', s5', s6', s7', -⟩ := box8 ((hb1.block w.heap.size (by have := (Array.getElem?_eq_some_iff.1 HST.out.2.2.2.2.2.1).1; omega)).trans HST.out.2.2.2.2.2.1)
        clear hb1
        go_wp2_with fail
        refine (HPL1.out _).mono ?_
        rintro e w5 ⟨rfl, hw5⟩
        go_wp2_with fail
        obtain ⟨TL, TW, HA, FbL, FbW, FS, hd⟩ := HST.out
        have hbL : Below wr.heap.size wr w5 := by rw [hw5]; exact HB1.out.alloc HB1.out.size _
        have gF : w5.heap[wr.heap.size]? = some (.cells #[.func (.func 30) #[(.slice (some ⟨gL, 0, none⟩) N N)] #[]] 68 (0, 0)) := by
          rw [hw5, Below.heap_alloc _ _ _ (by simp)]; exact World.alloc_heap_new _ _
        have gS : w5.heap[wr.heap.size + 1]? = some (.cells #[.int .i64 cg, .int .i64 cn, .int .i64 cl, .int .i64 cm, .slice a n cp, .slice b m cq, .slice ga n gc, .slice gb m gd] 60 (0, 0)) := by
          have e1 := World.alloc_heap_new (wr.alloc (.cells #[.func (.func 30) #[(.slice (some ⟨gL, 0, none⟩) N N)] #[]] 68)) (.cells #[.int .i64 cg, .int .i64 cn, .int .i64 cl, .int .i64 cm, .slice a n cp, .slice b m cq, .slice ga n gc, .slice gb m gd] 60)
          rw [← hw5] at e1; simpa using e1
        have hs5 : w5.heap.size = wr.heap.size + 2 := by rw [hw5]; simp
        replace TL := TL.below hbL
        replace TW := TW.below hbL
        replace FbL := (hbL.block _ (Array.getElem?_eq_some_iff.1 FbL).1).trans FbL
        replace FbW := (hbL.block _ (Array.getElem?_eq_some_iff.1 FbW).1).trans FbW
        replace FS := (hbL.block _ (Array.getElem?_eq_some_iff.1 FS).1).trans FS
        have hlt : bL < wr.heap.size ∧ bW < wr.heap.size ∧ w.heap.size < wr.heap.size ∧ gL < wr.heap.size ∧ gW < wr.heap.size ∧ ∀ i, i < N → rL i < wr.heap.size ∧ rW i < wr.heap.size :=
          ⟨(Array.getElem?_eq_some_iff.1 HST.out.2.2.2.1).1, (Array.getElem?_eq_some_iff.1 HST.out.2.2.2.2.1).1, (Array.getElem?_eq_some_iff.1 HST.out.2.2.2.2.2.1).1, HST.out.1.glt, HST.out.2.1.glt, fun i hi => ⟨HST.out.1.rlt hi, HST.out.2.1.rlt hi⟩⟩
        have hd5 : Below WA.heap.size WA w5 := hd.trans (hbL.mono hd.size)
        have HA2 := Lib.hid HA
        rw [← hw5]
        generalize wr.heap.size = bf at *
        clear HST HB1 HPL1 s0 s1 s2 s3 s4 s5 s6 s7 s0' s1' s2' s3' s4' s5' s6' s7' x4 hw5 hd HA hbL
        refine wpIn_wide (n := 10).1 ?_
        refine iter_loop (α := Pl n m) (n := 10) (by omega) rfl (enters_of Tryz.func83 (by kernel_rfl) rfl) (plc_stops (10 - 1) (fun A B => A.cell? ⟨bf + 1, 5, none⟩ = some (.slice b m cq) → B.cell? ⟨bf + 1, 5, none⟩ = some (.slice b m cq)) (bf + 1) n m cp cq a b w5 (by omega) (by omega) (box8 gS).2.2.2.2.1 (box8 gS).2.2.2.2.2.1 (fun _ _ h => h)) (fun h1 h2 h => h2 (h1 h)) (fun _ h => h)
          (fun W z o o' hz ho hc _ h => (World.cell?_of_block (a := ⟨bf + 1, 5, none⟩) (World.putObj_heap_other (by show bf + 1 ≠ z; omega))).trans h) (fun _ => rfl)
          (fun (pre : List (Pl n m)) W => ∃ (T : Nat → Nat → Nat) (U : Nat → Nat → Int), Tbl W WA.heap.size gL N M N rL (fun i k => (T i k : Int)) ∧ Tbl W WA.heap.size gW N M N rW U ∧ (∀ i k, T i k ≤ 1000 * pre.length) ∧ (pre.map (·.1) <+: plL n m → ∀ p ∈ pre.map (·.1), T p.1 p.2 = tabS ⟨cg, cn, cl, cm⟩ l r p.1 p.2) ∧
            (W.heap[bL]? = some (.cells #[(.slice (some ⟨gL, 0, none⟩) N N)] 65 (0, 0)) ∧ W.heap[bW]? = some (.cells #[(.slice (some ⟨gW, 0, none⟩) N N)] 65 (0, 0)) ∧ W.heap[w.heap.size]? = some (.cells #[.int .i64 cg, .int .i64 cn, .int .i64 cl, .int .i64 cm, .slice a n cp, .slice b m cq, .slice ga n gc, .slice gb m gd] 60 (0, 0)) ∧ W.heap[bf]? = some (.cells #[.func (.func 30) #[(.slice (some ⟨gL, 0, none⟩) N N)] #[]] 68 (0, 0)) ∧ W.heap[bf + 1]? = some (.cells #[.int .i64 cg, .int .i64 cn, .int .i64 cl, .int .i64 cm, .slice a n cp, .slice b m cq, .slice ga n gc, .slice gb m gd] 60 (0, 0))) ∧ Below WA.heap.size WA W ∧ w5.heap.size ≤ W.heap.size)
          (fun _ _ _ => False) ?hI ?hIx ⟨fun _ _ => 0, fun _ _ => 0, TL, TW, fun _ _ => Nat.zero_le _, fun _ p hp => by simp at hp, ⟨FbL, FbW, FS, gF, gS⟩, hd5, Nat.le_refl _⟩ ?round ?done ?stop
        all_goals clear TL TW FbL FbW FS gF gS hd5
        case hI =>
          rintro pre W W' row ⟨T, U, g1, g2, g3, g4, ⟨e1, e2, e3, e4, e5⟩, g6, g7⟩ hg hr
          have hWA : WA.heap.size ≤ w5.heap.size := by have := HP.out.1; omega
          exact ⟨T, U, g1.own hg hr, g2.own hg hr, g3, g4, ⟨cells_own e1 hg hr, cells_own e2 hg hr, cells_own e3 hg hr, cells_own e4 hg hr, cells_own e5 hg hr⟩, g6.grown hg g6.size (fun r e => by have := (hr r e).1; omega), Nat.le_trans g7 hg.size⟩
        case hIx => rintro c' pre W W' row h; exact h.elim
        case round =>
          rintro lv ⟨⟨i, k⟩, hx⟩ W K hK
          dsimp only [plEnc] at hK ⊢
          gi_wp2
          first | (refine ⟨by first | trivial | rfl, hK _ ?_⟩) | (refine hK _ ?_) | skip
          try clear hK
          try clear W K
          rintro lv2 pre W ⟨T, U, TL, TW, hTb, hTv, ⟨e1, e2, e3, e4, e5⟩, hd, hsz⟩ hlt2
          have hik := plL_mem hx
          dsimp only at hik
          obtain ⟨s0, s1, s2, s3, s4, s5, s6, s7, -⟩ := box8 e3
          have HM1 := Lib.hid (HMV.out W (HBA.out.trans (hd.mono HBA.out.size)) i k hik.1 hik.2)
          have HG := Lib.hid (And.intro TL (And.intro TW (And.intro hTb (And.intro hTv (And.intro (And.intro e1 (And.intro e2 (And.intro e3 (And.intro e4 e5)))) (And.intro hd hsz))))))
          clear TL TW hTb hTv e1 e2 e3 e4 e5 hd hsz
          gi_wp2_with (fail)
          refine ⟨trivial, ?_⟩
          refine (callsIn_wide.2 HM1.out).mono ?_
          rintro e w6 ⟨a6, q6, c6, rfl, ho6, hb6⟩
          have hq6 := ho6.len
          have hbd := mvs_bound HOK.out l[i]? r[k]?
          have HMN : Hid ((l[i]?.isSome = true → i < n) ∧ (r[k]?.isSome = true → k < m)) := ⟨fun h => by have := List.getElem?_eq_some_iff.1 (Option.eq_some_of_isSome h); obtain ⟨q, -⟩ := this; have := HLN.out.1; omega, fun h => by have := List.getElem?_eq_some_iff.1 (Option.eq_some_of_isSome h); obtain ⟨q, -⟩ := this; have := HLN.out.2; omega⟩
          have hLl : (mvs ⟨cg, cn, cl, cm⟩ l[i]? r[k]?).length ≤ 3 := by
            cases l[i]? <;> cases r[k]? <;> simp [mvs]
          generalize hL : mvs ⟨cg, cn, cl, cm⟩ l[i]? r[k]? = L at *
          have HLE := Lib.hid hL
          have HO6 := Lib.hid ho6
          have HB6 := Lib.hid hb6
          have HBD := Lib.hid hbd
          have HQ6 := Lib.hid hq6
          have hq63 : q6 ≤ 3 := by omega
          have hpl : pre.length ≤ 1089 := by
            have e1 : (plS n m).length ≤ 1089 := by
              rw [plS_len]
              exact Nat.le_trans (Nat.mul_le_mul (show n + 1 ≤ 33 by omega) (show m + 1 ≤ 33 by omega)) (by omega)
            omega
          clear ho6 hb6 hbd hq6 hLl hL s0 s1 s2 s3 s4 s5 s6 s7
          gi_wp2_with (fail)
          gi_loopw [10, 11, 58] (fun z cn j wr => ∃ (jj vv : Nat) (ct : Int), z = .int .i64 (vv : Int) ∧ cn = .int .i64 ct ∧ j = .int .i64 (jj : Int) ∧ jj ≤ q6 ∧ vv = mvN T i k (L.take jj) ∧ vv ≤ 2000 * 1089 ∧ Below w6.heap.size w6 wr) (fun _ _ j _ => q6 - (intOf j).toNat)
          case atStart => exact ⟨0, 0, 1, rfl, rfl, rfl, Nat.zero_le _, rfl, Nat.zero_le _, Below.refl _ _⟩
          case round =>
            obtain ⟨jj, vv, ct, rfl, rfl, rfl, hjj, hvv, hvL, hbr⟩ := hrel
            by_cases hjq : jj < q6
            · obtain ⟨⟨d1, d2, co⟩, g6, hu, hmem, ea, -, hg6, -, hat⟩ := (HO6.out.below hbr).at_ (fun _ => rfl) hjq
              subst ea
              have l0 : wr.cell? ⟨g6, jj * 3, none⟩ = _ := hat 0 _ rfl
              have l1 : wr.cell? ⟨g6, jj * 3 + 1, none⟩ = _ := hat 1 _ rfl
              have l2 : wr.cell? ⟨g6, jj * 3 + 2, none⟩ = _ := hat 2 _ rfl
              obtain ⟨b1, b2, b3, b4, b5⟩ := HBD.out _ hmem
              dsimp only at b1 b2 b3 b4 b5 l0 l1 l2
              have hI1 : i + d1 < N := by
                have := HNM.out.1
                by_cases e : d1 = 1
                · have := HMN.out.1 (b4 e); omega
                · omega
              have hK1 : k + d2 < M := by
                have := HNM.out.2
                by_cases e : d2 = 1
                · have := HMN.out.2 (b5 e); omega
                · omega
              obtain ⟨TL, TW, hTb, hTv, ⟨e1, e2, e3, e4, e5⟩, hd, hsz⟩ := HG.out
              have hWr : Below W.heap.size W wr := HB6.out.trans (hbr.mono HB6.out.size)
              have hX : T (i + d1) (k + d2) ≤ 1000 * 1089 := Nat.le_trans (hTb _ _) (by omega)
              have hnx : L.take (jj + 1) = L.take jj ++ [(d1, d2, co)] := (take_more hu).symm
              obtain ⟨Zx, hXe⟩ : ∃ Zx, Zx = co + T (i + d1) (k + d2) := ⟨_, rfl⟩
              have HVV : Hid ((jj = 0 → Zx = mvN T i k (L.take (jj + 1))) ∧ (jj ≠ 0 → mvN T i k (L.take (jj + 1)) = min vv Zx)) := by
                constructor
                · intro e
                  subst e
                  rw [hnx, List.take_zero, List.nil_append, mvN_one, hXe]
                · intro e
                  have hne : L.take jj ≠ [] := by
                    intro h
                    have h2 := congrArg List.length h
                    rw [List.length_take, List.length_nil] at h2
                    have := (List.getElem?_eq_some_iff.1 hu).1
                    omega
                  rw [hnx, mvN_snoc hne, ← hvv, hXe]
              have hXL : Zx ≤ 2000 * 1089 := by omega
              have hXw : IntKind.i64.wrap ((co : Int) + (T (i + d1) (k + d2) : Int)) = (Zx : Int) := by rw [IntKind.wrap_i64]; omega
              have hWm : Below wr.heap.size wr (wr.alloc (.cells #[.int .i64 (d1 : Int), .int .i64 (d2 : Int), .int .i64 (co : Int)] 98)) := (Below.refl _ _).alloc (Nat.le_refl _) _
              have gm := World.alloc_heap_new wr (.cells #[.int .i64 (d1 : Int), .int .i64 (d2 : Int), .int .i64 (co : Int)] 98)
              have hWm2 := hWr.trans (hWm.mono hWr.size)
              obtain ⟨I1, hI1e⟩ : ∃ I1, I1 = i + d1 := ⟨_, rfl⟩
              obtain ⟨K1, hK1e⟩ : ∃ K1, K1 = k + d2 := ⟨_, rfl⟩
              have hIw : IntKind.i64.wrap ((i : Int) + (d1 : Int)) = (I1 : Int) := by rw [IntKind.wrap_i64]; omega
              have hKw : IntKind.i64.wrap ((k : Int) + (d2 : Int)) = (K1 : Int) := by rw [IntKind.wrap_i64]; omega
              rw [← hI1e] at hI1
              rw [← hK1e] at hK1
              rw [← hI1e, ← hK1e] at hXw
              have HAT : Hid (∀ V, Below (wr.alloc (.cells #[.int .i64 (d1 : Int), .int .i64 (d2 : Int), .int .i64 (co : Int)] 98)).heap.size (wr.alloc (.cells #[.int .i64 (d1 : Int), .int .i64 (d2 : Int), .int .i64 (co : Int)] 98)) V → Calls Tryz.prog 30 #[(.slice (some ⟨gL, 0, none⟩) N N), .int .i64 (I1 : Int), .int .i64 (K1 : Int)] V fun e w' => e = .returned (.int .i64 (T I1 K1 : Int)) ∧ V = w') := fun V hV => by
                have hT := TL.below (hWm2.trans (hV.mono hWm2.size))
                exact at_any gL N M I1 K1 _ _ V (hT.cellO hI1 hI1) (hT.cellI hI1 hK1) hI1 hK1
              have HAW : Hid (∀ V, Below (wr.alloc (.cells #[.int .i64 (d1 : Int), .int .i64 (d2 : Int), .int .i64 (co : Int)] 98)).heap.size (wr.alloc (.cells #[.int .i64 (d1 : Int), .int .i64 (d2 : Int), .int .i64 (co : Int)] 98)) V → Calls Tryz.prog 30 #[(.slice (some ⟨gW, 0, none⟩) N N), .int .i64 (I1 : Int), .int .i64 (K1 : Int)] V fun e w' => e = .returned (.int .i64 (U I1 K1)) ∧ V = w') := fun V hV => by
                have hT := TW.below (hWm2.trans (hV.mono hWm2.size))
                exact at_any gW N M I1 K1 _ _ V (hT.cellO hI1 hI1) (hT.cellI hI1 hK1) hI1 hK1
              have HF : Hid (∀ V, Below (wr.alloc (.cells #[.int .i64 (d1 : Int), .int .i64 (d2 : Int), .int .i64 (co : Int)] 98)).heap.size (wr.alloc (.cells #[.int .i64 (d1 : Int), .int .i64 (d2 : Int), .int .i64 (co : Int)] 98)) V → (V.cell? ⟨wr.heap.size, 0, none⟩ = some (.int .i64 (d1 : Int)) ∧ V.cell? ⟨wr.heap.size, 1, none⟩ = some (.int .i64 (d2 : Int)) ∧ V.cell? ⟨wr.heap.size, 2, none⟩ = some (.int .i64 (co : Int))) ∧
                  V.cell? ⟨bf, 0, none⟩ = some (.func (.func 30) #[(.slice (some ⟨gL, 0, none⟩) N N)] #[]) ∧ V.cell? ⟨bW, 0, none⟩ = some (.slice (some ⟨gW, 0, none⟩) N N)) := fun V hV => by
                obtain ⟨y0, y1, y2, -⟩ := box_cells3 ((hV.block _ (by simp)).trans gm)
                have hWV := hWm2.trans (hV.mono hWm2.size)
                exact ⟨⟨y0, y1, y2⟩, (one_box ((hWV.block _ (Array.getElem?_eq_some_iff.1 e4).1).trans e4)).1, (one_box ((hWV.block _ (Array.getElem?_eq_some_iff.1 e2).1).trans e2)).1⟩
              have HBN0 := Lib.hid (hbr.trans (hWm.mono hbr.size))
              clear hu hmem hnx hXe hTb hTv TL TW e1 e2 e3 e4 e5 hd hsz hWr hX hvv gm hWm2 hI1e hK1e b4 b5 hat
              have hway : jj = 0 ∨ (jj ≠ 0 ∧ Zx < vv) ∨ (jj ≠ 0 ∧ Zx = vv) ∨ (jj ≠ 0 ∧ vv < Zx) := by omega
              have hbr' := Lib.hid hbr
              clear hbr hWm
              have hmw : wr.alloc (.cells #[.int .i64 (d1 : Int), .int .i64 (d2 : Int), .int .i64 (co : Int)] 98) = wr.alloc (.cells #[.int .i64 (d1 : Int), .int .i64 (d2 : Int), .int .i64 (co : Int)] 98) := rfl
              gi_wp2_with (fail)
              clear hmw l0 l1 l2
              generalize wr.alloc (.cells #[.int .i64 (d1 : Int), .int .i64 (d2 : Int), .int .i64 (co : Int)] 98) = wm at *
              obtain ⟨⟨m0, m1, m2⟩, f0, -⟩ := HF.out wm (Below.refl _ _)
              obtain ⟨X, Wf, hX, hS1, hS2⟩ := family (fun V => Below wm.heap.size wm V) wm (Below.refl _ _)
              have HS2 := Lib.hid hS2
              have q_m0 := fun x => cell_later (hS1 x) m0
              have q_m1 := fun x => cell_later (hS1 x) m1
              have q_m2 := fun x => cell_later (hS1 x) m2
              have q_f0 := fun x => cell_later (hS1 x) f0
              clear hS1 hS2
              have hd0 : Below wm.heap.size wm wm.drew := (Below.refl _ _).drew
              refine wpIn_region_round (by kernel_rfl) (by kernel_rfl) (fun _ _ h => h) (wpAny_tree (Wf := Wf) 13 (.read 0 (.read 1 (.read 2 (.read 3 (.read 4 (.read 5 (.read 6 (.read 7 (.read 8 (.read 9 (.read 10 (.act 11 (.read 12 .fin))))))))))))) (by kernel_rfl) (fun _ _ d _ _ h => by cases d <;> exact h) (HS2.out _ hd0) ?_)
              refine wpTree_read _ rfl (fun K hK => ?_); unfold rOp; go_simp; (refine hK _ ?_; clear hK K)
              refine wpTree_read _ rfl (fun K hK => ?_); unfold rOp; go_simp; (refine hK _ ?_; clear hK K)
              refine wpTree_read _ rfl (fun K hK => ?_); unfold rOp; go_simp; (refine hK _ ?_; clear hK K)
              refine wpTree_read _ rfl (fun K hK => ?_); unfold rOp; go_simp; (refine hK _ ?_; clear hK K)
              refine wpTree_read _ rfl (fun K hK => ?_); unfold rOp; go_simp; (refine hK _ ?_; clear hK K)
              refine wpTree_read _ rfl (fun K hK => ?_); unfold rOp; go_simp; (refine hK _ ?_; clear hK K)
              refine wpTree_read _ rfl (fun K hK => ?_); unfold rOp; go_simp; (refine hK _ ?_; clear hK K)
              refine wpTree_read _ rfl (fun K hK => ?_); unfold rOp; go_simp; (refine hK _ ?_; clear hK K)
              refine wpTree_read _ rfl (fun K hK => ?_); unfold rOp; go_simp; (refine hK _ ?_; clear hK K)
              refine wpTree_read _ rfl (fun K hK => ?_); unfold rOp; go_simp; (refine hK _ ?_; clear hK K)
              refine wpTree_read _ rfl (fun K hK => ?_); unfold rOp; go_simp; (refine hK _ ?_; clear hK K)
              refine wpTree_act _ rfl ?_
              go_wp2_with (go_at_call 30; refine (HAT.out _ hd0).mono ?_; rintro e w' ⟨rfl, rfl⟩)
              refine ⟨HS2.out _ hd0, ?_⟩
              refine wpTree_read _ rfl (fun K hK => ?_); unfold rOp; go_simp; (refine hK _ ?_; clear hK K)
              refine wpTree_fin ?_
              clear q_m0 q_m1 q_m2 q_f0 HS2
              obtain ⟨⟨m0, m1, m2⟩, f0, x5⟩ := HF.out _ hd0
              have HBN := Lib.hid (HBN0.out.trans (hd0.mono HBN0.out.size))
              have HD0 := Lib.hid hd0
              clear hd0 HBN0 HF HAT
              generalize wm.drew = wd at *
              have HAW2 := Lib.hid (HAW.out _ HD0.out)
              clear HAW HD0
              rcases hway with hw1 | ⟨hw1, hw2⟩ | ⟨hw1, hw2⟩ | ⟨hw1, hw2⟩
              · have HVN : Hid (Zx = mvN T i k (L.take (jj + 1)) ∧ Zx ≤ 2000 * 1089) := ⟨HVV.out.1 hw1, hXL⟩
                have t1 : ((jj : Int) == 0) = true := by rw [hw1]; rfl
                have t2 : (jj == 0) = true := by rw [hw1]; rfl
                clear hw1
                go_wp2_with fail
                gi_wp2_with (fail)
                refine ⟨trivial, ?_⟩
                refine (callsIn_wide.2 HAW2.out).mono ?_
                rintro e w7 ⟨rfl, rfl⟩
                gi_wp2_with (fail)
                go_roundw
                case rel => exact ⟨jj + 1, _, _, by first | rfl | go_num, by first | rfl | go_num, by first | rfl | go_num, by omega, HVN.out.1, HVN.out.2, HBN.out⟩
                case measure => simp [intOf]; omega
              · have HVN : Hid (Zx = mvN T i k (L.take (jj + 1)) ∧ Zx ≤ 2000 * 1089) := ⟨by rw [HVV.out.2 hw1]; omega, hXL⟩
                have t1 : ((jj : Int) == 0) = false := by rw [beq_eq_false_iff_ne]; omega
                have t2 : (jj == 0) = false := by rw [beq_eq_false_iff_ne]; omega
                have t3 : decide ((Zx : Int) < (vv : Int)) = true := decide_eq_true (by omega)
                have t4 : decide (Zx < vv) = true := decide_eq_true hw2
                clear hw1
                go_wp2_with fail
                gi_wp2_with (fail)
                refine ⟨trivial, ?_⟩
                refine (callsIn_wide.2 HAW2.out).mono ?_
                rintro e w7 ⟨rfl, rfl⟩
                gi_wp2_with (fail)
                go_roundw
                case rel => exact ⟨jj + 1, _, _, by first | rfl | go_num, by first | rfl | go_num, by first | rfl | go_num, by omega, HVN.out.1, HVN.out.2, HBN.out⟩
                case measure => simp [intOf]; omega
              · have HVN : Hid (vv = mvN T i k (L.take (jj + 1)) ∧ vv ≤ 2000 * 1089) := ⟨by rw [HVV.out.2 hw1]; omega, hvL⟩
                have t1 : ((jj : Int) == 0) = false := by rw [beq_eq_false_iff_ne]; omega
                have t2 : (jj == 0) = false := by rw [beq_eq_false_iff_ne]; omega
                have t3 : decide ((Zx : Int) < (vv : Int)) = false := decide_eq_false (by omega)
                have t4 : decide (Zx < vv) = false := decide_eq_false (by omega)
                have t5 : ((Zx : Int) == (vv : Int)) = true := by rw [hw2]; simp
                have t6 : (Zx == vv) = true := by rw [hw2]; simp
                clear hw1 hw2
                go_wp2_with fail
                gi_wp2_with (fail)
                refine ⟨trivial, ?_⟩
                refine (callsIn_wide.2 HAW2.out).mono ?_
                rintro e w7 ⟨rfl, rfl⟩
                gi_wp2_with (fail)
                go_roundw
                case rel => exact ⟨jj + 1, _, _, by first | rfl | go_num, by first | rfl | go_num, by first | rfl | go_num, by omega, HVN.out.1, HVN.out.2, HBN.out⟩
                case measure => simp [intOf]; omega
              · have HVN : Hid (vv = mvN T i k (L.take (jj + 1)) ∧ vv ≤ 2000 * 1089) := ⟨by rw [HVV.out.2 hw1]; omega, hvL⟩
                have t1 : ((jj : Int) == 0) = false := by rw [beq_eq_false_iff_ne]; omega
                have t2 : (jj == 0) = false := by rw [beq_eq_false_iff_ne]; omega
                have t3 : decide ((Zx : Int) < (vv : Int)) = false := decide_eq_false (by omega)
                have t4 : decide (Zx < vv) = false := decide_eq_false (by omega)
                have t5 : ((Zx : Int) == (vv : Int)) = false := by rw [beq_eq_false_iff_ne]; omega
                have t6 : (Zx == vv) = false := by rw [beq_eq_false_iff_ne]; omega
                clear hw1 hw2
                go_wp2_with fail
                gi_wp2_with (fail)
                go_roundw
                case rel => exact ⟨jj + 1, _, _, by first | rfl | go_num, by first | rfl | go_num, by first | rfl | go_num, by omega, HVN.out.1, HVN.out.2, HBN.out⟩
                case measure => simp [intOf]; omega
            · have hjq2 : jj = q6 := by omega
              have hvv2 : vv = mvN T i k (mvs ⟨cg, cn, cl, cm⟩ l[i]? r[k]?) := by
                rw [hvv, HLE.out, List.take_of_length_le (by rw [← HQ6.out]; omega)]
              obtain ⟨TL, TW, hTb, hTv, ⟨e1, e2, e3, e4, e5⟩, hd, hsz⟩ := HG.out
              have hWr : Below W.heap.size W wr := HB6.out.trans (hbr.mono HB6.out.size)
              have hiN : i < N := by have := HNM.out.1; omega
              have hkM : k < M := by have := HNM.out.2; omega
              have hWd : Below W.heap.size W wr.drew := hWr.drew
              have TL0 := TL.below hWd
              have TW0 := TW.below hWd
              have E1 := (hWd.block _ (Array.getElem?_eq_some_iff.1 e1).1).trans e1
              have E2 := (hWd.block _ (Array.getElem?_eq_some_iff.1 e2).1).trans e2
              have E3 := (hWd.block _ (Array.getElem?_eq_some_iff.1 e3).1).trans e3
              have E4 := (hWd.block _ (Array.getElem?_eq_some_iff.1 e4).1).trans e4
              have E5 := (hWd.block _ (Array.getElem?_eq_some_iff.1 e5).1).trans e5
              have x1 := (one_box E1).1
              have x2 := (one_box E2).1
              have x3 := TL0.cellO hiN hiN
              have x5 := TW0.cellO hiN hiN
              obtain ⟨Y, Wf, hY, hS1, hS2⟩ := family (fun V : World => V.cell? ⟨bL, 0, none⟩ = some (.slice (some ⟨gL, 0, none⟩) N N) ∧ V.cell? ⟨bW, 0, none⟩ = some (.slice (some ⟨gW, 0, none⟩) N N) ∧ V.cell? ⟨gL, i, none⟩ = some (.slice (some ⟨rL i, 0, none⟩) M M) ∧ V.cell? ⟨gW, i, none⟩ = some (.slice (some ⟨rW i, 0, none⟩) M M)) wr.drew ⟨x1, x2, x3, x5⟩
              have HS2 := Lib.hid hS2
              have q1 := fun x => (hS1 x).1
              have q2 := fun x => (hS1 x).2.1
              have q3 := fun x => (hS1 x).2.2.1
              have q5 := fun x => (hS1 x).2.2.2
              have hS0 := HS2.out wr.drew ⟨x1, x2, x3, x5⟩
              obtain ⟨A1, A2, A3, A4⟩ := HA2.out
              obtain ⟨l1, l2, l3, l4⟩ := A4 i hiN
              have n1 := TL0.ne i hiN
              have n2 := TW0.ne i hiN
              have lo1 := TL0.lor i hiN
              have lo2 := TW0.lor i hiN
              have hlt3 := hlt.2.2.2.2.2 i hiN
              -- behind the first store
              have y1 := (cell?_setc_other (b := rL i) (j := k) (v := .int .i64 (vv : Int)) l1.symm x1)
              have y2 := (cell?_setc_other (b := rL i) (j := k) (v := .int .i64 (vv : Int)) l2.symm x2)
              have y3 := (cell?_setc_other (b := rL i) (j := k) (v := .int .i64 (vv : Int)) n1.symm x3)
              have y5 := (cell?_setc_other (b := rL i) (j := k) (v := .int .i64 (vv : Int)) (A1 i hiN).symm x5)
              have hS3 := HS2.out (wr.drew.setCell ⟨rL i, k, none⟩ (.int .i64 (vv : Int))) ⟨y1, y2, y3, y5⟩
              have TL1 := TL0.put hiN k (vv : Int)
              have TW1 := TW0.setOther (b := rL i) (k := k) (A1 i hiN) (fun i' hi' => A3 i i' hiN hi') (.int .i64 (vv : Int))
              have c13 := TL0.cellI hiN hkM
              have f13 := TL0.freeI hiN k
              have c15 := TW1.cellI hiN hkM
              have f15 := TW1.freeI hiN k
              have f16 := TW0.freeI hiN k
              have f17 : wr.frozen? ⟨rW i, k, none⟩ = false := (TW.below hWr).freeI hiN k
              have c16 := TW0.cellI hiN hkM
              have c17 : wr.cell? ⟨rW i, k, none⟩ = some (.int .i64 (U i k)) := (TW.below hWr).cellI hiN hkM
              have TW2 := TW1.put hiN k ct
              have TL2 := TL1.setOther (b := rW i) (k := k) (A2 i hiN) (fun i' hi' => (A3 i' i hi' hiN).symm) (.int .i64 ct)
              have TL3 : Tbl ((wr.drew.setCell ⟨rL i, k, none⟩ (.int .i64 (vv : Int))).setCell ⟨rW i, k, none⟩ (.int .i64 ct)) WA.heap.size gL N M N rL (fun i' k' => ((if i' = i ∧ k' = k then vv else T i' k' : Nat) : Int)) := TL2.congr fun i' k' _ _ => by split <;> rfl
              have F : ∀ {z : Nat} {cs : Array Value} {ty : TypeId}, wr.drew.heap[z]? = some (.cells cs ty (0, 0)) → rL i ≠ z → rW i ≠ z → ((wr.drew.setCell ⟨rL i, k, none⟩ (.int .i64 (vv : Int))).setCell ⟨rW i, k, none⟩ (.int .i64 ct)).heap[z]? = some (.cells cs ty (0, 0)) := fun h h1 h2 => (heap_setCell_other h2.symm _).trans ((heap_setCell_other h1.symm _).trans h)
              have E1' := F E1 l1 l3
              have E2' := F E2 l2 l4
              have E3' := F E3 (by have := HSA.out; omega) (by have := HSA.out; omega)
              have E4' := F E4 (by omega) (by omega)
              have E5' := F E5 (by omega) (by omega)
              have hkf : KeepsFrom w5.heap.size W ((wr.drew.setCell ⟨rL i, k, none⟩ (.int .i64 (vv : Int))).setCell ⟨rW i, k, none⟩ (.int .i64 ct)) := keepsFrom_setc (keepsFrom_setc (keepsFrom_below hWd) (by omega) _) (by omega) _
              have hdd : Below WA.heap.size WA ((wr.drew.setCell ⟨rL i, k, none⟩ (.int .i64 (vv : Int))).setCell ⟨rW i, k, none⟩ (.int .i64 ct)) := below_setc (below_setc (hd.trans (hWd.mono hd.size)) lo1 _ _) lo2 _ _
              have hTb2 : ∀ i' k', (if i' = i ∧ k' = k then vv else T i' k') ≤ 1000 * (pre ++ [(⟨(i, k), hx⟩ : Pl n m)]).length := fun i' k' => by
                rw [List.length_append, List.length_singleton]
                split
                · rw [hvv2]
                  have := mvN_le HOK.out (i := i) (k := k) hTb l[i]? r[k]?
                  omega
                · have := hTb i' k'; omega
              have hTv2 : (pre ++ [(⟨(i, k), hx⟩ : Pl n m)]).map (·.1) <+: plL n m → ∀ p ∈ (pre ++ [(⟨(i, k), hx⟩ : Pl n m)]).map (·.1), (if p.1 = i ∧ p.2 = k then vv else T p.1 p.2) = tabS ⟨cg, cn, cl, cm⟩ l r p.1 p.2 := fun hp => by
                rw [List.map_append, List.map_singleton] at hp ⊢
                have hp1 := hTv ((List.prefix_append _ _).trans hp)
                intro p hpm
                split
                · rename_i e
                  rw [e.1, e.2]
                  have hl1 := HLN.out.1
                  have hl2 := HLN.out.2
                  rw [hvv2]
                  refine mvN_tab (by omega) (by omega) (fun h1 h2 => hp1 _ (plL_before hp (by omega) (by omega) (by omega))) (fun h1 => hp1 _ (plL_before hp (by omega) (by omega) (by omega))) (fun h2 => hp1 _ (plL_before hp (by omega) (by omega) (by omega)))
                · rename_i e
                  rcases List.mem_append.1 hpm with hpm | hpm
                  · exact hp1 p hpm
                  · rw [List.mem_singleton] at hpm
                    exact absurd (by rw [hpm]; exact ⟨rfl, rfl⟩) e
              have HEND := Lib.hid (And.intro hkf (And.intro TL3 (And.intro TW2 (And.intro hTb2 (And.intro hTv2 (And.intro (And.intro E1' (And.intro E2' (And.intro E3' (And.intro E4' E5')))) (And.intro hdd (show w5.heap.size ≤ ((wr.drew.setCell ⟨rL i, k, none⟩ (.int .i64 (vv : Int))).setCell ⟨rW i, k, none⟩ (.int .i64 ct)).heap.size by simpa [World.setCell] using Nat.le_trans hsz hWd.size))))))))
              clear hkf TL3 TW2 hTb2 hTv2 E1' E2' E3' E4' E5' hdd F TL2 TW1 TL1 y1 y2 y3 y5 TL0 TW0 E1 E2 E3 E4 E5 x1 x2 x3 x5 hWd hWr hd hsz e1 e2 e3 e4 e5 TL TW hTb hTv hvv2 hvv A1 A2 A3 A4 l1 l2 l3 l4 n1 n2 lo1 lo2 hlt3 hS1 hS2
              gi_wp2_with (fail)
              refine wpIn_region_round (by kernel_rfl) (by kernel_rfl) (fun _ _ h => h) (wpAny_tree (Wf := Wf) 15 (.read 0 (.read 1 (.read 2 (.read 3 (.read 4 (.read 5 (.read 6 (.read 7 (.read 8 (.read 9 (.read 10 (.read 11 (.read 12 (.act 13 (.read 14 .fin))))))))))))))) (by kernel_rfl) (fun _ _ d _ _ h => by cases d <;> exact h) hS0 ?_)
              clear f17 c17
              generalize wr.drew = wd at *
              refine wpTree_read _ rfl (fun K hK => ?_); unfold rOp; go_simp; (refine hK _ ?_; clear hK K)
              refine wpTree_read _ rfl (fun K hK => ?_); unfold rOp; go_simp; (refine hK _ ?_; clear hK K)
              refine wpTree_read _ rfl (fun K hK => ?_); unfold rOp; go_simp; (refine hK _ ?_; clear hK K)
              refine wpTree_read _ rfl (fun K hK => ?_); unfold rOp; go_simp; (refine hK _ ?_; clear hK K)
              refine wpTree_read _ rfl (fun K hK => ?_); unfold rOp; go_simp; (refine hK _ ?_; clear hK K)
              refine wpTree_read _ rfl (fun K hK => ?_); unfold rOp; go_simp; (refine hK _ ?_; clear hK K)
              refine wpTree_read _ rfl (fun K hK => ?_); unfold rOp; go_simp; (refine hK _ ?_; clear hK K)
              refine wpTree_read _ rfl (fun K hK => ?_); unfold rOp; go_simp; (refine hK _ ?_; clear hK K)
              refine wpTree_read _ rfl (fun K hK => ?_); unfold rOp; go_simp; (refine hK _ ?_; clear hK K)
              refine wpTree_read _ rfl (fun K hK => ?_); unfold rOp; go_simp; (refine hK _ ?_; clear hK K)
              refine wpTree_read _ rfl (fun K hK => ?_); unfold rOp; go_simp; (refine hK _ ?_; clear hK K)
              refine wpTree_read _ rfl (fun K hK => ?_); unfold rOp; go_simp; (refine hK _ ?_; clear hK K)
              refine wpTree_read _ rfl (fun K hK => ?_); unfold rOp; go_simp; (refine hK _ ?_; clear hK K)
              refine wpTree_act _ rfl ?_
              go_wp2_with fail
              refine ⟨hS3, ?_⟩
              clear f16 c16 hS3 hS0
              generalize wd.setCell ⟨rL i, k, none⟩ (.int .i64 (vv : Int)) = V1 at *
              refine wpTree_read _ rfl (fun K hK => ?_); unfold rOp; go_simp; (refine hK _ ?_; clear hK K)
              refine wpTree_fin ?_
              clear q1 q2 q3 q5 HS2 c13 f13
              go_wp2_with fail
              obtain ⟨z1, z2, z3, z4, z5, z6, z7, z8⟩ := HEND.out
              exact ⟨z1, fun _ => (box8 z6.2.2.2.2).2.2.2.2.2.1, _, _, z2, z3, z4, z5, z6, z7, z8⟩
        case done =>
          rintro D ys W hD rfl ⟨T, U, g1, g2, g3, g4, ⟨e1, e2, e3, e4, e5⟩, g6, g7⟩ hd
          have hTT : Tbl W w.heap.size gL N M N rL (fun i k => (tabS ⟨cg, cn, cl, cm⟩ l r i k : Int)) := (g1.congr fun i k hi hk => by
            have h4 := g4 (by rw [show (plS n m).map (·.1) = plL n m from List.attach_map_subtype_val _]; exact List.prefix_rfl) (i, k) (by
              rw [show (plS n m).map (·.1) = plL n m from List.attach_map_subtype_val _]
              have h5 := plL_at (n := n) (m := m) (j := n - i) (q := m - k) (by omega) (by omega)
              have := HNM.out
              rw [show n - (n - i) = i by omega, show m - (m - k) = k by omega] at h5
              exact List.mem_of_getElem? h5)
            rw [h4]).mono (by have := HSA.out; omega)
          have x1 := (one_box e1).1
          have x2 := (one_box e2).1
          have HG := Lib.hid (And.intro hTT (And.intro (HBA.out.trans (g6.mono HBA.out.size)) hd))
          have hs2 : w.heap.size ≤ w5.heap.size := by have := HSA.out; have := HP.out.1; omega
          clear hTT g1 g2 g3 g4 e1 e2 e3 e4 e5 g6 g7 hd
          go_wp2_with fail
          obtain ⟨X, Wf, hX, hS1, hS2⟩ := family (fun V => Below W.heap.size W V) W (Below.refl _ _)
          have HS2 := Lib.hid hS2
          have q_x1 := fun x => cell_later (hS1 x) x1
          have q_x2 := fun x => cell_later (hS1 x) x2
          clear hS1 hS2
          have hd0 : Below W.heap.size W W.drew := (Below.refl _ _).drew
          refine wp_region_treeN (Wf := Wf) 3 (.read 0 (.read 1 (.act 2 .fin))) (by kernel_rfl) (by kernel_rfl) (HS2.out _ hd0) ?_
          refine wpTree_read _ rfl (fun K hK => ?_); unfold rOp; go_simp; (refine hK _ ?_; clear hK K)
          refine wpTree_read _ rfl (fun K hK => ?_); unfold rOp; go_simp; (refine hK _ ?_; clear hK K)
          refine wpTree_act _ rfl ?_
          go_wp2_with fail
          refine ⟨HS2.out _ hd0, ?_⟩
          refine wpTree_fin ?_
          go_wp2_with fail
          have HG2 : Hid (Tbl W.drew w.heap.size gL N M N rL (fun i k => (tabS ⟨cg, cn, cl, cm⟩ l r i k : Int)) ∧ Below w.heap.size w W.drew ∧ W.drew.heap[D]? = some (.deferred (some []))) := ⟨HG.out.1.below hd0, HG.out.2.1.drew, HG.out.2.2⟩
          rw [noPanic_normal]
          go_wp2_with fail
          refine leaves_marks (hi := w5.heap.size) (by simp) (Φ := fun W => Tbl W w.heap.size gL N M N rL (fun i k => (tabS ⟨cg, cn, cl, cm⟩ l r i k : Int)) ∧ Below w.heap.size w W) ?_ ?_ _ _ (Marks.one hD HG2.out.2.2) ⟨HG2.out.1, HG2.out.2.1⟩
          · rintro W D ⟨h1, h2⟩ hD hd
            exact ⟨h1.same (World.putObj_heap_other (by have := hlt.2.2.2.1; omega)) (fun i hi => World.putObj_heap_other (by have := (hlt.2.2.2.2.2 i hi).1; omega)), below_putObj h2 (by omega) hd _⟩
          · rintro W ⟨h1, h2⟩
            refine ⟨_, by simp [results, Tryz.results29, go_sem], gL, gW, rL, rfl, ?_, h2⟩
            rw [← HNM.out.2]
            exact h1
        case stop => rintro D c' pre W hD hp h; exact h.elim
  · intro key
    repeat' first
      | refine wpTreA_alt ?_ ?_
      | (refine wpTreA_act (k := 4) _ rfl ?_
         refine wpList_make_full V rfl _ _ 65 rfl V.heap.size 27 i0 (.slice none 0 0) 1 Tryz.underlying65 hi hz0 hz1 .i64 .i64 N N N rfl rfl rfl rfl (by rw [hz2]; omega) (by unfold maxLen; omega) (Nat.le_refl _) ?_
         intro V1 hrow hg
         have hst : Below V.heap.size V V1 := (Below.refl _ _).grown hg (Nat.le_refl _) (by simp)
         try (have n1 : gL ≠ V.heap.size := by have := (Array.getElem?_eq_some_iff.1 FgL).1; omega)
         try (have n2 : gW ≠ V.heap.size := by have := (Array.getElem?_eq_some_iff.1 FgW).1; omega)
         try (have n3 : bL ≠ V.heap.size := by have := (Array.getElem?_eq_some_iff.1 FbL).1; omega)
         try (have n4 : bW ≠ V.heap.size := by have := (Array.getElem?_eq_some_iff.1 FbW).1; omega)
         have hFgL : WA.heap.size ≤ V.heap.size := hd.size
         try (replace FgL := (hst.block _ (Array.getElem?_eq_some_iff.1 FgL).1).trans FgL)
         try (replace FgW := (hst.block _ (Array.getElem?_eq_some_iff.1 FgW).1).trans FgW)
         try (replace FbL := (hst.block _ (Array.getElem?_eq_some_iff.1 FbL).1).trans FbL)
         try (replace FbW := (hst.block _ (Array.getElem?_eq_some_iff.1 FbW).1).trans FbW)
         replace hd := hd.trans (hst.mono hd.size)
         have FgL := made_out M hrow
         generalize V.heap.size = gL at *
         clear hst hrow hg
         go_wp2_with fail
         refine ⟨HS2.out _ hd, ?_⟩
         generalize V1 = V at *
         )
      | (refine wpTreA_act (k := 9) _ rfl ?_
         refine wpList_make_full V rfl _ _ 65 rfl V.heap.size 27 i0 (.slice none 0 0) 1 Tryz.underlying65 hi hz0 hz1 .i64 .i64 N N N rfl rfl rfl rfl (by rw [hz2]; omega) (by unfold maxLen; omega) (Nat.le_refl _) ?_
         intro V1 hrow hg
         have hst : Below V.heap.size V V1 := (Below.refl _ _).grown hg (Nat.le_refl _) (by simp)
         try (have n1 : gL ≠ V.heap.size := by have := (Array.getElem?_eq_some_iff.1 FgL).1; omega)
         try (have n2 : gW ≠ V.heap.size := by have := (Array.getElem?_eq_some_iff.1 FgW).1; omega)
         try (have n3 : bL ≠ V.heap.size := by have := (Array.getElem?_eq_some_iff.1 FbL).1; omega)
         try (have n4 : bW ≠ V.heap.size := by have := (Array.getElem?_eq_some_iff.1 FbW).1; omega)
         have hFgW : WA.heap.size ≤ V.heap.size := hd.size
         try (replace FgL := (hst.block _ (Array.getElem?_eq_some_iff.1 FgL).1).trans FgL)
         try (replace FgW := (hst.block _ (Array.getElem?_eq_some_iff.1 FgW).1).trans FgW)
         try (replace FbL := (hst.block _ (Array.getElem?_eq_some_iff.1 FbL).1).trans FbL)
         try (replace FbW := (hst.block _ (Array.getElem?_eq_some_iff.1 FbW).1).trans FbW)
         replace hd := hd.trans (hst.mono hd.size)
         have FgW := made_out M hrow
         generalize V.heap.size = gW at *
         clear hst hrow hg
         go_wp2_with fail
         refine ⟨HS2.out _ hd, ?_⟩
         generalize V1 = V at *
         )
      | (refine wpTreA_act (k := 10) _ rfl ?_
         have hst : Below V.heap.size V (V.alloc (.cells #[.slice none 0 0] 65)) := (Below.refl _ _).alloc (Nat.le_refl _) _
         try (have n1 : gL ≠ V.heap.size := by have := (Array.getElem?_eq_some_iff.1 FgL).1; omega)
         try (have n2 : gW ≠ V.heap.size := by have := (Array.getElem?_eq_some_iff.1 FgW).1; omega)
         try (have n3 : bL ≠ V.heap.size := by have := (Array.getElem?_eq_some_iff.1 FbL).1; omega)
         try (have n4 : bW ≠ V.heap.size := by have := (Array.getElem?_eq_some_iff.1 FbW).1; omega)
         have hFbL : WA.heap.size ≤ V.heap.size := hd.size
         try (replace FgL := (hst.block _ (Array.getElem?_eq_some_iff.1 FgL).1).trans FgL)
         try (replace FgW := (hst.block _ (Array.getElem?_eq_some_iff.1 FgW).1).trans FgW)
         try (replace FbL := (hst.block _ (Array.getElem?_eq_some_iff.1 FbL).1).trans FbL)
         try (replace FbW := (hst.block _ (Array.getElem?_eq_some_iff.1 FbW).1).trans FbW)
         replace hd := hd.trans (hst.mono hd.size)
         have FbL := World.alloc_heap_new V (.cells #[.slice none 0 0] 65)
         clear hst
         go_wp2_with fail
         generalize V.heap.size = bL at *
         generalize V.alloc (.cells #[.slice none 0 0] 65) = V at *
         refine ⟨HS2.out _ hd, ?_⟩
         )
      | (refine wpTreA_act (k := 11) _ rfl ?_
         have hst : Below V.heap.size V (V.alloc (.cells #[.slice none 0 0] 65)) := (Below.refl _ _).alloc (Nat.le_refl _) _
         try (have n1 : gL ≠ V.heap.size := by have := (Array.getElem?_eq_some_iff.1 FgL).1; omega)
         try (have n2 : gW ≠ V.heap.size := by have := (Array.getElem?_eq_some_iff.1 FgW).1; omega)
         try (have n3 : bL ≠ V.heap.size := by have := (Array.getElem?_eq_some_iff.1 FbL).1; omega)
         try (have n4 : bW ≠ V.heap.size := by have := (Array.getElem?_eq_some_iff.1 FbW).1; omega)
         have hFbW : WA.heap.size ≤ V.heap.size := hd.size
         try (replace FgL := (hst.block _ (Array.getElem?_eq_some_iff.1 FgL).1).trans FgL)
         try (replace FgW := (hst.block _ (Array.getElem?_eq_some_iff.1 FgW).1).trans FgW)
         try (replace FbL := (hst.block _ (Array.getElem?_eq_some_iff.1 FbL).1).trans FbL)
         try (replace FbW := (hst.block _ (Array.getElem?_eq_some_iff.1 FbW).1).trans FbW)
         replace hd := hd.trans (hst.mono hd.size)
         have FbW := World.alloc_heap_new V (.cells #[.slice none 0 0] 65)
         clear hst
         go_wp2_with fail
         generalize V.heap.size = bW at *
         generalize V.alloc (.cells #[.slice none 0 0] 65) = V at *
         refine ⟨HS2.out _ hd, ?_⟩
         )
      | (refine wpTreA_act (k := 12) _ rfl ?_
         have c12 := (one_box FbL).1
         have f12 := (one_box FbL).2
         replace FbL := one_set FbL (.slice (some ⟨gL, 0, none⟩) N N)
         try (replace FgL := (heap_setCell_other (b := bL) (j := 0) (by omega) (.slice (some ⟨gL, 0, none⟩) N N)).trans FgL)
         try (replace FgW := (heap_setCell_other (b := bL) (j := 0) (by omega) (.slice (some ⟨gL, 0, none⟩) N N)).trans FgW)
         try (replace FbW := (heap_setCell_other (b := bL) (j := 0) (by omega) (.slice (some ⟨gL, 0, none⟩) N N)).trans FbW)
         replace hd := below_setc hd hFbL 0 (.slice (some ⟨gL, 0, none⟩) N N)
         go_wp2_with fail
         refine ⟨HS2.out _ hd, ?_⟩
         clear c12 f12
         generalize V.setCell ⟨bL, 0, none⟩ (.slice (some ⟨gL, 0, none⟩) N N) = V at *)
      | exact wpTreA_fin (key _ _ ⟨gL, gW, bL, bW, rfl, FgL, FgW, FbL, FbW, ⟨by omega, by omega, by omega, by omega, by omega, by omega⟩, ⟨hFgL, hFgW, hFbL, hFbW⟩, hd⟩)
end Go.Proofs.YtaelfjlmkgimhaaGreatDoor
