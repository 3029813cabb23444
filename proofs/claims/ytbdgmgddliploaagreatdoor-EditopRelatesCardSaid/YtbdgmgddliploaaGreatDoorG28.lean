/- Joined: ERLs. -/
import Derived.Test.YtbdgmgddliploaaGreatDoorG26
import Derived.Test.YtbdgmgddliploaaGreatDoorG21
import Derived.Test.YtbdgmgddliploaaGreatDoorG27
import Derived.Test.YtbdgmgddliploaaGreatDoorG24
set_option linter.unusedVariables false
set_option linter.unusedSimpArgs false
set_option maxRecDepth 100000
set_option maxHeartbeats 16000000
namespace Go.Proofs.YtbdgmgddliploaaGreatDoor
open Go.RowKit

theorem cell_outB {B : Nat} {A W : World} (h : Below B A W) {b j : Nat} {v : Value} (hc : A.cell? ⟨b, j, none⟩ = some v) (hb : b < B) : W.cell? ⟨b, j, none⟩ = some v := by rw [World.cell?_of_block (h.block b hb)]; exact hc
def opsN (x : Col) (k : Nat) : List Op := (List.range k).flatMap (opsOf x)
def rowN (x : Col) (s : ByteArray) (j : Nat) : List Op := (List.range j).flatMap (opsAt x s)
def fourN (x : Col) (s : ByteArray) (t q : Nat) : List Op := ((four s t).take q).filter fun o => decide (opErr x o = 0)
theorem opsN_succ (x : Col) (k : Nat) : opsN x (k + 1) = opsN x k ++ opsOf x k := by unfold opsN; rw [List.range_succ, List.flatMap_append]; simp
theorem rowN_succ (x : Col) (s : ByteArray) (j : Nat) : rowN x s (j + 1) = rowN x s j ++ opsAt x s j := by unfold rowN; rw [List.range_succ, List.flatMap_append]; simp
theorem fourN_four (x : Col) (s : ByteArray) (t : Nat) : fourN x s t 4 = opsAt x s t := rfl
theorem fourN_yes {x : Col} {s : ByteArray} {t q : Nat} {o : Op} (h : (four s t)[q]? = some o) (h0 : opErr x o = 0) : fourN x s t (q + 1) = fourN x s t q ++ [o] := by
  unfold fourN; rw [List.take_add_one, h, List.filter_append]; simp [h0]
theorem fourN_no {x : Col} {s : ByteArray} {t q : Nat} {o : Op} (h : (four s t)[q]? = some o) (h0 : opErr x o ≠ 0) : fourN x s t (q + 1) = fourN x s t q := by
  unfold fourN; rw [List.take_add_one, h, List.filter_append]; simp [h0]
theorem fourN_le (x : Col) (s : ByteArray) (t q : Nat) : (fourN x s t q).length <= (opsAt x s t).length := ((List.take_sublist q (four s t)).filter _).length_le
theorem flat_le {α : Type} (f : Nat -> List α) : ∀ (n k : Nat), k <= n -> ((List.range k).flatMap f).length <= ((List.range n).flatMap f).length
  | 0, k, h => by obtain rfl : k = 0 := by omega
                  exact Nat.le_refl _
  | n + 1, k, h => by
    by_cases e : k = n + 1
    · rw [e]; exact Nat.le_refl _
    · have := flat_le f n k (by omega)
      rw [List.range_succ, List.flatMap_append, List.length_append]; omega
/-- However far the loops have come, there are no more than in the end. -/
theorem ops_le {x : Col} {k j q : Nat} {s : ByteArray} (hk : k < x.sigla.length) (hs : x.sigla[k]?.getD ⟨#[]⟩ = s) (hj : j < (x.tks k).length) : (opsN x k ++ (rowN x s j ++ fourN x s j q)).length <= (allOps x).length := by
  have h1 := flat_le (opsOf x) x.sigla.length (k + 1) (by omega)
  have h2 := flat_le (opsAt x s) (x.tks k).length (j + 1) (by omega)
  have h3 := fourN_le x s j q
  have e1 : opsOf x k = (List.range (x.tks k).length).flatMap (opsAt x s) := by unfold opsOf; rw [hs]
  have e2 : allOps x = (List.range x.sigla.length).flatMap (opsOf x) := rfl
  rw [<- e2, List.range_succ, List.flatMap_append, List.length_append] at h1
  simp only [List.flatMap_cons, List.flatMap_nil, List.append_nil] at h1
  rw [<- e1, List.range_succ, List.flatMap_append, List.length_append] at h2
  simp only [List.flatMap_cons, List.flatMap_nil, List.append_nil] at h2
  have e3 : opsN x k = (List.range k).flatMap (opsOf x) := rfl
  have e4 : rowN x s j = (List.range j).flatMap (opsAt x s) := rfl
  rw [List.length_append, List.length_append, e3, e4]
  omega
theorem opsq_four {W : World} {b : Nat} {sg : ByteArray} {j : Nat} (hj : j < 9223372036854775808) (hg : sg.size <= 140737488355328) (h : W.heap[b]? = some (.cells #[.int .i64 1, .string sg, .int .i64 (j : Int), .int .i64 0, .string ⟨#[]⟩, .int .i64 2, .string sg, .int .i64 (j : Int), .int .i64 0, .string ⟨#[]⟩, .int .i64 3, .string sg, .int .i64 (j : Int), .int .i64 (-1), .string ⟨#[]⟩, .int .i64 3, .string sg, .int .i64 (j : Int), .int .i64 1, .string ⟨#[]⟩] 28 (0, 0))) : Opsq (fun _ => True) W (some ⟨b, 0, none⟩) 4 4 (four sg j) :=
  Sq.lit #[.int .i64 1, .string sg, .int .i64 (j : Int), .int .i64 0, .string ⟨#[]⟩, .int .i64 2, .string sg, .int .i64 (j : Int), .int .i64 0, .string ⟨#[]⟩, .int .i64 3, .string sg, .int .i64 (j : Int), .int .i64 (-1), .string ⟨#[]⟩, .int .i64 3, .string sg, .int .i64 (j : Int), .int .i64 1, .string ⟨#[]⟩] (four sg j) Op.cells h rfl op_len trivial (by simp [four]) (fun y hy => ⟨rfl, by
    simp [four] at hy
    rcases hy with rfl | rfl | rfl | rfl
    · exact ⟨(⟨by decide, by decide⟩ : I64 1), hg, (⟨by omega, by omega⟩ : I64 (j : Int)), (⟨by decide, by decide⟩ : I64 0), (by decide : (⟨#[]⟩ : ByteArray).size <= 140737488355328)⟩
    · exact ⟨(⟨by decide, by decide⟩ : I64 2), hg, (⟨by omega, by omega⟩ : I64 (j : Int)), (⟨by decide, by decide⟩ : I64 0), (by decide : (⟨#[]⟩ : ByteArray).size <= 140737488355328)⟩
    · exact ⟨(⟨by decide, by decide⟩ : I64 3), hg, (⟨by omega, by omega⟩ : I64 (j : Int)), (⟨by decide, by decide⟩ : I64 (-1)), (by decide : (⟨#[]⟩ : ByteArray).size <= 140737488355328)⟩
    · exact ⟨(⟨by decide, by decide⟩ : I64 3), hg, (⟨by omega, by omega⟩ : I64 (j : Int)), (⟨by decide, by decide⟩ : I64 1), (by decide : (⟨#[]⟩ : ByteArray).size <= 140737488355328)⟩⟩)
theorem rall_ref (S : Nat -> Prop) (v : CV) (x : Col) (w : World) (h : RdC S w v x) (hm : Sml x) (hv : x.err = 0) (hln : (allOps x).length <= 4096) : Calls Tryz.prog 67 #[v.val] w fun e w' => ∃ a n c, e = .returned (.slice a n c) /\ OwnQ 28 5 Op.cells w' w.heap.size a n c (allOps x) /\ Below w.heap.size w w' := by
  have HC : Hid (∀ (o : Op) W, Below w.heap.size w W -> Calls Tryz.prog 19 #[v.val, o.val] W fun e w' => e = .returned (.int .i64 (opErr x o)) /\ Below W.heap.size W w') := fun o W hb => rcheck_ref S v x o W (h.below hb) hm
  have hlt : x.toks.length = x.sigla.length := (err_iff.1 hv).1.len
  have HLE : Hid (∀ k j q s, k < x.sigla.length -> x.sigla[k]?.getD ⟨#[]⟩ = s -> j < (x.tks k).length -> (opsN x k ++ (rowN x s j ++ fourN x s j q)).length <= 4096) := fun k j q s a b c => Nat.le_trans (ops_le a b c) hln
  obtain ⟨sec, sa, sn, sc, ta, tn, tc, ca, cn, cc⟩ := v
  obtain ⟨-, -, h2, h3, -⟩ := h
  dsimp only at h2 h3
  change Calls _ _ #[.agg #[.string sec, .slice sa sn sc, .slice ta tn tc, .slice ca cn cc]] _ _
  change Hid (∀ (o : Op) W, _ -> Calls _ _ #[.agg #[.string sec, .slice sa sn sc, .slice ta tn tc, .slice ca cn cc], _] _ _) at HC
  obtain ⟨W1, hW1⟩ : ∃ W1, W1 = w.alloc (.cells #[.string sec, .slice sa sn sc, .slice ta tn tc, .slice ca cn cc] 26) := ⟨_, rfl⟩
  have hb0 : Below w.heap.size w W1 := by rw [hW1]; exact (Below.refl _ _).alloc (Nat.le_refl _) _
  have hs1 : W1.heap.size = w.heap.size + 1 := by rw [hW1]; simp
  have gX : W1.heap[w.heap.size]? = some (.cells #[.string sec, .slice sa sn sc, .slice ta tn tc, .slice ca cn cc] 26 (0, 0)) := by rw [hW1]; exact World.alloc_heap_new _ _
  have HTN : Hid (sn = x.sigla.length /\ tn = x.sigla.length) := ⟨h2.len, h3.len.trans hlt⟩
  have H2 := hiq (h2.below rStr_ok hb0)
  have H3 := hiq (h3.below (rSl_ok rTok_ok) hb0)
  obtain rfl : tn = sn := by rw [HTN.out.1, HTN.out.2]
  have hsb := h2.bound
  have htb := h3.bound
  have HO0 : Hid (OwnQ 28 5 Op.cells (W1.alloc (.cells #[] 28)) (w.heap.size + 1) (some ⟨(w.heap.size + 1), 0, none⟩) 0 0 (opsN x 0)) := by
    have := OwnQ.lit0 28 5 Op.cells W1 W1.heap.size (Nat.le_refl _)
    rw [hs1] at this; exact this
  have HBB : Hid (Below (w.heap.size + 1) W1 (W1.alloc (.cells #[] 28))) := (Below.refl _ _).alloc (by omega) _
  clear h2 h3 hlt hv hln hm
  go_enter Tryz.func67, Tryz.ntmps67
  go_wp2
  rw [<- hW1] at *
  clear hW1
  go_loopw [4, 3] (fun i t wr => ∃ (k : Nat) (a : Option Addr) (n c : Nat), i = .int .i64 k /\ t = .slice a n c /\ k <= tn /\ Hid (OwnQ 28 5 Op.cells wr (w.heap.size + 1) a n c (opsN x k)) /\ Below (w.heap.size + 1) W1 wr) (fun i _ _ => tn - (intOf i).toNat)
  case atStart => exact ⟨0, some ⟨(w.heap.size + 1), 0, none⟩, 0, 0, rfl, rfl, Nat.zero_le _, HO0.out, HBB.out⟩
  case round =>
    clear HO0 HBB
    obtain ⟨k, a, n, c, rfl, rfl, hk, hO, hB⟩ := hrel
    obtain ⟨c0, c1, c2, c3, -⟩ := box_cells4 ((hB.block _ (by omega)).trans gX)
    by_cases hkl : k < tn
    · obtain ⟨sg, b2, of2, hus, -, es, -, hbs, hgs, d2⟩ := H2.out.str (j := k) hkl
      obtain ⟨r, bo, off, a1, n1, k1, hu, hmem, ea, -, hbl, hr, d1⟩ := H3.out.row (j := k) hkl
      subst es
      subst ea
      have hSG : Hid (x.sigla[k]?.getD ⟨#[]⟩ = sg) := by show _ = _; rw [hus]; rfl
      have hRL : Hid (n1 = (x.tks k).length) := by show _ = _; rw [hr.len]; unfold Col.tks; rw [hu]; rfl
      have hrb := hr.bound
      clear hus hu hmem hr
      have d1r := cell_outB hB d1 (by omega)
      go_wp2_with fail
      obtain ⟨wo, rfl⟩ : ∃ wo : World, wo = wr := ⟨_, rfl⟩
      obtain ⟨ao, rfl⟩ : ∃ ao, ao = a := ⟨_, rfl⟩
      obtain ⟨no, rfl⟩ : ∃ no, no = n := ⟨_, rfl⟩
      obtain ⟨co, rfl⟩ : ∃ co, co = c := ⟨_, rfl⟩
      have HO := hO
      have HB1 := hiq hB
      clear hO hB c0 c1 c2 c3 d1r
      go_loopw [5, 3] (fun i t wr => ∃ (j : Nat) (a : Option Addr) (n c : Nat), i = .int .i64 j /\ t = .slice a n c /\ j <= n1 /\ Hid (OwnQ 28 5 Op.cells wr (w.heap.size + 1) a n c (opsN x k ++ rowN x sg j)) /\ Below (w.heap.size + 1) W1 wr) (fun i _ _ => n1 - (intOf i).toNat)
      case atStart => exact ⟨0, _, _, _, rfl, rfl, Nat.zero_le _, by have := HO.out; show OwnQ _ _ _ _ _ _ _ _ (opsN x k ++ []); rw [List.append_nil]; exact this, HB1.out⟩
      case round =>
        clear HO HB1
        obtain ⟨j, a, n, c, rfl, rfl, hj, hO, hB⟩ := hrel
        obtain ⟨c0, c1, c2, c3, -⟩ := box_cells4 ((hB.block _ (by omega)).trans gX)
        have d1r := cell_outB hB d1 (by omega)
        have d2r := cell_outB hB d2 (by omega)
        by_cases hjl : j < n1
        · have hal : Below wr.heap.size wr ((wr.alloc (.cells #[.int .i64 0, .string sg, .int .i64 (j : Int), .int .i64 0, .string ⟨#[]⟩] 28)).alloc (.cells #[.int .i64 1, .string sg, .int .i64 (j : Int), .int .i64 0, .string ⟨#[]⟩, .int .i64 2, .string sg, .int .i64 (j : Int), .int .i64 0, .string ⟨#[]⟩, .int .i64 3, .string sg, .int .i64 (j : Int), .int .i64 (-1), .string ⟨#[]⟩, .int .i64 3, .string sg, .int .i64 (j : Int), .int .i64 1, .string ⟨#[]⟩] 28)) := ((Below.refl _ _).alloc (Nat.le_refl _) _).alloc (by simp) _
          have gF : (((wr.alloc (.cells #[.int .i64 0, .string sg, .int .i64 (j : Int), .int .i64 0, .string ⟨#[]⟩] 28)).alloc (.cells #[.int .i64 1, .string sg, .int .i64 (j : Int), .int .i64 0, .string ⟨#[]⟩, .int .i64 2, .string sg, .int .i64 (j : Int), .int .i64 0, .string ⟨#[]⟩, .int .i64 3, .string sg, .int .i64 (j : Int), .int .i64 (-1), .string ⟨#[]⟩, .int .i64 3, .string sg, .int .i64 (j : Int), .int .i64 1, .string ⟨#[]⟩] 28))).heap[wr.heap.size + 1]? = some (.cells #[.int .i64 1, .string sg, .int .i64 (j : Int), .int .i64 0, .string ⟨#[]⟩, .int .i64 2, .string sg, .int .i64 (j : Int), .int .i64 0, .string ⟨#[]⟩, .int .i64 3, .string sg, .int .i64 (j : Int), .int .i64 (-1), .string ⟨#[]⟩, .int .i64 3, .string sg, .int .i64 (j : Int), .int .i64 1, .string ⟨#[]⟩] 28 (0, 0)) := by
            have := World.alloc_heap_new (wr.alloc (.cells #[.int .i64 0, .string sg, .int .i64 (j : Int), .int .i64 0, .string ⟨#[]⟩] 28)) (.cells #[.int .i64 1, .string sg, .int .i64 (j : Int), .int .i64 0, .string ⟨#[]⟩, .int .i64 2, .string sg, .int .i64 (j : Int), .int .i64 0, .string ⟨#[]⟩, .int .i64 3, .string sg, .int .i64 (j : Int), .int .i64 (-1), .string ⟨#[]⟩, .int .i64 3, .string sg, .int .i64 (j : Int), .int .i64 1, .string ⟨#[]⟩] 28)
            simpa using this
          have hsz := hB.size
          have hOF := hiq (hO.out.below hal)
          have hBF := hiq (hB.trans (hal.mono (by omega)))
          have hne : Hid (∀ y : Addr, a = some y -> y.block ≠ wr.heap.size + 1) := fun y hy => by have := (hO.out.lt y hy).2; omega
          clear hal hO hB
          have hgb : sg.size <= 140737488355328 := hgs
          have hjb : j < 9223372036854775808 := by omega
          go_wp2_with fail
          generalize ((wr.alloc (.cells #[.int .i64 0, .string sg, .int .i64 (j : Int), .int .i64 0, .string ⟨#[]⟩] 28)).alloc (.cells #[.int .i64 1, .string sg, .int .i64 (j : Int), .int .i64 0, .string ⟨#[]⟩, .int .i64 2, .string sg, .int .i64 (j : Int), .int .i64 0, .string ⟨#[]⟩, .int .i64 3, .string sg, .int .i64 (j : Int), .int .i64 (-1), .string ⟨#[]⟩, .int .i64 3, .string sg, .int .i64 (j : Int), .int .i64 1, .string ⟨#[]⟩] 28)) = WG at *
          have hWG : wr.heap.size + 1 < WG.heap.size := (Array.getElem?_eq_some_iff.1 gF).1
          generalize wr.heap.size + 1 = bk at *
          clear c0 c1 c2 c3 d1r d2r hsz
          have gF0 := hiq gF
          clear gF
          go_loopw [8, 3] (fun i t wr => ∃ (q : Nat) (a : Option Addr) (n c : Nat), i = .int .i64 q /\ t = .slice a n c /\ q <= 4 /\ Hid (OwnQ 28 5 Op.cells wr (w.heap.size + 1) a n c (opsN x k ++ (rowN x sg j ++ fourN x sg j q))) /\ Hid (∀ y : Addr, a = some y -> y.block ≠ bk) /\ wr.heap[bk]? = some (.cells #[.int .i64 1, .string sg, .int .i64 (j : Int), .int .i64 0, .string ⟨#[]⟩, .int .i64 2, .string sg, .int .i64 (j : Int), .int .i64 0, .string ⟨#[]⟩, .int .i64 3, .string sg, .int .i64 (j : Int), .int .i64 (-1), .string ⟨#[]⟩, .int .i64 3, .string sg, .int .i64 (j : Int), .int .i64 1, .string ⟨#[]⟩] 28 (0, 0)) /\ Below (w.heap.size + 1) W1 wr) (fun i _ _ => 4 - (intOf i).toNat)
          case atStart => exact ⟨0, _, _, _, rfl, rfl, Nat.zero_le _, by have := hOF.out; show OwnQ _ _ _ _ _ _ _ _ (opsN x k ++ (rowN x sg j ++ [])); rw [List.append_nil]; exact this, hne, gF0.out, hBF.out⟩
          case round =>
            clear hOF hBF hne gF0 hWG
            obtain ⟨q, a, n, c, rfl, rfl, hq, hO, hne, gF, hB⟩ := hrel
            by_cases hql : q < 4
            · obtain ⟨c0, c1, c2, c3, -⟩ := box_cells4 ((hB.block _ (by omega)).trans gX)
              obtain ⟨o, b5, of5, ho, -, eb, -, -, hok, f0, f1, f2, f3, f4⟩ := (opsq_four hjb hgb gF).op (j := q) hql
              cases eb
              have hle : n <= 4096 := by
                rw [hO.out.len]
                exact HLE.out k j q sg (by rw [<- HTN.out.1]; exact hkl) hSG.out (by rw [<- hRL.out]; exact hjl)
              obtain ⟨ok, og, ot, oo, ox⟩ := o
              dsimp only at f0 f1 f2 f3 f4
              simp only [Nat.zero_add] at f0 f1 f2 f3 f4
              have HY := hiq (fun h0 => fourN_yes (x := x) ho h0)
              have HN := hiq (fun h0 => fourN_no (x := x) ho h0)
              clear ho hok
              have gF0 := hiq gF
              have hbk := (Array.getElem?_eq_some_iff.1 gF).1
              have HB0 := hiq hB
              have hsz := hB.size
              clear gF hB
              go_wp2_with fail
              obtain ⟨X, Wf, hX, hS1, hS2⟩ := family (fun V => Below wr.heap.size wr V) wr (Below.refl _ _)
              have HS2q := hiq hS2
              have q_c0 := fun x => clq (hS1 x) c0
              have q_c1 := fun x => clq (hS1 x) c1
              have q_c2 := fun x => clq (hS1 x) c2
              have q_c3 := fun x => clq (hS1 x) c3
              have q_f0 := fun x => clq (hS1 x) f0
              have q_f1 := fun x => clq (hS1 x) f1
              have q_f2 := fun x => clq (hS1 x) f2
              have q_f3 := fun x => clq (hS1 x) f3
              have q_f4 := fun x => clq (hS1 x) f4
              clear hS1 hS2
              have hd0 : Below wr.heap.size wr wr.drew := (Below.refl _ _).drew
              refine wp_region_tree (Wf := Wf) 6 (.read 0 (.read 1 (.read 2 (.read 3 (.read 4 (.act 5 .fin)))))) (by kernel_rfl) (by kernel_rfl) (fun _ _ d _ _ h => by cases d <;> exact h) (HS2q.out _ hd0) ?_
              refine wpTree_read _ rfl (fun K hK => ?_); unfold rOp; go_simp; (refine hK _ ?_; clear hK K)
              refine wpTree_read _ rfl (fun K hK => ?_); unfold rOp; go_simp; (refine hK _ ?_; clear hK K)
              refine wpTree_read _ rfl (fun K hK => ?_); unfold rOp; go_simp; (refine hK _ ?_; clear hK K)
              refine wpTree_read _ rfl (fun K hK => ?_); unfold rOp; go_simp; (refine hK _ ?_; clear hK K)
              refine wpTree_read _ rfl (fun K hK => ?_); unfold rOp; go_simp; (refine hK _ ?_; clear hK K)
              clear q_c0 q_c1 q_c2 q_c3 q_f0 q_f1 q_f2 q_f3 q_f4
              refine wpTree_act _ rfl ?_
              have HQ := hiq (HC.out ⟨ok, og, ot, oo, ox⟩ wr.drew ((hb0.trans (HB0.out.mono (by omega))).trans (hd0.mono (by omega))))
              change Hid (Calls _ _ #[_, .agg #[.int .i64 ok, .string og, .int .i64 ot, .int .i64 oo, .string ox]] _ _) at HQ
              go_wp2_with fail
              refine HQ.out.mono ?_
              clear HQ
              rintro e V2 ⟨rfl, hst⟩
              have hd := hd0.trans (hst.mono hd0.size)
              clear hst hd0
              go_wp2_with fail
              refine ⟨HS2q.out _ hd, ?_⟩
              refine wpTree_fin ?_
              clear HS2q hX
              have hO2 := hiq (hO.out.below hd)
              have gF2 := hiq ((hd.block _ hbk).trans gF0.out)
              have HB2 := hiq (HB0.out.trans (hd.mono (by omega)))
              have hbk2 : bk < V2.heap.size := by have := hd.size; omega
              have hsz2 : (w.heap.size + 1) <= V2.heap.size := by have := hd.size; omega
              replace c0 := clq hd c0; replace c1 := clq hd c1; replace c2 := clq hd c2; replace c3 := clq hd c3; replace f0 := clq hd f0; replace f1 := clq hd f1; replace f2 := clq hd f2; replace f3 := clq hd f3; replace f4 := clq hd f4
              clear hO gF0 HB0 hbk hsz hd
              generalize opErr x ⟨ok, og, ot, oo, ox⟩ = E at *
              by_cases h0 : E = 0
              · have t1 : ((E : Int) == 0) = true := by simp [h0]
                have HYY := hiq (HY.out h0)
                clear HY HN h0
                have hal : Below V2.heap.size V2 (V2.alloc (.cells #[.int .i64 ok, .string og, .int .i64 ot, .int .i64 oo, .string ox] 28)) := (Below.refl _ _).alloc (Nat.le_refl _) _
                have hO6 := hiq (hO2.out.below hal)
                have HV : Hid (∀ j u, (([⟨ok, og, ot, oo, ox⟩] : List Op).flatMap Op.cells)[j]? = some u -> (V2.alloc (.cells #[.int .i64 ok, .string og, .int .i64 ot, .int .i64 oo, .string ox] 28)).cell? ((⟨V2.heap.size, 0, none⟩ : Addr).add j) = some u) := fun j u hj => lit_cells (by exact hj)
                have hB6 : (w.heap.size + 1) <= (V2.alloc (.cells #[.int .i64 ok, .string og, .int .i64 ot, .int .i64 oo, .string ox] 28)).heap.size := Nat.le_trans hsz2 hal.size
                have hbB : Below (w.heap.size + 1) W1 (V2.alloc (.cells #[.int .i64 ok, .string og, .int .i64 ot, .int .i64 oo, .string ox] 28)) := HB2.out.trans (hal.mono hsz2)
                have gF6 := hiq ((hal.block _ hbk2).trans gF2.out)
                have hs6 : Hid ((V2.alloc (.cells #[.int .i64 ok, .string og, .int .i64 ot, .int .i64 oo, .string ox] 28)).heap.size = V2.heap.size + 1) := by show _ = _; simp
                have HI := infoO
                clear hal hO2 HB2 gF2
                go_wp2_with (at_builtin; refine wpList_appQ (l := opsN x k ++ (rowN x sg j ++ fourN x sg j q)) (ys := [⟨ok, og, ot, oo, ox⟩]) HI Tryz.underlying41 rfl (by omega) op_len op_one rfl _ _ rfl rfl rfl hO6.out rfl HV.out (by unfold maxLen; omega) (by omega) hB6 hbB ?_; intro a7 c7 w7 ho7 hb7 hg7 hv7)
                go_roundw
                case rel =>
                  refine ⟨q + 1, a7, n + 1, c7, by go_num, rfl, by omega, ?_, ?_, ?_, hb7⟩
                  · show OwnQ _ _ _ _ _ _ _ _ _
                    rw [HYY.out, <- List.append_assoc (rowN x sg j), <- List.append_assoc (opsN x k)]
                    exact ho7
                  · intro y hy
                    subst hy
                    rcases hv7 with e | e
                    · cases a with
                      | none => cases e
                      | some z => exact fun e2 => hne.out z rfl (by injection e with e; rw [<- e]; exact e2)
                    · injection e with e
                      have := hs6.out
                      show y.block ≠ bk
                      intro e2
                      have e3 : y.block = V2.heap.size + 1 := by rw [<- this]; exact e
                      omega
                  · refine (hg7.block _ (by have := hs6.out; omega) ?_).trans gF6.out
                    cases a with
                    | none => exact fun e => by cases e
                    | some z => exact fun e => hne.out z rfl (by injection e with e; exact e.symm)
                case measure => simp [intOf]; omega
              · have t1 : ((E : Int) == 0) = false := by simp [h0]
                have HNN := hiq (HN.out h0)
                clear HY HN h0
                go_wp2
                go_roundw
                case rel => exact ⟨q + 1, a, n, c, by go_num, rfl, by omega, by show OwnQ _ _ _ _ _ _ _ _ _; rw [HNN.out]; exact hO2.out, hne, gF2.out, HB2.out⟩
                case measure => simp [intOf]; omega
            · obtain rfl : q = 4 := by omega
              have hO4 : Hid (OwnQ 28 5 Op.cells wr (w.heap.size + 1) a n c (opsN x k ++ rowN x sg (j + 1))) := by
                have := hO.out
                rw [fourN_four, <- rowN_succ] at this; exact this
              clear hO hne gF
              go_wp2
              go_roundw
              case rel => exact ⟨j + 1, a, n, c, by go_num, rfl, by omega, hO4.out, hB⟩
              case measure => simp [intOf]; omega
        · obtain rfl : j = n1 := by omega
          have hO4 : Hid (OwnQ 28 5 Op.cells wr (w.heap.size + 1) a n c (opsN x (k + 1))) := by
            have := hO.out
            have e : opsOf x k = rowN x sg j := by unfold opsOf rowN; rw [hSG.out, <- hRL.out]
            rw [<- e, <- opsN_succ] at this; exact this
          clear hO
          go_wp2
          go_roundw
          case rel => exact ⟨k + 1, a, n, c, by go_num, rfl, by omega, hO4.out, hB⟩
          case measure => simp [intOf]; omega
    · obtain rfl : k = tn := by omega
      have hO4 : Hid (OwnQ 28 5 Op.cells wr (w.heap.size + 1) a n c (allOps x)) := by
        have := hO.out
        have e : allOps x = opsN x k := by unfold allOps opsN; rw [HTN.out.1]
        rw [<- e] at this; exact this
      have hbw := hb0.trans (hB.mono (by omega : w.heap.size <= (w.heap.size + 1)))
      clear hO
      go_wp2
      go_ret
      exact ⟨a, n, c, rfl, hO4.out.mono (by omega), hbw⟩
theorem rAll_ref (S : Nat -> Prop) (v : CV) (x : Col) (w : World) (h : RdC S w v x) (hm : Sml x) (hln : x.err = 0 -> (allOps x).length <= 4096) : Calls Tryz.prog 32 #[v.val] w (AllPost x w) := by
  unfold AllPost
  have hb : Below w.heap.size w (w.alloc (.cells v.arr 26)) := (Below.refl _ _).alloc (Nat.le_refl _) _
  have gX := World.alloc_heap_new w (.cells v.arr 26)
  by_cases hv : x.err = 0
  · rw [if_pos hv, if_pos hv]
    have HC : Hid (∀ W, Below w.heap.size w W -> Calls Tryz.prog 50 #[v.val] W fun e w' => e = .returned (.int .i64 0) /\ Below W.heap.size W w') := fun W hb => by
      have := check_ref S v x W (h.below hb) hm
      rw [hv] at this; exact this
    have HA : Hid (∀ W, Below w.heap.size w W -> Calls Tryz.prog 67 #[v.val] W fun e w' => ∃ a n c, e = .returned (.slice a n c) /\ OwnQ 28 5 Op.cells w' W.heap.size a n c (allOps x) /\ Below W.heap.size W w') := fun W hb => rall_ref S v x W (h.below hb) hm hv (hln hv)
    have HL := hiq (hln hv)
    clear h hm hv hln
    generalize allOps x = L at *
    obtain ⟨sec, sa, sn, sc, ta, tn, tc, ca, cn, cc⟩ := v
    change Calls _ _ #[.agg #[.string sec, .slice sa sn sc, .slice ta tn tc, .slice ca cn cc]] _ _
    change Hid (∀ W, _ -> Calls _ _ #[.agg #[.string sec, .slice sa sn sc, .slice ta tn tc, .slice ca cn cc]] _ _) at HC
    change Hid (∀ W, _ -> Calls _ _ #[.agg #[.string sec, .slice sa sn sc, .slice ta tn tc, .slice ca cn cc]] _ _) at HA
    change (w.alloc (.cells #[.string sec, .slice sa sn sc, .slice ta tn tc, .slice ca cn cc] 26)).heap[w.heap.size]? = some (.cells #[.string sec, .slice sa sn sc, .slice ta tn tc, .slice ca cn cc] 26 (0, 0)) at gX
    change Below w.heap.size w (w.alloc (.cells #[.string sec, .slice sa sn sc, .slice ta tn tc, .slice ca cn cc] 26)) at hb
    obtain ⟨c0, c1, c2, c3, -⟩ := box_cells4 gX
    clear gX
    have HCC := hiq (HC.out _ hb)
    go_enter Tryz.func32, Tryz.ntmps32
    go_wp2_with fail
    generalize w.alloc (.cells #[.string sec, .slice sa sn sc, .slice ta tn tc, .slice ca cn cc] 26) = W1 at *
    refine HCC.out.mono ?_
    rintro e W2 ⟨rfl, hst⟩
    replace c0 := clq hst c0; replace c1 := clq hst c1; replace c2 := clq hst c2; replace c3 := clq hst c3
    replace hb := hb.trans (hst.mono hb.size)
    clear HCC hst HC
    have HAA := hiq (HA.out _ hb)
    go_wp2_with fail
    refine HAA.out.mono ?_
    rintro e W3 ⟨a, n, c, rfl, hO, hst⟩
    have hn : n <= 4096 := by rw [hO.len]; exact HL.out
    have hX := hiq (And.intro (hO.mono hb.size) (hb.trans (hst.mono hb.size)))
    clear hO hst HAA HA hb
    go_wp2
    exact bodyPost_ret (results_tmp2 rfl _ _ _) rfl ⟨a, n, c, rfl, hX.out.1, hX.out.2⟩
  · rw [if_neg hv, if_neg hv]
    have HC : Hid (∀ W, Below w.heap.size w W -> Calls Tryz.prog 50 #[v.val] W fun e w' => e = .returned (.int .i64 x.err) /\ Below W.heap.size W w') := fun W hb => check_ref S v x W (h.below hb) hm
    have t1 : ((x.err : Int) != 0) = true := by simpa using hv
    clear h hm hv hln
    generalize x.err = E at *
    obtain ⟨sec, sa, sn, sc, ta, tn, tc, ca, cn, cc⟩ := v
    change Calls _ _ #[.agg #[.string sec, .slice sa sn sc, .slice ta tn tc, .slice ca cn cc]] _ _
    change Hid (∀ W, _ -> Calls _ _ #[.agg #[.string sec, .slice sa sn sc, .slice ta tn tc, .slice ca cn cc]] _ _) at HC
    change (w.alloc (.cells #[.string sec, .slice sa sn sc, .slice ta tn tc, .slice ca cn cc] 26)).heap[w.heap.size]? = some (.cells #[.string sec, .slice sa sn sc, .slice ta tn tc, .slice ca cn cc] 26 (0, 0)) at gX
    change Below w.heap.size w (w.alloc (.cells #[.string sec, .slice sa sn sc, .slice ta tn tc, .slice ca cn cc] 26)) at hb
    obtain ⟨c0, c1, c2, c3, -⟩ := box_cells4 gX
    clear gX
    have HCC := hiq (HC.out _ hb)
    go_enter Tryz.func32, Tryz.ntmps32
    go_wp2_with fail
    generalize w.alloc (.cells #[.string sec, .slice sa sn sc, .slice ta tn tc, .slice ca cn cc] 26) = W1 at *
    refine HCC.out.mono ?_
    rintro e W2 ⟨rfl, hst⟩
    replace hb := hb.trans (hst.mono hb.size)
    clear HCC hst HC
    go_wp2
    exact bodyPost_ret (results_tmp2 rfl _ _ _) rfl ⟨none, 0, 0, rfl, OwnQ.nil _ _ _ _ _, hb⟩
end Go.Proofs.YtbdgmgddliploaaGreatDoor
