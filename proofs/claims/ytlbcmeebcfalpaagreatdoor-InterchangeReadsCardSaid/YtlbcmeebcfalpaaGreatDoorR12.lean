/- Joined: IWrC0, IWsty, IWa, IGre. -/
import Derived.Test.YtlbcmeebcfalpaaGreatDoorR11
import Derived.Test.YtlbcmeebcfalpaaGreatDoorR10
set_option linter.unusedVariables false
set_option linter.unusedSimpArgs false
set_option maxRecDepth 100000
set_option maxHeartbeats 16000000
namespace Go.Proofs.YtlbcmeebcfalpaaGreatDoor
open Go.RowKit

@[reducible] def LT.isWC0 : LT -> Bool | sty => true | edi => true | inp => true | _ => false
theorem wrC0_st (T : LT) (hL : T.isWC0 = true) (S : Nat -> Prop) (w : World) (l : List Dv) (hh : Has T.ty (.struc l)) (hr : RdD S w (.struc l)) (hS : ∀ b, S b -> b < w.heap.size)
    (hc : ∀ W1, Below w.heap.size w W1 -> AllC W1 l (T.fc false)) : Calls Tryz.prog (T.wf false) #[(Dv.struc l).val] w (NewV (Dv.struc l).toV w) := by
  have hb1 : Below w.heap.size w ((w.alloc (.cells (Dv.cellsL l).toArray T.tid)).alloc (.cells #[.int .i64 0, .int .i64 0, .string ⟨#[]⟩, .slice none 0 0] 24)) := ((Below.refl _ _).alloc (Nat.le_refl _) _).alloc (by simp) _
  have hs1 : ((w.alloc (.cells (Dv.cellsL l).toArray T.tid)).alloc (.cells #[.int .i64 0, .int .i64 0, .string ⟨#[]⟩, .slice none 0 0] 24)).heap.size = w.heap.size + 2 := by simp
  have hbx : ((w.alloc (.cells (Dv.cellsL l).toArray T.tid)).alloc (.cells #[.int .i64 0, .int .i64 0, .string ⟨#[]⟩, .slice none 0 0] 24)).heap[w.heap.size + 1]? = some (.cells #[.int .i64 0, .int .i64 0, .string ⟨#[]⟩, .slice none 0 0] 24 (0, 0)) := by
    have := World.alloc_heap_new (w.alloc (.cells (Dv.cellsL l).toArray T.tid)) (.cells #[.int .i64 0, .int .i64 0, .string ⟨#[]⟩, .slice none 0 0] 24)
    simpa using this
  have hcs : ∀ V, Below ((w.alloc (.cells (Dv.cellsL l).toArray T.tid)).alloc (.cells #[.int .i64 0, .int .i64 0, .string ⟨#[]⟩, .slice none 0 0] 24)).heap.size ((w.alloc (.cells (Dv.cellsL l).toArray T.tid)).alloc (.cells #[.int .i64 0, .int .i64 0, .string ⟨#[]⟩, .slice none 0 0] 24)) V -> CellsAt V w.heap.size 0 (Dv.cellsL l) := fun V hV =>
    all_cells (alloc_heap_some (World.alloc_heap_new w (.cells (Dv.cellsL l).toArray T.tid))) hV
  have HC := hiq (hc _ hb1)
  have hi := T.inv hh
  have HA : Hid (∀ V vs, WAcc ((w.alloc (.cells (Dv.cellsL l).toArray T.tid)).alloc (.cells #[.int .i64 0, .int .i64 0, .string ⟨#[]⟩, .slice none 0 0] 24)) V vs l -> vs.length <= 1000 -> _) := fun V vs h hm => h.fin (σ := false) hm hb1 hs1 hbx
  have hV : (Dv.struc l).toV = .mk 3 0 ⟨#[]⟩ (Dv.toVL l) := by rw [Dv.toV]
  rw [hV]
  obtain ⟨N, hN⟩ : ∃ N, N = T.N false := ⟨_, rfl⟩
  obtain ⟨ks, hks⟩ : ∃ ks, ks = T.ks false := ⟨_, rfl⟩
  obtain ⟨acts, hacts⟩ : ∃ acts, acts = T.acts false := ⟨_, rfl⟩
  clear hc hh hr hS hb1 hs1 hbx hV
  cases T
  case' sty => go_enter Tryz.func122, Tryz.ntmps122
  case' edi => go_enter Tryz.func42, Tryz.ntmps42
  case' inp => go_enter Tryz.func45, Tryz.ntmps45
  case op => cases hL
  case dec => cases hL
  case rew => cases hL
  case grp => cases hL
  case pat => cases hL
  case sec => cases hL
  case rul => cases hL
  case wit => cases hL
  case nod => cases hL
  case exp => cases hL
  case cst => cases hL
  case int => cases hL
  case bool => cases hL
  case text => cases hL
  case pos => cases hL
  case tok => cases hL
  case toks => cases hL
  all_goals
    dsimp only [LT.Inv] at hi
    repeat (rcases (hi : ∃ _, _) with ⟨_, hi⟩)
    injection hi with hi
    subst hi
    simp only [Dv.val, Dv.cells, Dv.cellsL, List.cons_append, List.nil_append, List.append_nil, CellsAt, Nat.zero_add, Nat.reduceAdd, and_true, LT.tid, LT.fc, AllC] at *
    have HCS := hiq hcs
    clear hcs
    go_wp2_with fail
    generalize World.alloc (World.alloc _ _) _ = W1 at *
    obtain ⟨X, Wf, hX, hS1, hS2⟩ := family (fun W => Below W1.heap.size W1 W) W1 (Below.refl _ _)
    have HS2 := hiq hS2
    have q := fun x => HCS.out _ (hS1 x)
    clear hS1 hS2 HCS
    have hc0 : Below W1.heap.size W1 W1.drew := (Below.refl _ _).drew
    refine wp_region_reads (Wf := Wf) N ks acts (by kernel_rfl) (by rw [hN, hks, hacts]; kernel_rfl) (fun _ _ d _ _ h => by cases d <;> exact h) (HS2.out _ hc0) ?_
    dsimp only [LT.N, LT.ks, LT.acts] at hN hks hacts
    subst hN hks hacts
    simp only [pickOps, List.filterMap_cons, List.filterMap_nil, List.getElem?_cons_zero, List.getElem?_cons_succ]
    repeat (refine wpReads_step (fun K hK => ?_); unfold rOp; go_simp; (refine hK _ ?_; clear hK K))
    clear q
    refine wpReads_nil (wpActs_cons ?_)
    have A0 := hiq (WAcc.init hc0)
    clear hc0
    repeat
      obtain ⟨hcall, HC⟩ := HC
      go_wp2_with fail
      refine (hcall _ A0.out.below).mono ?_
      intro e V hk
      obtain ⟨⟨k, n, t, a, c, l⟩, he, A1⟩ := A0.out.step hk
      change e = .returned (.agg #[.int .i64 k, .int .i64 n, .string t, .slice a l.length c]) at he
      subst he
      clear A0 hcall hk
      have A0 := hiq A1
      clear A1
      go_wp2_with fail
      refine ⟨HS2.out _ A0.out.below, wpActs_cons ?_⟩
    obtain ⟨hcL, hFL⟩ := HA.out _ _ A0.out (by simp)
    simp only [List.nil_append, List.cons_append, List.append_nil, flat, List.flatMap_cons, List.flatMap_nil, Vl.cells, Vl.kind, Vl.num, Vl.text, Vl.sl, Vl.addr, Vl.items, Vl.cap, List.length_cons, List.length_nil, Nat.reduceAdd, Nat.zero_add, lstF] at hcL hFL
    have FL := hiq hFL
    clear HA A0 hFL HC
    go_wp2_with fail
    refine ⟨HS2.out _ hcL, wpActs_cons ?_⟩
    go_wp2_with fail
    refine FL.out.mono ?_
    rintro e VL ⟨al, cl, m, WF, rfl, hcZ, z0, z1, z2, z3, zf, hWF, hzz, hP⟩
    have HWF := hiq hWF
    have HZZ := hiq hzz
    have HP := hiq hP
    have HCZ := hiq hcZ
    clear hWF hzz hP FL hcL hcZ
    go_wp2_with fail
    refine ⟨HS2.out _ HCZ.out, wpActs_nil ?_⟩
    go_wp2
    have hww : WF = put4 VL (w.heap.size + 1) (.int .i64 3) (.int .i64 0) (.string ⟨#[]⟩) (.slice al m cl) := HWF.out
    change bodyPost _ _ _ _ _ (put4 VL (w.heap.size + 1) (.int .i64 3) (.int .i64 0) (.string ⟨#[]⟩) (.slice al m cl))
    rw [<- hww]
    have hzz := HZZ.out
    simp only [CellsAt, Nat.zero_add, Nat.reduceAdd, and_true] at hzz
    refine bodyPost_ret ?_ rfl HP.out
    simp [results, Tryz.results122, Tryz.results42, Tryz.results45, go_sem, hzz]
end Go.Proofs.YtlbcmeebcfalpaaGreatDoor
namespace Go.Proofs.YtlbcmeebcfalpaaGreatDoor
open Go.RowKit

theorem idx11 (y0 y1 y2 y3 y4 y5 y6 y7 y8 y9 y10 : Int) (W : World) : ∀ i : Nat, i < 11 -> (Instr.index 276 (.agg #[.int .i64 y0, .int .i64 y1, .int .i64 y2, .int .i64 y3, .int .i64 y4, .int .i64 y5, .int .i64 y6, .int .i64 y7, .int .i64 y8, .int .i64 y9, .int .i64 y10]) (.int .i64 (i : Int))).run Tryz.prog W = .ok (.int .i64 ([y0, y1, y2, y3, y4, y5, y6, y7, y8, y9, y10].getD i 0)) W
  | 0, _ => by kernel_rfl
  | 1, _ => by kernel_rfl
  | 2, _ => by kernel_rfl
  | 3, _ => by kernel_rfl
  | 4, _ => by kernel_rfl
  | 5, _ => by kernel_rfl
  | 6, _ => by kernel_rfl
  | 7, _ => by kernel_rfl
  | 8, _ => by kernel_rfl
  | 9, _ => by kernel_rfl
  | 10, _ => by kernel_rfl
  | n + 11, h => by omega
theorem ys_get {l : List Int} {j : Nat} (h : j < l.length) : l[j]? = some (l.getD j 0) := by rw [List.getD_eq_getElem?_getD, List.getElem?_eq_getElem h]; rfl
theorem wrSty_st (S : Nat -> Prop) (w : World) (l : List Dv) (hh : Has LT.sty.ty (.struc l)) (hr : RdD S w (.struc l)) (hS : ∀ b, S b -> b < w.heap.size) (hc : ∀ W1, Below w.heap.size w W1 -> AllC W1 l (LT.sty.fc true)) : Calls Tryz.prog (LT.sty.wf true) #[(Dv.struc l).val] w (NewV (Dv.struc l).toV w) := by
  obtain ⟨y0, y1, y2, y3, y4, y5, y6, y7, y8, y9, y10, pa, pc, pl, la, lc, ll, hi, -⟩ := inv_Style hh
  injection hi with hi
  subst hi
  have hb1 : Below w.heap.size w ((w.alloc (.cells #[.int .i64 y0, .int .i64 y1, .int .i64 y2, .int .i64 y3, .int .i64 y4, .int .i64 y5, .int .i64 y6, .int .i64 y7, .int .i64 y8, .int .i64 y9, .int .i64 y10, .slice pa pl.length pc, .slice la ll.length lc] 38)).alloc (.cells #[.int .i64 0, .int .i64 0, .string ⟨#[]⟩, .slice none 0 0] 24)) := ((Below.refl _ _).alloc (Nat.le_refl _) _).alloc (by simp) _
  have hs1 : ((w.alloc (.cells #[.int .i64 y0, .int .i64 y1, .int .i64 y2, .int .i64 y3, .int .i64 y4, .int .i64 y5, .int .i64 y6, .int .i64 y7, .int .i64 y8, .int .i64 y9, .int .i64 y10, .slice pa pl.length pc, .slice la ll.length lc] 38)).alloc (.cells #[.int .i64 0, .int .i64 0, .string ⟨#[]⟩, .slice none 0 0] 24)).heap.size = w.heap.size + 2 := by simp
  have hbx : ((w.alloc (.cells #[.int .i64 y0, .int .i64 y1, .int .i64 y2, .int .i64 y3, .int .i64 y4, .int .i64 y5, .int .i64 y6, .int .i64 y7, .int .i64 y8, .int .i64 y9, .int .i64 y10, .slice pa pl.length pc, .slice la ll.length lc] 38)).alloc (.cells #[.int .i64 0, .int .i64 0, .string ⟨#[]⟩, .slice none 0 0] 24)).heap[w.heap.size + 1]? = some (.cells #[.int .i64 0, .int .i64 0, .string ⟨#[]⟩, .slice none 0 0] 24 (0, 0)) := by
    have := World.alloc_heap_new (w.alloc (.cells #[.int .i64 y0, .int .i64 y1, .int .i64 y2, .int .i64 y3, .int .i64 y4, .int .i64 y5, .int .i64 y6, .int .i64 y7, .int .i64 y8, .int .i64 y9, .int .i64 y10, .slice pa pl.length pc, .slice la ll.length lc] 38)) (.cells #[.int .i64 0, .int .i64 0, .string ⟨#[]⟩, .slice none 0 0] 24)
    simpa using this
  have hst := alloc_heap_some (o := .cells #[.int .i64 0, .int .i64 0, .string ⟨#[]⟩, .slice none 0 0] 24) (World.alloc_heap_new w (.cells #[.int .i64 y0, .int .i64 y1, .int .i64 y2, .int .i64 y3, .int .i64 y4, .int .i64 y5, .int .i64 y6, .int .i64 y7, .int .i64 y8, .int .i64 y9, .int .i64 y10, .slice pa pl.length pc, .slice la ll.length lc] 38))
  have hcs : ∀ V, Below ((w.alloc (.cells #[.int .i64 y0, .int .i64 y1, .int .i64 y2, .int .i64 y3, .int .i64 y4, .int .i64 y5, .int .i64 y6, .int .i64 y7, .int .i64 y8, .int .i64 y9, .int .i64 y10, .slice pa pl.length pc, .slice la ll.length lc] 38)).alloc (.cells #[.int .i64 0, .int .i64 0, .string ⟨#[]⟩, .slice none 0 0] 24)).heap.size ((w.alloc (.cells #[.int .i64 y0, .int .i64 y1, .int .i64 y2, .int .i64 y3, .int .i64 y4, .int .i64 y5, .int .i64 y6, .int .i64 y7, .int .i64 y8, .int .i64 y9, .int .i64 y10, .slice pa pl.length pc, .slice la ll.length lc] 38)).alloc (.cells #[.int .i64 0, .int .i64 0, .string ⟨#[]⟩, .slice none 0 0] 24)) V -> CellsAt V w.heap.size 0 (Dv.cellsL [.int y0, .int y1, .int y2, .int y3, .int y4, .int y5, .int y6, .int y7, .int y8, .int y9, .int y10, .list 1 1 pa pc pl, .list 1 16 la lc ll]) := fun V hV => all_cells hst hV
  have HC := hc _ hb1
  have HY : Hid (∀ y ∈ [y0, y1, y2, y3, y4, y5, y6, y7, y8, y9, y10], I64 y) := by
    have := rdD_struc.1 hr
    intro y hy
    have h2 := this (.int y) (by simp at hy ⊢; omega)
    exact h2
  have hV : (Dv.struc [.int y0, .int y1, .int y2, .int y3, .int y4, .int y5, .int y6, .int y7, .int y8, .int y9, .int y10, .list 1 1 pa pc pl, .list 1 16 la lc ll]).toV = .mk 3 0 ⟨#[]⟩ (Dv.toVL [.int y0, .int y1, .int y2, .int y3, .int y4, .int y5, .int y6, .int y7, .int y8, .int y9, .int y10, .list 1 1 pa pc pl, .list 1 16 la lc ll]) := by rw [Dv.toV]
  rw [hV]
  simp only [LT.fc, AllC] at HC
  obtain ⟨c0, -, -, -, -, -, -, -, -, -, -, cp, cl9, -⟩ := HC
  change Calls _ _ #[.agg #[.int .i64 y0, .int .i64 y1, .int .i64 y2, .int .i64 y3, .int .i64 y4, .int .i64 y5, .int .i64 y6, .int .i64 y7, .int .i64 y8, .int .i64 y9, .int .i64 y10, .slice pa pl.length pc, .slice la ll.length lc]] _ _
  have x0 := hcs _ (Below.refl _ _)
  simp only [Dv.cells, Dv.cellsL, List.cons_append, List.nil_append, List.append_nil, CellsAt, Nat.zero_add, Nat.reduceAdd, and_true] at x0 hcs
  have HCS := hiq hcs
  have HB1 := hiq hb1
  have HS1 := hiq hs1
  have HBX := hiq hbx
  have HP := hiq cp
  have HL := hiq cl9
  have HI := hiq (idx11 y0 y1 y2 y3 y4 y5 y6 y7 y8 y9 y10)
  clear hh hr hS hc hb1 hs1 hbx hst hcs c0 cp cl9 hV
  go_enter Tryz.func111, Tryz.ntmps111
  go_wp2_with fail
  generalize ((w.alloc (.cells #[.int .i64 y0, .int .i64 y1, .int .i64 y2, .int .i64 y3, .int .i64 y4, .int .i64 y5, .int .i64 y6, .int .i64 y7, .int .i64 y8, .int .i64 y9, .int .i64 y10, .slice pa pl.length pc, .slice la ll.length lc] 38)).alloc (.cells #[.int .i64 0, .int .i64 0, .string ⟨#[]⟩, .slice none 0 0] 24)) = W1 at *
  go_loopw [3, 29] (fun o i wr => ∃ (j : Nat) (a' : Option Addr) (c' : Nat) (vs : List Vl), i = .int .i64 (j : Int) /\ j <= 11 /\ o = .slice a' j c' /\ (∃ S : Nat -> Prop, OwnV S wr W1.heap.size a' j c' vs /\ Free S a' /\ ∀ b, S b -> W1.heap.size <= b /\ b < wr.heap.size) /\ Hid (vs.map Vl.er = ([y0, y1, y2, y3, y4, y5, y6, y7, y8, y9, y10].take j).map (fun y => V.mk 1 y ⟨#[]⟩ [])) /\ Below W1.heap.size W1 wr) (fun _ i _ => 11 - (intOf i).toNat)
  case atStart => exact ⟨0, none, 0, [], rfl, by omega, rfl, ⟨fun _ => False, OwnV.nil _ _ _, (fun x hx hs => hs), (fun b hb => hb.elim)⟩, rfl, Below.refl _ _⟩
  case round =>
    obtain ⟨j, a', c', vs, rfl, hj, rfl, ⟨S', ho, hfr, hsub⟩, hvs, hb⟩ := hrel
    have HFR := hiq hfr
    have HSUB := hiq hsub
    clear hfr hsub
    by_cases hlj : j < 11
    · have hix := HI.out wr j hlj
      have hyj : [y0, y1, y2, y3, y4, y5, y6, y7, y8, y9, y10].getD j 0 ∈ [y0, y1, y2, y3, y4, y5, y6, y7, y8, y9, y10] := List.mem_of_getElem? (ys_get (by simpa using hlj))
      have hej : ([y0, y1, y2, y3, y4, y5, y6, y7, y8, y9, y10].take (j + 1)).map (fun y => V.mk 1 y ⟨#[]⟩ []) = ([y0, y1, y2, y3, y4, y5, y6, y7, y8, y9, y10].take j).map (fun y => V.mk 1 y ⟨#[]⟩ []) ++ [V.mk 1 ([y0, y1, y2, y3, y4, y5, y6, y7, y8, y9, y10].getD j 0) ⟨#[]⟩ []] := by
        rw [List.take_add_one, ys_get (l := [y0, y1, y2, y3, y4, y5, y6, y7, y8, y9, y10]) (by simpa using hlj), List.map_append]; rfl
      have hI64 := HY.out _ hyj
      generalize [y0, y1, y2, y3, y4, y5, y6, y7, y8, y9, y10].getD j 0 = y at *
      have HM := hiq (int_any y wr)
      have HO := hiq ho
      have HB := hiq hb
      have HE := hiq hej
      have HI64 := hiq hI64
      clear ho hb hej hyj hI64
      go_wp2_with fail
      refine HM.out.mono ?_
      rintro e w2 ⟨he, hb2⟩
      change e = .returned (.agg #[.int .i64 1, .int .i64 y, .string ⟨#[]⟩, .slice none 0 0]) at he
      subst he
      have hb3 : Below w2.heap.size w2 (w2.alloc (.cells #[.int .i64 1, .int .i64 y, .string ⟨#[]⟩, .slice none 0 0] 24)) := (Below.refl _ _).alloc (Nat.le_refl _) _
      have hb23 := hb2.trans (hb3.mono hb2.size)
      have hb9 := HB.out.trans (hb23.mono HB.out.size)
      have hp : AppV (w2.alloc (.cells #[.int .i64 1, .int .i64 y, .string ⟨#[]⟩, .slice none 0 0] 24)) W1.heap.size a' j c' vs (mkInt y) w2.heap.size := by
        refine ⟨⟨S', HO.out.below hb23, ?_, rd_int HI64.out, HFR.out, fun b hb => (HSUB.out b hb).1⟩, by omega, hb9.size⟩
        obtain ⟨z0, z1, z2, z3, -⟩ := box_cells (World.alloc_heap_new w2 (.cells #[.int .i64 1, .int .i64 y, .string ⟨#[]⟩, .slice none 0 0] 24))
        exact ⟨z0, z1, z2, z3⟩
      have HB9 := hiq hb9
      clear hb2 hb3 hb23 hb9
      go_wp2_with (at_builtin; refine wpList_appV hp rfl (.tmp 32) (.tmp 35) rfl rfl rfl ?_; intro a5 c5 w5 o5 b5)
      go_roundw
      case rel =>
        refine ⟨j + 1, a5, c5, _, by go_num, by omega, rfl, o5, ?_, HB9.out.trans b5⟩
        show _ = _
        rw [List.map_append, hvs.out, HE.out, List.map_singleton, Vl.er, Vl.erL]
      case measure => simp [intOf]; omega
    · obtain rfl : j = 11 := by omega
      have hwr := hb.size
      have hcl : ∀ V, Below W1.heap.size W1 V -> V.cell? ⟨w.heap.size, 11, none⟩ = some (.slice pa pl.length pc) /\ V.cell? ⟨w.heap.size, 12, none⟩ = some (.slice la ll.length lc) := fun V hV =>
        ⟨(HCS.out V hV).2.2.2.2.2.2.2.2.2.2.2.1, (HCS.out V hV).2.2.2.2.2.2.2.2.2.2.2.2⟩
      obtain ⟨X, Wf, hX, hS1, hS2⟩ := family (fun V => V.cell? ⟨w.heap.size, 11, none⟩ = some (.slice pa pl.length pc) /\ V.cell? ⟨w.heap.size, 12, none⟩ = some (.slice la ll.length lc)) wr (hcl _ hb)
      have HF : Hid (∀ V, Below W1.heap.size W1 V -> ∃ x, V = Wf x) := fun V hV => hS2 _ (hcl V hV)
      have q11 := fun x => (hS1 x).1
      have q12 := fun x => (hS1 x).2
      have HO := hiq ho
      have HB := hiq hb
      clear hS1 hS2 hcl ho hb x0
      have hd0 : Below wr.heap.size wr wr.drew := (Below.refl _ _).drew
      have hD0 := HB.out.trans (hd0.mono hwr)
      go_wp2_with fail
      refine wp_region_tree (Wf := Wf) 10 (.read 0 (.read 1 (.read 2 (.read 4 (.read 5 (.act 3 (.act 6 (.act 7 (.act 8 (.act 9 .fin)))))))))) (by kernel_rfl) (by kernel_rfl) (fun _ _ d _ _ h => by cases d <;> exact h) (HF.out _ hD0) ?_
      refine wpTree_read _ rfl (fun K hK => ?_); unfold rOp; go_simp; (refine hK _ ?_; clear hK K)
      refine wpTree_read _ rfl (fun K hK => ?_); unfold rOp; go_simp; (refine hK _ ?_; clear hK K)
      refine wpTree_read _ rfl (fun K hK => ?_); unfold rOp; go_simp; (refine hK _ ?_; clear hK K)
      refine wpTree_read _ rfl (fun K hK => ?_); unfold rOp; go_simp; (refine hK _ ?_; clear hK K)
      refine wpTree_read _ rfl (fun K hK => ?_); unfold rOp; go_simp; (refine hK _ ?_; clear hK K)
      have HM := hiq (HP.out _ hD0)
      refine wpTree_act _ rfl ?_
      go_wp2_with fail
      refine HM.out.mono ?_
      rintro e V1 ⟨⟨k1, n1, t1, a1, c1, l1⟩, he, hx1, hr1, hb1⟩
      change e = .returned (.agg #[.int .i64 k1, .int .i64 n1, .string t1, .slice a1 l1.length c1]) at he
      subst he
      have hd1 := hd0.trans (hb1.mono hd0.size)
      have hD1 := HB.out.trans (hd1.mono hwr)
      have HM2 := hiq (HL.out _ hD1)
      clear HM
      go_wp2_with fail
      refine ⟨HF.out _ hD1, wpTree_act _ rfl ?_⟩
      go_wp2_with fail
      refine HM2.out.mono ?_
      rintro e V2 ⟨⟨k2, n2, t2, a2, c2, l2⟩, he, hx2, hr2, hb2⟩
      change e = .returned (.agg #[.int .i64 k2, .int .i64 n2, .string t2, .slice a2 l2.length c2]) at he
      subst he
      have hd2 := hd1.trans (hb2.mono hd1.size)
      have hD2 := HB.out.trans (hd2.mono hwr)
      clear HM2
      go_wp2_with fail
      refine ⟨HF.out _ hD2, wpTree_act _ rfl ?_⟩
      go_wp2_with fail
      have hal : Below V2.heap.size V2 (V2.alloc (.cells #[.int .i64 k1, .int .i64 n1, .string t1, .slice a1 l1.length c1, .int .i64 k2, .int .i64 n2, .string t2, .slice a2 l2.length c2] 24)) := (Below.refl _ _).alloc (Nat.le_refl _) _
      have hD3 := hD2.trans (hal.mono hD2.size)
      have s1 := hd1.size
      have s2 := hd2.size
      have hv2 := (vals_lit (S := fun b => wr.heap.size <= b) (W := V2) (vs := [.mk k1 n1 t1 a1 c1 l1, .mk k2 n2 t2 a2 c2 l2]) (cs := #[.int .i64 k1, .int .i64 n1, .string t1, .slice a1 l1.length c1, .int .i64 k2, .int .i64 n2, .string t2, .slice a2 l2.length c2]) rfl (fun v hv => by
        simp only [List.mem_cons, List.not_mem_nil, or_false] at hv
        rcases hv with rfl | rfl
        · exact (hr1.mono (S' := fun b => wr.heap.size <= b) fun b hb _ => Nat.le_trans hd0.size hb).below hb2
        · exact hr2.mono (S' := fun b => wr.heap.size <= b) fun b hb _ => Nat.le_trans hd1.size hb) hd2.size (by simp)).mono (S' := fun b => S' b \/ wr.heap.size <= b) fun b hb _ => .inr hb
      have ho2 := ((HO.out.below (hd2.trans (hal.mono hd2.size))).monoS (S' := fun b => S' b \/ wr.heap.size <= b) fun b hb _ => .inl hb)
      have hlo := HO.out.lt
      have hfr2 : ∀ q, (Value.slice a' 11 c').ownBlock = some q -> ¬ (S' q \/ wr.heap.size <= q) := fun q hq hs => by
        rcases hs with hs | hs
        · exact HFR.out.own q hq hs
        · have := (hlo q hq).2; omega
      have HER : Hid ((vs ++ [Vl.mk k1 n1 t1 a1 c1 l1, Vl.mk k2 n2 t2 a2 c2 l2]).map Vl.er = Dv.toVL [.int y0, .int y1, .int y2, .int y3, .int y4, .int y5, .int y6, .int y7, .int y8, .int y9, .int y10, .list 1 1 pa pc pl, .list 1 16 la lc ll]) := by
        show _ = _
        rw [List.map_append, hvs.out, List.map_cons, List.map_singleton, hx1, hx2]
        rfl
      have HD3 := hiq hD3
      have hbr : Below W1.heap.size (V2.alloc (.cells #[.int .i64 k1, .int .i64 n1, .string t1, .slice a1 l1.length c1, .int .i64 k2, .int .i64 n2, .string t2, .slice a2 l2.length c2] 24)) (V2.alloc (.cells #[.int .i64 k1, .int .i64 n1, .string t1, .slice a1 l1.length c1, .int .i64 k2, .int .i64 n2, .string t2, .slice a2 l2.length c2] 24)) := Below.refl _ _
      have hle := hD3.size
      clear hal hr1 hr2 hx1 hx2 hvs hb1 hb2
      refine ⟨HF.out _ HD3.out, wpTree_act _ rfl ?_⟩
      go_wp2_with (at_builtin; refine wpList_appVals rfl (.tmp 38) (.tmp 45) rfl rfl rfl ho2 hv2 (fun e => by cases e) (by omega) hle hbr hfr2 ?_; intro a5 c5 w5 o5 b5 g5 h5)
      have hD5 := HD3.out.trans b5
      have hlo5 := o5.lt
      have hv5 := o5.vals (S' := fun b => W1.heap.size <= b) (by omega) (fun b hb => by
        rcases hb with hb | hb
        · exact (HSUB.out b hb).1
        · omega) (fun y hy => (hlo5 y.block (ownBlock_some hy)).1)
      have hak : a5 = none -> 11 + 2 = 0 /\ c5 = 0 := fun e => by
        rcases o5.2.1.2 with ⟨hv, h0⟩ | ⟨g9, cap9, cur9, hv, _⟩
        · cases hv
        · cases hv; cases e
      have FL := hiq (vals_fin (σ := true) hv5 hak HER.out (by have := hv5.1; omega) hD5 HB1.out HS1.out HBX.out)
      dsimp only [lstF] at FL
      clear hv2 ho2 hfr2 o5 b5 g5 h5 hv5 hak hlo5
      refine ⟨HF.out _ hD5, wpTree_act _ rfl ?_⟩
      go_wp2_with fail
      refine FL.out.mono ?_
      rintro e VL ⟨al, cl, m, WF, rfl, hcZ, z0, z1, z2, z3, zf, hWF, hzz, hP⟩
      have HWF := hiq hWF
      have HZZ := hiq hzz
      have HPP := hiq hP
      have HCZ := hiq hcZ
      clear hWF hzz hP FL hcZ hD5
      go_wp2_with fail
      refine ⟨HF.out _ HCZ.out, wpTree_fin ?_⟩
      go_wp2
      have hww : WF = put4 VL (w.heap.size + 1) (.int .i64 3) (.int .i64 0) (.string ⟨#[]⟩) (.slice al m cl) := HWF.out
      change bodyPost _ _ _ _ _ (put4 VL (w.heap.size + 1) (.int .i64 3) (.int .i64 0) (.string ⟨#[]⟩) (.slice al m cl))
      rw [<- hww]
      have hzz := HZZ.out
      simp only [CellsAt, Nat.zero_add, Nat.reduceAdd, and_true] at hzz
      refine bodyPost_ret ?_ rfl HPP.out
      simp [results, Tryz.results111, go_sem, hzz]
end Go.Proofs.YtlbcmeebcfalpaaGreatDoor
namespace Go.Proofs.YtlbcmeebcfalpaaGreatDoor
open Go.RowKit

theorem bool_ref (b : Bool) (w : World) : Calls Tryz.prog 214 #[.bool b] w (NewV (Dv.toV (.bool b)) w) := by
  have hb1 : Below w.heap.size w (w.alloc (.cells #[.int .i64 0, .int .i64 0, .string ⟨#[]⟩, .slice none 0 0] 24)) := (Below.refl _ _).alloc (Nat.le_refl _) _
  have hh1 := World.alloc_heap_new w (.cells #[.int .i64 0, .int .i64 0, .string ⟨#[]⟩, .slice none 0 0] 24)
  have hlt : w.heap.size < (w.alloc (.cells #[.int .i64 0, .int .i64 0, .string ⟨#[]⟩, .slice none 0 0] 24)).heap.size := by simp
  have FI : Hid (∀ n W, Calls Tryz.prog 120 #[.int .i64 n] W fun e w' => e = .returned (.agg #[.int .i64 1, .int .i64 n, .string ⟨#[]⟩, .slice none 0 0]) /\ Below W.heap.size W w') := fun n W => int_ref n W
  cases b
  all_goals
    go_enter Tryz.func214, Tryz.ntmps214
    go_wp2_with fail
    refine (FI.out _ _).mono ?_
    generalize w.alloc (.cells #[.int .i64 0, .int .i64 0, .string ⟨#[]⟩, .slice none 0 0] 24) = W1 at *
    rintro e W2 ⟨rfl, hb2⟩
    have hh2 := (hb2.block _ hlt).trans hh1
    have hbA := hb1.trans (hb2.mono (Nat.le_of_lt hlt))
    obtain ⟨z0, z1, z2, z3, zf⟩ := box_cells hh2
    go_wp2
  · have hb4 := put4_below hbA (Nat.le_refl _) (.int .i64 1) (.int .i64 0) (.string ⟨#[]⟩) (.slice none 0 0)
    obtain ⟨z0, z1, z2, z3, -⟩ := box_cells (put4_at hh2 (.int .i64 1) (.int .i64 0) (.string ⟨#[]⟩) (.slice none 0 0))
    change bodyPost _ _ _ _ _ (put4 W2 w.heap.size (.int .i64 1) (.int .i64 0) (.string ⟨#[]⟩) (.slice none 0 0))
    generalize put4 W2 w.heap.size (.int .i64 1) (.int .i64 0) (.string ⟨#[]⟩) (.slice none 0 0) = WF at *
    exact bodyPost_ret (v := .agg #[.int .i64 1, .int .i64 0, .string ⟨#[]⟩, .slice none 0 0]) (by simp [results, Tryz.results214, go_sem, z0, z1, z2, z3]) rfl ⟨mkInt 0, rfl, by rw [Vl.er, Vl.erL]; rfl, rd_int I64.zero, hb4⟩
  · have hb4 := put4_below hbA (Nat.le_refl _) (.int .i64 1) (.int .i64 1) (.string ⟨#[]⟩) (.slice none 0 0)
    obtain ⟨z0, z1, z2, z3, -⟩ := box_cells (put4_at hh2 (.int .i64 1) (.int .i64 1) (.string ⟨#[]⟩) (.slice none 0 0))
    change bodyPost _ _ _ _ _ (put4 W2 w.heap.size (.int .i64 1) (.int .i64 1) (.string ⟨#[]⟩) (.slice none 0 0))
    generalize put4 W2 w.heap.size (.int .i64 1) (.int .i64 1) (.string ⟨#[]⟩) (.slice none 0 0) = WF at *
    exact bodyPost_ret (v := .agg #[.int .i64 1, .int .i64 1, .string ⟨#[]⟩, .slice none 0 0]) (by simp [results, Tryz.results214, go_sem, z0, z1, z2, z3]) rfl ⟨mkInt 1, rfl, by rw [Vl.er, Vl.erL]; rfl, rd_int i64_1, hb4⟩
theorem bool_any (b : Bool) (w : World) : Calls Tryz.prog 138 #[.bool b] w (NewV (Dv.toV (.bool b)) w) := by
  have hb1 : Below w.heap.size w (w.alloc (.cells #[.int .i64 0, .int .i64 0, .string ⟨#[]⟩, .slice none 0 0] 24)) := (Below.refl _ _).alloc (Nat.le_refl _) _
  have hh1 := World.alloc_heap_new w (.cells #[.int .i64 0, .int .i64 0, .string ⟨#[]⟩, .slice none 0 0] 24)
  have hlt : w.heap.size < (w.alloc (.cells #[.int .i64 0, .int .i64 0, .string ⟨#[]⟩, .slice none 0 0] 24)).heap.size := by simp
  have FI : Hid (∀ n W, Calls Tryz.prog 108 #[.int .i64 n] W fun e w' => e = .returned (.agg #[.int .i64 1, .int .i64 n, .string ⟨#[]⟩, .slice none 0 0]) /\ Below W.heap.size W w') := fun n W => int_any n W
  cases b
  all_goals
    go_enter Tryz.func138, Tryz.ntmps138
    go_wp2_with fail
    refine (FI.out _ _).mono ?_
    generalize w.alloc (.cells #[.int .i64 0, .int .i64 0, .string ⟨#[]⟩, .slice none 0 0] 24) = W1 at *
    rintro e W2 ⟨rfl, hb2⟩
    have hh2 := (hb2.block _ hlt).trans hh1
    have hbA := hb1.trans (hb2.mono (Nat.le_of_lt hlt))
    obtain ⟨z0, z1, z2, z3, zf⟩ := box_cells hh2
    go_wp2
  · have hb4 := put4_below hbA (Nat.le_refl _) (.int .i64 1) (.int .i64 0) (.string ⟨#[]⟩) (.slice none 0 0)
    obtain ⟨z0, z1, z2, z3, -⟩ := box_cells (put4_at hh2 (.int .i64 1) (.int .i64 0) (.string ⟨#[]⟩) (.slice none 0 0))
    change bodyPost _ _ _ _ _ (put4 W2 w.heap.size (.int .i64 1) (.int .i64 0) (.string ⟨#[]⟩) (.slice none 0 0))
    generalize put4 W2 w.heap.size (.int .i64 1) (.int .i64 0) (.string ⟨#[]⟩) (.slice none 0 0) = WF at *
    exact bodyPost_ret (v := .agg #[.int .i64 1, .int .i64 0, .string ⟨#[]⟩, .slice none 0 0]) (by simp [results, Tryz.results138, go_sem, z0, z1, z2, z3]) rfl ⟨mkInt 0, rfl, by rw [Vl.er, Vl.erL]; rfl, rd_int I64.zero, hb4⟩
  · have hb4 := put4_below hbA (Nat.le_refl _) (.int .i64 1) (.int .i64 1) (.string ⟨#[]⟩) (.slice none 0 0)
    obtain ⟨z0, z1, z2, z3, -⟩ := box_cells (put4_at hh2 (.int .i64 1) (.int .i64 1) (.string ⟨#[]⟩) (.slice none 0 0))
    change bodyPost _ _ _ _ _ (put4 W2 w.heap.size (.int .i64 1) (.int .i64 1) (.string ⟨#[]⟩) (.slice none 0 0))
    generalize put4 W2 w.heap.size (.int .i64 1) (.int .i64 1) (.string ⟨#[]⟩) (.slice none 0 0) = WF at *
    exact bodyPost_ret (v := .agg #[.int .i64 1, .int .i64 1, .string ⟨#[]⟩, .slice none 0 0]) (by simp [results, Tryz.results138, go_sem, z0, z1, z2, z3]) rfl ⟨mkInt 1, rfl, by rw [Vl.er, Vl.erL]; rfl, rd_int i64_1, hb4⟩
theorem toks_any (a : Option Addr) (n c : Nat) (w : World) (x : V) (h : ∀ W, Below w.heap.size w W -> Calls Tryz.prog 131 #[.slice a n c, .func (.func 132) #[] #[]] W (NewV x W)) : Calls Tryz.prog 130 #[.slice a n c] w (NewV x w) := by
  have hb1 : Below w.heap.size w (w.alloc (.cells #[.int .i64 0, .int .i64 0, .string ⟨#[]⟩, .slice none 0 0] 24)) := (Below.refl _ _).alloc (Nat.le_refl _) _
  have hh1 := World.alloc_heap_new w (.cells #[.int .i64 0, .int .i64 0, .string ⟨#[]⟩, .slice none 0 0] 24)
  have hs1 : (w.alloc (.cells #[.int .i64 0, .int .i64 0, .string ⟨#[]⟩, .slice none 0 0] 24)).heap.size = w.heap.size + 1 := by simp
  have HM := hiq (h _ hb1)
  have HB := hiq hb1
  have HH := hiq hh1
  have HS := hiq hs1
  clear h hb1 hh1 hs1
  go_enter Tryz.func130, Tryz.ntmps130
  go_wp2_with fail
  refine HM.out.mono ?_
  generalize w.alloc (.cells #[.int .i64 0, .int .i64 0, .string ⟨#[]⟩, .slice none 0 0] 24) = W1 at *
  rintro e W ⟨⟨k, nn, t, aa, ca, la⟩, he, hx, hr, hb⟩
  change e = .returned (.agg #[.int .i64 k, .int .i64 nn, .string t, .slice aa la.length ca]) at he
  subst he
  have hz := (hb.block w.heap.size (by have := HS.out; omega)).trans HH.out
  obtain ⟨z0, z1, z2, z3, zf⟩ := box_cells hz
  have hp := put4_below (HB.out.trans (hb.mono HB.out.size)) (Nat.le_refl _) (.int .i64 k) (.int .i64 nn) (.string t) (.slice aa la.length ca)
  have hrp := (hr.keep (put4_keep (b := w.heap.size) (by show ¬ W1.heap.size <= w.heap.size; have := HS.out; omega) (.int .i64 k) (.int .i64 nn) (.string t) (.slice aa la.length ca))).mono (S' := fun b => w.heap.size <= b) fun b hb _ => Nat.le_trans HB.out.size hb
  have HF : Hid (NewV x w (.returned (.agg #[.int .i64 k, .int .i64 nn, .string t, .slice aa la.length ca])) (put4 W w.heap.size (.int .i64 k) (.int .i64 nn) (.string t) (.slice aa la.length ca))) := ⟨.mk k nn t aa ca la, rfl, hx, hrp, hp⟩
  have HZZ := hiq (put4_at hz (.int .i64 k) (.int .i64 nn) (.string t) (.slice aa la.length ca))
  clear hr hb hz hp hrp
  go_wp2
  obtain ⟨y0, y1, y2, y3, -⟩ := box_cells HZZ.out
  change bodyPost _ _ _ _ _ (put4 W w.heap.size (.int .i64 k) (.int .i64 nn) (.string t) (.slice aa la.length ca))
  generalize put4 W w.heap.size (.int .i64 k) (.int .i64 nn) (.string t) (.slice aa la.length ca) = WF at *
  exact bodyPost_ret (v := .agg #[.int .i64 k, .int .i64 nn, .string t, .slice aa la.length ca]) (by simp [results, Tryz.results130, go_sem, y0, y1, y2, y3]) rfl HF.out
/-- The kinds of fields. -/
inductive FK where
  | one (U : LT)
  | many (U : LT)
@[reducible] def FK.ty : FK -> Ty | .one U => U.ty | .many U => .list U.k U.s U.ty
@[reducible] def FK.call : FK -> Bool -> FuncId × List Value | .one U, σ => (U.wf σ, []) | .many U, true => (U.lp, [.func (.func (U.wf true)) #[] #[]]) | .many U, false => (U.lf, [])
@[reducible] def FK.ok : FK -> Bool | .one _ => true | .many U => U.isE
@[reducible] def LT.fk : LT -> List FK | op => [.one .int, .one .text, .one .int, .one .int, .one .text] | dec => [.one .int, .one .text, .one .int, .one .text] | rew => [.one .text, .one .text] | grp => [.one .text, .many .int] | pat => [.one .text, .many .int] | sec => [.one .text, .many .op, .many .bool, .many .dec, .one .text] | rul => [.one .text, .one .exp] | wit => [.one .text, .many .nod] | nod => [.one .int, .one .text, .one .int, .many .nod] | exp => [.one .int, .one .int, .one .text, .many .exp] | cst => [.one .int, .one .int, .one .int, .one .int] | sty => [.one .int, .one .int, .one .int, .one .int, .one .int, .one .int, .one .int, .one .int, .one .int, .one .int, .one .int, .many .bool, .many .text] | edi => [.one .text, .many .wit, .many .rew, .one .cst, .many .rul, .many .grp, .many .pat, .one .int, .many .sec, .one .sty] | pos => [.one .text, .one .int] | tok => [.one .text, .one .text, .one .pos, .one .int, .one .text] | inp => [.one .text, .many .text, .many .toks, .one .cst, .many .rul, .many .grp, .many .pat, .one .int, .many .op, .many .bool, .many .dec, .one .text, .one .sty] | _ => []
theorem LT.fk_ok (T : LT) (h : T.isW = true) : T.ts = T.fk.map FK.ty /\ (∀ σ, T.fc σ = T.fk.map (fun x => x.call σ)) /\ (∀ x ∈ T.fk, x.ok = true) := by
  cases T <;> first | (cases h; done) | exact ⟨rfl, fun σ => by cases σ <;> rfl, by decide⟩
/-- Every writer that fits d. -/
def WOk (d : Dv) : Prop := ∀ (T : LT) (σ : Bool), Has T.ty d -> Sm d -> ∀ (S : Nat -> Prop) (w : World), RdD S w d -> (∀ b, S b -> b < w.heap.size) -> Calls Tryz.prog (T.wf σ) #[d.val] w (NewV d.toV w)
theorem list_ok {U : LT} (hU : U.isE = true) (σ : Bool) {S : Nat -> Prop} {w : World} {a : Option Addr} {c : Nat} {l : List Dv} (hl : ∀ x ∈ l, Has U.ty x) (hm : Sm (.list U.k U.s a c l)) (hr : RdD S w (.list U.k U.s a c l)) (hS : ∀ b, S b -> b < w.heap.size) (hw : ∀ x ∈ l, WOk x) :
    (σ = false -> Calls Tryz.prog U.lf #[.slice a l.length c] w (NewV (Dv.list U.k U.s a c l).toV w)) /\ (σ = true -> Calls Tryz.prog U.lp #[.slice a l.length c, .func (.func (U.wf true)) #[] #[]] w (NewV (Dv.list U.k U.s a c l).toV w)) := by
  have hI := rdD_list.1 hr
  have hs := sm_list.1 hm
  have hv : (Dv.list U.k U.s a c l).toV = .mk 3 0 ⟨#[]⟩ (l.map Dv.toV) := by rw [Dv.toV, Dv.toVL_map]
  have hit : ∀ τ, ∀ d ∈ l, ∀ W, Below w.heap.size w W -> Calls Tryz.prog (U.wf τ) #[d.val] W (NewV d.toV W) := fun τ d hd W hW => by
    obtain ⟨j, hj⟩ := List.mem_iff_getElem?.1 hd
    exact hw d hd U τ (hl d hd) (hs.2 d hd) S W ((hI.2.2.2 j d hj).2.below hW) (fun b hb => Nat.lt_of_lt_of_le (hS b hb) hW.size)
  rw [hv]
  exact ⟨fun _ => lf_any U hU hI hs.1 hl (hit false), fun _ => lp_any U hU hI hs.1 hl (hit true)⟩
theorem allC_of (σ : Bool) {S : Nat -> Prop} {w W1 : World} (hb : Below w.heap.size w W1) (hS : ∀ b, S b -> b < w.heap.size) : ∀ (fk : List FK) (l : List Dv), HasL (fk.map FK.ty) l -> (∀ x ∈ fk, x.ok = true) -> (∀ d ∈ l, Sm d /\ RdD S w d /\ WOk d /\ ∀ k s a c m, d = .list k s a c m -> ∀ y ∈ m, WOk y) -> AllC W1 l (fk.map (fun x => x.call σ))
  | [], _, h, _, _ => by cases h; exact trivial
  | x :: fk, _, h, hok, hl => by
    cases h with
    | @cons _ _ d l h1 h2 =>
      have ih := allC_of σ hb hS fk l h2 (fun y hy => hok y (List.mem_cons_of_mem _ hy)) (fun e he => hl e (List.mem_cons_of_mem _ he))
      obtain ⟨hm, hr, hw, hi⟩ := hl d (List.mem_cons_self ..)
      have hk := hok x (List.mem_cons_self ..)
      have hSb : ∀ V, Below W1.heap.size W1 V -> ∀ b, S b -> b < V.heap.size := fun V hV b hb' => Nat.lt_of_lt_of_le (hS b hb') (Nat.le_trans hb.size hV.size)
      have hrb : ∀ V, Below W1.heap.size W1 V -> RdD S V d := fun V hV => (hr.below hb).below hV
      cases x with
      | one U => exact ⟨fun V hV => hw U σ h1 hm S V (hrb V hV) (hSb V hV), ih⟩
      | many U =>
        obtain ⟨a, c, m, rfl, hty⟩ := Has.list_inv h1
        cases σ with
        | true => exact ⟨fun V hV => (list_ok hk true hty hm (hrb V hV) (hSb V hV) (hi _ _ _ _ _ rfl)).2 rfl, ih⟩
        | false => exact ⟨fun V hV => (list_ok hk false hty hm (hrb V hV) (hSb V hV) (hi _ _ _ _ _ rfl)).1 rfl, ih⟩
theorem wr_st (T : LT) (hW : T.isW = true) (σ : Bool) {S : Nat -> Prop} {w : World} {l : List Dv} (hh : Has T.ty (.struc l)) (hr : RdD S w (.struc l)) (hS : ∀ b, S b -> b < w.heap.size) (hc : ∀ W1, Below w.heap.size w W1 -> AllC W1 l (T.fc σ)) : Calls Tryz.prog (T.wf σ) #[(Dv.struc l).val] w (NewV (Dv.struc l).toV w) := by
  cases σ
  · cases T <;> first | (cases hW; done) | exact wrA0_st _ rfl S w l hh hr hS hc | exact wrB0_st _ rfl S w l hh hr hS hc | exact wrC0_st _ rfl S w l hh hr hS hc
  · cases T <;> first | (cases hW; done) | exact wrA1_st _ rfl S w l hh hr hS hc | exact wrB1_st _ rfl S w l hh hr hS hc | exact wrC1_st _ rfl S w l hh hr hS hc | exact wrSty_st S w l hh hr hS hc
theorem has_struc_of (T : LT) (hW : T.isW = true) {d : Dv} (h : Has T.ty d) : ∃ l, d = .struc l /\ HasL T.ts l := by
  cases T
  case nod => exact h.node_inv.struc_inv
  case exp => exact h.expr_inv.struc_inv
  all_goals first | exact h.struc_inv | cases hW
theorem w_all (d : Dv) : WOk d /\ ∀ k s a c l, d = .list k s a c l -> ∀ x ∈ l, WOk x := by
  have main : ∀ d : Dv, (∀ l, d = .struc l -> ∀ x ∈ l, WOk x /\ ∀ k s a c m, x = .list k s a c m -> ∀ y ∈ m, WOk y) -> (∀ k s a c l, d = .list k s a c l -> ∀ x ∈ l, WOk x) -> WOk d := by
    intro d h1 h2 T σ hT hm S w hr hS
    by_cases hW : T.isW = true
    · obtain ⟨l, rfl, hl⟩ := has_struc_of T hW hT
      obtain ⟨f1, f2, f3⟩ := T.fk_ok hW
      refine wr_st T hW σ hT hr hS fun W1 hb => ?_
      rw [f2 σ]
      rw [f1] at hl
      exact allC_of σ hb hS T.fk l hl f3 fun d hd => ⟨sm_struc.1 hm d hd, rdD_struc.1 hr d hd, (h1 _ rfl d hd).1, (h1 _ rfl d hd).2⟩
    · cases T
      case int =>
        obtain ⟨n, rfl⟩ := hT.int_inv
        cases σ
        · exact (int_ref n w).mono fun e w' ⟨he, hb⟩ => ⟨mkInt n, he, by rw [Vl.er, Vl.erL]; rfl, rd_int hr, hb⟩
        · exact (int_any n w).mono fun e w' ⟨he, hb⟩ => ⟨mkInt n, he, by rw [Vl.er, Vl.erL]; rfl, rd_int hr, hb⟩
      case text =>
        obtain ⟨t, rfl⟩ := hT.text_inv
        cases σ
        · exact (text_ref t w).mono fun e w' ⟨he, hb⟩ => ⟨mkText t, he, by rw [Vl.er, Vl.erL]; rfl, rd_text hr, hb⟩
        · exact (text_any t w).mono fun e w' ⟨he, hb⟩ => ⟨mkText t, he, by rw [Vl.er, Vl.erL]; rfl, rd_text hr, hb⟩
      case bool =>
        obtain ⟨b, rfl⟩ := hT.bool_inv
        cases σ
        · exact bool_ref b w
        · exact bool_any b w
      case toks =>
        obtain ⟨a, c, l, rfl, hl⟩ := hT.list_inv
        cases σ
        · exact (list_ok (U := .tok) rfl false hl hm hr hS (h2 _ _ _ _ _ rfl)).1 rfl
        · exact toks_any a l.length c w _ fun W hW' => (list_ok (U := .tok) rfl true hl hm (hr.below hW') (fun b hb => Nat.lt_of_lt_of_le (hS b hb) hW'.size) (h2 _ _ _ _ _ rfl)).2 rfl
      all_goals exact absurd rfl hW
  induction d using Dv.ind with
  | hi n => exact ⟨main _ (fun l e => by cases e) (fun k s a c l e => by cases e), fun k s a c l e => by cases e⟩
  | hb b => exact ⟨main _ (fun l e => by cases e) (fun k s a c l e => by cases e), fun k s a c l e => by cases e⟩
  | ht t => exact ⟨main _ (fun l e => by cases e) (fun k s a c l e => by cases e), fun k s a c l e => by cases e⟩
  | hs L ih => exact ⟨main _ (fun l e => by cases e; exact ih) (fun k s a c l e => by cases e), fun k s a c l e => by cases e⟩
  | hl k s a c L ih => exact ⟨main _ (fun l e => by cases e) (fun k s a c l e => by cases e; exact fun x hx => (ih x hx).1), fun k s a c l e => by cases e; exact fun x hx => (ih x hx).1⟩
/-- Every writer, at the data that fits it. -/
theorem write_of (T : LT) (σ : Bool) {d : Dv} (hT : Has T.ty d) (hm : Sm d) {S : Nat -> Prop} {w : World} (hr : RdD S w d) (hS : ∀ b, S b -> b < w.heap.size) : Calls Tryz.prog (T.wf σ) #[d.val] w (NewV d.toV w) := (w_all d).1 T σ hT hm S w hr hS
end Go.Proofs.YtlbcmeebcfalpaaGreatDoor
namespace Go.Proofs.YtlbcmeebcfalpaaGreatDoor
open Go.RowKit

/-- The counter. -/
def Pts (w : World) (b : Nat) (left : Int) : Prop := w.heap[b]? = some (.cells #[.int .i64 left] 82 (0, 0))
abbrev One (b : Nat) : Nat -> Prop := fun x => x = b
theorem Pts.cells {w : World} {b : Nat} {left : Int} (h : Pts w b left) : w.cell? ⟨b, 0, none⟩ = some (.int .i64 left) /\ w.frozen? ⟨b, 0, none⟩ = false := ⟨cell_box h 0 rfl, frozen_box h 0⟩
theorem Exc.items {b : Nat} {S : Nat -> Prop} {w w' : World} {k s : Nat} {a : Option Addr} {n c : Nat} {l : List Dv} (h : Exc (One b) w w') (hi : Items S w k s a n c l) (hS : ∀ x, S x -> x ≠ b) : Items S w' k s a n c l := hi.keep (h.keepS fun x hx hn => hS x hx hn)
end Go.Proofs.YtlbcmeebcfalpaaGreatDoor
