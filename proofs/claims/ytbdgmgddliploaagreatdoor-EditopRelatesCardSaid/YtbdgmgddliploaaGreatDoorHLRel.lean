/- The law EditopRelates (printed by gen_el4.py). -/
import Derived.Test.YtbdgmgddliploaaGreatDoorG37
import Derived.Test.YtbdgmgddliploaaGreatDoorG38
import Derived.Test.YtbdgmgddliploaaGreatDoorG39
import Derived.Test.YtbdgmgddliploaaGreatDoorG35
set_option linter.unusedVariables false
set_option linter.unusedSimpArgs false
set_option maxRecDepth 100000
set_option maxHeartbeats 16000000
namespace Go.Proofs.YtbdgmgddliploaaGreatDoor
open Go.RowKit

theorem relates_law (S : Nat -> Prop) (v : CV) (x : Col) (o p : Op) (w : World) (h : RdC S w v x) (hE : Env w) (ho : o.ok) (hp : p.ok) : Calls Tryz.prog 10 #[v.val, o.val, p.val] w fun e w' => e = .returned (.bool true) /\ Below w.heap.size w w' := by
  have HAW : Hid (∀ W, Below w.heap.size w W -> Calls Tryz.prog 13 #[] W fun e w' => e = .returned (.bool true) /\ Below W.heap.size W w') := fun W hb => awake_any W (hE.below hb)
  have HG : Hid (∀ W, Below w.heap.size w W -> Calls Tryz.prog 11 #[v.val] W fun e w' => e = .returned (.bool (great x)) /\ Below W.heap.size W w') := fun W hb => great_ref S v x W (h.below hb)
  have HGO : Hid (∀ W, Below w.heap.size w W -> Calls Tryz.prog 12 #[o.val] W fun e w' => e = .returned (.bool (greatOp o)) /\ Below W.heap.size W w') := fun W hb => greatOp_ref o W
  have HGP : Hid (∀ W, Below w.heap.size w W -> Calls Tryz.prog 12 #[p.val] W fun e w' => e = .returned (.bool (greatOp p)) /\ Below W.heap.size W w') := fun W hb => greatOp_ref p W
  have gsz : ∀ o : Op, greatOp o = false -> o.sig.size <= 1000000 /\ o.text.size <= 1000000 := fun o q => by
    unfold greatOp at q
    simp only [Bool.or_eq_false_iff, decide_eq_false_iff_not] at q
    omega
  have hops : great x = false -> ∀ W w' a n c, Below w.heap.size w W -> OwnQ 28 5 Op.cells w' W.heap.size a n c (if x.err = 0 then allOps x else []) -> Opsq (fun _ => True) w' a n c (if x.err = 0 then allOps x else []) := fun g W w' a n c hb hO => by
    refine hO.sq (R := rOpn) (s := 56) op_len ?_ (fun _ _ => trivial) (fun o ho => ⟨rfl, ?_⟩)
    · rw [hO.len]
      split
      · have := great_ops g (by assumption); omega
      · simp
    · split at ho
      · exact (allops_okI h (by assumption) o ho).1
      · cases ho
  have hln : great x = false -> x.err = 0 -> (allOps x).length <= 4096 := fun a b => great_ops a b
  have HAL : Hid (great x = false -> ∀ W, Below w.heap.size w W -> Calls Tryz.prog 22 #[v.val] W fun e w' => ∃ a n c, e = .returned (.tuple #[.slice a n c, .int .i64 (if x.err = 0 then 0 else 1)]) /\ Opsq (fun _ => True) w' a n c (if x.err = 0 then allOps x else []) /\ Below W.heap.size W w') := fun g W hb => by
    refine (show Calls _ _ _ _ (AllPost x W) from by
      by_cases hv : x.err = 0
      · exact all_any S v x W (h.below hb) (great_sml g) (hE.below hb) (hln g hv)
      · exact all_err S v x W (h.below hb) (great_sml g) (hE.below hb) hv).mono ?_
    rintro e w' ⟨a, n, c, h1, h2, h3⟩
    exact ⟨a, n, c, h1, hops g W w' a n c hb h2, h3⟩
  have HRAL : Hid (great x = false -> ∀ W, Below w.heap.size w W -> Calls Tryz.prog 32 #[v.val] W fun e w' => ∃ a n c, e = .returned (.tuple #[.slice a n c, .int .i64 (if x.err = 0 then 0 else 1)]) /\ Opsq (fun _ => True) w' a n c (if x.err = 0 then allOps x else []) /\ Below W.heap.size W w') := fun g W hb => by
    refine (rAll_ref S v x W (h.below hb) (great_sml g) (hln g)).mono ?_
    rintro e w' ⟨a, n, c, h1, h2, h3⟩
    exact ⟨a, n, c, h1, hops g W w' a n c hb h2, h3⟩
  have HIV : Hid (great x = false -> greatOp o = false -> ∀ W, Below w.heap.size w W -> Calls Tryz.prog 29 #[v.val, o.val] W fun e w' => e = .returned (.tuple #[(inverse x o).1.val, .int .i64 (inverse x o).2]) /\ Below W.heap.size W w') := fun a b W hb => inverse_any S v x o W (h.below hb) (great_sml a) (hE.below hb) ho (gsz o b).2
  have HRIV : Hid (great x = false -> greatOp o = false -> ∀ W, Below w.heap.size w W -> Calls Tryz.prog 33 #[v.val, o.val] W fun e w' => e = .returned (.tuple #[(inverse x o).1.val, .int .i64 (inverse x o).2]) /\ Below W.heap.size W w') := fun a b W hb => rinverse_ref S v x o W (h.below hb) (great_sml a) ho (gsz o b).2 (fun z => great_opsY a z)
  have HCM : Hid (great x = false -> greatOp o = false -> greatOp p = false -> ∀ W, Below w.heap.size w W -> Calls Tryz.prog 31 #[v.val, o.val, p.val] W fun e w' => e = .returned (.tuple #[.bool (commute x o p).1, .int .i64 (commute x o p).2]) /\ Below W.heap.size W w') := fun a b c W hb => commute_any S v x o p W (h.below hb) (great_sml a) (hE.below hb) ho hp (gsz o b).2 (gsz p c).2
  have HRCM : Hid (great x = false -> greatOp o = false -> greatOp p = false -> ∀ W, Below w.heap.size w W -> Calls Tryz.prog 35 #[v.val, o.val, p.val] W fun e w' => e = .returned (.tuple #[.bool (commute x o p).1, .int .i64 (commute x o p).2]) /\ Below W.heap.size W w') := fun a b c W hb => rcommute_ref S v x o p W (h.below hb) (great_sml a) ho hp (gsz o b).2 (gsz p c).2
  have HSO : Hid (∀ a n c b m d W (l : List Op), Opsq (fun _ => True) W a n c l -> Opsq (fun _ => True) W b m d l -> Calls Tryz.prog 34 #[.slice a n c, .slice b m d] W fun e w' => e = .returned (.bool true) /\ Below W.heap.size W w') := fun a n c b m d W l p q => by
    have := sameOps_ref _ _ a b n c m d l l W p q
    rw [decide_eq_true rfl] at this
    exact this.mono (fun e w' k => ⟨k.1, k.2.below _⟩)
  generalize great x = G at *
  generalize greatOp o = GO at *
  generalize greatOp p = GP at *
  generalize (if x.err = 0 then allOps x else []) = L at *
  generalize (if x.err = 0 then (0 : Int) else 1) = EL at *
  generalize commute x o p = CM at *
  generalize inverse x o = IV at *
  clear h hE ho hp gsz hops hln
  obtain ⟨cm1, cm2⟩ := CM
  obtain ⟨⟨ik, ig, it, io, ix⟩, iv2⟩ := IV
  have hneq : ∀ W, (binOp .neq 28 (.agg #[.int .i64 ik, .string ig, .int .i64 it, .int .i64 io, .string ix]) (.agg #[.int .i64 ik, .string ig, .int .i64 it, .int .i64 io, .string ix])).run Tryz.prog W = .ok (.bool false) W := fun W => (op_neq W ⟨ik, ig, it, io, ix⟩ ⟨ik, ig, it, io, ix⟩).trans (by simp)
  obtain ⟨sec, sa, sn, sc, ta, tn, tc, ca, cn, cc⟩ := v
  obtain ⟨ok, og, ot, oo, ox⟩ := o
  obtain ⟨pk, pg, pt, po, px⟩ := p
  dsimp only at HIV HRIV HCM HRCM
  change Calls _ _ #[.agg #[.string sec, .slice sa sn sc, .slice ta tn tc, .slice ca cn cc], .agg #[.int .i64 ok, .string og, .int .i64 ot, .int .i64 oo, .string ox], .agg #[.int .i64 pk, .string pg, .int .i64 pt, .int .i64 po, .string px]] _ _
  obtain ⟨hb, hsz, hC, hO, hP⟩ := box3 w #[.string sec, .slice sa sn sc, .slice ta tn tc, .slice ca cn cc] #[.int .i64 ok, .string og, .int .i64 ot, .int .i64 oo, .string ox] #[.int .i64 pk, .string pg, .int .i64 pt, .int .i64 po, .string px] 26 28 28
  have c0 := hC 0 _ rfl
  have c1 := hC 1 _ rfl
  have c2 := hC 2 _ rfl
  have c3 := hC 3 _ rfl
  have o0 := hO 0 _ rfl
  have o1 := hO 1 _ rfl
  have o2 := hO 2 _ rfl
  have o3 := hO 3 _ rfl
  have o4 := hO 4 _ rfl
  have p0 := hP 0 _ rfl
  have p1 := hP 1 _ rfl
  have p2 := hP 2 _ rfl
  have p3 := hP 3 _ rfl
  have p4 := hP 4 _ rfl
  clear hC hO hP hsz
  go_enter Tryz.func10, Tryz.ntmps10
  have HQ := hiq (HG.out _ hb)
  change Hid (Calls _ _ #[.agg #[.string sec, .slice sa sn sc, .slice ta tn tc, .slice ca cn cc]] _ _) at HQ
  go_wp2_with fail
  generalize ((w.alloc (.cells #[.string sec, .slice sa sn sc, .slice ta tn tc, .slice ca cn cc] 26)).alloc (.cells #[.int .i64 ok, .string og, .int .i64 ot, .int .i64 oo, .string ox] 28)).alloc (.cells #[.int .i64 pk, .string pg, .int .i64 pt, .int .i64 po, .string px] 28) = W1 at *
  refine HQ.out.mono ?_
  rintro e W2 ⟨rfl, hbk⟩
  replace c0 := clq hbk c0; replace c1 := clq hbk c1; replace c2 := clq hbk c2; replace c3 := clq hbk c3; replace o0 := clq hbk o0; replace o1 := clq hbk o1; replace o2 := clq hbk o2; replace o3 := clq hbk o3; replace o4 := clq hbk o4; replace p0 := clq hbk p0; replace p1 := clq hbk p1; replace p2 := clq hbk p2; replace p3 := clq hbk p3; replace p4 := clq hbk p4
  replace hb := hb.trans (hbk.mono hb.size)
  clear hbk HQ
  cases G with
  | true =>
    have HQ := hiq (HAW.out _ hb)
    go_wp2_with fail
    refine HQ.out.mono ?_
    rintro e W3 ⟨rfl, hbk⟩
    replace c0 := clq hbk c0; replace c1 := clq hbk c1; replace c2 := clq hbk c2; replace c3 := clq hbk c3; replace o0 := clq hbk o0; replace o1 := clq hbk o1; replace o2 := clq hbk o2; replace o3 := clq hbk o3; replace o4 := clq hbk o4; replace p0 := clq hbk p0; replace p1 := clq hbk p1; replace p2 := clq hbk p2; replace p3 := clq hbk p3; replace p4 := clq hbk p4
    replace hb := hb.trans (hbk.mono hb.size)
    clear hbk HQ
    go_wp2
    go_ret
    exact ⟨rfl, hb⟩
  | false =>
    have HQ := hiq (HGO.out _ hb)
    change Hid (Calls _ _ #[.agg #[.int .i64 ok, .string og, .int .i64 ot, .int .i64 oo, .string ox]] _ _) at HQ
    go_wp2_with fail
    refine HQ.out.mono ?_
    rintro e W3 ⟨rfl, hbk⟩
    replace c0 := clq hbk c0; replace c1 := clq hbk c1; replace c2 := clq hbk c2; replace c3 := clq hbk c3; replace o0 := clq hbk o0; replace o1 := clq hbk o1; replace o2 := clq hbk o2; replace o3 := clq hbk o3; replace o4 := clq hbk o4; replace p0 := clq hbk p0; replace p1 := clq hbk p1; replace p2 := clq hbk p2; replace p3 := clq hbk p3; replace p4 := clq hbk p4
    replace hb := hb.trans (hbk.mono hb.size)
    clear hbk HQ
    cases GO with
    | true =>
      have HQ := hiq (HAW.out _ hb)
      go_wp2_with fail
      refine HQ.out.mono ?_
      rintro e W4 ⟨rfl, hbk⟩
      replace c0 := clq hbk c0; replace c1 := clq hbk c1; replace c2 := clq hbk c2; replace c3 := clq hbk c3; replace o0 := clq hbk o0; replace o1 := clq hbk o1; replace o2 := clq hbk o2; replace o3 := clq hbk o3; replace o4 := clq hbk o4; replace p0 := clq hbk p0; replace p1 := clq hbk p1; replace p2 := clq hbk p2; replace p3 := clq hbk p3; replace p4 := clq hbk p4
      replace hb := hb.trans (hbk.mono hb.size)
      clear hbk HQ
      go_wp2
      go_ret
      exact ⟨rfl, hb⟩
    | false =>
      have HQ := hiq (HGP.out _ hb)
      change Hid (Calls _ _ #[.agg #[.int .i64 pk, .string pg, .int .i64 pt, .int .i64 po, .string px]] _ _) at HQ
      go_wp2_with fail
      refine HQ.out.mono ?_
      rintro e W4 ⟨rfl, hbk⟩
      replace c0 := clq hbk c0; replace c1 := clq hbk c1; replace c2 := clq hbk c2; replace c3 := clq hbk c3; replace o0 := clq hbk o0; replace o1 := clq hbk o1; replace o2 := clq hbk o2; replace o3 := clq hbk o3; replace o4 := clq hbk o4; replace p0 := clq hbk p0; replace p1 := clq hbk p1; replace p2 := clq hbk p2; replace p3 := clq hbk p3; replace p4 := clq hbk p4
      replace hb := hb.trans (hbk.mono hb.size)
      clear hbk HQ
      cases GP with
      | true =>
        have HQ := hiq (HAW.out _ hb)
        go_wp2_with fail
        refine HQ.out.mono ?_
        rintro e W5 ⟨rfl, hbk⟩
        replace c0 := clq hbk c0; replace c1 := clq hbk c1; replace c2 := clq hbk c2; replace c3 := clq hbk c3; replace o0 := clq hbk o0; replace o1 := clq hbk o1; replace o2 := clq hbk o2; replace o3 := clq hbk o3; replace o4 := clq hbk o4; replace p0 := clq hbk p0; replace p1 := clq hbk p1; replace p2 := clq hbk p2; replace p3 := clq hbk p3; replace p4 := clq hbk p4
        replace hb := hb.trans (hbk.mono hb.size)
        clear hbk HQ
        go_wp2
        go_ret
        exact ⟨rfl, hb⟩
      | false =>
        have HQ := hiq (HAL.out (by trivial) _ hb)
        change Hid (Calls _ _ #[.agg #[.string sec, .slice sa sn sc, .slice ta tn tc, .slice ca cn cc]] _ _) at HQ
        go_wp2_with fail
        refine HQ.out.mono ?_
        rintro e W5 ⟨aA, nA, cA, rfl, hN, hbk⟩
        replace c0 := clq hbk c0; replace c1 := clq hbk c1; replace c2 := clq hbk c2; replace c3 := clq hbk c3; replace o0 := clq hbk o0; replace o1 := clq hbk o1; replace o2 := clq hbk o2; replace o3 := clq hbk o3; replace o4 := clq hbk o4; replace p0 := clq hbk p0; replace p1 := clq hbk p1; replace p2 := clq hbk p2; replace p3 := clq hbk p3; replace p4 := clq hbk p4
        have HRA := hiq hN
        replace hb := hb.trans (hbk.mono hb.size)
        clear hN hbk HQ
        have HQ := hiq (HRAL.out (by trivial) _ hb)
        change Hid (Calls _ _ #[.agg #[.string sec, .slice sa sn sc, .slice ta tn tc, .slice ca cn cc]] _ _) at HQ
        go_wp2_with fail
        refine HQ.out.mono ?_
        rintro e W6 ⟨aB, nB, cB, rfl, hN, hbk⟩
        replace c0 := clq hbk c0; replace c1 := clq hbk c1; replace c2 := clq hbk c2; replace c3 := clq hbk c3; replace o0 := clq hbk o0; replace o1 := clq hbk o1; replace o2 := clq hbk o2; replace o3 := clq hbk o3; replace o4 := clq hbk o4; replace p0 := clq hbk p0; replace p1 := clq hbk p1; replace p2 := clq hbk p2; replace p3 := clq hbk p3; replace p4 := clq hbk p4
        replace HRA := hiq (HRA.out.below rOpn_ok hbk)
        have HRB := hiq hN
        replace hb := hb.trans (hbk.mono hb.size)
        clear hN hbk HQ
        have HIV2 := hiq (HIV.out (by trivial) (by trivial))
        have HRIV2 := hiq (HRIV.out (by trivial) (by trivial))
        change Hid (∀ W, _ -> Calls _ _ #[.agg #[.string sec, .slice sa sn sc, .slice ta tn tc, .slice ca cn cc], .agg #[.int .i64 ok, .string og, .int .i64 ot, .int .i64 oo, .string ox]] _ fun e w' => e = .returned (.tuple #[.agg #[.int .i64 ik, .string ig, .int .i64 it, .int .i64 io, .string ix], _]) /\ _) at HIV2
        change Hid (∀ W, _ -> Calls _ _ #[.agg #[.string sec, .slice sa sn sc, .slice ta tn tc, .slice ca cn cc], .agg #[.int .i64 ok, .string og, .int .i64 ot, .int .i64 oo, .string ox]] _ fun e w' => e = .returned (.tuple #[.agg #[.int .i64 ik, .string ig, .int .i64 it, .int .i64 io, .string ix], _]) /\ _) at HRIV2
        clear HIV HRIV
        have HQ := hiq (HIV2.out _ hb)
        go_wp2_with fail
        refine HQ.out.mono ?_
        rintro e W7 ⟨rfl, hbk⟩
        have hal : Below W7.heap.size W7 (W7.alloc (.cells #[.int .i64 ik, .string ig, .int .i64 it, .int .i64 io, .string ix] 28)) := (Below.refl _ _).alloc (Nat.le_refl _) _
        have hst := hbk.trans (hal.mono hbk.size)
        obtain ⟨i0, i1, i2, i3, i4⟩ := box_cells5 (World.alloc_heap_new W7 (.cells #[.int .i64 ik, .string ig, .int .i64 it, .int .i64 io, .string ix] 28))
        replace c0 := clq hst c0; replace c1 := clq hst c1; replace c2 := clq hst c2; replace c3 := clq hst c3; replace o0 := clq hst o0; replace o1 := clq hst o1; replace o2 := clq hst o2; replace o3 := clq hst o3; replace o4 := clq hst o4; replace p0 := clq hst p0; replace p1 := clq hst p1; replace p2 := clq hst p2; replace p3 := clq hst p3; replace p4 := clq hst p4
        replace HRA := hiq (HRA.out.below rOpn_ok hst)
        replace HRB := hiq (HRB.out.below rOpn_ok hst)
        replace hb := hb.trans (hst.mono hb.size)
        clear hbk hal hst HQ
        have HQ := hiq (HRIV2.out _ hb)
        go_wp2_with fail
        generalize W7.alloc (.cells #[.int .i64 ik, .string ig, .int .i64 it, .int .i64 io, .string ix] 28) = W8 at *
        refine HQ.out.mono ?_
        rintro e W9 ⟨rfl, hbk⟩
        have hal : Below W9.heap.size W9 (W9.alloc (.cells #[.int .i64 ik, .string ig, .int .i64 it, .int .i64 io, .string ix] 28)) := (Below.refl _ _).alloc (Nat.le_refl _) _
        have hst := hbk.trans (hal.mono hbk.size)
        obtain ⟨j0, j1, j2, j3, j4⟩ := box_cells5 (World.alloc_heap_new W9 (.cells #[.int .i64 ik, .string ig, .int .i64 it, .int .i64 io, .string ix] 28))
        replace c0 := clq hst c0; replace c1 := clq hst c1; replace c2 := clq hst c2; replace c3 := clq hst c3; replace o0 := clq hst o0; replace o1 := clq hst o1; replace o2 := clq hst o2; replace o3 := clq hst o3; replace o4 := clq hst o4; replace p0 := clq hst p0; replace p1 := clq hst p1; replace p2 := clq hst p2; replace p3 := clq hst p3; replace p4 := clq hst p4; replace i0 := clq hst i0; replace i1 := clq hst i1
        replace i2 := clq hst i2; replace i3 := clq hst i3; replace i4 := clq hst i4
        replace HRA := hiq (HRA.out.below rOpn_ok hst)
        replace HRB := hiq (HRB.out.below rOpn_ok hst)
        replace hb := hb.trans (hst.mono hb.size)
        clear hbk hal hst HQ
        have HQ := hiq (HSO.out _ _ _ _ _ _ _ _ HRA.out HRB.out)
        go_wp2_with fail
        generalize W9.alloc (.cells #[.int .i64 ik, .string ig, .int .i64 it, .int .i64 io, .string ix] 28) = W10 at *
        refine HQ.out.mono ?_
        rintro e W11 ⟨rfl, hbk⟩
        replace c0 := clq hbk c0; replace c1 := clq hbk c1; replace c2 := clq hbk c2; replace c3 := clq hbk c3; replace o0 := clq hbk o0; replace o1 := clq hbk o1; replace o2 := clq hbk o2; replace o3 := clq hbk o3; replace o4 := clq hbk o4; replace p0 := clq hbk p0; replace p1 := clq hbk p1; replace p2 := clq hbk p2; replace p3 := clq hbk p3; replace p4 := clq hbk p4; replace i0 := clq hbk i0; replace i1 := clq hbk i1
        replace i2 := clq hbk i2; replace i3 := clq hbk i3; replace i4 := clq hbk i4; replace j0 := clq hbk j0; replace j1 := clq hbk j1; replace j2 := clq hbk j2; replace j3 := clq hbk j3; replace j4 := clq hbk j4
        replace HRA := hiq (HRA.out.below rOpn_ok hbk)
        replace HRB := hiq (HRB.out.below rOpn_ok hbk)
        replace hb := hb.trans (hbk.mono hb.size)
        clear hbk HQ
        have HQ := hiq (HCM.out (by trivial) (by trivial) (by trivial) _ hb)
        change Hid (Calls _ _ #[.agg #[.string sec, .slice sa sn sc, .slice ta tn tc, .slice ca cn cc], .agg #[.int .i64 ok, .string og, .int .i64 ot, .int .i64 oo, .string ox], .agg #[.int .i64 pk, .string pg, .int .i64 pt, .int .i64 po, .string px]] _ _) at HQ
        go_wp2_with fail
        refine HQ.out.mono ?_
        rintro e W12 ⟨rfl, hbk⟩
        replace c0 := clq hbk c0; replace c1 := clq hbk c1; replace c2 := clq hbk c2; replace c3 := clq hbk c3; replace o0 := clq hbk o0; replace o1 := clq hbk o1; replace o2 := clq hbk o2; replace o3 := clq hbk o3; replace o4 := clq hbk o4; replace p0 := clq hbk p0; replace p1 := clq hbk p1; replace p2 := clq hbk p2; replace p3 := clq hbk p3; replace p4 := clq hbk p4; replace i0 := clq hbk i0; replace i1 := clq hbk i1
        replace i2 := clq hbk i2; replace i3 := clq hbk i3; replace i4 := clq hbk i4; replace j0 := clq hbk j0; replace j1 := clq hbk j1; replace j2 := clq hbk j2; replace j3 := clq hbk j3; replace j4 := clq hbk j4
        replace HRA := hiq (HRA.out.below rOpn_ok hbk)
        replace HRB := hiq (HRB.out.below rOpn_ok hbk)
        replace hb := hb.trans (hbk.mono hb.size)
        clear hbk HQ
        have HQ := hiq (HRCM.out (by trivial) (by trivial) (by trivial) _ hb)
        change Hid (Calls _ _ #[.agg #[.string sec, .slice sa sn sc, .slice ta tn tc, .slice ca cn cc], .agg #[.int .i64 ok, .string og, .int .i64 ot, .int .i64 oo, .string ox], .agg #[.int .i64 pk, .string pg, .int .i64 pt, .int .i64 po, .string px]] _ _) at HQ
        go_wp2_with fail
        refine HQ.out.mono ?_
        rintro e W13 ⟨rfl, hbk⟩
        replace c0 := clq hbk c0; replace c1 := clq hbk c1; replace c2 := clq hbk c2; replace c3 := clq hbk c3; replace o0 := clq hbk o0; replace o1 := clq hbk o1; replace o2 := clq hbk o2; replace o3 := clq hbk o3; replace o4 := clq hbk o4; replace p0 := clq hbk p0; replace p1 := clq hbk p1; replace p2 := clq hbk p2; replace p3 := clq hbk p3; replace p4 := clq hbk p4; replace i0 := clq hbk i0; replace i1 := clq hbk i1
        replace i2 := clq hbk i2; replace i3 := clq hbk i3; replace i4 := clq hbk i4; replace j0 := clq hbk j0; replace j1 := clq hbk j1; replace j2 := clq hbk j2; replace j3 := clq hbk j3; replace j4 := clq hbk j4
        replace HRA := hiq (HRA.out.below rOpn_ok hbk)
        replace HRB := hiq (HRB.out.below rOpn_ok hbk)
        replace hb := hb.trans (hbk.mono hb.size)
        clear hbk HQ
        have HQ := hiq (HAW.out _ hb)
        go_wp2_with fail
        refine HQ.out.mono ?_
        rintro e W14 ⟨rfl, hbk⟩
        replace c0 := clq hbk c0; replace c1 := clq hbk c1; replace c2 := clq hbk c2; replace c3 := clq hbk c3; replace o0 := clq hbk o0; replace o1 := clq hbk o1; replace o2 := clq hbk o2; replace o3 := clq hbk o3; replace o4 := clq hbk o4; replace p0 := clq hbk p0; replace p1 := clq hbk p1; replace p2 := clq hbk p2; replace p3 := clq hbk p3; replace p4 := clq hbk p4; replace i0 := clq hbk i0; replace i1 := clq hbk i1
        replace i2 := clq hbk i2; replace i3 := clq hbk i3; replace i4 := clq hbk i4; replace j0 := clq hbk j0; replace j1 := clq hbk j1; replace j2 := clq hbk j2; replace j3 := clq hbk j3; replace j4 := clq hbk j4
        replace HRA := hiq (HRA.out.below rOpn_ok hbk)
        replace HRB := hiq (HRB.out.below rOpn_ok hbk)
        replace hb := hb.trans (hbk.mono hb.size)
        clear hbk HQ
        go_wp2
        go_ret
        exact ⟨rfl, hb⟩
end Go.Proofs.YtbdgmgddliploaaGreatDoor
