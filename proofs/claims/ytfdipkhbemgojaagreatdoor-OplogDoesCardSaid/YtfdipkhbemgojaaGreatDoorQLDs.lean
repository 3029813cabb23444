/- The law OplogDoes (printed by gen_olaws.py). -/
import Derived.Test.YtfdipkhbemgojaaGreatDoorP38
import Derived.Test.YtfdipkhbemgojaaGreatDoorP41
set_option linter.unusedVariables false
set_option linter.unusedSimpArgs false
set_option maxRecDepth 100000
set_option maxHeartbeats 16000000
namespace Go.Proofs.YtfdipkhbemgojaaGreatDoor
open Go.RowKit

theorem does_law (S : Nat -> Prop) (v : LV) (l : Lg) (o : Op) (w : World) (h : RdL S w v l) (hE : Env w) (ho : o.ok) : Calls Tryz.prog 3 #[v.val, o.val] w fun e w' => e = .returned (.bool true) /\ Below w.heap.size w w' := by
  have HG : Hid (∀ W, Below w.heap.size w W -> Calls Tryz.prog 12 #[v.val] W (BPost false (SmG l) W)) := fun W hb => greatL_ref S v l W (h.below hb)
  have HAW : Hid (∀ W, Below w.heap.size w W -> Calls Tryz.prog 13 #[] W fun e w' => e = .returned (.bool true) /\ Below W.heap.size W w') := fun W hb => awake_any W (hE.below hb)
  have HSM : Hid (∀ u v x W, RC W u x -> RC W v x -> Calls Tryz.prog 23 #[u.val, v.val] W fun e w' => e = .returned (.bool true) /\ Below W.heap.size W w') := fun u v x W h k => sameC_yes h k
  have HSL : Hid (∀ u v x W, RL W u x -> RL W v x -> Calls Tryz.prog 22 #[u.val, v.val] W fun e w' => e = .returned (.bool true) /\ Below W.heap.size W w') := fun u v x W h k => sameL_yes h k
  have HNP : Hid (SmG l -> ∀ W, Below w.heap.size w W -> Calls Tryz.prog 14 #[v.c.val] W (LogP (newL l.start).1 (newL l.start).2 W)) := fun a W hb => (new_any _ v.c _ W (h.below hb).1 a.sml.1 (hE.below hb)).mono (fun e w' h => h.p)
  have HDP : Hid (SmG l -> o.text.size <= 80 -> ∀ W, Below w.heap.size w W -> Calls Tryz.prog 16 #[v.val, o.val] W (LogP (l.did o).1 (l.did o).2 W)) := fun a b W hb => (did_any _ v l o W (h.below hb) a.sml (hE.below hb) ho (by omega)).mono (fun e w' h => h.p)
  have HTP : Hid (SmG l -> ∀ W, Below w.heap.size w W -> Calls Tryz.prog 18 #[v.val] W (ColP l.state.1 l.state.2 W)) := fun a W hb => (state_any _ v l W (h.below hb) a.sml (hE.below hb)).mono (fun e w' h => h.p)
  have HCP : Hid (SmG l -> ∀ W, Below w.heap.size w W -> Calls Tryz.prog 20 #[v.val] W fun e w' => e = .returned (.int .i64 l.err) /\ Below W.heap.size W w') := fun a W hb => lck_any _ v l W (h.below hb) a.sml (hE.below hb)
  have HNR : Hid (SmG l -> ∀ W, Below w.heap.size w W -> Calls Tryz.prog 15 #[v.c.val] W (LogP (newL l.start).1 (newL l.start).2 W)) := fun a W hb => (new_ref _ v.c _ W (h.below hb).1 a.sml.1 (hE.below hb)).mono (fun e w' h => h.p)
  have HDR : Hid (SmG l -> o.text.size <= 80 -> ∀ W, Below w.heap.size w W -> Calls Tryz.prog 17 #[v.val, o.val] W (LogP (l.did o).1 (l.did o).2 W)) := fun a b W hb => (did_ref _ v l o W (h.below hb) a.sml (hE.below hb) ho (by omega)).mono (fun e w' h => h.p)
  have HTR : Hid (SmG l -> ∀ W, Below w.heap.size w W -> Calls Tryz.prog 19 #[v.val] W (ColP l.state.1 l.state.2 W)) := fun a W hb => (state_ref _ v l W (h.below hb) a.sml (hE.below hb)).mono (fun e w' h => h.p)
  have HCR : Hid (SmG l -> ∀ W, Below w.heap.size w W -> Calls Tryz.prog 21 #[v.val] W fun e w' => e = .returned (.int .i64 l.err) /\ Below W.heap.size W w') := fun a W hb => lck_ref _ v l W (h.below hb) a.sml (hE.below hb)
  generalize newL l.start = NR at *
  generalize l.did o = DR at *
  generalize l.state = SR at *
  generalize SmG l = PG at *
  generalize l.err = LE at *
  obtain ⟨NL, NE⟩ := NR
  obtain ⟨DL, DE⟩ := DR
  obtain ⟨SC, SE⟩ := SR
  dsimp only at HNP HNR HDP HDR HTP HTR
  clear h hE ho
  obtain ⟨⟨sec, sa, sn, sc, ta, tn, tc, ca, cn, cc⟩, oa, on, oc, ua, un, uc⟩ := v
  obtain ⟨ok, og, ot, oo, ox⟩ := o
  obtain ⟨W0, rfl, hb, hs0, gX, gO⟩ := box2r w #[.string sec, .slice sa sn sc, .slice ta tn tc, .slice ca cn cc, .slice oa on oc, .slice ua un uc] #[.int .i64 ok, .string og, .int .i64 ot, .int .i64 oo, .string ox] 30 32
  obtain ⟨l0, l1, l2, l3, l4, l5⟩ := box_cells6 gX
  obtain ⟨o0, o1, o2, o3, o4⟩ := box_cells5 gO
  clear gX gO hs0
  dsimp only at HDP HDR
  change Calls _ _ #[.agg #[.string sec, .slice sa sn sc, .slice ta tn tc, .slice ca cn cc, .slice oa on oc, .slice ua un uc], .agg #[.int .i64 ok, .string og, .int .i64 ot, .int .i64 oo, .string ox]] _ _
  change Hid (_ -> ∀ W, _ -> Calls _ _ #[.agg #[.string sec, .slice sa sn sc, .slice ta tn tc, .slice ca cn cc, .slice oa on oc, .slice ua un uc]] _ _) at HCP
  change Hid (_ -> ∀ W, _ -> Calls _ _ #[.agg #[.string sec, .slice sa sn sc, .slice ta tn tc, .slice ca cn cc, .slice oa on oc, .slice ua un uc]] _ _) at HCR
  go_enter Tryz.func3, Tryz.ntmps3
  have HQ := hiq (HG.out _ hb)
  change Hid (Calls _ _ #[.agg #[.string sec, .slice sa sn sc, .slice ta tn tc, .slice ca cn cc, .slice oa on oc, .slice ua un uc]] _ _) at HQ
  go_wp2_with fail
  generalize (w.alloc (.cells #[.string sec, .slice sa sn sc, .slice ta tn tc, .slice ca cn cc, .slice oa on oc, .slice ua un uc] 30)).alloc (.cells #[.int .i64 ok, .string og, .int .i64 ot, .int .i64 oo, .string ox] 32) = W1 at *
  refine HQ.out.mono ?_
  rintro e W2 ⟨g, rfl, hbk, hpg⟩
  replace l0 := clq hbk l0; replace l1 := clq hbk l1; replace l2 := clq hbk l2; replace l3 := clq hbk l3; replace l4 := clq hbk l4; replace l5 := clq hbk l5; replace o0 := clq hbk o0; replace o1 := clq hbk o1; replace o2 := clq hbk o2; replace o3 := clq hbk o3; replace o4 := clq hbk o4
  replace hb := hb.trans (hbk.mono hb.size)
  clear hbk HQ
  cases g with
  | true =>
    have HQ := hiq (HAW.out _ hb)
    go_wp2_with fail
    refine HQ.out.mono ?_
    rintro e W3 ⟨rfl, hbk⟩
    replace l0 := clq hbk l0; replace l1 := clq hbk l1; replace l2 := clq hbk l2; replace l3 := clq hbk l3; replace l4 := clq hbk l4; replace l5 := clq hbk l5; replace o0 := clq hbk o0; replace o1 := clq hbk o1; replace o2 := clq hbk o2; replace o3 := clq hbk o3; replace o4 := clq hbk o4
    replace hb := hb.trans (hbk.mono hb.size)
    clear hbk HQ
    go_wp2
    go_ret
    exact ⟨rfl, hb⟩
  | false =>
    have HP := hiq (hpg rfl)
    clear hpg
    by_cases x1 : 80 < ox.size
    · have HQ := hiq (HAW.out _ hb)
      go_wp2_with fail
      refine HQ.out.mono ?_
      rintro e W3 ⟨rfl, hbk⟩
      replace l0 := clq hbk l0; replace l1 := clq hbk l1; replace l2 := clq hbk l2; replace l3 := clq hbk l3; replace l4 := clq hbk l4; replace l5 := clq hbk l5; replace o0 := clq hbk o0; replace o1 := clq hbk o1; replace o2 := clq hbk o2; replace o3 := clq hbk o3; replace o4 := clq hbk o4
      replace hb := hb.trans (hbk.mono hb.size)
      clear hbk HQ
      go_wp2
      go_ret
      exact ⟨rfl, hb⟩
    · by_cases x2 : 20 < og.size
      · have HQ := hiq (HAW.out _ hb)
        go_wp2_with fail
        refine HQ.out.mono ?_
        rintro e W3 ⟨rfl, hbk⟩
        replace l0 := clq hbk l0; replace l1 := clq hbk l1; replace l2 := clq hbk l2; replace l3 := clq hbk l3; replace l4 := clq hbk l4; replace l5 := clq hbk l5; replace o0 := clq hbk o0; replace o1 := clq hbk o1; replace o2 := clq hbk o2; replace o3 := clq hbk o3; replace o4 := clq hbk o4
        replace hb := hb.trans (hbk.mono hb.size)
        clear hbk HQ
        go_wp2
        go_ret
        exact ⟨rfl, hb⟩
      · have hx80 : ox.size <= 80 := by omega
        have HX80 := hiq hx80
        clear hx80
        have HQ := hiq (HNP.out HP.out _ hb)
        change Hid (Calls _ _ #[.agg #[.string sec, .slice sa sn sc, .slice ta tn tc, .slice ca cn cc]] _ _) at HQ
        go_wp2_with fail
        refine HQ.out.mono ?_
        rintro e W3 ⟨v, he, hR, hbk⟩
        obtain ⟨⟨secA, saA, snA, scA, taA, tnA, tcA, caA, cnA, ccA⟩, oaA, onA, ocA, uaA, unA, ucA⟩ := v
        change e = .returned (.tuple #[.agg #[.string secA, .slice saA snA scA, .slice taA tnA tcA, .slice caA cnA ccA, .slice oaA onA ocA, .slice uaA unA ucA], .int .i64 NE]) at he
        subst he
        have hal : Below W3.heap.size W3 (W3.alloc (.cells #[.string secA, .slice saA snA scA, .slice taA tnA tcA, .slice caA cnA ccA, .slice oaA onA ocA, .slice uaA unA ucA] 30)) := (Below.refl _ _).alloc (Nat.le_refl _) _
        have hst := hbk.trans (hal.mono hbk.size)
        obtain ⟨a0, a1, a2, a3, a4, a5⟩ := box_cells6 (World.alloc_heap_new W3 (.cells #[.string secA, .slice saA snA scA, .slice taA tnA tcA, .slice caA cnA ccA, .slice oaA onA ocA, .slice uaA unA ucA] 30))
        replace l0 := clq hst l0; replace l1 := clq hst l1; replace l2 := clq hst l2; replace l3 := clq hst l3; replace l4 := clq hst l4; replace l5 := clq hst l5; replace o0 := clq hst o0; replace o1 := clq hst o1; replace o2 := clq hst o2; replace o3 := clq hst o3; replace o4 := clq hst o4
        have HRA := hiq (hR.below hal)
        replace hb := hb.trans (hst.mono hb.size)
        clear hR hbk hal hst HQ
        have HQ := hiq (HNR.out HP.out _ hb)
        change Hid (Calls _ _ #[.agg #[.string sec, .slice sa sn sc, .slice ta tn tc, .slice ca cn cc]] _ _) at HQ
        go_wp2_with fail
        generalize W3.alloc (.cells #[.string secA, .slice saA snA scA, .slice taA tnA tcA, .slice caA cnA ccA, .slice oaA onA ocA, .slice uaA unA ucA] 30) = W4 at *
        refine HQ.out.mono ?_
        rintro e W5 ⟨v, he, hR, hbk⟩
        obtain ⟨⟨secB, saB, snB, scB, taB, tnB, tcB, caB, cnB, ccB⟩, oaB, onB, ocB, uaB, unB, ucB⟩ := v
        change e = .returned (.tuple #[.agg #[.string secB, .slice saB snB scB, .slice taB tnB tcB, .slice caB cnB ccB, .slice oaB onB ocB, .slice uaB unB ucB], .int .i64 NE]) at he
        subst he
        have hal : Below W5.heap.size W5 (W5.alloc (.cells #[.string secB, .slice saB snB scB, .slice taB tnB tcB, .slice caB cnB ccB, .slice oaB onB ocB, .slice uaB unB ucB] 30)) := (Below.refl _ _).alloc (Nat.le_refl _) _
        have hst := hbk.trans (hal.mono hbk.size)
        obtain ⟨b0, b1, b2, b3, b4, b5⟩ := box_cells6 (World.alloc_heap_new W5 (.cells #[.string secB, .slice saB snB scB, .slice taB tnB tcB, .slice caB cnB ccB, .slice oaB onB ocB, .slice uaB unB ucB] 30))
        replace l0 := clq hst l0; replace l1 := clq hst l1; replace l2 := clq hst l2; replace l3 := clq hst l3; replace l4 := clq hst l4; replace l5 := clq hst l5; replace o0 := clq hst o0; replace o1 := clq hst o1; replace o2 := clq hst o2; replace o3 := clq hst o3; replace o4 := clq hst o4; replace a0 := clq hst a0; replace a1 := clq hst a1; replace a2 := clq hst a2; replace a3 := clq hst a3; replace a4 := clq hst a4
        replace a5 := clq hst a5
        replace HRA := hiq (HRA.out.below hst)
        have HRB := hiq (hR.below hal)
        replace hb := hb.trans (hst.mono hb.size)
        clear hR hbk hal hst HQ
        have HQ := hiq (HDP.out HP.out HX80.out _ hb)
        change Hid (Calls _ _ #[.agg #[.string sec, .slice sa sn sc, .slice ta tn tc, .slice ca cn cc, .slice oa on oc, .slice ua un uc], .agg #[.int .i64 ok, .string og, .int .i64 ot, .int .i64 oo, .string ox]] _ _) at HQ
        go_wp2_with fail
        generalize W5.alloc (.cells #[.string secB, .slice saB snB scB, .slice taB tnB tcB, .slice caB cnB ccB, .slice oaB onB ocB, .slice uaB unB ucB] 30) = W6 at *
        refine HQ.out.mono ?_
        rintro e W7 ⟨v, he, hR, hbk⟩
        obtain ⟨⟨secC, saC, snC, scC, taC, tnC, tcC, caC, cnC, ccC⟩, oaC, onC, ocC, uaC, unC, ucC⟩ := v
        change e = .returned (.tuple #[.agg #[.string secC, .slice saC snC scC, .slice taC tnC tcC, .slice caC cnC ccC, .slice oaC onC ocC, .slice uaC unC ucC], .int .i64 DE]) at he
        subst he
        have hal : Below W7.heap.size W7 (W7.alloc (.cells #[.string secC, .slice saC snC scC, .slice taC tnC tcC, .slice caC cnC ccC, .slice oaC onC ocC, .slice uaC unC ucC] 30)) := (Below.refl _ _).alloc (Nat.le_refl _) _
        have hst := hbk.trans (hal.mono hbk.size)
        obtain ⟨c0, c1, c2, c3, c4, c5⟩ := box_cells6 (World.alloc_heap_new W7 (.cells #[.string secC, .slice saC snC scC, .slice taC tnC tcC, .slice caC cnC ccC, .slice oaC onC ocC, .slice uaC unC ucC] 30))
        replace l0 := clq hst l0; replace l1 := clq hst l1; replace l2 := clq hst l2; replace l3 := clq hst l3; replace l4 := clq hst l4; replace l5 := clq hst l5; replace o0 := clq hst o0; replace o1 := clq hst o1; replace o2 := clq hst o2; replace o3 := clq hst o3; replace o4 := clq hst o4; replace a0 := clq hst a0; replace a1 := clq hst a1; replace a2 := clq hst a2; replace a3 := clq hst a3; replace a4 := clq hst a4
        replace a5 := clq hst a5; replace b0 := clq hst b0; replace b1 := clq hst b1; replace b2 := clq hst b2; replace b3 := clq hst b3; replace b4 := clq hst b4; replace b5 := clq hst b5
        replace HRA := hiq (HRA.out.below hst)
        replace HRB := hiq (HRB.out.below hst)
        have HRC := hiq (hR.below hal)
        replace hb := hb.trans (hst.mono hb.size)
        clear hR hbk hal hst HQ
        have HQ := hiq (HDR.out HP.out HX80.out _ hb)
        change Hid (Calls _ _ #[.agg #[.string sec, .slice sa sn sc, .slice ta tn tc, .slice ca cn cc, .slice oa on oc, .slice ua un uc], .agg #[.int .i64 ok, .string og, .int .i64 ot, .int .i64 oo, .string ox]] _ _) at HQ
        go_wp2_with fail
        generalize W7.alloc (.cells #[.string secC, .slice saC snC scC, .slice taC tnC tcC, .slice caC cnC ccC, .slice oaC onC ocC, .slice uaC unC ucC] 30) = W8 at *
        refine HQ.out.mono ?_
        rintro e W9 ⟨v, he, hR, hbk⟩
        obtain ⟨⟨secD, saD, snD, scD, taD, tnD, tcD, caD, cnD, ccD⟩, oaD, onD, ocD, uaD, unD, ucD⟩ := v
        change e = .returned (.tuple #[.agg #[.string secD, .slice saD snD scD, .slice taD tnD tcD, .slice caD cnD ccD, .slice oaD onD ocD, .slice uaD unD ucD], .int .i64 DE]) at he
        subst he
        have hal : Below W9.heap.size W9 (W9.alloc (.cells #[.string secD, .slice saD snD scD, .slice taD tnD tcD, .slice caD cnD ccD, .slice oaD onD ocD, .slice uaD unD ucD] 30)) := (Below.refl _ _).alloc (Nat.le_refl _) _
        have hst := hbk.trans (hal.mono hbk.size)
        obtain ⟨d0, d1, d2, d3, d4, d5⟩ := box_cells6 (World.alloc_heap_new W9 (.cells #[.string secD, .slice saD snD scD, .slice taD tnD tcD, .slice caD cnD ccD, .slice oaD onD ocD, .slice uaD unD ucD] 30))
        replace l0 := clq hst l0; replace l1 := clq hst l1; replace l2 := clq hst l2; replace l3 := clq hst l3; replace l4 := clq hst l4; replace l5 := clq hst l5; replace o0 := clq hst o0; replace o1 := clq hst o1; replace o2 := clq hst o2; replace o3 := clq hst o3; replace o4 := clq hst o4; replace a0 := clq hst a0; replace a1 := clq hst a1; replace a2 := clq hst a2; replace a3 := clq hst a3; replace a4 := clq hst a4
        replace a5 := clq hst a5; replace b0 := clq hst b0; replace b1 := clq hst b1; replace b2 := clq hst b2; replace b3 := clq hst b3; replace b4 := clq hst b4; replace b5 := clq hst b5; replace c0 := clq hst c0; replace c1 := clq hst c1; replace c2 := clq hst c2; replace c3 := clq hst c3; replace c4 := clq hst c4; replace c5 := clq hst c5
        replace HRA := hiq (HRA.out.below hst)
        replace HRB := hiq (HRB.out.below hst)
        replace HRC := hiq (HRC.out.below hst)
        have HRD := hiq (hR.below hal)
        replace hb := hb.trans (hst.mono hb.size)
        clear hR hbk hal hst HQ
        have HQ := hiq (HTP.out HP.out _ hb)
        change Hid (Calls _ _ #[.agg #[.string sec, .slice sa sn sc, .slice ta tn tc, .slice ca cn cc, .slice oa on oc, .slice ua un uc]] _ _) at HQ
        go_wp2_with fail
        generalize W9.alloc (.cells #[.string secD, .slice saD snD scD, .slice taD tnD tcD, .slice caD cnD ccD, .slice oaD onD ocD, .slice uaD unD ucD] 30) = W10 at *
        refine HQ.out.mono ?_
        rintro e W11 ⟨v, he, hR, hbk⟩
        obtain ⟨secX, saX, snX, scX, taX, tnX, tcX, caX, cnX, ccX⟩ := v
        change e = .returned (.tuple #[.agg #[.string secX, .slice saX snX scX, .slice taX tnX tcX, .slice caX cnX ccX], .int .i64 SE]) at he
        subst he
        have hal : Below W11.heap.size W11 (W11.alloc (.cells #[.string secX, .slice saX snX scX, .slice taX tnX tcX, .slice caX cnX ccX] 26)) := (Below.refl _ _).alloc (Nat.le_refl _) _
        have hst := hbk.trans (hal.mono hbk.size)
        obtain ⟨x0, x1, x2, x3, -⟩ := box_cells4 (World.alloc_heap_new W11 (.cells #[.string secX, .slice saX snX scX, .slice taX tnX tcX, .slice caX cnX ccX] 26))
        replace l0 := clq hst l0; replace l1 := clq hst l1; replace l2 := clq hst l2; replace l3 := clq hst l3; replace l4 := clq hst l4; replace l5 := clq hst l5; replace o0 := clq hst o0; replace o1 := clq hst o1; replace o2 := clq hst o2; replace o3 := clq hst o3; replace o4 := clq hst o4; replace a0 := clq hst a0; replace a1 := clq hst a1; replace a2 := clq hst a2; replace a3 := clq hst a3; replace a4 := clq hst a4
        replace a5 := clq hst a5; replace b0 := clq hst b0; replace b1 := clq hst b1; replace b2 := clq hst b2; replace b3 := clq hst b3; replace b4 := clq hst b4; replace b5 := clq hst b5; replace c0 := clq hst c0; replace c1 := clq hst c1; replace c2 := clq hst c2; replace c3 := clq hst c3; replace c4 := clq hst c4; replace c5 := clq hst c5; replace d0 := clq hst d0; replace d1 := clq hst d1; replace d2 := clq hst d2
        replace d3 := clq hst d3; replace d4 := clq hst d4; replace d5 := clq hst d5
        replace HRA := hiq (HRA.out.below hst)
        replace HRB := hiq (HRB.out.below hst)
        replace HRC := hiq (HRC.out.below hst)
        replace HRD := hiq (HRD.out.below hst)
        have HRX := hiq (hR.below hal)
        replace hb := hb.trans (hst.mono hb.size)
        clear hR hbk hal hst HQ
        have HQ := hiq (HTR.out HP.out _ hb)
        change Hid (Calls _ _ #[.agg #[.string sec, .slice sa sn sc, .slice ta tn tc, .slice ca cn cc, .slice oa on oc, .slice ua un uc]] _ _) at HQ
        go_wp2_with fail
        generalize W11.alloc (.cells #[.string secX, .slice saX snX scX, .slice taX tnX tcX, .slice caX cnX ccX] 26) = W12 at *
        refine HQ.out.mono ?_
        rintro e W13 ⟨v, he, hR, hbk⟩
        obtain ⟨secY, saY, snY, scY, taY, tnY, tcY, caY, cnY, ccY⟩ := v
        change e = .returned (.tuple #[.agg #[.string secY, .slice saY snY scY, .slice taY tnY tcY, .slice caY cnY ccY], .int .i64 SE]) at he
        subst he
        have hal : Below W13.heap.size W13 (W13.alloc (.cells #[.string secY, .slice saY snY scY, .slice taY tnY tcY, .slice caY cnY ccY] 26)) := (Below.refl _ _).alloc (Nat.le_refl _) _
        have hst := hbk.trans (hal.mono hbk.size)
        obtain ⟨y0, y1, y2, y3, -⟩ := box_cells4 (World.alloc_heap_new W13 (.cells #[.string secY, .slice saY snY scY, .slice taY tnY tcY, .slice caY cnY ccY] 26))
        replace l0 := clq hst l0; replace l1 := clq hst l1; replace l2 := clq hst l2; replace l3 := clq hst l3; replace l4 := clq hst l4; replace l5 := clq hst l5; replace o0 := clq hst o0; replace o1 := clq hst o1; replace o2 := clq hst o2; replace o3 := clq hst o3; replace o4 := clq hst o4; replace a0 := clq hst a0; replace a1 := clq hst a1; replace a2 := clq hst a2; replace a3 := clq hst a3; replace a4 := clq hst a4
        replace a5 := clq hst a5; replace b0 := clq hst b0; replace b1 := clq hst b1; replace b2 := clq hst b2; replace b3 := clq hst b3; replace b4 := clq hst b4; replace b5 := clq hst b5; replace c0 := clq hst c0; replace c1 := clq hst c1; replace c2 := clq hst c2; replace c3 := clq hst c3; replace c4 := clq hst c4; replace c5 := clq hst c5; replace d0 := clq hst d0; replace d1 := clq hst d1; replace d2 := clq hst d2
        replace d3 := clq hst d3; replace d4 := clq hst d4; replace d5 := clq hst d5; replace x0 := clq hst x0; replace x1 := clq hst x1; replace x2 := clq hst x2; replace x3 := clq hst x3
        replace HRA := hiq (HRA.out.below hst)
        replace HRB := hiq (HRB.out.below hst)
        replace HRC := hiq (HRC.out.below hst)
        replace HRD := hiq (HRD.out.below hst)
        replace HRX := hiq (HRX.out.below hst)
        have HRY := hiq (hR.below hal)
        replace hb := hb.trans (hst.mono hb.size)
        clear hR hbk hal hst HQ
        go_wp2_with fail
        generalize W13.alloc (.cells #[.string secY, .slice saY snY scY, .slice taY tnY tcY, .slice caY cnY ccY] 26) = W14 at *
        have HCPP := hiq (HCP.out HP.out)
        have HCRR := hiq (HCR.out HP.out)
        obtain ⟨X, Wf, hX, hS1, hS2⟩ := family (fun W => Below W14.heap.size W14 W) W14 (Below.refl _ _)
        have HS1 := hiq hS1
        have HS2 := hiq hS2
        have q_l0 := fun x => clq (hS1 x) l0
        have q_l1 := fun x => clq (hS1 x) l1
        have q_l2 := fun x => clq (hS1 x) l2
        have q_l3 := fun x => clq (hS1 x) l3
        have q_l4 := fun x => clq (hS1 x) l4
        have q_l5 := fun x => clq (hS1 x) l5
        have q_o0 := fun x => clq (hS1 x) o0
        have q_o1 := fun x => clq (hS1 x) o1
        have q_o2 := fun x => clq (hS1 x) o2
        have q_o3 := fun x => clq (hS1 x) o3
        have q_o4 := fun x => clq (hS1 x) o4
        have q_a0 := fun x => clq (hS1 x) a0
        have q_a1 := fun x => clq (hS1 x) a1
        have q_a2 := fun x => clq (hS1 x) a2
        have q_a3 := fun x => clq (hS1 x) a3
        have q_a4 := fun x => clq (hS1 x) a4
        have q_a5 := fun x => clq (hS1 x) a5
        have q_b0 := fun x => clq (hS1 x) b0
        have q_b1 := fun x => clq (hS1 x) b1
        have q_b2 := fun x => clq (hS1 x) b2
        have q_b3 := fun x => clq (hS1 x) b3
        have q_b4 := fun x => clq (hS1 x) b4
        have q_b5 := fun x => clq (hS1 x) b5
        have q_c0 := fun x => clq (hS1 x) c0
        have q_c1 := fun x => clq (hS1 x) c1
        have q_c2 := fun x => clq (hS1 x) c2
        have q_c3 := fun x => clq (hS1 x) c3
        have q_c4 := fun x => clq (hS1 x) c4
        have q_c5 := fun x => clq (hS1 x) c5
        have q_d0 := fun x => clq (hS1 x) d0
        have q_d1 := fun x => clq (hS1 x) d1
        have q_d2 := fun x => clq (hS1 x) d2
        have q_d3 := fun x => clq (hS1 x) d3
        have q_d4 := fun x => clq (hS1 x) d4
        have q_d5 := fun x => clq (hS1 x) d5
        have q_x0 := fun x => clq (hS1 x) x0
        have q_x1 := fun x => clq (hS1 x) x1
        have q_x2 := fun x => clq (hS1 x) x2
        have q_x3 := fun x => clq (hS1 x) x3
        have q_y0 := fun x => clq (hS1 x) y0
        have q_y1 := fun x => clq (hS1 x) y1
        have q_y2 := fun x => clq (hS1 x) y2
        have q_y3 := fun x => clq (hS1 x) y3
        have HY : Hid (∀ x, Below w.heap.size w (Wf x)) := fun x => hb.trans ((HS1.out x).mono hb.size)
        clear hS1 hS2
        clear l0 l1 l2 l3 l4 l5 o0 o1 o2 o3 o4 a0 a1 a2 a3 a4 a5 b0 b1 b2 b3 b4 b5 c0 c1 c2 c3 c4 c5 d0 d1 d2 d3 d4 d5 x0 x1 x2 x3 y0 y1 y2 y3
        have HSa : Hid (∀ x, Calls Tryz.prog 22 #[.agg #[.string secA, .slice saA snA scA, .slice taA tnA tcA, .slice caA cnA ccA, .slice oaA onA ocA, .slice uaA unA ucA], .agg #[.string secB, .slice saB snB scB, .slice taB tnB tcB, .slice caB cnB ccB, .slice oaB onB ocB, .slice uaB unB ucB]] (Wf x) fun e w' => e = .returned (.bool true) /\ Below (Wf x).heap.size (Wf x) w') := fun x => HSL.out ⟨⟨secA, saA, snA, scA, taA, tnA, tcA, caA, cnA, ccA⟩, oaA, onA, ocA, uaA, unA, ucA⟩ ⟨⟨secB, saB, snB, scB, taB, tnB, tcB, caB, cnB, ccB⟩, oaB, onB, ocB, uaB, unB, ucB⟩ _ _ (HRA.out.below (HS1.out x)) (HRB.out.below (HS1.out x))
        have HSb : Hid (∀ x, Calls Tryz.prog 22 #[.agg #[.string secC, .slice saC snC scC, .slice taC tnC tcC, .slice caC cnC ccC, .slice oaC onC ocC, .slice uaC unC ucC], .agg #[.string secD, .slice saD snD scD, .slice taD tnD tcD, .slice caD cnD ccD, .slice oaD onD ocD, .slice uaD unD ucD]] (Wf x) fun e w' => e = .returned (.bool true) /\ Below (Wf x).heap.size (Wf x) w') := fun x => HSL.out ⟨⟨secC, saC, snC, scC, taC, tnC, tcC, caC, cnC, ccC⟩, oaC, onC, ocC, uaC, unC, ucC⟩ ⟨⟨secD, saD, snD, scD, taD, tnD, tcD, caD, cnD, ccD⟩, oaD, onD, ocD, uaD, unD, ucD⟩ _ _ (HRC.out.below (HS1.out x)) (HRD.out.below (HS1.out x))
        have HSc : Hid (∀ x, Calls Tryz.prog 23 #[.agg #[.string secX, .slice saX snX scX, .slice taX tnX tcX, .slice caX cnX ccX], .agg #[.string secY, .slice saY snY scY, .slice taY tnY tcY, .slice caY cnY ccY]] (Wf x) fun e w' => e = .returned (.bool true) /\ Below (Wf x).heap.size (Wf x) w') := fun x => HSM.out ⟨secX, saX, snX, scX, taX, tnX, tcX, caX, cnX, ccX⟩ ⟨secY, saY, snY, scY, taY, tnY, tcY, caY, cnY, ccY⟩ _ _ (HRX.out.below (HS1.out x)) (HRY.out.below (HS1.out x))
        clear HRA HRB HRC HRD HRX HRY HNP HNR HDP HDR HTP HTR HCP HCR HG
        refine wp_region_quiet (C := fun W => ∃ x, W = Wf x) (by kernel_rfl) (by kernel_rfl) (HS2.out _ (Below.refl _ _).drew) ?_
        simp only []
        repeat (go_big_quiet_step (fail))
        go_big_quiet_step ((go_at_call 20; refine (HCPP.out _ (HY.out _)).mono ?_; rintro e4 w4 ⟨rfl, hb4⟩; exact ⟨rfl, HS2.out _ ((HS1.out _).trans (hb4.mono (HS1.out _).size))⟩))
        repeat (go_big_quiet_step (fail))
        go_big_quiet_step ((go_at_call 21; refine (HCRR.out _ (HY.out _)).mono ?_; rintro e4 w4 ⟨rfl, hb4⟩; exact ⟨rfl, HS2.out _ ((HS1.out _).trans (hb4.mono (HS1.out _).size))⟩))
        repeat (go_big_quiet_step (fail))
        go_big_quiet_step ((go_at_call 22; refine (HSa.out _).mono ?_; rintro e4 w4 ⟨rfl, hb4⟩; exact ⟨rfl, HS2.out _ ((HS1.out _).trans (hb4.mono (HS1.out _).size))⟩))
        repeat (go_big_quiet_step (fail))
        go_big_quiet_step ((go_at_call 22; refine (HSb.out _).mono ?_; rintro e4 w4 ⟨rfl, hb4⟩; exact ⟨rfl, HS2.out _ ((HS1.out _).trans (hb4.mono (HS1.out _).size))⟩))
        repeat (go_big_quiet_step (fail))
        go_big_quiet_step ((go_at_call 23; refine (HSc.out _).mono ?_; rintro e4 w4 ⟨rfl, hb4⟩; exact ⟨rfl, HS2.out _ ((HS1.out _).trans (hb4.mono (HS1.out _).size))⟩))
        repeat (go_big_quiet_step (fail))
        go_big_quiet_step ((go_at_call 13; refine (HAW.out _ (HY.out _)).mono ?_; rintro e4 w4 ⟨rfl, hb4⟩; exact ⟨rfl, HS2.out _ ((HS1.out _).trans (hb4.mono (HS1.out _).size))⟩))
        repeat (go_big_quiet_step (fail))
        refine wpQuiet_nil ?_
        rintro w5 ⟨x5, rfl⟩
        have hb5 := HY.out x5
        generalize Wf x5 = w5 at *
        go_wp2
        go_ret
        exact ⟨rfl, hb5⟩
end Go.Proofs.YtfdipkhbemgojaaGreatDoor
