/- The law OplogUndoes (printed by gen_olaws.py). -/
import Derived.Test.YtfdipkhbemgojaaGreatDoorR38
import Derived.Test.YtfdipkhbemgojaaGreatDoorR40
import Derived.Test.YtfdipkhbemgojaaGreatDoorR41
import Derived.Test.YtfdipkhbemgojaaGreatDoorR36
set_option linter.unusedVariables false
set_option linter.unusedSimpArgs false
set_option maxRecDepth 100000
set_option maxHeartbeats 16000000
namespace Go.Proofs.YtfdipkhbemgojaaGreatDoor
open Go.RowKit

theorem undoes_law (S : Nat -> Prop) (v : LV) (l : Lg) (i : Int) (w : World) (h : RdL S w v l) (hE : Env w) (hi : I64 i) : Calls Tryz.prog 11 #[v.val, .int .i64 i] w fun e w' => e = .returned (.bool true) /\ Below w.heap.size w w' := by
  have HG : Hid (∀ W, Below w.heap.size w W -> Calls Tryz.prog 12 #[v.val] W (BPost false (SmG l) W)) := fun W hb => greatL_ref S v l W (h.below hb)
  have HAW : Hid (∀ W, Below w.heap.size w W -> Calls Tryz.prog 13 #[] W fun e w' => e = .returned (.bool true) /\ Below W.heap.size W w') := fun W hb => awake_any W (hE.below hb)
  have HSM : Hid (∀ u v x W, RC W u x -> RC W v x -> Calls Tryz.prog 23 #[u.val, v.val] W fun e w' => e = .returned (.bool true) /\ Below W.heap.size W w') := fun u v x W h k => sameC_yes h k
  have HSL : Hid (∀ u v x W, RL W u x -> RL W v x -> Calls Tryz.prog 22 #[u.val, v.val] W fun e w' => e = .returned (.bool true) /\ Below W.heap.size W w') := fun u v x W h k => sameL_yes h k
  have HUP : Hid (SmG l -> ∀ W, Below w.heap.size w W -> Calls Tryz.prog 27 #[v.val, .int .i64 i] W (LogP (l.turn i true).1 (l.turn i true).2 W)) := fun a W hb => (undo_any _ v l i W (h.below hb) a.sml (hE.below hb)).mono (fun e w' h => h.p)
  have HVP : Hid (SmG l -> ∀ W, Below w.heap.size w W -> Calls Tryz.prog 28 #[v.val, .int .i64 i] W (LogP (l.turn i false).1 (l.turn i false).2 W)) := fun a W hb => (redo_any _ v l i W (h.below hb) a.sml (hE.below hb)).mono (fun e w' h => h.p)
  have HEP : Hid (SmG l -> ∀ W, Below w.heap.size w W -> Calls Tryz.prog 41 #[v.c.val, .slice v.oa v.on v.oc, .slice v.ua v.un v.uc] W (RepPost S (replayed l.start l.ops l.und) W)) := fun a W hb => replayE_any S v.c _ _ _ _ _ _ _ _ _ W (h.below hb).1 (h.below hb).2.1 (h.below hb).2.2 a.sml.1 a.sml.2 (hE.below hb)
  have HDP : Hid (SmG l -> ∀ W, Below w.heap.size w W -> Calls Tryz.prog 31 #[v.val, .int .i64 i] W (DepPost (l.deps i) W)) := fun a W hb => deps_any _ v l i W (h.below hb) a.sml (hE.below hb)
  have HQP : Hid (SmG l -> ∀ W, Below w.heap.size w W -> Calls Tryz.prog 29 #[v.val] W (LogP l.squeeze.1 l.squeeze.2 W)) := fun a W hb => (squeeze_any _ v l W (h.below hb) a.sml (hE.below hb)).mono (fun e w' h => h.p)
  have HUR : Hid (SmG l -> ∀ W, Below w.heap.size w W -> Calls Tryz.prog 47 #[v.val, .int .i64 i] W (LogP (l.turn i true).1 (l.turn i true).2 W)) := fun a W hb => (undo_ref _ v l i W (h.below hb) a.sml (hE.below hb)).mono (fun e w' h => h.p)
  have HVR : Hid (SmG l -> ∀ W, Below w.heap.size w W -> Calls Tryz.prog 48 #[v.val, .int .i64 i] W (LogP (l.turn i false).1 (l.turn i false).2 W)) := fun a W hb => (redo_ref _ v l i W (h.below hb) a.sml (hE.below hb)).mono (fun e w' h => h.p)
  have HER : Hid (SmG l -> ∀ W, Below w.heap.size w W -> Calls Tryz.prog 49 #[v.c.val, .slice v.oa v.on v.oc, .slice v.ua v.un v.uc] W (RepPost S (replayed l.start l.ops l.und) W)) := fun a W hb => replayE_ref S v.c _ _ _ _ _ _ _ _ _ W (h.below hb).1 (h.below hb).2.1 (h.below hb).2.2 a.sml.1 a.sml.2 (hE.below hb)
  have HDR : Hid (SmG l -> ∀ W, Below w.heap.size w W -> Calls Tryz.prog 50 #[v.val, .int .i64 i] W (DepPost (l.deps i) W)) := fun a W hb => deps_ref _ v l i W (h.below hb) a.sml (hE.below hb)
  have HQR : Hid (SmG l -> ∀ W, Below w.heap.size w W -> Calls Tryz.prog 51 #[v.val] W (LogP l.squeeze.1 l.squeeze.2 W)) := fun a W hb => (squeeze_ref _ v l W (h.below hb) a.sml (hE.below hb)).mono (fun e w' h => h.p)
  have HEQ : Hid (∀ (T T' : Nat -> Prop) a n c b m d l W, Nums T W a n c l -> Nums T' W b m d l -> Calls Tryz.prog 52 #[.slice a n c, .slice b m d] W fun e w' => e = .returned (.bool true) /\ Below W.heap.size W w') := fun T T' a n c b m d l W h k => by
    have := eqInts_any T T' a b n c m d l l W h k
    rw [decide_eq_true rfl] at this
    exact this.mono (fun e w' q => ⟨q.1, q.2.below _⟩)
  unfold RepPost at HEP HER
  unfold DepPost at HDP HDR
  generalize l.turn i true = UR at *
  generalize l.turn i false = VR at *
  generalize replayed l.start l.ops l.und = ER at *
  generalize l.deps i = DR at *
  generalize l.squeeze = QR at *
  generalize SmG l = PG at *
  obtain ⟨UL, UE⟩ := UR
  obtain ⟨VL, VE⟩ := VR
  obtain ⟨EC, EK, EE⟩ := ER
  obtain ⟨DK, DE⟩ := DR
  obtain ⟨QL, QE⟩ := QR
  dsimp only at HUP HUR HVP HVR HEP HER HDP HDR HQP HQR
  clear h hE hi
  obtain ⟨⟨sec, sa, sn, sc, ta, tn, tc, ca, cn, cc⟩, oa, on, oc, ua, un, uc⟩ := v
  have hb : Below w.heap.size w (w.alloc (.cells #[.string sec, .slice sa sn sc, .slice ta tn tc, .slice ca cn cc, .slice oa on oc, .slice ua un uc] 30)) := (Below.refl _ _).alloc (Nat.le_refl _) _
  obtain ⟨l0, l1, l2, l3, l4, l5⟩ := box_cells6 (World.alloc_heap_new w (.cells #[.string sec, .slice sa sn sc, .slice ta tn tc, .slice ca cn cc, .slice oa on oc, .slice ua un uc] 30))
  dsimp only at HEP HER
  change Calls _ _ #[.agg #[.string sec, .slice sa sn sc, .slice ta tn tc, .slice ca cn cc, .slice oa on oc, .slice ua un uc], _] _ _
  go_enter Tryz.func11, Tryz.ntmps11
  have HQ := hiq (HG.out _ hb)
  change Hid (Calls _ _ #[.agg #[_, _, _, _, _, _]] _ _) at HQ
  go_wp2_with fail
  generalize w.alloc (.cells #[.string sec, .slice sa sn sc, .slice ta tn tc, .slice ca cn cc, .slice oa on oc, .slice ua un uc] 30) = W1 at *
  refine HQ.out.mono ?_
  rintro e W2 ⟨g, rfl, hbk, hpg⟩
  replace l0 := clq hbk l0; replace l1 := clq hbk l1; replace l2 := clq hbk l2; replace l3 := clq hbk l3; replace l4 := clq hbk l4; replace l5 := clq hbk l5
  replace hb := hb.trans (hbk.mono hb.size)
  clear hbk HQ
  cases g with
  | true =>
    have HQ := hiq (HAW.out _ hb)
    go_wp2_with fail
    refine HQ.out.mono ?_
    rintro e W3 ⟨rfl, hbk⟩
    replace l0 := clq hbk l0; replace l1 := clq hbk l1; replace l2 := clq hbk l2; replace l3 := clq hbk l3; replace l4 := clq hbk l4; replace l5 := clq hbk l5
    replace hb := hb.trans (hbk.mono hb.size)
    clear hbk HQ
    go_wp2
    go_ret
    exact ⟨rfl, hb⟩
  | false =>
  have HP := hiq (hpg rfl)
  clear hpg
  have HQ := hiq (HUP.out HP.out _ hb)
  change Hid (Calls _ _ #[.agg #[_, _, _, _, _, _], _] _ _) at HQ
  go_wp2_with fail
  refine HQ.out.mono ?_
  rintro e W3 ⟨v, he, hR, hbk⟩
  obtain ⟨⟨secA, saA, snA, scA, taA, tnA, tcA, caA, cnA, ccA⟩, oaA, onA, ocA, uaA, unA, ucA⟩ := v
  change e = .returned (.tuple #[.agg #[.string secA, .slice saA snA scA, .slice taA tnA tcA, .slice caA cnA ccA, .slice oaA onA ocA, .slice uaA unA ucA], .int .i64 UE]) at he
  subst he
  have hal : Below W3.heap.size W3 (W3.alloc (.cells #[.string secA, .slice saA snA scA, .slice taA tnA tcA, .slice caA cnA ccA, .slice oaA onA ocA, .slice uaA unA ucA] 30)) := (Below.refl _ _).alloc (Nat.le_refl _) _
  have hst := hbk.trans (hal.mono hbk.size)
  obtain ⟨a0, a1, a2, a3, a4, a5⟩ := box_cells6 (World.alloc_heap_new W3 (.cells #[.string secA, .slice saA snA scA, .slice taA tnA tcA, .slice caA cnA ccA, .slice oaA onA ocA, .slice uaA unA ucA] 30))
  replace l0 := clq hst l0; replace l1 := clq hst l1; replace l2 := clq hst l2; replace l3 := clq hst l3; replace l4 := clq hst l4; replace l5 := clq hst l5
  have HRA := hiq (hR.below hal)
  replace hb := hb.trans (hst.mono hb.size)
  clear hR hbk hal hst HQ
  have HQ := hiq (HUR.out HP.out _ hb)
  change Hid (Calls _ _ #[.agg #[_, _, _, _, _, _], _] _ _) at HQ
  go_wp2_with fail
  generalize W3.alloc (.cells #[.string secA, .slice saA snA scA, .slice taA tnA tcA, .slice caA cnA ccA, .slice oaA onA ocA, .slice uaA unA ucA] 30) = W4 at *
  refine HQ.out.mono ?_
  rintro e W5 ⟨v, he, hR, hbk⟩
  obtain ⟨⟨secB, saB, snB, scB, taB, tnB, tcB, caB, cnB, ccB⟩, oaB, onB, ocB, uaB, unB, ucB⟩ := v
  change e = .returned (.tuple #[.agg #[.string secB, .slice saB snB scB, .slice taB tnB tcB, .slice caB cnB ccB, .slice oaB onB ocB, .slice uaB unB ucB], .int .i64 UE]) at he
  subst he
  have hal : Below W5.heap.size W5 (W5.alloc (.cells #[.string secB, .slice saB snB scB, .slice taB tnB tcB, .slice caB cnB ccB, .slice oaB onB ocB, .slice uaB unB ucB] 30)) := (Below.refl _ _).alloc (Nat.le_refl _) _
  have hst := hbk.trans (hal.mono hbk.size)
  obtain ⟨b0, b1, b2, b3, b4, b5⟩ := box_cells6 (World.alloc_heap_new W5 (.cells #[.string secB, .slice saB snB scB, .slice taB tnB tcB, .slice caB cnB ccB, .slice oaB onB ocB, .slice uaB unB ucB] 30))
  replace l0 := clq hst l0; replace l1 := clq hst l1; replace l2 := clq hst l2; replace l3 := clq hst l3; replace l4 := clq hst l4; replace l5 := clq hst l5; replace a0 := clq hst a0; replace a1 := clq hst a1; replace a2 := clq hst a2; replace a3 := clq hst a3; replace a4 := clq hst a4; replace a5 := clq hst a5
  replace HRA := hiq (HRA.out.below hst)
  have HRB := hiq (hR.below hal)
  replace hb := hb.trans (hst.mono hb.size)
  clear hR hbk hal hst HQ
  have HQ := hiq (HVP.out HP.out _ hb)
  change Hid (Calls _ _ #[.agg #[_, _, _, _, _, _], _] _ _) at HQ
  go_wp2_with fail
  generalize W5.alloc (.cells #[.string secB, .slice saB snB scB, .slice taB tnB tcB, .slice caB cnB ccB, .slice oaB onB ocB, .slice uaB unB ucB] 30) = W6 at *
  refine HQ.out.mono ?_
  rintro e W7 ⟨v, he, hR, hbk⟩
  obtain ⟨⟨secC, saC, snC, scC, taC, tnC, tcC, caC, cnC, ccC⟩, oaC, onC, ocC, uaC, unC, ucC⟩ := v
  change e = .returned (.tuple #[.agg #[.string secC, .slice saC snC scC, .slice taC tnC tcC, .slice caC cnC ccC, .slice oaC onC ocC, .slice uaC unC ucC], .int .i64 VE]) at he
  subst he
  have hal : Below W7.heap.size W7 (W7.alloc (.cells #[.string secC, .slice saC snC scC, .slice taC tnC tcC, .slice caC cnC ccC, .slice oaC onC ocC, .slice uaC unC ucC] 30)) := (Below.refl _ _).alloc (Nat.le_refl _) _
  have hst := hbk.trans (hal.mono hbk.size)
  obtain ⟨c0, c1, c2, c3, c4, c5⟩ := box_cells6 (World.alloc_heap_new W7 (.cells #[.string secC, .slice saC snC scC, .slice taC tnC tcC, .slice caC cnC ccC, .slice oaC onC ocC, .slice uaC unC ucC] 30))
  replace l0 := clq hst l0; replace l1 := clq hst l1; replace l2 := clq hst l2; replace l3 := clq hst l3; replace l4 := clq hst l4; replace l5 := clq hst l5; replace a0 := clq hst a0; replace a1 := clq hst a1; replace a2 := clq hst a2; replace a3 := clq hst a3; replace a4 := clq hst a4; replace a5 := clq hst a5; replace b0 := clq hst b0; replace b1 := clq hst b1; replace b2 := clq hst b2; replace b3 := clq hst b3
  replace b4 := clq hst b4; replace b5 := clq hst b5
  replace HRA := hiq (HRA.out.below hst)
  replace HRB := hiq (HRB.out.below hst)
  have HRC := hiq (hR.below hal)
  replace hb := hb.trans (hst.mono hb.size)
  clear hR hbk hal hst HQ
  have HQ := hiq (HVR.out HP.out _ hb)
  change Hid (Calls _ _ #[.agg #[_, _, _, _, _, _], _] _ _) at HQ
  go_wp2_with fail
  generalize W7.alloc (.cells #[.string secC, .slice saC snC scC, .slice taC tnC tcC, .slice caC cnC ccC, .slice oaC onC ocC, .slice uaC unC ucC] 30) = W8 at *
  refine HQ.out.mono ?_
  rintro e W9 ⟨v, he, hR, hbk⟩
  obtain ⟨⟨secD, saD, snD, scD, taD, tnD, tcD, caD, cnD, ccD⟩, oaD, onD, ocD, uaD, unD, ucD⟩ := v
  change e = .returned (.tuple #[.agg #[.string secD, .slice saD snD scD, .slice taD tnD tcD, .slice caD cnD ccD, .slice oaD onD ocD, .slice uaD unD ucD], .int .i64 VE]) at he
  subst he
  have hal : Below W9.heap.size W9 (W9.alloc (.cells #[.string secD, .slice saD snD scD, .slice taD tnD tcD, .slice caD cnD ccD, .slice oaD onD ocD, .slice uaD unD ucD] 30)) := (Below.refl _ _).alloc (Nat.le_refl _) _
  have hst := hbk.trans (hal.mono hbk.size)
  obtain ⟨d0, d1, d2, d3, d4, d5⟩ := box_cells6 (World.alloc_heap_new W9 (.cells #[.string secD, .slice saD snD scD, .slice taD tnD tcD, .slice caD cnD ccD, .slice oaD onD ocD, .slice uaD unD ucD] 30))
  replace l0 := clq hst l0; replace l1 := clq hst l1; replace l2 := clq hst l2; replace l3 := clq hst l3; replace l4 := clq hst l4; replace l5 := clq hst l5; replace a0 := clq hst a0; replace a1 := clq hst a1; replace a2 := clq hst a2; replace a3 := clq hst a3; replace a4 := clq hst a4; replace a5 := clq hst a5; replace b0 := clq hst b0; replace b1 := clq hst b1; replace b2 := clq hst b2; replace b3 := clq hst b3
  replace b4 := clq hst b4; replace b5 := clq hst b5; replace c0 := clq hst c0; replace c1 := clq hst c1; replace c2 := clq hst c2; replace c3 := clq hst c3; replace c4 := clq hst c4; replace c5 := clq hst c5
  replace HRA := hiq (HRA.out.below hst)
  replace HRB := hiq (HRB.out.below hst)
  replace HRC := hiq (HRC.out.below hst)
  have HRD := hiq (hR.below hal)
  replace hb := hb.trans (hst.mono hb.size)
  clear hR hbk hal hst HQ
  have HQ := hiq (HEP.out HP.out _ hb)
  change Hid (Calls _ _ #[.agg #[_, _, _, _], .slice oa on oc, .slice ua un uc] _ _) at HQ
  go_wp2_with fail
  generalize W9.alloc (.cells #[.string secD, .slice saD snD scD, .slice taD tnD tcD, .slice caD cnD ccD, .slice oaD onD ocD, .slice uaD unD ucD] 30) = W10 at *
  refine HQ.out.mono ?_
  rintro e W11 ⟨v, aX, nX, cX, he, hR, hN, hbk⟩
  obtain ⟨secX, saX, snX, scX, taX, tnX, tcX, caX, cnX, ccX⟩ := v
  change e = .returned (.tuple #[.agg #[.string secX, .slice saX snX scX, .slice taX tnX tcX, .slice caX cnX ccX], .slice aX nX cX, .int .i64 EE]) at he
  subst he
  have hal : Below W11.heap.size W11 (W11.alloc (.cells #[.string secX, .slice saX snX scX, .slice taX tnX tcX, .slice caX cnX ccX] 26)) := (Below.refl _ _).alloc (Nat.le_refl _) _
  have hst := hbk.trans (hal.mono hbk.size)
  obtain ⟨x0, x1, x2, x3, -⟩ := box_cells4 (World.alloc_heap_new W11 (.cells #[.string secX, .slice saX snX scX, .slice taX tnX tcX, .slice caX cnX ccX] 26))
  replace l0 := clq hst l0; replace l1 := clq hst l1; replace l2 := clq hst l2; replace l3 := clq hst l3; replace l4 := clq hst l4; replace l5 := clq hst l5; replace a0 := clq hst a0; replace a1 := clq hst a1; replace a2 := clq hst a2; replace a3 := clq hst a3; replace a4 := clq hst a4; replace a5 := clq hst a5; replace b0 := clq hst b0; replace b1 := clq hst b1; replace b2 := clq hst b2; replace b3 := clq hst b3
  replace b4 := clq hst b4; replace b5 := clq hst b5; replace c0 := clq hst c0; replace c1 := clq hst c1; replace c2 := clq hst c2; replace c3 := clq hst c3; replace c4 := clq hst c4; replace c5 := clq hst c5; replace d0 := clq hst d0; replace d1 := clq hst d1; replace d2 := clq hst d2; replace d3 := clq hst d3; replace d4 := clq hst d4; replace d5 := clq hst d5
  replace HRA := hiq (HRA.out.below hst)
  replace HRB := hiq (HRB.out.below hst)
  replace HRC := hiq (HRC.out.below hst)
  replace HRD := hiq (HRD.out.below hst)
  have HRX := hiq (hR.t.below hal)
  have HNX := hiq (hN.below rInt_ok hal)
  replace hb := hb.trans (hst.mono hb.size)
  clear hR hN hbk hal hst HQ
  have HQ := hiq (HER.out HP.out _ hb)
  change Hid (Calls _ _ #[.agg #[_, _, _, _], .slice oa on oc, .slice ua un uc] _ _) at HQ
  go_wp2_with fail
  generalize W11.alloc (.cells #[.string secX, .slice saX snX scX, .slice taX tnX tcX, .slice caX cnX ccX] 26) = W12 at *
  refine HQ.out.mono ?_
  rintro e W13 ⟨v, aY, nY, cY, he, hR, hN, hbk⟩
  obtain ⟨secY, saY, snY, scY, taY, tnY, tcY, caY, cnY, ccY⟩ := v
  change e = .returned (.tuple #[.agg #[.string secY, .slice saY snY scY, .slice taY tnY tcY, .slice caY cnY ccY], .slice aY nY cY, .int .i64 EE]) at he
  subst he
  have hal : Below W13.heap.size W13 (W13.alloc (.cells #[.string secY, .slice saY snY scY, .slice taY tnY tcY, .slice caY cnY ccY] 26)) := (Below.refl _ _).alloc (Nat.le_refl _) _
  have hst := hbk.trans (hal.mono hbk.size)
  obtain ⟨y0, y1, y2, y3, -⟩ := box_cells4 (World.alloc_heap_new W13 (.cells #[.string secY, .slice saY snY scY, .slice taY tnY tcY, .slice caY cnY ccY] 26))
  replace l0 := clq hst l0; replace l1 := clq hst l1; replace l2 := clq hst l2; replace l3 := clq hst l3; replace l4 := clq hst l4; replace l5 := clq hst l5; replace a0 := clq hst a0; replace a1 := clq hst a1; replace a2 := clq hst a2; replace a3 := clq hst a3; replace a4 := clq hst a4; replace a5 := clq hst a5; replace b0 := clq hst b0; replace b1 := clq hst b1; replace b2 := clq hst b2; replace b3 := clq hst b3
  replace b4 := clq hst b4; replace b5 := clq hst b5; replace c0 := clq hst c0; replace c1 := clq hst c1; replace c2 := clq hst c2; replace c3 := clq hst c3; replace c4 := clq hst c4; replace c5 := clq hst c5; replace d0 := clq hst d0; replace d1 := clq hst d1; replace d2 := clq hst d2; replace d3 := clq hst d3; replace d4 := clq hst d4; replace d5 := clq hst d5; replace x0 := clq hst x0; replace x1 := clq hst x1
  replace x2 := clq hst x2; replace x3 := clq hst x3
  replace HRA := hiq (HRA.out.below hst)
  replace HRB := hiq (HRB.out.below hst)
  replace HRC := hiq (HRC.out.below hst)
  replace HRD := hiq (HRD.out.below hst)
  replace HRX := hiq (HRX.out.below hst)
  replace HNX := hiq (HNX.out.below rInt_ok hst)
  have HRY := hiq (hR.t.below hal)
  have HNY := hiq (hN.below rInt_ok hal)
  replace hb := hb.trans (hst.mono hb.size)
  clear hR hN hbk hal hst HQ
  have HQ := hiq (HDP.out HP.out _ hb)
  change Hid (Calls _ _ #[.agg #[_, _, _, _, _, _], _] _ _) at HQ
  go_wp2_with fail
  generalize W13.alloc (.cells #[.string secY, .slice saY snY scY, .slice taY tnY tcY, .slice caY cnY ccY] 26) = W14 at *
  refine HQ.out.mono ?_
  rintro e W15 ⟨aU, nU, cU, rfl, hN, hbk⟩
  replace l0 := clq hbk l0; replace l1 := clq hbk l1; replace l2 := clq hbk l2; replace l3 := clq hbk l3; replace l4 := clq hbk l4; replace l5 := clq hbk l5; replace a0 := clq hbk a0; replace a1 := clq hbk a1; replace a2 := clq hbk a2; replace a3 := clq hbk a3; replace a4 := clq hbk a4; replace a5 := clq hbk a5; replace b0 := clq hbk b0; replace b1 := clq hbk b1; replace b2 := clq hbk b2; replace b3 := clq hbk b3
  replace b4 := clq hbk b4; replace b5 := clq hbk b5; replace c0 := clq hbk c0; replace c1 := clq hbk c1; replace c2 := clq hbk c2; replace c3 := clq hbk c3; replace c4 := clq hbk c4; replace c5 := clq hbk c5; replace d0 := clq hbk d0; replace d1 := clq hbk d1; replace d2 := clq hbk d2; replace d3 := clq hbk d3; replace d4 := clq hbk d4; replace d5 := clq hbk d5; replace x0 := clq hbk x0; replace x1 := clq hbk x1
  replace x2 := clq hbk x2; replace x3 := clq hbk x3; replace y0 := clq hbk y0; replace y1 := clq hbk y1; replace y2 := clq hbk y2; replace y3 := clq hbk y3
  replace HRA := hiq (HRA.out.below hbk)
  replace HRB := hiq (HRB.out.below hbk)
  replace HRC := hiq (HRC.out.below hbk)
  replace HRD := hiq (HRD.out.below hbk)
  replace HRX := hiq (HRX.out.below hbk)
  replace HNX := hiq (HNX.out.below rInt_ok hbk)
  replace HRY := hiq (HRY.out.below hbk)
  replace HNY := hiq (HNY.out.below rInt_ok hbk)
  have HNU := hiq hN
  replace hb := hb.trans (hbk.mono hb.size)
  clear hN hbk HQ
  have HQ := hiq (HDR.out HP.out _ hb)
  change Hid (Calls _ _ #[.agg #[_, _, _, _, _, _], _] _ _) at HQ
  go_wp2_with fail
  refine HQ.out.mono ?_
  rintro e W16 ⟨aV, nV, cV, rfl, hN, hbk⟩
  replace l0 := clq hbk l0; replace l1 := clq hbk l1; replace l2 := clq hbk l2; replace l3 := clq hbk l3; replace l4 := clq hbk l4; replace l5 := clq hbk l5; replace a0 := clq hbk a0; replace a1 := clq hbk a1; replace a2 := clq hbk a2; replace a3 := clq hbk a3; replace a4 := clq hbk a4; replace a5 := clq hbk a5; replace b0 := clq hbk b0; replace b1 := clq hbk b1; replace b2 := clq hbk b2; replace b3 := clq hbk b3
  replace b4 := clq hbk b4; replace b5 := clq hbk b5; replace c0 := clq hbk c0; replace c1 := clq hbk c1; replace c2 := clq hbk c2; replace c3 := clq hbk c3; replace c4 := clq hbk c4; replace c5 := clq hbk c5; replace d0 := clq hbk d0; replace d1 := clq hbk d1; replace d2 := clq hbk d2; replace d3 := clq hbk d3; replace d4 := clq hbk d4; replace d5 := clq hbk d5; replace x0 := clq hbk x0; replace x1 := clq hbk x1
  replace x2 := clq hbk x2; replace x3 := clq hbk x3; replace y0 := clq hbk y0; replace y1 := clq hbk y1; replace y2 := clq hbk y2; replace y3 := clq hbk y3
  replace HRA := hiq (HRA.out.below hbk)
  replace HRB := hiq (HRB.out.below hbk)
  replace HRC := hiq (HRC.out.below hbk)
  replace HRD := hiq (HRD.out.below hbk)
  replace HRX := hiq (HRX.out.below hbk)
  replace HNX := hiq (HNX.out.below rInt_ok hbk)
  replace HRY := hiq (HRY.out.below hbk)
  replace HNY := hiq (HNY.out.below rInt_ok hbk)
  replace HNU := hiq (HNU.out.below rInt_ok hbk)
  have HNV := hiq hN
  replace hb := hb.trans (hbk.mono hb.size)
  clear hN hbk HQ
  have HQ := hiq (HQP.out HP.out _ hb)
  change Hid (Calls _ _ #[.agg #[_, _, _, _, _, _]] _ _) at HQ
  go_wp2_with fail
  refine HQ.out.mono ?_
  rintro e W17 ⟨v, he, hR, hbk⟩
  obtain ⟨⟨secP, saP, snP, scP, taP, tnP, tcP, caP, cnP, ccP⟩, oaP, onP, ocP, uaP, unP, ucP⟩ := v
  change e = .returned (.tuple #[.agg #[.string secP, .slice saP snP scP, .slice taP tnP tcP, .slice caP cnP ccP, .slice oaP onP ocP, .slice uaP unP ucP], .int .i64 QE]) at he
  subst he
  have hal : Below W17.heap.size W17 (W17.alloc (.cells #[.string secP, .slice saP snP scP, .slice taP tnP tcP, .slice caP cnP ccP, .slice oaP onP ocP, .slice uaP unP ucP] 30)) := (Below.refl _ _).alloc (Nat.le_refl _) _
  have hst := hbk.trans (hal.mono hbk.size)
  obtain ⟨p0, p1, p2, p3, p4, p5⟩ := box_cells6 (World.alloc_heap_new W17 (.cells #[.string secP, .slice saP snP scP, .slice taP tnP tcP, .slice caP cnP ccP, .slice oaP onP ocP, .slice uaP unP ucP] 30))
  replace l0 := clq hst l0; replace l1 := clq hst l1; replace l2 := clq hst l2; replace l3 := clq hst l3; replace l4 := clq hst l4; replace l5 := clq hst l5; replace a0 := clq hst a0; replace a1 := clq hst a1; replace a2 := clq hst a2; replace a3 := clq hst a3; replace a4 := clq hst a4; replace a5 := clq hst a5; replace b0 := clq hst b0; replace b1 := clq hst b1; replace b2 := clq hst b2; replace b3 := clq hst b3
  replace b4 := clq hst b4; replace b5 := clq hst b5; replace c0 := clq hst c0; replace c1 := clq hst c1; replace c2 := clq hst c2; replace c3 := clq hst c3; replace c4 := clq hst c4; replace c5 := clq hst c5; replace d0 := clq hst d0; replace d1 := clq hst d1; replace d2 := clq hst d2; replace d3 := clq hst d3; replace d4 := clq hst d4; replace d5 := clq hst d5; replace x0 := clq hst x0; replace x1 := clq hst x1
  replace x2 := clq hst x2; replace x3 := clq hst x3; replace y0 := clq hst y0; replace y1 := clq hst y1; replace y2 := clq hst y2; replace y3 := clq hst y3
  replace HRA := hiq (HRA.out.below hst)
  replace HRB := hiq (HRB.out.below hst)
  replace HRC := hiq (HRC.out.below hst)
  replace HRD := hiq (HRD.out.below hst)
  replace HRX := hiq (HRX.out.below hst)
  replace HNX := hiq (HNX.out.below rInt_ok hst)
  replace HRY := hiq (HRY.out.below hst)
  replace HNY := hiq (HNY.out.below rInt_ok hst)
  replace HNU := hiq (HNU.out.below rInt_ok hst)
  replace HNV := hiq (HNV.out.below rInt_ok hst)
  have HRP := hiq (hR.below hal)
  replace hb := hb.trans (hst.mono hb.size)
  clear hR hbk hal hst HQ
  have HQ := hiq (HQR.out HP.out _ hb)
  change Hid (Calls _ _ #[.agg #[_, _, _, _, _, _]] _ _) at HQ
  go_wp2_with fail
  generalize W17.alloc (.cells #[.string secP, .slice saP snP scP, .slice taP tnP tcP, .slice caP cnP ccP, .slice oaP onP ocP, .slice uaP unP ucP] 30) = W18 at *
  refine HQ.out.mono ?_
  rintro e W19 ⟨v, he, hR, hbk⟩
  obtain ⟨⟨secR, saR, snR, scR, taR, tnR, tcR, caR, cnR, ccR⟩, oaR, onR, ocR, uaR, unR, ucR⟩ := v
  change e = .returned (.tuple #[.agg #[.string secR, .slice saR snR scR, .slice taR tnR tcR, .slice caR cnR ccR, .slice oaR onR ocR, .slice uaR unR ucR], .int .i64 QE]) at he
  subst he
  have hal : Below W19.heap.size W19 (W19.alloc (.cells #[.string secR, .slice saR snR scR, .slice taR tnR tcR, .slice caR cnR ccR, .slice oaR onR ocR, .slice uaR unR ucR] 30)) := (Below.refl _ _).alloc (Nat.le_refl _) _
  have hst := hbk.trans (hal.mono hbk.size)
  obtain ⟨r0, r1, r2, r3, r4, r5⟩ := box_cells6 (World.alloc_heap_new W19 (.cells #[.string secR, .slice saR snR scR, .slice taR tnR tcR, .slice caR cnR ccR, .slice oaR onR ocR, .slice uaR unR ucR] 30))
  replace l0 := clq hst l0; replace l1 := clq hst l1; replace l2 := clq hst l2; replace l3 := clq hst l3; replace l4 := clq hst l4; replace l5 := clq hst l5; replace a0 := clq hst a0; replace a1 := clq hst a1; replace a2 := clq hst a2; replace a3 := clq hst a3; replace a4 := clq hst a4; replace a5 := clq hst a5; replace b0 := clq hst b0; replace b1 := clq hst b1; replace b2 := clq hst b2; replace b3 := clq hst b3
  replace b4 := clq hst b4; replace b5 := clq hst b5; replace c0 := clq hst c0; replace c1 := clq hst c1; replace c2 := clq hst c2; replace c3 := clq hst c3; replace c4 := clq hst c4; replace c5 := clq hst c5; replace d0 := clq hst d0; replace d1 := clq hst d1; replace d2 := clq hst d2; replace d3 := clq hst d3; replace d4 := clq hst d4; replace d5 := clq hst d5; replace x0 := clq hst x0; replace x1 := clq hst x1
  replace x2 := clq hst x2; replace x3 := clq hst x3; replace y0 := clq hst y0; replace y1 := clq hst y1; replace y2 := clq hst y2; replace y3 := clq hst y3; replace p0 := clq hst p0; replace p1 := clq hst p1; replace p2 := clq hst p2; replace p3 := clq hst p3; replace p4 := clq hst p4; replace p5 := clq hst p5
  replace HRA := hiq (HRA.out.below hst)
  replace HRB := hiq (HRB.out.below hst)
  replace HRC := hiq (HRC.out.below hst)
  replace HRD := hiq (HRD.out.below hst)
  replace HRX := hiq (HRX.out.below hst)
  replace HNX := hiq (HNX.out.below rInt_ok hst)
  replace HRY := hiq (HRY.out.below hst)
  replace HNY := hiq (HNY.out.below rInt_ok hst)
  replace HNU := hiq (HNU.out.below rInt_ok hst)
  replace HNV := hiq (HNV.out.below rInt_ok hst)
  replace HRP := hiq (HRP.out.below hst)
  have HRR := hiq (hR.below hal)
  replace hb := hb.trans (hst.mono hb.size)
  clear hR hbk hal hst HQ
  have HQ := hiq (HSL.out _ _ _ _ HRA.out HRB.out)
  change Hid (Calls _ _ #[.agg #[_, _, _, _, _, _], .agg #[_, _, _, _, _, _]] _ _) at HQ
  go_wp2_with fail
  generalize W19.alloc (.cells #[.string secR, .slice saR snR scR, .slice taR tnR tcR, .slice caR cnR ccR, .slice oaR onR ocR, .slice uaR unR ucR] 30) = W20 at *
  refine HQ.out.mono ?_
  rintro e W21 ⟨rfl, hbk⟩
  replace l0 := clq hbk l0; replace l1 := clq hbk l1; replace l2 := clq hbk l2; replace l3 := clq hbk l3; replace l4 := clq hbk l4; replace l5 := clq hbk l5; replace a0 := clq hbk a0; replace a1 := clq hbk a1; replace a2 := clq hbk a2; replace a3 := clq hbk a3; replace a4 := clq hbk a4; replace a5 := clq hbk a5; replace b0 := clq hbk b0; replace b1 := clq hbk b1; replace b2 := clq hbk b2; replace b3 := clq hbk b3
  replace b4 := clq hbk b4; replace b5 := clq hbk b5; replace c0 := clq hbk c0; replace c1 := clq hbk c1; replace c2 := clq hbk c2; replace c3 := clq hbk c3; replace c4 := clq hbk c4; replace c5 := clq hbk c5; replace d0 := clq hbk d0; replace d1 := clq hbk d1; replace d2 := clq hbk d2; replace d3 := clq hbk d3; replace d4 := clq hbk d4; replace d5 := clq hbk d5; replace x0 := clq hbk x0; replace x1 := clq hbk x1
  replace x2 := clq hbk x2; replace x3 := clq hbk x3; replace y0 := clq hbk y0; replace y1 := clq hbk y1; replace y2 := clq hbk y2; replace y3 := clq hbk y3; replace p0 := clq hbk p0; replace p1 := clq hbk p1; replace p2 := clq hbk p2; replace p3 := clq hbk p3; replace p4 := clq hbk p4; replace p5 := clq hbk p5; replace r0 := clq hbk r0; replace r1 := clq hbk r1; replace r2 := clq hbk r2; replace r3 := clq hbk r3
  replace r4 := clq hbk r4; replace r5 := clq hbk r5
  replace HRA := hiq (HRA.out.below hbk)
  replace HRB := hiq (HRB.out.below hbk)
  replace HRC := hiq (HRC.out.below hbk)
  replace HRD := hiq (HRD.out.below hbk)
  replace HRX := hiq (HRX.out.below hbk)
  replace HNX := hiq (HNX.out.below rInt_ok hbk)
  replace HRY := hiq (HRY.out.below hbk)
  replace HNY := hiq (HNY.out.below rInt_ok hbk)
  replace HNU := hiq (HNU.out.below rInt_ok hbk)
  replace HNV := hiq (HNV.out.below rInt_ok hbk)
  replace HRP := hiq (HRP.out.below hbk)
  replace HRR := hiq (HRR.out.below hbk)
  replace hb := hb.trans (hbk.mono hb.size)
  clear hbk HQ
  have HQ := hiq (HSL.out _ _ _ _ HRC.out HRD.out)
  change Hid (Calls _ _ #[.agg #[_, _, _, _, _, _], .agg #[_, _, _, _, _, _]] _ _) at HQ
  go_wp2_with fail
  refine HQ.out.mono ?_
  rintro e W22 ⟨rfl, hbk⟩
  replace l0 := clq hbk l0; replace l1 := clq hbk l1; replace l2 := clq hbk l2; replace l3 := clq hbk l3; replace l4 := clq hbk l4; replace l5 := clq hbk l5; replace a0 := clq hbk a0; replace a1 := clq hbk a1; replace a2 := clq hbk a2; replace a3 := clq hbk a3; replace a4 := clq hbk a4; replace a5 := clq hbk a5; replace b0 := clq hbk b0; replace b1 := clq hbk b1; replace b2 := clq hbk b2; replace b3 := clq hbk b3
  replace b4 := clq hbk b4; replace b5 := clq hbk b5; replace c0 := clq hbk c0; replace c1 := clq hbk c1; replace c2 := clq hbk c2; replace c3 := clq hbk c3; replace c4 := clq hbk c4; replace c5 := clq hbk c5; replace d0 := clq hbk d0; replace d1 := clq hbk d1; replace d2 := clq hbk d2; replace d3 := clq hbk d3; replace d4 := clq hbk d4; replace d5 := clq hbk d5; replace x0 := clq hbk x0; replace x1 := clq hbk x1
  replace x2 := clq hbk x2; replace x3 := clq hbk x3; replace y0 := clq hbk y0; replace y1 := clq hbk y1; replace y2 := clq hbk y2; replace y3 := clq hbk y3; replace p0 := clq hbk p0; replace p1 := clq hbk p1; replace p2 := clq hbk p2; replace p3 := clq hbk p3; replace p4 := clq hbk p4; replace p5 := clq hbk p5; replace r0 := clq hbk r0; replace r1 := clq hbk r1; replace r2 := clq hbk r2; replace r3 := clq hbk r3
  replace r4 := clq hbk r4; replace r5 := clq hbk r5
  replace HRA := hiq (HRA.out.below hbk)
  replace HRB := hiq (HRB.out.below hbk)
  replace HRC := hiq (HRC.out.below hbk)
  replace HRD := hiq (HRD.out.below hbk)
  replace HRX := hiq (HRX.out.below hbk)
  replace HNX := hiq (HNX.out.below rInt_ok hbk)
  replace HRY := hiq (HRY.out.below hbk)
  replace HNY := hiq (HNY.out.below rInt_ok hbk)
  replace HNU := hiq (HNU.out.below rInt_ok hbk)
  replace HNV := hiq (HNV.out.below rInt_ok hbk)
  replace HRP := hiq (HRP.out.below hbk)
  replace HRR := hiq (HRR.out.below hbk)
  replace hb := hb.trans (hbk.mono hb.size)
  clear hbk HQ
  have HQ := hiq (HSM.out _ _ _ _ HRX.out HRY.out)
  change Hid (Calls _ _ #[.agg #[_, _, _, _], .agg #[_, _, _, _]] _ _) at HQ
  go_wp2_with fail
  refine HQ.out.mono ?_
  rintro e W23 ⟨rfl, hbk⟩
  replace l0 := clq hbk l0; replace l1 := clq hbk l1; replace l2 := clq hbk l2; replace l3 := clq hbk l3; replace l4 := clq hbk l4; replace l5 := clq hbk l5; replace a0 := clq hbk a0; replace a1 := clq hbk a1; replace a2 := clq hbk a2; replace a3 := clq hbk a3; replace a4 := clq hbk a4; replace a5 := clq hbk a5; replace b0 := clq hbk b0; replace b1 := clq hbk b1; replace b2 := clq hbk b2; replace b3 := clq hbk b3
  replace b4 := clq hbk b4; replace b5 := clq hbk b5; replace c0 := clq hbk c0; replace c1 := clq hbk c1; replace c2 := clq hbk c2; replace c3 := clq hbk c3; replace c4 := clq hbk c4; replace c5 := clq hbk c5; replace d0 := clq hbk d0; replace d1 := clq hbk d1; replace d2 := clq hbk d2; replace d3 := clq hbk d3; replace d4 := clq hbk d4; replace d5 := clq hbk d5; replace x0 := clq hbk x0; replace x1 := clq hbk x1
  replace x2 := clq hbk x2; replace x3 := clq hbk x3; replace y0 := clq hbk y0; replace y1 := clq hbk y1; replace y2 := clq hbk y2; replace y3 := clq hbk y3; replace p0 := clq hbk p0; replace p1 := clq hbk p1; replace p2 := clq hbk p2; replace p3 := clq hbk p3; replace p4 := clq hbk p4; replace p5 := clq hbk p5; replace r0 := clq hbk r0; replace r1 := clq hbk r1; replace r2 := clq hbk r2; replace r3 := clq hbk r3
  replace r4 := clq hbk r4; replace r5 := clq hbk r5
  replace HRA := hiq (HRA.out.below hbk)
  replace HRB := hiq (HRB.out.below hbk)
  replace HRC := hiq (HRC.out.below hbk)
  replace HRD := hiq (HRD.out.below hbk)
  replace HRX := hiq (HRX.out.below hbk)
  replace HNX := hiq (HNX.out.below rInt_ok hbk)
  replace HRY := hiq (HRY.out.below hbk)
  replace HNY := hiq (HNY.out.below rInt_ok hbk)
  replace HNU := hiq (HNU.out.below rInt_ok hbk)
  replace HNV := hiq (HNV.out.below rInt_ok hbk)
  replace HRP := hiq (HRP.out.below hbk)
  replace HRR := hiq (HRR.out.below hbk)
  replace hb := hb.trans (hbk.mono hb.size)
  clear hbk HQ
  have HQ := hiq (HEQ.out _ _ aX nX cX aY nY cY _ _ HNX.out HNY.out)
  go_wp2_with fail
  refine HQ.out.mono ?_
  rintro e W24 ⟨rfl, hbk⟩
  replace l0 := clq hbk l0; replace l1 := clq hbk l1; replace l2 := clq hbk l2; replace l3 := clq hbk l3; replace l4 := clq hbk l4; replace l5 := clq hbk l5; replace a0 := clq hbk a0; replace a1 := clq hbk a1; replace a2 := clq hbk a2; replace a3 := clq hbk a3; replace a4 := clq hbk a4; replace a5 := clq hbk a5; replace b0 := clq hbk b0; replace b1 := clq hbk b1; replace b2 := clq hbk b2; replace b3 := clq hbk b3
  replace b4 := clq hbk b4; replace b5 := clq hbk b5; replace c0 := clq hbk c0; replace c1 := clq hbk c1; replace c2 := clq hbk c2; replace c3 := clq hbk c3; replace c4 := clq hbk c4; replace c5 := clq hbk c5; replace d0 := clq hbk d0; replace d1 := clq hbk d1; replace d2 := clq hbk d2; replace d3 := clq hbk d3; replace d4 := clq hbk d4; replace d5 := clq hbk d5; replace x0 := clq hbk x0; replace x1 := clq hbk x1
  replace x2 := clq hbk x2; replace x3 := clq hbk x3; replace y0 := clq hbk y0; replace y1 := clq hbk y1; replace y2 := clq hbk y2; replace y3 := clq hbk y3; replace p0 := clq hbk p0; replace p1 := clq hbk p1; replace p2 := clq hbk p2; replace p3 := clq hbk p3; replace p4 := clq hbk p4; replace p5 := clq hbk p5; replace r0 := clq hbk r0; replace r1 := clq hbk r1; replace r2 := clq hbk r2; replace r3 := clq hbk r3
  replace r4 := clq hbk r4; replace r5 := clq hbk r5
  replace HRA := hiq (HRA.out.below hbk)
  replace HRB := hiq (HRB.out.below hbk)
  replace HRC := hiq (HRC.out.below hbk)
  replace HRD := hiq (HRD.out.below hbk)
  replace HRX := hiq (HRX.out.below hbk)
  replace HNX := hiq (HNX.out.below rInt_ok hbk)
  replace HRY := hiq (HRY.out.below hbk)
  replace HNY := hiq (HNY.out.below rInt_ok hbk)
  replace HNU := hiq (HNU.out.below rInt_ok hbk)
  replace HNV := hiq (HNV.out.below rInt_ok hbk)
  replace HRP := hiq (HRP.out.below hbk)
  replace HRR := hiq (HRR.out.below hbk)
  replace hb := hb.trans (hbk.mono hb.size)
  clear hbk HQ
  have HQ := hiq (HEQ.out _ _ aU nU cU aV nV cV _ _ HNU.out HNV.out)
  go_wp2_with fail
  refine HQ.out.mono ?_
  rintro e W25 ⟨rfl, hbk⟩
  replace l0 := clq hbk l0; replace l1 := clq hbk l1; replace l2 := clq hbk l2; replace l3 := clq hbk l3; replace l4 := clq hbk l4; replace l5 := clq hbk l5; replace a0 := clq hbk a0; replace a1 := clq hbk a1; replace a2 := clq hbk a2; replace a3 := clq hbk a3; replace a4 := clq hbk a4; replace a5 := clq hbk a5; replace b0 := clq hbk b0; replace b1 := clq hbk b1; replace b2 := clq hbk b2; replace b3 := clq hbk b3
  replace b4 := clq hbk b4; replace b5 := clq hbk b5; replace c0 := clq hbk c0; replace c1 := clq hbk c1; replace c2 := clq hbk c2; replace c3 := clq hbk c3; replace c4 := clq hbk c4; replace c5 := clq hbk c5; replace d0 := clq hbk d0; replace d1 := clq hbk d1; replace d2 := clq hbk d2; replace d3 := clq hbk d3; replace d4 := clq hbk d4; replace d5 := clq hbk d5; replace x0 := clq hbk x0; replace x1 := clq hbk x1
  replace x2 := clq hbk x2; replace x3 := clq hbk x3; replace y0 := clq hbk y0; replace y1 := clq hbk y1; replace y2 := clq hbk y2; replace y3 := clq hbk y3; replace p0 := clq hbk p0; replace p1 := clq hbk p1; replace p2 := clq hbk p2; replace p3 := clq hbk p3; replace p4 := clq hbk p4; replace p5 := clq hbk p5; replace r0 := clq hbk r0; replace r1 := clq hbk r1; replace r2 := clq hbk r2; replace r3 := clq hbk r3
  replace r4 := clq hbk r4; replace r5 := clq hbk r5
  replace HRA := hiq (HRA.out.below hbk)
  replace HRB := hiq (HRB.out.below hbk)
  replace HRC := hiq (HRC.out.below hbk)
  replace HRD := hiq (HRD.out.below hbk)
  replace HRX := hiq (HRX.out.below hbk)
  replace HNX := hiq (HNX.out.below rInt_ok hbk)
  replace HRY := hiq (HRY.out.below hbk)
  replace HNY := hiq (HNY.out.below rInt_ok hbk)
  replace HNU := hiq (HNU.out.below rInt_ok hbk)
  replace HNV := hiq (HNV.out.below rInt_ok hbk)
  replace HRP := hiq (HRP.out.below hbk)
  replace HRR := hiq (HRR.out.below hbk)
  replace hb := hb.trans (hbk.mono hb.size)
  clear hbk HQ
  have HQ := hiq (HSL.out _ _ _ _ HRP.out HRR.out)
  change Hid (Calls _ _ #[.agg #[_, _, _, _, _, _], .agg #[_, _, _, _, _, _]] _ _) at HQ
  go_wp2_with fail
  refine HQ.out.mono ?_
  rintro e W26 ⟨rfl, hbk⟩
  replace l0 := clq hbk l0; replace l1 := clq hbk l1; replace l2 := clq hbk l2; replace l3 := clq hbk l3; replace l4 := clq hbk l4; replace l5 := clq hbk l5; replace a0 := clq hbk a0; replace a1 := clq hbk a1; replace a2 := clq hbk a2; replace a3 := clq hbk a3; replace a4 := clq hbk a4; replace a5 := clq hbk a5; replace b0 := clq hbk b0; replace b1 := clq hbk b1; replace b2 := clq hbk b2; replace b3 := clq hbk b3
  replace b4 := clq hbk b4; replace b5 := clq hbk b5; replace c0 := clq hbk c0; replace c1 := clq hbk c1; replace c2 := clq hbk c2; replace c3 := clq hbk c3; replace c4 := clq hbk c4; replace c5 := clq hbk c5; replace d0 := clq hbk d0; replace d1 := clq hbk d1; replace d2 := clq hbk d2; replace d3 := clq hbk d3; replace d4 := clq hbk d4; replace d5 := clq hbk d5; replace x0 := clq hbk x0; replace x1 := clq hbk x1
  replace x2 := clq hbk x2; replace x3 := clq hbk x3; replace y0 := clq hbk y0; replace y1 := clq hbk y1; replace y2 := clq hbk y2; replace y3 := clq hbk y3; replace p0 := clq hbk p0; replace p1 := clq hbk p1; replace p2 := clq hbk p2; replace p3 := clq hbk p3; replace p4 := clq hbk p4; replace p5 := clq hbk p5; replace r0 := clq hbk r0; replace r1 := clq hbk r1; replace r2 := clq hbk r2; replace r3 := clq hbk r3
  replace r4 := clq hbk r4; replace r5 := clq hbk r5
  replace HRA := hiq (HRA.out.below hbk)
  replace HRB := hiq (HRB.out.below hbk)
  replace HRC := hiq (HRC.out.below hbk)
  replace HRD := hiq (HRD.out.below hbk)
  replace HRX := hiq (HRX.out.below hbk)
  replace HNX := hiq (HNX.out.below rInt_ok hbk)
  replace HRY := hiq (HRY.out.below hbk)
  replace HNY := hiq (HNY.out.below rInt_ok hbk)
  replace HNU := hiq (HNU.out.below rInt_ok hbk)
  replace HNV := hiq (HNV.out.below rInt_ok hbk)
  replace HRP := hiq (HRP.out.below hbk)
  replace HRR := hiq (HRR.out.below hbk)
  replace hb := hb.trans (hbk.mono hb.size)
  clear hbk HQ
  have HQ := hiq (HAW.out _ hb)
  go_wp2_with fail
  refine HQ.out.mono ?_
  rintro e W27 ⟨rfl, hbk⟩
  replace l0 := clq hbk l0; replace l1 := clq hbk l1; replace l2 := clq hbk l2; replace l3 := clq hbk l3; replace l4 := clq hbk l4; replace l5 := clq hbk l5; replace a0 := clq hbk a0; replace a1 := clq hbk a1; replace a2 := clq hbk a2; replace a3 := clq hbk a3; replace a4 := clq hbk a4; replace a5 := clq hbk a5; replace b0 := clq hbk b0; replace b1 := clq hbk b1; replace b2 := clq hbk b2; replace b3 := clq hbk b3
  replace b4 := clq hbk b4; replace b5 := clq hbk b5; replace c0 := clq hbk c0; replace c1 := clq hbk c1; replace c2 := clq hbk c2; replace c3 := clq hbk c3; replace c4 := clq hbk c4; replace c5 := clq hbk c5; replace d0 := clq hbk d0; replace d1 := clq hbk d1; replace d2 := clq hbk d2; replace d3 := clq hbk d3; replace d4 := clq hbk d4; replace d5 := clq hbk d5; replace x0 := clq hbk x0; replace x1 := clq hbk x1
  replace x2 := clq hbk x2; replace x3 := clq hbk x3; replace y0 := clq hbk y0; replace y1 := clq hbk y1; replace y2 := clq hbk y2; replace y3 := clq hbk y3; replace p0 := clq hbk p0; replace p1 := clq hbk p1; replace p2 := clq hbk p2; replace p3 := clq hbk p3; replace p4 := clq hbk p4; replace p5 := clq hbk p5; replace r0 := clq hbk r0; replace r1 := clq hbk r1; replace r2 := clq hbk r2; replace r3 := clq hbk r3
  replace r4 := clq hbk r4; replace r5 := clq hbk r5
  replace HRA := hiq (HRA.out.below hbk)
  replace HRB := hiq (HRB.out.below hbk)
  replace HRC := hiq (HRC.out.below hbk)
  replace HRD := hiq (HRD.out.below hbk)
  replace HRX := hiq (HRX.out.below hbk)
  replace HNX := hiq (HNX.out.below rInt_ok hbk)
  replace HRY := hiq (HRY.out.below hbk)
  replace HNY := hiq (HNY.out.below rInt_ok hbk)
  replace HNU := hiq (HNU.out.below rInt_ok hbk)
  replace HNV := hiq (HNV.out.below rInt_ok hbk)
  replace HRP := hiq (HRP.out.below hbk)
  replace HRR := hiq (HRR.out.below hbk)
  replace hb := hb.trans (hbk.mono hb.size)
  clear hbk HQ
  go_wp2
  go_ret
  exact ⟨rfl, hb⟩
end Go.Proofs.YtfdipkhbemgojaaGreatDoor
