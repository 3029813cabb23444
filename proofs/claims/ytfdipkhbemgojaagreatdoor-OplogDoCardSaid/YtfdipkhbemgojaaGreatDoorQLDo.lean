/- The law OplogDo (printed by gen_olaws.py). -/
import Derived.Test.YtfdipkhbemgojaaGreatDoorP38
set_option linter.unusedVariables false
set_option linter.unusedSimpArgs false
set_option maxRecDepth 100000
set_option maxHeartbeats 16000000
namespace Go.Proofs.YtfdipkhbemgojaaGreatDoor
open Go.RowKit

theorem do_facts {l : Lg} {o : Op} (h1 : l.err = 0) (h2 : l.ops.length <= 8) (h3 : opErr l.run.st o = 0) :
    l.did o = (⟨l.start, l.ops ++ [o], l.und ++ [false]⟩, 0) /\ (⟨l.start, l.ops ++ [o], l.und ++ [false]⟩ : Lg).state = (opApply l.run.st o, 0) /\
      (⟨l.start, l.ops ++ [o], l.und ++ [false]⟩ : Lg).turn (l.ops.length : Int) true = ((⟨l.start, l.ops ++ [o], l.und ++ [false]⟩ : Lg).set l.ops.length true, 0) /\
      ((⟨l.start, l.ops ++ [o], l.und ++ [false]⟩ : Lg).set l.ops.length true).state = (l.run.st, 0) := by
  have hd := did_valid (l := l) (o := o) h1 (by omega) h3
  have hu := undid_run (l := l) (o := o) h1 (by omega)
  have hlen := (err_zero.1 h1).1.2.1
  refine ⟨did_4 h1 (by omega) h3, ?_, ?_, ?_⟩
  · rw [state_ok hd.1, hd.2]
  · have hi : (⟨l.start, l.ops ++ [o], l.und ++ [false]⟩ : Lg).idx ((l.ops.length : Nat) : Int) = 0 := idx_zero.2 ⟨hd.1, by omega, by simp; omega⟩
    have hk : unK (l.und ++ [false]) l.ops.length ≠ true := by
      unfold unK; rw [hlen, List.getElem?_append_right (Nat.le_refl _)]; simp
    rw [turn_changed hi hk]
    unfold Lg.changed
    rw [if_neg (by simp [hu.1])]
  · rw [state_ok hu.1, hu.2]
theorem do_law (S : Nat -> Prop) (v : LV) (l : Lg) (o : Op) (w : World) (h : RdL S w v l) (hE : Env w) (ho : o.ok) : Calls Tryz.prog 4 #[v.val, o.val] w fun e w' => e = .returned (.bool true) /\ Below w.heap.size w w' := by
  have HF : Hid (∀ W, Below w.heap.size w W -> Calls Tryz.prog 24 #[v.val] W (BPost true (SmG l /\ l.ops.length <= 8 /\ l.err = 0) W)) := fun W hb => fineL_any S v l W (h.below hb) (hE.below hb)
  have HAW : Hid (∀ W, Below w.heap.size w W -> Calls Tryz.prog 13 #[] W fun e w' => e = .returned (.bool true) /\ Below W.heap.size W w') := fun W hb => awake_any W (hE.below hb)
  have HSM : Hid (∀ u v x W, RC W u x -> RC W v x -> Calls Tryz.prog 23 #[u.val, v.val] W fun e w' => e = .returned (.bool true) /\ Below W.heap.size W w') := fun u v x W h k => sameC_yes h k
  have HST : Hid (SmG l -> l.err = 0 -> ∀ W, Below w.heap.size w W -> Calls Tryz.prog 18 #[v.val] W (ColP l.run.st 0 W)) := fun a b W hb => by
    have := (state_any _ v l W (h.below hb) a.sml (hE.below hb)).mono (fun e w' h => h.p)
    rw [state_ok b] at this; exact this
  have HDO : Hid (SmG l -> o.text.size <= 80 -> ∀ W, Below w.heap.size w W -> Calls Tryz.prog 16 #[v.val, o.val] W (LogP (l.did o).1 (l.did o).2 W)) := fun a b W hb => (did_any _ v l o W (h.below hb) a.sml (hE.below hb) ho (by omega)).mono (fun e w' h => h.p)
  have HCK : Hid (SmG l -> o.text.size <= 80 -> ∀ u W, Below w.heap.size w W -> RC W u l.run.st -> Calls Tryz.prog 25 #[u.val, o.val] W fun e w' => e = .returned (.int .i64 (opErr l.run.st o)) /\ Below W.heap.size W w') := fun a b u W hb hu => echeck_any _ u _ o W hu (run_sml a.sml) (hE.below hb) ho (by omega)
  have HAP : Hid (SmG l -> o.text.size <= 80 -> ∀ u W, Below w.heap.size w W -> RC W u l.run.st -> Calls Tryz.prog 26 #[u.val, o.val] W (ColP (opApply l.run.st o) (opErr l.run.st o) W)) := fun a b u W hb hu => (edit_any _ u _ o W hu (run_sml a.sml) (hE.below hb) ho (by omega)).mono (fun e w' h => h.p)
  have HSB : Hid (∀ m : Lg, SmL m -> ∀ u W, Below w.heap.size w W -> RL W u m -> Calls Tryz.prog 18 #[u.val] W (ColP m.state.1 m.state.2 W)) := fun m hm u W hb hu => (state_any _ u m W hu hm (hE.below hb)).mono (fun e w' h => h.p)
  have HUN : Hid (∀ m : Lg, SmL m -> ∀ i u W, Below w.heap.size w W -> RL W u m -> Calls Tryz.prog 27 #[u.val, .int .i64 i] W (LogP (m.turn i true).1 (m.turn i true).2 W)) := fun m hm i u W hb hu => (undo_any _ u m i W hu hm (hE.below hb)).mono (fun e w' h => h.p)
  have HFA : Hid (l.err = 0 -> l.ops.length <= 8 -> opErr l.run.st o = 0 -> l.did o = (⟨l.start, l.ops ++ [o], l.und ++ [false]⟩, 0) /\ (⟨l.start, l.ops ++ [o], l.und ++ [false]⟩ : Lg).state = (opApply l.run.st o, 0) /\ (⟨l.start, l.ops ++ [o], l.und ++ [false]⟩ : Lg).turn (v.on : Int) true = ((⟨l.start, l.ops ++ [o], l.und ++ [false]⟩ : Lg).set l.ops.length true, 0) /\ ((⟨l.start, l.ops ++ [o], l.und ++ [false]⟩ : Lg).set l.ops.length true).state = (l.run.st, 0)) := by rw [h.2.1.len]; exact do_facts
  have HFB : Hid (l.err = 0 -> l.ops.length <= 8 -> opErr l.run.st o ≠ 0 -> l.did o = (Lg.none, opErr l.run.st o)) := fun a b c => did_3 a (by omega) c
  have HMS : Hid (SmG l -> o.text.size <= 80 -> SmL ⟨l.start, l.ops ++ [o], l.und ++ [false]⟩ /\ SmL ((⟨l.start, l.ops ++ [o], l.und ++ [false]⟩ : Lg).set l.ops.length true)) := fun a b => by
    have q : SmL ⟨l.start, l.ops ++ [o], l.und ++ [false]⟩ := ⟨a.sml.1, fun p hp => by
      rcases List.mem_append.1 hp with q | q
      · exact a.sml.2 p q
      · simp at q; subst q; omega⟩
    exact ⟨q, sml_set q⟩
  generalize (⟨l.start, l.ops ++ [o], l.und ++ [false]⟩ : Lg) = MM at *
  generalize l.did o = DD at *
  generalize MM.set l.ops.length true = NN at *
  generalize opErr l.run.st o = OE at *
  generalize opApply l.run.st o = OY at *
  generalize l.run.st = LR at *
  generalize SmG l = PG at *
  generalize (l.ops.length <= 8) = PL at *
  generalize l.err = LE at *
  clear h hE ho
  obtain ⟨⟨sec, sa, sn, sc, ta, tn, tc, ca, cn, cc⟩, oa, on, oc, ua, un, uc⟩ := v
  obtain ⟨ok, og, ot, oo, ox⟩ := o
  obtain ⟨W0, rfl, hb, hs0, gX, gO⟩ := box2r w #[.string sec, .slice sa sn sc, .slice ta tn tc, .slice ca cn cc, .slice oa on oc, .slice ua un uc] #[.int .i64 ok, .string og, .int .i64 ot, .int .i64 oo, .string ox] 30 32
  obtain ⟨l0, l1, l2, l3, l4, l5⟩ := box_cells6 gX
  obtain ⟨o0, o1, o2, o3, o4⟩ := box_cells5 gO
  clear gX gO hs0
  dsimp only at HDO HCK HAP HMS HFA
  change Calls _ _ #[.agg #[.string sec, .slice sa sn sc, .slice ta tn tc, .slice ca cn cc, .slice oa on oc, .slice ua un uc], .agg #[.int .i64 ok, .string og, .int .i64 ot, .int .i64 oo, .string ox]] _ _
  go_enter Tryz.func4, Tryz.ntmps4
  have HQ := hiq (HF.out _ hb)
  change Hid (Calls _ _ #[.agg #[.string sec, .slice sa sn sc, .slice ta tn tc, .slice ca cn cc, .slice oa on oc, .slice ua un uc]] _ _) at HQ
  go_wp2_with fail
  generalize (w.alloc (.cells #[.string sec, .slice sa sn sc, .slice ta tn tc, .slice ca cn cc, .slice oa on oc, .slice ua un uc] 30)).alloc (.cells #[.int .i64 ok, .string og, .int .i64 ot, .int .i64 oo, .string ox] 32) = W1 at *
  refine HQ.out.mono ?_
  rintro e W2 ⟨g, rfl, hbk, hpg⟩
  replace l0 := clq hbk l0; replace l1 := clq hbk l1; replace l2 := clq hbk l2; replace l3 := clq hbk l3; replace l4 := clq hbk l4; replace l5 := clq hbk l5; replace o0 := clq hbk o0; replace o1 := clq hbk o1; replace o2 := clq hbk o2; replace o3 := clq hbk o3; replace o4 := clq hbk o4
  replace hb := hb.trans (hbk.mono hb.size)
  clear hbk HQ
  cases g with
  | false =>
    have HQ := hiq (HAW.out _ hb)
    go_wp2_with fail
    refine HQ.out.mono ?_
    rintro e W3 ⟨rfl, hbk⟩
    replace l0 := clq hbk l0; replace l1 := clq hbk l1; replace l2 := clq hbk l2; replace l3 := clq hbk l3; replace l4 := clq hbk l4; replace l5 := clq hbk l5; replace o0 := clq hbk o0; replace o1 := clq hbk o1; replace o2 := clq hbk o2; replace o3 := clq hbk o3; replace o4 := clq hbk o4
    replace hb := hb.trans (hbk.mono hb.size)
    clear hbk HQ
    go_wp2
    go_ret
    exact ⟨rfl, hb⟩
  | true =>
    obtain ⟨hp1, hp2, hp3⟩ := hpg rfl
    have HP := hiq (And.intro hp1 (And.intro hp2 hp3))
    clear hp1 hp2 hp3 hpg
    by_cases x1 : 80 < ox.size
    · have HQ := hiq (HAW.out _ hb)
      go_wp2_with fail
      refine HQ.out.mono ?_
      rintro e W3 ⟨rfl, hbk⟩
      replace l0 := clq hbk l0; replace l1 := clq hbk l1; replace l2 := clq hbk l2; replace l3 := clq hbk l3; replace l4 := clq hbk l4; replace l5 := clq hbk l5; replace o0 := clq hbk o0; replace o1 := clq hbk o1; replace o2 := clq hbk o2; replace o3 := clq hbk o3; replace o4 := clq hbk o4
      replace hb := hb.trans (hbk.mono hb.size)
      clear hbk HQ
      go_wp2
      go_ret
      exact ⟨rfl, hb⟩
    · by_cases x2 : 20 < og.size
      · have HQ := hiq (HAW.out _ hb)
        go_wp2_with fail
        refine HQ.out.mono ?_
        rintro e W3 ⟨rfl, hbk⟩
        replace l0 := clq hbk l0; replace l1 := clq hbk l1; replace l2 := clq hbk l2; replace l3 := clq hbk l3; replace l4 := clq hbk l4; replace l5 := clq hbk l5; replace o0 := clq hbk o0; replace o1 := clq hbk o1; replace o2 := clq hbk o2; replace o3 := clq hbk o3; replace o4 := clq hbk o4
        replace hb := hb.trans (hbk.mono hb.size)
        clear hbk HQ
        go_wp2
        go_ret
        exact ⟨rfl, hb⟩
      · have hx80 : ox.size <= 80 := by omega
        have HX80 := hiq hx80
        clear hx80
        have HQ := hiq (HST.out HP.out.1 HP.out.2.2 _ hb)
        change Hid (Calls _ _ #[.agg #[.string sec, .slice sa sn sc, .slice ta tn tc, .slice ca cn cc, .slice oa on oc, .slice ua un uc]] _ _) at HQ
        go_wp2_with fail
        refine HQ.out.mono ?_
        rintro e W3 ⟨v, he, hR, hbk⟩
        obtain ⟨secX, saX, snX, scX, taX, tnX, tcX, caX, cnX, ccX⟩ := v
        change e = .returned (.tuple #[.agg #[.string secX, .slice saX snX scX, .slice taX tnX tcX, .slice caX cnX ccX], .int .i64 0]) at he
        subst he
        have hal : Below W3.heap.size W3 (W3.alloc (.cells #[.string secX, .slice saX snX scX, .slice taX tnX tcX, .slice caX cnX ccX] 26)) := (Below.refl _ _).alloc (Nat.le_refl _) _
        have hst := hbk.trans (hal.mono hbk.size)
        obtain ⟨x0, x1, x2, x3, -⟩ := box_cells4 (World.alloc_heap_new W3 (.cells #[.string secX, .slice saX snX scX, .slice taX tnX tcX, .slice caX cnX ccX] 26))
        replace l0 := clq hst l0; replace l1 := clq hst l1; replace l2 := clq hst l2; replace l3 := clq hst l3; replace l4 := clq hst l4; replace l5 := clq hst l5; replace o0 := clq hst o0; replace o1 := clq hst o1; replace o2 := clq hst o2; replace o3 := clq hst o3; replace o4 := clq hst o4
        have HRX := hiq (hR.below hal)
        replace hb := hb.trans (hst.mono hb.size)
        clear hR hbk hal hst HQ
        obtain ⟨DL, DE⟩ := DD
        dsimp only at HDO
        have HQ := hiq (HDO.out HP.out.1 HX80.out _ hb)
        change Hid (Calls _ _ #[.agg #[.string sec, .slice sa sn sc, .slice ta tn tc, .slice ca cn cc, .slice oa on oc, .slice ua un uc], .agg #[.int .i64 ok, .string og, .int .i64 ot, .int .i64 oo, .string ox]] _ _) at HQ
        go_wp2_with fail
        generalize W3.alloc (.cells #[.string secX, .slice saX snX scX, .slice taX tnX tcX, .slice caX cnX ccX] 26) = W4 at *
        refine HQ.out.mono ?_
        rintro e W5 ⟨v, he, hR, hbk⟩
        obtain ⟨⟨secM, saM, snM, scM, taM, tnM, tcM, caM, cnM, ccM⟩, oaM, onM, ocM, uaM, unM, ucM⟩ := v
        change e = .returned (.tuple #[.agg #[.string secM, .slice saM snM scM, .slice taM tnM tcM, .slice caM cnM ccM, .slice oaM onM ocM, .slice uaM unM ucM], .int .i64 DE]) at he
        subst he
        have hal : Below W5.heap.size W5 (W5.alloc (.cells #[.string secM, .slice saM snM scM, .slice taM tnM tcM, .slice caM cnM ccM, .slice oaM onM ocM, .slice uaM unM ucM] 30)) := (Below.refl _ _).alloc (Nat.le_refl _) _
        have hst := hbk.trans (hal.mono hbk.size)
        obtain ⟨m0, m1, m2, m3, m4, m5⟩ := box_cells6 (World.alloc_heap_new W5 (.cells #[.string secM, .slice saM snM scM, .slice taM tnM tcM, .slice caM cnM ccM, .slice oaM onM ocM, .slice uaM unM ucM] 30))
        replace l0 := clq hst l0; replace l1 := clq hst l1; replace l2 := clq hst l2; replace l3 := clq hst l3; replace l4 := clq hst l4; replace l5 := clq hst l5; replace o0 := clq hst o0; replace o1 := clq hst o1; replace o2 := clq hst o2; replace o3 := clq hst o3; replace o4 := clq hst o4; replace x0 := clq hst x0; replace x1 := clq hst x1; replace x2 := clq hst x2; replace x3 := clq hst x3
        replace HRX := hiq (HRX.out.below hst)
        have HRM := hiq (hR.below hal)
        replace hb := hb.trans (hst.mono hb.size)
        clear hR hbk hal hst HQ
        by_cases e0 : OE = 0
        · obtain ⟨q1, q2, q3, q4⟩ := HFA.out HP.out.2.2 HP.out.2.1 e0
          cases q1
          have HMM := hiq (HMS.out HP.out.1 HX80.out).1
          have HNN := hiq (HMS.out HP.out.1 HX80.out).2
          subst e0
          clear HFB HFA
          have HQ := hiq (HCK.out HP.out.1 HX80.out ⟨secX, saX, snX, scX, taX, tnX, tcX, caX, cnX, ccX⟩ _ hb HRX.out)
          change Hid (Calls _ _ #[.agg #[.string secX, .slice saX snX scX, .slice taX tnX tcX, .slice caX cnX ccX], .agg #[.int .i64 ok, .string og, .int .i64 ot, .int .i64 oo, .string ox]] _ _) at HQ
          go_wp2_with fail
          generalize W5.alloc (.cells #[.string secM, .slice saM snM scM, .slice taM tnM tcM, .slice caM cnM ccM, .slice oaM onM ocM, .slice uaM unM ucM] 30) = W6 at *
          refine HQ.out.mono ?_
          rintro e W7 ⟨rfl, hbk⟩
          replace l0 := clq hbk l0; replace l1 := clq hbk l1; replace l2 := clq hbk l2; replace l3 := clq hbk l3; replace l4 := clq hbk l4; replace l5 := clq hbk l5; replace o0 := clq hbk o0; replace o1 := clq hbk o1; replace o2 := clq hbk o2; replace o3 := clq hbk o3; replace o4 := clq hbk o4; replace x0 := clq hbk x0; replace x1 := clq hbk x1; replace x2 := clq hbk x2; replace x3 := clq hbk x3; replace m0 := clq hbk m0
          replace m1 := clq hbk m1; replace m2 := clq hbk m2; replace m3 := clq hbk m3; replace m4 := clq hbk m4; replace m5 := clq hbk m5
          replace HRX := hiq (HRX.out.below hbk)
          replace HRM := hiq (HRM.out.below hbk)
          replace hb := hb.trans (hbk.mono hb.size)
          clear hbk HQ
          have HSBM := hiq (HSB.out _ HMM.out)
          rw [q2] at HSBM
          have HQ := hiq (HSBM.out ⟨⟨secM, saM, snM, scM, taM, tnM, tcM, caM, cnM, ccM⟩, oaM, onM, ocM, uaM, unM, ucM⟩ _ hb HRM.out)
          change Hid (Calls _ _ #[.agg #[.string secM, .slice saM snM scM, .slice taM tnM tcM, .slice caM cnM ccM, .slice oaM onM ocM, .slice uaM unM ucM]] _ _) at HQ
          go_wp2_with fail
          refine HQ.out.mono ?_
          rintro e W8 ⟨v, he, hR, hbk⟩
          obtain ⟨secY, saY, snY, scY, taY, tnY, tcY, caY, cnY, ccY⟩ := v
          change e = .returned (.tuple #[.agg #[.string secY, .slice saY snY scY, .slice taY tnY tcY, .slice caY cnY ccY], .int .i64 0]) at he
          subst he
          have hal : Below W8.heap.size W8 (W8.alloc (.cells #[.string secY, .slice saY snY scY, .slice taY tnY tcY, .slice caY cnY ccY] 26)) := (Below.refl _ _).alloc (Nat.le_refl _) _
          have hst := hbk.trans (hal.mono hbk.size)
          obtain ⟨y0, y1, y2, y3, -⟩ := box_cells4 (World.alloc_heap_new W8 (.cells #[.string secY, .slice saY snY scY, .slice taY tnY tcY, .slice caY cnY ccY] 26))
          replace l0 := clq hst l0; replace l1 := clq hst l1; replace l2 := clq hst l2; replace l3 := clq hst l3; replace l4 := clq hst l4; replace l5 := clq hst l5; replace o0 := clq hst o0; replace o1 := clq hst o1; replace o2 := clq hst o2; replace o3 := clq hst o3; replace o4 := clq hst o4; replace x0 := clq hst x0; replace x1 := clq hst x1; replace x2 := clq hst x2; replace x3 := clq hst x3; replace m0 := clq hst m0
          replace m1 := clq hst m1; replace m2 := clq hst m2; replace m3 := clq hst m3; replace m4 := clq hst m4; replace m5 := clq hst m5
          replace HRX := hiq (HRX.out.below hst)
          replace HRM := hiq (HRM.out.below hst)
          have HRY := hiq (hR.below hal)
          replace hb := hb.trans (hst.mono hb.size)
          clear hR hbk hal hst HQ
          have HQ := hiq (HAP.out HP.out.1 HX80.out ⟨secX, saX, snX, scX, taX, tnX, tcX, caX, cnX, ccX⟩ _ hb HRX.out)
          change Hid (Calls _ _ #[.agg #[.string secX, .slice saX snX scX, .slice taX tnX tcX, .slice caX cnX ccX], .agg #[.int .i64 ok, .string og, .int .i64 ot, .int .i64 oo, .string ox]] _ _) at HQ
          go_wp2_with fail
          generalize W8.alloc (.cells #[.string secY, .slice saY snY scY, .slice taY tnY tcY, .slice caY cnY ccY] 26) = W9 at *
          refine HQ.out.mono ?_
          rintro e W10 ⟨v, he, hR, hbk⟩
          obtain ⟨secZ, saZ, snZ, scZ, taZ, tnZ, tcZ, caZ, cnZ, ccZ⟩ := v
          change e = .returned (.tuple #[.agg #[.string secZ, .slice saZ snZ scZ, .slice taZ tnZ tcZ, .slice caZ cnZ ccZ], .int .i64 0]) at he
          subst he
          have hal : Below W10.heap.size W10 (W10.alloc (.cells #[.string secZ, .slice saZ snZ scZ, .slice taZ tnZ tcZ, .slice caZ cnZ ccZ] 26)) := (Below.refl _ _).alloc (Nat.le_refl _) _
          have hst := hbk.trans (hal.mono hbk.size)
          obtain ⟨z0, z1, z2, z3, -⟩ := box_cells4 (World.alloc_heap_new W10 (.cells #[.string secZ, .slice saZ snZ scZ, .slice taZ tnZ tcZ, .slice caZ cnZ ccZ] 26))
          replace l0 := clq hst l0; replace l1 := clq hst l1; replace l2 := clq hst l2; replace l3 := clq hst l3; replace l4 := clq hst l4; replace l5 := clq hst l5; replace o0 := clq hst o0; replace o1 := clq hst o1; replace o2 := clq hst o2; replace o3 := clq hst o3; replace o4 := clq hst o4; replace x0 := clq hst x0; replace x1 := clq hst x1; replace x2 := clq hst x2; replace x3 := clq hst x3; replace m0 := clq hst m0
          replace m1 := clq hst m1; replace m2 := clq hst m2; replace m3 := clq hst m3; replace m4 := clq hst m4; replace m5 := clq hst m5; replace y0 := clq hst y0; replace y1 := clq hst y1; replace y2 := clq hst y2; replace y3 := clq hst y3
          replace HRX := hiq (HRX.out.below hst)
          replace HRM := hiq (HRM.out.below hst)
          replace HRY := hiq (HRY.out.below hst)
          have HRZ := hiq (hR.below hal)
          replace hb := hb.trans (hst.mono hb.size)
          clear hR hbk hal hst HQ
          have HUNM := hiq (HUN.out _ HMM.out (on : Int))
          rw [q3] at HUNM
          have HQ := hiq (HUNM.out ⟨⟨secM, saM, snM, scM, taM, tnM, tcM, caM, cnM, ccM⟩, oaM, onM, ocM, uaM, unM, ucM⟩ _ hb HRM.out)
          change Hid (Calls _ _ #[.agg #[.string secM, .slice saM snM scM, .slice taM tnM tcM, .slice caM cnM ccM, .slice oaM onM ocM, .slice uaM unM ucM], _] _ _) at HQ
          go_wp2_with fail
          generalize W10.alloc (.cells #[.string secZ, .slice saZ snZ scZ, .slice taZ tnZ tcZ, .slice caZ cnZ ccZ] 26) = W11 at *
          refine HQ.out.mono ?_
          rintro e W12 ⟨v, he, hR, hbk⟩
          obtain ⟨⟨secN, saN, snN, scN, taN, tnN, tcN, caN, cnN, ccN⟩, oaN, onN, ocN, uaN, unN, ucN⟩ := v
          change e = .returned (.tuple #[.agg #[.string secN, .slice saN snN scN, .slice taN tnN tcN, .slice caN cnN ccN, .slice oaN onN ocN, .slice uaN unN ucN], .int .i64 0]) at he
          subst he
          have hal : Below W12.heap.size W12 (W12.alloc (.cells #[.string secN, .slice saN snN scN, .slice taN tnN tcN, .slice caN cnN ccN, .slice oaN onN ocN, .slice uaN unN ucN] 30)) := (Below.refl _ _).alloc (Nat.le_refl _) _
          have hst := hbk.trans (hal.mono hbk.size)
          obtain ⟨n0, n1, n2, n3, n4, n5⟩ := box_cells6 (World.alloc_heap_new W12 (.cells #[.string secN, .slice saN snN scN, .slice taN tnN tcN, .slice caN cnN ccN, .slice oaN onN ocN, .slice uaN unN ucN] 30))
          replace l0 := clq hst l0; replace l1 := clq hst l1; replace l2 := clq hst l2; replace l3 := clq hst l3; replace l4 := clq hst l4; replace l5 := clq hst l5; replace o0 := clq hst o0; replace o1 := clq hst o1; replace o2 := clq hst o2; replace o3 := clq hst o3; replace o4 := clq hst o4; replace x0 := clq hst x0; replace x1 := clq hst x1; replace x2 := clq hst x2; replace x3 := clq hst x3; replace m0 := clq hst m0
          replace m1 := clq hst m1; replace m2 := clq hst m2; replace m3 := clq hst m3; replace m4 := clq hst m4; replace m5 := clq hst m5; replace y0 := clq hst y0; replace y1 := clq hst y1; replace y2 := clq hst y2; replace y3 := clq hst y3; replace z0 := clq hst z0; replace z1 := clq hst z1; replace z2 := clq hst z2; replace z3 := clq hst z3
          replace HRX := hiq (HRX.out.below hst)
          replace HRM := hiq (HRM.out.below hst)
          replace HRY := hiq (HRY.out.below hst)
          replace HRZ := hiq (HRZ.out.below hst)
          have HRN := hiq (hR.below hal)
          replace hb := hb.trans (hst.mono hb.size)
          clear hR hbk hal hst HQ
          have HSBN := hiq (HSB.out _ HNN.out)
          rw [q4] at HSBN
          have HQ := hiq (HSBN.out ⟨⟨secN, saN, snN, scN, taN, tnN, tcN, caN, cnN, ccN⟩, oaN, onN, ocN, uaN, unN, ucN⟩ _ hb HRN.out)
          change Hid (Calls _ _ #[.agg #[.string secN, .slice saN snN scN, .slice taN tnN tcN, .slice caN cnN ccN, .slice oaN onN ocN, .slice uaN unN ucN]] _ _) at HQ
          go_wp2_with fail
          generalize W12.alloc (.cells #[.string secN, .slice saN snN scN, .slice taN tnN tcN, .slice caN cnN ccN, .slice oaN onN ocN, .slice uaN unN ucN] 30) = W13 at *
          refine HQ.out.mono ?_
          rintro e W14 ⟨v, he, hR, hbk⟩
          obtain ⟨secV, saV, snV, scV, taV, tnV, tcV, caV, cnV, ccV⟩ := v
          change e = .returned (.tuple #[.agg #[.string secV, .slice saV snV scV, .slice taV tnV tcV, .slice caV cnV ccV], .int .i64 0]) at he
          subst he
          have hal : Below W14.heap.size W14 (W14.alloc (.cells #[.string secV, .slice saV snV scV, .slice taV tnV tcV, .slice caV cnV ccV] 26)) := (Below.refl _ _).alloc (Nat.le_refl _) _
          have hst := hbk.trans (hal.mono hbk.size)
          obtain ⟨v0, v1, v2, v3, -⟩ := box_cells4 (World.alloc_heap_new W14 (.cells #[.string secV, .slice saV snV scV, .slice taV tnV tcV, .slice caV cnV ccV] 26))
          replace l0 := clq hst l0; replace l1 := clq hst l1; replace l2 := clq hst l2; replace l3 := clq hst l3; replace l4 := clq hst l4; replace l5 := clq hst l5; replace o0 := clq hst o0; replace o1 := clq hst o1; replace o2 := clq hst o2; replace o3 := clq hst o3; replace o4 := clq hst o4; replace x0 := clq hst x0; replace x1 := clq hst x1; replace x2 := clq hst x2; replace x3 := clq hst x3; replace m0 := clq hst m0
          replace m1 := clq hst m1; replace m2 := clq hst m2; replace m3 := clq hst m3; replace m4 := clq hst m4; replace m5 := clq hst m5; replace y0 := clq hst y0; replace y1 := clq hst y1; replace y2 := clq hst y2; replace y3 := clq hst y3; replace z0 := clq hst z0; replace z1 := clq hst z1; replace z2 := clq hst z2; replace z3 := clq hst z3; replace n0 := clq hst n0; replace n1 := clq hst n1; replace n2 := clq hst n2
          replace n3 := clq hst n3; replace n4 := clq hst n4; replace n5 := clq hst n5
          replace HRX := hiq (HRX.out.below hst)
          replace HRM := hiq (HRM.out.below hst)
          replace HRY := hiq (HRY.out.below hst)
          replace HRZ := hiq (HRZ.out.below hst)
          replace HRN := hiq (HRN.out.below hst)
          have HRV := hiq (hR.below hal)
          replace hb := hb.trans (hst.mono hb.size)
          clear hR hbk hal hst HQ
          have HQ := hiq (HSM.out ⟨secY, saY, snY, scY, taY, tnY, tcY, caY, cnY, ccY⟩ ⟨secZ, saZ, snZ, scZ, taZ, tnZ, tcZ, caZ, cnZ, ccZ⟩ _ _ HRY.out HRZ.out)
          change Hid (Calls _ _ #[.agg #[.string secY, .slice saY snY scY, .slice taY tnY tcY, .slice caY cnY ccY], .agg #[.string secZ, .slice saZ snZ scZ, .slice taZ tnZ tcZ, .slice caZ cnZ ccZ]] _ _) at HQ
          go_wp2_with fail
          generalize W14.alloc (.cells #[.string secV, .slice saV snV scV, .slice taV tnV tcV, .slice caV cnV ccV] 26) = W15 at *
          refine HQ.out.mono ?_
          rintro e W16 ⟨rfl, hbk⟩
          replace l0 := clq hbk l0; replace l1 := clq hbk l1; replace l2 := clq hbk l2; replace l3 := clq hbk l3; replace l4 := clq hbk l4; replace l5 := clq hbk l5; replace o0 := clq hbk o0; replace o1 := clq hbk o1; replace o2 := clq hbk o2; replace o3 := clq hbk o3; replace o4 := clq hbk o4; replace x0 := clq hbk x0; replace x1 := clq hbk x1; replace x2 := clq hbk x2; replace x3 := clq hbk x3; replace m0 := clq hbk m0
          replace m1 := clq hbk m1; replace m2 := clq hbk m2; replace m3 := clq hbk m3; replace m4 := clq hbk m4; replace m5 := clq hbk m5; replace y0 := clq hbk y0; replace y1 := clq hbk y1; replace y2 := clq hbk y2; replace y3 := clq hbk y3; replace z0 := clq hbk z0; replace z1 := clq hbk z1; replace z2 := clq hbk z2; replace z3 := clq hbk z3; replace n0 := clq hbk n0; replace n1 := clq hbk n1; replace n2 := clq hbk n2
          replace n3 := clq hbk n3; replace n4 := clq hbk n4; replace n5 := clq hbk n5; replace v0 := clq hbk v0; replace v1 := clq hbk v1; replace v2 := clq hbk v2; replace v3 := clq hbk v3
          replace HRX := hiq (HRX.out.below hbk)
          replace HRM := hiq (HRM.out.below hbk)
          replace HRY := hiq (HRY.out.below hbk)
          replace HRZ := hiq (HRZ.out.below hbk)
          replace HRN := hiq (HRN.out.below hbk)
          replace HRV := hiq (HRV.out.below hbk)
          replace hb := hb.trans (hbk.mono hb.size)
          clear hbk HQ
          have HQ := hiq (HSM.out ⟨secV, saV, snV, scV, taV, tnV, tcV, caV, cnV, ccV⟩ ⟨secX, saX, snX, scX, taX, tnX, tcX, caX, cnX, ccX⟩ _ _ HRV.out HRX.out)
          change Hid (Calls _ _ #[.agg #[.string secV, .slice saV snV scV, .slice taV tnV tcV, .slice caV cnV ccV], .agg #[.string secX, .slice saX snX scX, .slice taX tnX tcX, .slice caX cnX ccX]] _ _) at HQ
          go_wp2_with fail
          refine HQ.out.mono ?_
          rintro e W17 ⟨rfl, hbk⟩
          replace l0 := clq hbk l0; replace l1 := clq hbk l1; replace l2 := clq hbk l2; replace l3 := clq hbk l3; replace l4 := clq hbk l4; replace l5 := clq hbk l5; replace o0 := clq hbk o0; replace o1 := clq hbk o1; replace o2 := clq hbk o2; replace o3 := clq hbk o3; replace o4 := clq hbk o4; replace x0 := clq hbk x0; replace x1 := clq hbk x1; replace x2 := clq hbk x2; replace x3 := clq hbk x3; replace m0 := clq hbk m0
          replace m1 := clq hbk m1; replace m2 := clq hbk m2; replace m3 := clq hbk m3; replace m4 := clq hbk m4; replace m5 := clq hbk m5; replace y0 := clq hbk y0; replace y1 := clq hbk y1; replace y2 := clq hbk y2; replace y3 := clq hbk y3; replace z0 := clq hbk z0; replace z1 := clq hbk z1; replace z2 := clq hbk z2; replace z3 := clq hbk z3; replace n0 := clq hbk n0; replace n1 := clq hbk n1; replace n2 := clq hbk n2
          replace n3 := clq hbk n3; replace n4 := clq hbk n4; replace n5 := clq hbk n5; replace v0 := clq hbk v0; replace v1 := clq hbk v1; replace v2 := clq hbk v2; replace v3 := clq hbk v3
          replace HRX := hiq (HRX.out.below hbk)
          replace HRM := hiq (HRM.out.below hbk)
          replace HRY := hiq (HRY.out.below hbk)
          replace HRZ := hiq (HRZ.out.below hbk)
          replace HRN := hiq (HRN.out.below hbk)
          replace HRV := hiq (HRV.out.below hbk)
          replace hb := hb.trans (hbk.mono hb.size)
          clear hbk HQ
          have HQ := hiq (HAW.out _ hb)
          go_wp2_with fail
          refine HQ.out.mono ?_
          rintro e W18 ⟨rfl, hbk⟩
          replace l0 := clq hbk l0; replace l1 := clq hbk l1; replace l2 := clq hbk l2; replace l3 := clq hbk l3; replace l4 := clq hbk l4; replace l5 := clq hbk l5; replace o0 := clq hbk o0; replace o1 := clq hbk o1; replace o2 := clq hbk o2; replace o3 := clq hbk o3; replace o4 := clq hbk o4; replace x0 := clq hbk x0; replace x1 := clq hbk x1; replace x2 := clq hbk x2; replace x3 := clq hbk x3; replace m0 := clq hbk m0
          replace m1 := clq hbk m1; replace m2 := clq hbk m2; replace m3 := clq hbk m3; replace m4 := clq hbk m4; replace m5 := clq hbk m5; replace y0 := clq hbk y0; replace y1 := clq hbk y1; replace y2 := clq hbk y2; replace y3 := clq hbk y3; replace z0 := clq hbk z0; replace z1 := clq hbk z1; replace z2 := clq hbk z2; replace z3 := clq hbk z3; replace n0 := clq hbk n0; replace n1 := clq hbk n1; replace n2 := clq hbk n2
          replace n3 := clq hbk n3; replace n4 := clq hbk n4; replace n5 := clq hbk n5; replace v0 := clq hbk v0; replace v1 := clq hbk v1; replace v2 := clq hbk v2; replace v3 := clq hbk v3
          replace HRX := hiq (HRX.out.below hbk)
          replace HRM := hiq (HRM.out.below hbk)
          replace HRY := hiq (HRY.out.below hbk)
          replace HRZ := hiq (HRZ.out.below hbk)
          replace HRN := hiq (HRN.out.below hbk)
          replace HRV := hiq (HRV.out.below hbk)
          replace hb := hb.trans (hbk.mono hb.size)
          clear hbk HQ
          go_wp2
          go_ret
          exact ⟨rfl, hb⟩
        · have q1 := HFB.out HP.out.2.2 HP.out.2.1 e0
          cases q1
          have t3 : ((onM : Int) == 0) = true := by have : onM = 0 := HRM.out.2.1.len
                                                    simp [this]
          have t0 : ((OE : Int) != 0) = true := by simpa using e0
          clear HFB HFA
          have HQ := hiq (HCK.out HP.out.1 HX80.out ⟨secX, saX, snX, scX, taX, tnX, tcX, caX, cnX, ccX⟩ _ hb HRX.out)
          change Hid (Calls _ _ #[.agg #[.string secX, .slice saX snX scX, .slice taX tnX tcX, .slice caX cnX ccX], .agg #[.int .i64 ok, .string og, .int .i64 ot, .int .i64 oo, .string ox]] _ _) at HQ
          go_wp2_with fail
          generalize W5.alloc (.cells #[.string secM, .slice saM snM scM, .slice taM tnM tcM, .slice caM cnM ccM, .slice oaM onM ocM, .slice uaM unM ucM] 30) = W6 at *
          refine HQ.out.mono ?_
          rintro e W7 ⟨rfl, hbk⟩
          replace l0 := clq hbk l0; replace l1 := clq hbk l1; replace l2 := clq hbk l2; replace l3 := clq hbk l3; replace l4 := clq hbk l4; replace l5 := clq hbk l5; replace o0 := clq hbk o0; replace o1 := clq hbk o1; replace o2 := clq hbk o2; replace o3 := clq hbk o3; replace o4 := clq hbk o4; replace x0 := clq hbk x0; replace x1 := clq hbk x1; replace x2 := clq hbk x2; replace x3 := clq hbk x3; replace m0 := clq hbk m0
          replace m1 := clq hbk m1; replace m2 := clq hbk m2; replace m3 := clq hbk m3; replace m4 := clq hbk m4; replace m5 := clq hbk m5
          replace HRX := hiq (HRX.out.below hbk)
          replace HRM := hiq (HRM.out.below hbk)
          replace hb := hb.trans (hbk.mono hb.size)
          clear hbk HQ
          have HQ := hiq (HAW.out _ hb)
          go_wp2_with fail
          refine HQ.out.mono ?_
          rintro e W8 ⟨rfl, hbk⟩
          replace l0 := clq hbk l0; replace l1 := clq hbk l1; replace l2 := clq hbk l2; replace l3 := clq hbk l3; replace l4 := clq hbk l4; replace l5 := clq hbk l5; replace o0 := clq hbk o0; replace o1 := clq hbk o1; replace o2 := clq hbk o2; replace o3 := clq hbk o3; replace o4 := clq hbk o4; replace x0 := clq hbk x0; replace x1 := clq hbk x1; replace x2 := clq hbk x2; replace x3 := clq hbk x3; replace m0 := clq hbk m0
          replace m1 := clq hbk m1; replace m2 := clq hbk m2; replace m3 := clq hbk m3; replace m4 := clq hbk m4; replace m5 := clq hbk m5
          replace HRX := hiq (HRX.out.below hbk)
          replace HRM := hiq (HRM.out.below hbk)
          replace hb := hb.trans (hbk.mono hb.size)
          clear hbk HQ
          go_wp2
          go_ret
          exact ⟨rfl, hb⟩
end Go.Proofs.YtfdipkhbemgojaaGreatDoor
