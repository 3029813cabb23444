/- The law OplogSqueeze (printed by gen_olaws.py). -/
import Derived.Test.YtfdipkhbemgojaaGreatDoorP38
import Derived.Test.YtfdipkhbemgojaaGreatDoorP40
set_option linter.unusedVariables false
set_option linter.unusedSimpArgs false
set_option maxRecDepth 100000
set_option maxHeartbeats 16000000
namespace Go.Proofs.YtfdipkhbemgojaaGreatDoor
open Go.RowKit

theorem squeeze_law (S : Nat -> Prop) (v : LV) (l : Lg) (w : World) (h : RdL S w v l) (hE : Env w) : Calls Tryz.prog 6 #[v.val] w fun e w' => e = .returned (.bool true) /\ Below w.heap.size w w' := by
  have HF : Hid (∀ W, Below w.heap.size w W -> Calls Tryz.prog 24 #[v.val] W (BPost true (SmG l /\ l.ops.length <= 8 /\ l.err = 0) W)) := fun W hb => fineL_any S v l W (h.below hb) (hE.below hb)
  have HAW : Hid (∀ W, Below w.heap.size w W -> Calls Tryz.prog 13 #[] W fun e w' => e = .returned (.bool true) /\ Below W.heap.size W w') := fun W hb => awake_any W (hE.below hb)
  have HSM : Hid (∀ u v x W, RC W u x -> RC W v x -> Calls Tryz.prog 23 #[u.val, v.val] W fun e w' => e = .returned (.bool true) /\ Below W.heap.size W w') := fun u v x W h k => sameC_yes h k
  have HSL : Hid (∀ u v x W, RL W u x -> RL W v x -> Calls Tryz.prog 22 #[u.val, v.val] W fun e w' => e = .returned (.bool true) /\ Below W.heap.size W w') := fun u v x W h k => sameL_yes h k
  have HST : Hid (SmG l -> l.err = 0 -> ∀ W, Below w.heap.size w W -> Calls Tryz.prog 18 #[v.val] W (ColP l.run.st 0 W)) := fun a b W hb => by
    have := (state_any _ v l W (h.below hb) a.sml (hE.below hb)).mono (fun e w' h => h.p)
    rw [state_ok b] at this; exact this
  have HSQ : Hid (SmG l -> l.err = 0 -> ∀ W, Below w.heap.size w W -> Calls Tryz.prog 29 #[v.val] W (LogP l.squeeze.1 0 W)) := fun a b W hb => by
    have := (squeeze_any _ v l W (h.below hb) a.sml (hE.below hb)).mono (fun e w' h => h.p)
    rw [(squeeze_valid b).1] at this; exact this
  have hsm : SmG l -> l.err = 0 -> SmL l.squeeze.1 := fun a b => by
    unfold Lg.squeeze
    rw [if_neg (by simp [b])]
    exact ⟨a.sml.1, fun o ho => a.sml.2 o (keepN_mem _ (Nat.le_refl _) ho)⟩
  have HSB : Hid (SmG l -> l.err = 0 -> ∀ u W, Below w.heap.size w W -> RL W u l.squeeze.1 -> Calls Tryz.prog 18 #[u.val] W (ColP l.run.st 0 W)) := fun a b u W hb hu => by
    have := (state_any _ u _ W hu (hsm a b) (hE.below hb)).mono (fun e w' h => h.p)
    rw [state_ok (squeeze_valid b).2.1, (squeeze_valid b).2.2.1] at this; exact this
  have HSA : Hid (SmG l -> l.err = 0 -> ∀ u W, Below w.heap.size w W -> RL W u l.squeeze.1 -> Calls Tryz.prog 29 #[u.val] W (LogP l.squeeze.1 0 W)) := fun a b u W hb hu => by
    have := (squeeze_any _ u _ W hu (hsm a b) (hE.below hb)).mono (fun e w' h => h.p)
    rw [(squeeze_valid b).2.2.2.1, (squeeze_valid b).2.2.2.2.1] at this; exact this
  have HCN : Hid (l.err = 0 -> ∀ (T : Nat -> Prop) a n c W, Flgs T W a n c l.squeeze.1.und -> Calls Tryz.prog 30 #[.slice a n c, .bool true] W fun e w' => e = .returned (.bool false) /\ Below W.heap.size W w') := fun b T a n c W hf => by
    have := contains_flgs T a n c _ W hf
    rw [show l.squeeze.1.und.any id = false from List.any_eq_false.2 (fun x hx => by rw [(squeeze_valid b).2.2.2.2.2.2 x hx]; decide)] at this; exact this
  have HLE : Hid (l.err = 0 -> l.squeeze.1.ops.length <= v.on) := fun b => by rw [h.2.1.len]; exact (squeeze_valid b).2.2.2.2.2.1
  generalize l.squeeze.1 = MM at *
  generalize l.run.st = LR at *
  generalize SmG l = PG at *
  generalize (l.ops.length <= 8) = PL at *
  generalize l.err = LE at *
  clear h hE hsm
  obtain ⟨⟨sec, sa, sn, sc, ta, tn, tc, ca, cn, cc⟩, oa, on, oc, ua, un, uc⟩ := v
  have hb : Below w.heap.size w (w.alloc (.cells #[.string sec, .slice sa sn sc, .slice ta tn tc, .slice ca cn cc, .slice oa on oc, .slice ua un uc] 30)) := (Below.refl _ _).alloc (Nat.le_refl _) _
  obtain ⟨l0, l1, l2, l3, l4, l5⟩ := box_cells6 (World.alloc_heap_new w (.cells #[.string sec, .slice sa sn sc, .slice ta tn tc, .slice ca cn cc, .slice oa on oc, .slice ua un uc] 30))
  dsimp only at HLE
  change Calls _ _ #[.agg #[.string sec, .slice sa sn sc, .slice ta tn tc, .slice ca cn cc, .slice oa on oc, .slice ua un uc]] _ _
  go_enter Tryz.func6, Tryz.ntmps6
  have HQ := hiq (HF.out _ hb)
  change Hid (Calls _ _ #[.agg #[.string sec, .slice sa sn sc, .slice ta tn tc, .slice ca cn cc, .slice oa on oc, .slice ua un uc]] _ _) at HQ
  go_wp2_with fail
  generalize w.alloc (.cells #[.string sec, .slice sa sn sc, .slice ta tn tc, .slice ca cn cc, .slice oa on oc, .slice ua un uc] 30) = W1 at *
  refine HQ.out.mono ?_
  rintro e W2 ⟨g, rfl, hbk, hpg⟩
  replace l0 := clq hbk l0; replace l1 := clq hbk l1; replace l2 := clq hbk l2; replace l3 := clq hbk l3; replace l4 := clq hbk l4; replace l5 := clq hbk l5
  replace hb := hb.trans (hbk.mono hb.size)
  clear hbk HQ
  cases g with
  | false =>
    have HQ := hiq (HAW.out _ hb)
    go_wp2_with fail
    refine HQ.out.mono ?_
    rintro e W3 ⟨rfl, hbk⟩
    replace l0 := clq hbk l0; replace l1 := clq hbk l1; replace l2 := clq hbk l2; replace l3 := clq hbk l3; replace l4 := clq hbk l4; replace l5 := clq hbk l5
    replace hb := hb.trans (hbk.mono hb.size)
    clear hbk HQ
    go_wp2
    go_ret
    exact ⟨rfl, hb⟩
  | true =>
    obtain ⟨hp1, hp2, hp3⟩ := hpg rfl
    have HP := hiq (And.intro hp1 (And.intro hp2 hp3))
    have HL := hiq (HLE.out hp3)
    clear hp1 hp2 hp3 hpg HLE
    have HQ := hiq (HSQ.out HP.out.1 HP.out.2.2 _ hb)
    change Hid (Calls _ _ #[.agg #[.string sec, .slice sa sn sc, .slice ta tn tc, .slice ca cn cc, .slice oa on oc, .slice ua un uc]] _ _) at HQ
    go_wp2_with fail
    refine HQ.out.mono ?_
    rintro e W3 ⟨v, he, hR, hbk⟩
    obtain ⟨⟨secM, saM, snM, scM, taM, tnM, tcM, caM, cnM, ccM⟩, oaM, onM, ocM, uaM, unM, ucM⟩ := v
    change e = .returned (.tuple #[.agg #[.string secM, .slice saM snM scM, .slice taM tnM tcM, .slice caM cnM ccM, .slice oaM onM ocM, .slice uaM unM ucM], .int .i64 0]) at he
    subst he
    have hal : Below W3.heap.size W3 (W3.alloc (.cells #[.string secM, .slice saM snM scM, .slice taM tnM tcM, .slice caM cnM ccM, .slice oaM onM ocM, .slice uaM unM ucM] 30)) := (Below.refl _ _).alloc (Nat.le_refl _) _
    have hst := hbk.trans (hal.mono hbk.size)
    obtain ⟨m0, m1, m2, m3, m4, m5⟩ := box_cells6 (World.alloc_heap_new W3 (.cells #[.string secM, .slice saM snM scM, .slice taM tnM tcM, .slice caM cnM ccM, .slice oaM onM ocM, .slice uaM unM ucM] 30))
    replace l0 := clq hst l0; replace l1 := clq hst l1; replace l2 := clq hst l2; replace l3 := clq hst l3; replace l4 := clq hst l4; replace l5 := clq hst l5
    have HRM := hiq (hR.below hal)
    replace hb := hb.trans (hst.mono hb.size)
    clear hR hbk hal hst HQ
    have HQ := hiq (HST.out HP.out.1 HP.out.2.2 _ hb)
    change Hid (Calls _ _ #[.agg #[.string sec, .slice sa sn sc, .slice ta tn tc, .slice ca cn cc, .slice oa on oc, .slice ua un uc]] _ _) at HQ
    go_wp2_with fail
    generalize W3.alloc (.cells #[.string secM, .slice saM snM scM, .slice taM tnM tcM, .slice caM cnM ccM, .slice oaM onM ocM, .slice uaM unM ucM] 30) = W4 at *
    refine HQ.out.mono ?_
    rintro e W5 ⟨v, he, hR, hbk⟩
    obtain ⟨secX, saX, snX, scX, taX, tnX, tcX, caX, cnX, ccX⟩ := v
    change e = .returned (.tuple #[.agg #[.string secX, .slice saX snX scX, .slice taX tnX tcX, .slice caX cnX ccX], .int .i64 0]) at he
    subst he
    have hal : Below W5.heap.size W5 (W5.alloc (.cells #[.string secX, .slice saX snX scX, .slice taX tnX tcX, .slice caX cnX ccX] 26)) := (Below.refl _ _).alloc (Nat.le_refl _) _
    have hst := hbk.trans (hal.mono hbk.size)
    obtain ⟨x0, x1, x2, x3, -⟩ := box_cells4 (World.alloc_heap_new W5 (.cells #[.string secX, .slice saX snX scX, .slice taX tnX tcX, .slice caX cnX ccX] 26))
    replace l0 := clq hst l0; replace l1 := clq hst l1; replace l2 := clq hst l2; replace l3 := clq hst l3; replace l4 := clq hst l4; replace l5 := clq hst l5; replace m0 := clq hst m0; replace m1 := clq hst m1; replace m2 := clq hst m2; replace m3 := clq hst m3; replace m4 := clq hst m4; replace m5 := clq hst m5
    replace HRM := hiq (HRM.out.below hst)
    have HRX := hiq (hR.below hal)
    replace hb := hb.trans (hst.mono hb.size)
    clear hR hbk hal hst HQ
    have HQ := hiq (HSB.out HP.out.1 HP.out.2.2 ⟨⟨secM, saM, snM, scM, taM, tnM, tcM, caM, cnM, ccM⟩, oaM, onM, ocM, uaM, unM, ucM⟩ _ hb HRM.out)
    change Hid (Calls _ _ #[.agg #[.string secM, .slice saM snM scM, .slice taM tnM tcM, .slice caM cnM ccM, .slice oaM onM ocM, .slice uaM unM ucM]] _ _) at HQ
    go_wp2_with fail
    generalize W5.alloc (.cells #[.string secX, .slice saX snX scX, .slice taX tnX tcX, .slice caX cnX ccX] 26) = W6 at *
    refine HQ.out.mono ?_
    rintro e W7 ⟨v, he, hR, hbk⟩
    obtain ⟨secY, saY, snY, scY, taY, tnY, tcY, caY, cnY, ccY⟩ := v
    change e = .returned (.tuple #[.agg #[.string secY, .slice saY snY scY, .slice taY tnY tcY, .slice caY cnY ccY], .int .i64 0]) at he
    subst he
    have hal : Below W7.heap.size W7 (W7.alloc (.cells #[.string secY, .slice saY snY scY, .slice taY tnY tcY, .slice caY cnY ccY] 26)) := (Below.refl _ _).alloc (Nat.le_refl _) _
    have hst := hbk.trans (hal.mono hbk.size)
    obtain ⟨y0, y1, y2, y3, -⟩ := box_cells4 (World.alloc_heap_new W7 (.cells #[.string secY, .slice saY snY scY, .slice taY tnY tcY, .slice caY cnY ccY] 26))
    replace l0 := clq hst l0; replace l1 := clq hst l1; replace l2 := clq hst l2; replace l3 := clq hst l3; replace l4 := clq hst l4; replace l5 := clq hst l5; replace m0 := clq hst m0; replace m1 := clq hst m1; replace m2 := clq hst m2; replace m3 := clq hst m3; replace m4 := clq hst m4; replace m5 := clq hst m5; replace x0 := clq hst x0; replace x1 := clq hst x1; replace x2 := clq hst x2; replace x3 := clq hst x3
    replace HRM := hiq (HRM.out.below hst)
    replace HRX := hiq (HRX.out.below hst)
    have HRY := hiq (hR.below hal)
    replace hb := hb.trans (hst.mono hb.size)
    clear hR hbk hal hst HQ
    have HQ := hiq (HSA.out HP.out.1 HP.out.2.2 ⟨⟨secM, saM, snM, scM, taM, tnM, tcM, caM, cnM, ccM⟩, oaM, onM, ocM, uaM, unM, ucM⟩ _ hb HRM.out)
    change Hid (Calls _ _ #[.agg #[.string secM, .slice saM snM scM, .slice taM tnM tcM, .slice caM cnM ccM, .slice oaM onM ocM, .slice uaM unM ucM]] _ _) at HQ
    go_wp2_with fail
    generalize W7.alloc (.cells #[.string secY, .slice saY snY scY, .slice taY tnY tcY, .slice caY cnY ccY] 26) = W8 at *
    refine HQ.out.mono ?_
    rintro e W9 ⟨v, he, hR, hbk⟩
    obtain ⟨⟨secN, saN, snN, scN, taN, tnN, tcN, caN, cnN, ccN⟩, oaN, onN, ocN, uaN, unN, ucN⟩ := v
    change e = .returned (.tuple #[.agg #[.string secN, .slice saN snN scN, .slice taN tnN tcN, .slice caN cnN ccN, .slice oaN onN ocN, .slice uaN unN ucN], .int .i64 0]) at he
    subst he
    have hal : Below W9.heap.size W9 (W9.alloc (.cells #[.string secN, .slice saN snN scN, .slice taN tnN tcN, .slice caN cnN ccN, .slice oaN onN ocN, .slice uaN unN ucN] 30)) := (Below.refl _ _).alloc (Nat.le_refl _) _
    have hst := hbk.trans (hal.mono hbk.size)
    obtain ⟨n0, n1, n2, n3, n4, n5⟩ := box_cells6 (World.alloc_heap_new W9 (.cells #[.string secN, .slice saN snN scN, .slice taN tnN tcN, .slice caN cnN ccN, .slice oaN onN ocN, .slice uaN unN ucN] 30))
    replace l0 := clq hst l0; replace l1 := clq hst l1; replace l2 := clq hst l2; replace l3 := clq hst l3; replace l4 := clq hst l4; replace l5 := clq hst l5; replace m0 := clq hst m0; replace m1 := clq hst m1; replace m2 := clq hst m2; replace m3 := clq hst m3; replace m4 := clq hst m4; replace m5 := clq hst m5; replace x0 := clq hst x0; replace x1 := clq hst x1; replace x2 := clq hst x2; replace x3 := clq hst x3
    replace y0 := clq hst y0; replace y1 := clq hst y1; replace y2 := clq hst y2; replace y3 := clq hst y3
    replace HRM := hiq (HRM.out.below hst)
    replace HRX := hiq (HRX.out.below hst)
    replace HRY := hiq (HRY.out.below hst)
    have HRN := hiq (hR.below hal)
    replace hb := hb.trans (hst.mono hb.size)
    clear hR hbk hal hst HQ
    have hle : onM <= on := by have h1 : onM = MM.ops.length := HRM.out.2.1.len; have := HL.out; omega
    have HQ := hiq (HSM.out ⟨secX, saX, snX, scX, taX, tnX, tcX, caX, cnX, ccX⟩ ⟨secY, saY, snY, scY, taY, tnY, tcY, caY, cnY, ccY⟩ _ _ HRX.out HRY.out)
    change Hid (Calls _ _ #[.agg #[.string secX, .slice saX snX scX, .slice taX tnX tcX, .slice caX cnX ccX], .agg #[.string secY, .slice saY snY scY, .slice taY tnY tcY, .slice caY cnY ccY]] _ _) at HQ
    go_wp2_with fail
    generalize W9.alloc (.cells #[.string secN, .slice saN snN scN, .slice taN tnN tcN, .slice caN cnN ccN, .slice oaN onN ocN, .slice uaN unN ucN] 30) = W10 at *
    refine HQ.out.mono ?_
    rintro e W11 ⟨rfl, hbk⟩
    replace l0 := clq hbk l0; replace l1 := clq hbk l1; replace l2 := clq hbk l2; replace l3 := clq hbk l3; replace l4 := clq hbk l4; replace l5 := clq hbk l5; replace m0 := clq hbk m0; replace m1 := clq hbk m1; replace m2 := clq hbk m2; replace m3 := clq hbk m3; replace m4 := clq hbk m4; replace m5 := clq hbk m5; replace x0 := clq hbk x0; replace x1 := clq hbk x1; replace x2 := clq hbk x2; replace x3 := clq hbk x3
    replace y0 := clq hbk y0; replace y1 := clq hbk y1; replace y2 := clq hbk y2; replace y3 := clq hbk y3; replace n0 := clq hbk n0; replace n1 := clq hbk n1; replace n2 := clq hbk n2; replace n3 := clq hbk n3; replace n4 := clq hbk n4; replace n5 := clq hbk n5
    replace HRM := hiq (HRM.out.below hbk)
    replace HRX := hiq (HRX.out.below hbk)
    replace HRY := hiq (HRY.out.below hbk)
    replace HRN := hiq (HRN.out.below hbk)
    replace hb := hb.trans (hbk.mono hb.size)
    clear hbk HQ
    have HQ := hiq (HCN.out HP.out.2.2 _ uaM unM ucM _ HRM.out.2.2)
    go_wp2_with fail
    refine HQ.out.mono ?_
    rintro e W12 ⟨rfl, hbk⟩
    replace l0 := clq hbk l0; replace l1 := clq hbk l1; replace l2 := clq hbk l2; replace l3 := clq hbk l3; replace l4 := clq hbk l4; replace l5 := clq hbk l5; replace m0 := clq hbk m0; replace m1 := clq hbk m1; replace m2 := clq hbk m2; replace m3 := clq hbk m3; replace m4 := clq hbk m4; replace m5 := clq hbk m5; replace x0 := clq hbk x0; replace x1 := clq hbk x1; replace x2 := clq hbk x2; replace x3 := clq hbk x3
    replace y0 := clq hbk y0; replace y1 := clq hbk y1; replace y2 := clq hbk y2; replace y3 := clq hbk y3; replace n0 := clq hbk n0; replace n1 := clq hbk n1; replace n2 := clq hbk n2; replace n3 := clq hbk n3; replace n4 := clq hbk n4; replace n5 := clq hbk n5
    replace HRM := hiq (HRM.out.below hbk)
    replace HRX := hiq (HRX.out.below hbk)
    replace HRY := hiq (HRY.out.below hbk)
    replace HRN := hiq (HRN.out.below hbk)
    replace hb := hb.trans (hbk.mono hb.size)
    clear hbk HQ
    have HQ := hiq (HSL.out ⟨⟨secM, saM, snM, scM, taM, tnM, tcM, caM, cnM, ccM⟩, oaM, onM, ocM, uaM, unM, ucM⟩ ⟨⟨secN, saN, snN, scN, taN, tnN, tcN, caN, cnN, ccN⟩, oaN, onN, ocN, uaN, unN, ucN⟩ _ _ HRM.out HRN.out)
    change Hid (Calls _ _ #[.agg #[.string secM, .slice saM snM scM, .slice taM tnM tcM, .slice caM cnM ccM, .slice oaM onM ocM, .slice uaM unM ucM], .agg #[.string secN, .slice saN snN scN, .slice taN tnN tcN, .slice caN cnN ccN, .slice oaN onN ocN, .slice uaN unN ucN]] _ _) at HQ
    go_wp2_with fail
    refine HQ.out.mono ?_
    rintro e W13 ⟨rfl, hbk⟩
    replace l0 := clq hbk l0; replace l1 := clq hbk l1; replace l2 := clq hbk l2; replace l3 := clq hbk l3; replace l4 := clq hbk l4; replace l5 := clq hbk l5; replace m0 := clq hbk m0; replace m1 := clq hbk m1; replace m2 := clq hbk m2; replace m3 := clq hbk m3; replace m4 := clq hbk m4; replace m5 := clq hbk m5; replace x0 := clq hbk x0; replace x1 := clq hbk x1; replace x2 := clq hbk x2; replace x3 := clq hbk x3
    replace y0 := clq hbk y0; replace y1 := clq hbk y1; replace y2 := clq hbk y2; replace y3 := clq hbk y3; replace n0 := clq hbk n0; replace n1 := clq hbk n1; replace n2 := clq hbk n2; replace n3 := clq hbk n3; replace n4 := clq hbk n4; replace n5 := clq hbk n5
    replace HRM := hiq (HRM.out.below hbk)
    replace HRX := hiq (HRX.out.below hbk)
    replace HRY := hiq (HRY.out.below hbk)
    replace HRN := hiq (HRN.out.below hbk)
    replace hb := hb.trans (hbk.mono hb.size)
    clear hbk HQ
    have HQ := hiq (HAW.out _ hb)
    go_wp2_with fail
    refine HQ.out.mono ?_
    rintro e W14 ⟨rfl, hbk⟩
    replace l0 := clq hbk l0; replace l1 := clq hbk l1; replace l2 := clq hbk l2; replace l3 := clq hbk l3; replace l4 := clq hbk l4; replace l5 := clq hbk l5; replace m0 := clq hbk m0; replace m1 := clq hbk m1; replace m2 := clq hbk m2; replace m3 := clq hbk m3; replace m4 := clq hbk m4; replace m5 := clq hbk m5; replace x0 := clq hbk x0; replace x1 := clq hbk x1; replace x2 := clq hbk x2; replace x3 := clq hbk x3
    replace y0 := clq hbk y0; replace y1 := clq hbk y1; replace y2 := clq hbk y2; replace y3 := clq hbk y3; replace n0 := clq hbk n0; replace n1 := clq hbk n1; replace n2 := clq hbk n2; replace n3 := clq hbk n3; replace n4 := clq hbk n4; replace n5 := clq hbk n5
    replace HRM := hiq (HRM.out.below hbk)
    replace HRX := hiq (HRX.out.below hbk)
    replace HRY := hiq (HRY.out.below hbk)
    replace HRN := hiq (HRN.out.below hbk)
    replace hb := hb.trans (hbk.mono hb.size)
    clear hbk HQ
    go_wp2
    go_ret
    exact ⟨rfl, hb⟩
end Go.Proofs.YtfdipkhbemgojaaGreatDoor
