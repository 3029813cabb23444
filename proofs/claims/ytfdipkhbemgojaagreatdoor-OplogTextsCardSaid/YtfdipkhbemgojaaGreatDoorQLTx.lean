/- The law OplogTexts (printed by gen_olaws.py). -/
import Derived.Test.YtfdipkhbemgojaaGreatDoorP38
import Derived.Test.YtfdipkhbemgojaaGreatDoorP41
set_option linter.unusedVariables false
set_option linter.unusedSimpArgs false
set_option maxRecDepth 100000
set_option maxHeartbeats 16000000
namespace Go.Proofs.YtfdipkhbemgojaaGreatDoor
open Go.RowKit

theorem texts_facts {l : Lg} (h : l.err = 0) (hm : SmL l) : l.run.st.err = 0 /\ l.run.st.sigla = l.start.sigla /\ (∀ i, (l.run.st.tks i).map Tok.text = (l.start.tks i).map Tok.text) /\ Sml l.run.st := by
  have hv := runN_valid (ops := l.ops) (und := l.und) (err_zero.1 h).1.1 l.ops.length
  exact ⟨hv.1, hv.2.1, hv.2.2, run_sml hm⟩
theorem texts_law (S : Nat -> Prop) (v : LV) (l : Lg) (w : World) (h : RdL S w v l) (hE : Env w) : Calls Tryz.prog 9 #[v.val] w fun e w' => e = .returned (.bool true) /\ Below w.heap.size w w' := by
  have HF : Hid (∀ W, Below w.heap.size w W -> Calls Tryz.prog 24 #[v.val] W (BPost true (SmG l /\ l.ops.length <= 8 /\ l.err = 0) W)) := fun W hb => fineL_any S v l W (h.below hb) (hE.below hb)
  have HAW : Hid (∀ W, Below w.heap.size w W -> Calls Tryz.prog 13 #[] W fun e w' => e = .returned (.bool true) /\ Below W.heap.size W w') := fun W hb => awake_any W (hE.below hb)
  have HST : Hid (SmG l -> l.err = 0 -> ∀ W, Below w.heap.size w W -> Calls Tryz.prog 18 #[v.val] W (ColP l.run.st 0 W)) := fun a b W hb => by
    have := (state_any _ v l W (h.below hb) a.sml (hE.below hb)).mono (fun e w' h => h.p)
    rw [state_ok b] at this; exact this
  have HCC : Hid (SmG l -> l.err = 0 -> ∀ u W, Below w.heap.size w W -> RC W u l.run.st -> Calls Tryz.prog 44 #[u.val] W fun e w' => e = .returned (.int .i64 0) /\ Below W.heap.size W w') := fun a b u W hb hu => by
    have := check_any _ u _ W hu (texts_facts b a.sml).2.2.2 (hE.below hb)
    rw [(texts_facts b a.sml).1] at this; exact this
  have HEQ : Hid (SmG l -> l.err = 0 -> ∀ u W, Below w.heap.size w W -> RC W u l.run.st -> Calls Tryz.prog 43 #[.slice u.sa u.sn u.sc, .slice v.c.sa v.c.sn v.c.sc] W fun e w' => e = .returned (.bool true) /\ Below W.heap.size W w') := fun a b u W hb hu => by
    have := eqStrs_any _ _ _ _ _ _ _ _ _ _ W hu.2.2.1 (h.below hb).1.2.2.1
    rw [(texts_facts b a.sml).2.1, decide_eq_true rfl] at this
    exact this.mono (fun e w' q => ⟨q.1, q.2.below _⟩)
  have HT1 : Hid (SmG l -> l.err = 0 -> ∀ u W, Below w.heap.size w W -> RC W u l.run.st -> ∀ i : Nat, i < v.c.sn -> Calls Tryz.prog 45 #[u.val, .int .i64 (i : Int)] W fun e w' => ∃ a n c, e = .returned (.tuple #[.slice a n c, .int .i64 0]) /\ Strs (fun b => W.heap.size <= b) w' a n c ((l.start.tks i).map Tok.text) /\ Below W.heap.size W w') := fun a b u W hb hu i hi => by
    have q := texts_facts b a.sml
    have := text_any _ u _ i W hu q.2.2.2 (hE.below hb) q.1 (by rw [q.2.1, <- h.1.2.2.1.len]; exact hi)
    rw [q.2.2.1] at this; exact this
  have HT2 : Hid (SmG l -> l.err = 0 -> ∀ W, Below w.heap.size w W -> ∀ i : Nat, i < v.c.sn -> Calls Tryz.prog 45 #[v.c.val, .int .i64 (i : Int)] W fun e w' => ∃ a n c, e = .returned (.tuple #[.slice a n c, .int .i64 0]) /\ Strs (fun b => W.heap.size <= b) w' a n c ((l.start.tks i).map Tok.text) /\ Below W.heap.size W w') := fun a b W hb i hi => text_any _ v.c _ i W (h.below hb).1 a.sml.1 (hE.below hb) (err_zero.1 b).1.1 (by rw [<- h.1.2.2.1.len]; exact hi)
  have HSN : Hid (SmG l -> l.err = 0 -> ∀ u W, RC W u l.run.st -> u.sn = v.c.sn) := fun a b u W hu => by rw [hu.2.2.1.len, h.1.2.2.1.len, (texts_facts b a.sml).2.1]
  have hsb := h.1.2.2.1.bound
  generalize l.run.st = LR at *
  generalize SmG l = PG at *
  generalize (l.ops.length <= 8) = PL at *
  generalize l.err = LE at *
  clear h hE
  obtain ⟨⟨sec, sa, sn, sc, ta, tn, tc, ca, cn, cc⟩, oa, on, oc, ua, un, uc⟩ := v
  have hb : Below w.heap.size w (w.alloc (.cells #[.string sec, .slice sa sn sc, .slice ta tn tc, .slice ca cn cc, .slice oa on oc, .slice ua un uc] 30)) := (Below.refl _ _).alloc (Nat.le_refl _) _
  obtain ⟨l0, l1, l2, l3, l4, l5⟩ := box_cells6 (World.alloc_heap_new w (.cells #[.string sec, .slice sa sn sc, .slice ta tn tc, .slice ca cn cc, .slice oa on oc, .slice ua un uc] 30))
  dsimp only at HEQ HT1 HT2 HSN hsb
  change Calls _ _ #[.agg #[.string sec, .slice sa sn sc, .slice ta tn tc, .slice ca cn cc, .slice oa on oc, .slice ua un uc]] _ _
  change Hid (_ -> _ -> ∀ W, _ -> ∀ i : Nat, _ -> Calls _ _ #[.agg #[.string sec, .slice sa sn sc, .slice ta tn tc, .slice ca cn cc], _] _ _) at HT2
  go_enter Tryz.func9, Tryz.ntmps9
  have HQ := hiq (HF.out _ hb)
  change Hid (Calls _ _ #[.agg #[.string sec, .slice sa sn sc, .slice ta tn tc, .slice ca cn cc, .slice oa on oc, .slice ua un uc]] _ _) at HQ
  go_wp2_with fail
  generalize w.alloc (.cells #[.string sec, .slice sa sn sc, .slice ta tn tc, .slice ca cn cc, .slice oa on oc, .slice ua un uc] 30) = W1 at *
  refine HQ.out.mono ?_
  rintro e W2 ⟨g, rfl, hbk, hpg⟩
  replace l0 := clq hbk l0; replace l1 := clq hbk l1; replace l2 := clq hbk l2; replace l3 := clq hbk l3; replace l4 := clq hbk l4; replace l5 := clq hbk l5
  replace hb := hb.trans (hbk.mono hb.size)
  clear hbk HQ
  cases g with
  | false =>
    have HQ := hiq (HAW.out _ hb)
    go_wp2_with fail
    refine HQ.out.mono ?_
    rintro e W3 ⟨rfl, hbk⟩
    replace l0 := clq hbk l0; replace l1 := clq hbk l1; replace l2 := clq hbk l2; replace l3 := clq hbk l3; replace l4 := clq hbk l4; replace l5 := clq hbk l5
    replace hb := hb.trans (hbk.mono hb.size)
    clear hbk HQ
    go_wp2
    go_ret
    exact ⟨rfl, hb⟩
  | true =>
    obtain ⟨hp1, hp2, hp3⟩ := hpg rfl
    have HP := hiq (And.intro hp1 (And.intro hp2 hp3))
    clear hp1 hp2 hp3 hpg
    have HQ := hiq (HST.out HP.out.1 HP.out.2.2 _ hb)
    change Hid (Calls _ _ #[.agg #[.string sec, .slice sa sn sc, .slice ta tn tc, .slice ca cn cc, .slice oa on oc, .slice ua un uc]] _ _) at HQ
    go_wp2_with fail
    refine HQ.out.mono ?_
    rintro e W3 ⟨v, he, hR, hbk⟩
    obtain ⟨secX, saX, snX, scX, taX, tnX, tcX, caX, cnX, ccX⟩ := v
    change e = .returned (.tuple #[.agg #[.string secX, .slice saX snX scX, .slice taX tnX tcX, .slice caX cnX ccX], .int .i64 0]) at he
    subst he
    have hal : Below W3.heap.size W3 (W3.alloc (.cells #[.string secX, .slice saX snX scX, .slice taX tnX tcX, .slice caX cnX ccX] 26)) := (Below.refl _ _).alloc (Nat.le_refl _) _
    have hst := hbk.trans (hal.mono hbk.size)
    obtain ⟨x0, x1, x2, x3, -⟩ := box_cells4 (World.alloc_heap_new W3 (.cells #[.string secX, .slice saX snX scX, .slice taX tnX tcX, .slice caX cnX ccX] 26))
    replace l0 := clq hst l0; replace l1 := clq hst l1; replace l2 := clq hst l2; replace l3 := clq hst l3; replace l4 := clq hst l4; replace l5 := clq hst l5
    have HRX := hiq (hR.below hal)
    replace hb := hb.trans (hst.mono hb.size)
    clear hR hbk hal hst HQ
    have hsn : snX = sn := HSN.out HP.out.1 HP.out.2.2 _ _ HRX.out
    subst hsn
    have HQ := hiq (HEQ.out HP.out.1 HP.out.2.2 ⟨secX, saX, snX, scX, taX, tnX, tcX, caX, cnX, ccX⟩ _ hb HRX.out)
    change Hid (Calls _ _ #[.slice saX snX scX, .slice sa snX sc] _ _) at HQ
    go_wp2_with fail
    generalize W3.alloc (.cells #[.string secX, .slice saX snX scX, .slice taX tnX tcX, .slice caX cnX ccX] 26) = W4 at *
    refine HQ.out.mono ?_
    rintro e W5 ⟨rfl, hbk⟩
    replace l0 := clq hbk l0; replace l1 := clq hbk l1; replace l2 := clq hbk l2; replace l3 := clq hbk l3; replace l4 := clq hbk l4; replace l5 := clq hbk l5; replace x0 := clq hbk x0; replace x1 := clq hbk x1; replace x2 := clq hbk x2; replace x3 := clq hbk x3
    replace HRX := hiq (HRX.out.below hbk)
    replace hb := hb.trans (hbk.mono hb.size)
    clear hbk HQ
    have HQ := hiq (HCC.out HP.out.1 HP.out.2.2 ⟨secX, saX, snX, scX, taX, tnX, tcX, caX, cnX, ccX⟩ _ hb HRX.out)
    change Hid (Calls _ _ #[.agg #[.string secX, .slice saX snX scX, .slice taX tnX tcX, .slice caX cnX ccX]] _ _) at HQ
    go_wp2_with fail
    refine HQ.out.mono ?_
    rintro e W6 ⟨rfl, hbk⟩
    replace l0 := clq hbk l0; replace l1 := clq hbk l1; replace l2 := clq hbk l2; replace l3 := clq hbk l3; replace l4 := clq hbk l4; replace l5 := clq hbk l5; replace x0 := clq hbk x0; replace x1 := clq hbk x1; replace x2 := clq hbk x2; replace x3 := clq hbk x3
    replace HRX := hiq (HRX.out.below hbk)
    replace hb := hb.trans (hbk.mono hb.size)
    clear hbk HQ
    go_wp2_with fail
    go_loopw [38] (fun i wr => ∃ (k : Nat), i = .int .i64 k /\ k <= snX /\ Below W6.heap.size W6 wr) (fun i _ => snX - (intOf i).toNat)
    case atStart => exact ⟨0, rfl, Nat.zero_le _, Below.refl _ _⟩
    case round =>
      obtain ⟨k, rfl, hk, hbl⟩ := hrel
      replace l0 := clq hbl l0; replace l1 := clq hbl l1; replace l2 := clq hbl l2; replace l3 := clq hbl l3; replace l4 := clq hbl l4; replace l5 := clq hbl l5; replace x0 := clq hbl x0; replace x1 := clq hbl x1; replace x2 := clq hbl x2; replace x3 := clq hbl x3
      replace HRX := hiq (HRX.out.below hbl)
      replace hb := hb.trans (hbl.mono hb.size)
      by_cases hkl : k < snX
      · have HQ := hiq (HT1.out HP.out.1 HP.out.2.2 ⟨secX, saX, snX, scX, taX, tnX, tcX, caX, cnX, ccX⟩ _ hb HRX.out k hkl)
        change Hid (Calls _ _ #[.agg #[.string secX, .slice saX snX scX, .slice taX tnX tcX, .slice caX cnX ccX], _] _ _) at HQ
        go_wp2_with fail
        refine HQ.out.mono ?_
        rintro e U1 ⟨a1, n1, k1, rfl, hs1, hbk⟩
        replace l0 := clq hbk l0; replace l1 := clq hbk l1; replace l2 := clq hbk l2; replace l3 := clq hbk l3; replace l4 := clq hbk l4; replace l5 := clq hbk l5; replace x0 := clq hbk x0; replace x1 := clq hbk x1; replace x2 := clq hbk x2; replace x3 := clq hbk x3
        replace HRX := hiq (HRX.out.below hbk)
        replace hb := hb.trans (hbk.mono hb.size)
        replace hbl := hbl.trans (hbk.mono hbl.size)
        have HS1 := hiq hs1
        clear HQ hs1 hbk
        have HQ := hiq (HT2.out HP.out.1 HP.out.2.2 _ hb k hkl)
        go_wp2_with fail
        refine HQ.out.mono ?_
        rintro e U2 ⟨a2, n2, k2, rfl, hs2, hbk⟩
        replace l0 := clq hbk l0; replace l1 := clq hbk l1; replace l2 := clq hbk l2; replace l3 := clq hbk l3; replace l4 := clq hbk l4; replace l5 := clq hbk l5; replace x0 := clq hbk x0; replace x1 := clq hbk x1; replace x2 := clq hbk x2; replace x3 := clq hbk x3
        replace HRX := hiq (HRX.out.below hbk)
        replace hb := hb.trans (hbk.mono hb.size)
        replace hbl := hbl.trans (hbk.mono hbl.size)
        have hes := eqStrs_any _ _ _ _ _ _ _ _ _ _ U2 (HS1.out.below rStr_ok hbk) hs2
        rw [decide_eq_true rfl] at hes
        have HES := hiq hes
        clear hes HQ HS1 hs2 hbk
        go_wp2_with fail
        refine HES.out.mono ?_
        rintro e U3 ⟨rfl, hdr⟩
        replace hbl := hbl.trans ((hdr.below U2.heap.size).mono hbl.size)
        go_wp2_with fail
        go_roundw
        case rel => exact ⟨k + 1, by go_num, by omega, hbl⟩
        case measure => simp [intOf]; omega
      · obtain rfl : snX = k := by omega
        have HQ := hiq (HAW.out _ hb)
        go_wp2_with fail
        refine HQ.out.mono ?_
        rintro e W50 ⟨rfl, hbk⟩
        replace hb := hb.trans (hbk.mono hb.size)
        clear hbk HQ
        go_wp2
        go_ret
        exact ⟨rfl, hb⟩
end Go.Proofs.YtfdipkhbemgojaaGreatDoor
