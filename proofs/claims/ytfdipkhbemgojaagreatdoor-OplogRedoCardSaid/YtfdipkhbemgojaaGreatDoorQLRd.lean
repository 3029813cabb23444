/- The law OplogRedo (printed by gen_olaws.py). -/
import Derived.Test.YtfdipkhbemgojaaGreatDoorP38
import Derived.Test.YtfdipkhbemgojaaGreatDoorP36
set_option linter.unusedVariables false
set_option linter.unusedSimpArgs false
set_option maxRecDepth 100000
set_option maxHeartbeats 16000000
namespace Go.Proofs.YtfdipkhbemgojaaGreatDoor
open Go.RowKit

theorem turn_back {l : Lg} {k : Nat} {b : Bool} (h1 : l.err = 0) (hk : k < l.ops.length) (hu : unK l.und k = !b) :
    ((l.turn (k : Int) b).2 = 17) \/ ((l.turn (k : Int) b) = (l.set k b, 0) /\ (l.set k b).turn (k : Int) (!b) = (l, 0)) := by
  have hlen := (err_zero.1 h1).1.2.1
  have hi : l.idx (k : Int) = 0 := idx_zero.2 ⟨h1, by omega, by omega⟩
  rw [turn_changed hi (by rw [hu]; cases b <;> decide)]
  unfold Lg.changed
  by_cases hm : (l.set k b).err = 0
  · right
    rw [if_neg (by simp [hm])]
    refine ⟨rfl, ?_⟩
    have hi2 : (l.set k b).idx (k : Int) = 0 := idx_zero.2 ⟨hm, by omega, by show (k : Int) < (l.ops.length : Int); omega⟩
    have hu2 : unK (l.set k b).und k ≠ !b := by
      show unK (l.und.set k b) k ≠ !b
      rw [unK_set_self (by omega)]; cases b <;> decide
    have he : (l.set k b).set k (!b) = l := lg_eq.2 ⟨rfl, rfl, set_back (by omega) hu⟩
    rw [turn_changed hi2 hu2]
    unfold Lg.changed
    rw [he, if_neg (by simp [h1])]
  · left
    rw [if_pos hm]
theorem redo_law (S : Nat -> Prop) (v : LV) (l : Lg) (k : Nat) (w : World) (h : RdL S w v l) (hE : Env w) (hk : k < 256) : Calls Tryz.prog 5 #[v.val, .int .u8 (k : Int)] w fun e w' => e = .returned (.bool true) /\ Below w.heap.size w w' := by
  have HF : Hid (∀ W, Below w.heap.size w W -> Calls Tryz.prog 24 #[v.val] W (BPost true (SmG l /\ l.ops.length <= 8 /\ l.err = 0) W)) := fun W hb => fineL_any S v l W (h.below hb) (hE.below hb)
  have HAW : Hid (∀ W, Below w.heap.size w W -> Calls Tryz.prog 13 #[] W fun e w' => e = .returned (.bool true) /\ Below W.heap.size W w') := fun W hb => awake_any W (hE.below hb)
  have HSL : Hid (∀ u v x W, RL W u x -> RL W v x -> Calls Tryz.prog 22 #[u.val, v.val] W fun e w' => e = .returned (.bool true) /\ Below W.heap.size W w') := fun u v x W h k => sameL_yes h k
  have HUN : Hid (SmG l -> ∀ i W, Below w.heap.size w W -> Calls Tryz.prog 27 #[v.val, .int .i64 i] W (LogP (l.turn i true).1 (l.turn i true).2 W)) := fun a i W hb => (undo_any _ v l i W (h.below hb) a.sml (hE.below hb)).mono (fun e w' h => h.p)
  have HRD : Hid (SmG l -> ∀ i W, Below w.heap.size w W -> Calls Tryz.prog 28 #[v.val, .int .i64 i] W (LogP (l.turn i false).1 (l.turn i false).2 W)) := fun a i W hb => (redo_any _ v l i W (h.below hb) a.sml (hE.below hb)).mono (fun e w' h => h.p)
  have HUB : Hid (SmG l -> ∀ j b i u W, Below w.heap.size w W -> RL W u (l.set j b) -> Calls Tryz.prog 27 #[u.val, .int .i64 i] W (LogP ((l.set j b).turn i true).1 ((l.set j b).turn i true).2 W)) := fun a j b i u W hb hu => (undo_any _ u _ i W hu (sml_set a.sml) (hE.below hb)).mono (fun e w' h => h.p)
  have HRB : Hid (SmG l -> ∀ j b i u W, Below w.heap.size w W -> RL W u (l.set j b) -> Calls Tryz.prog 28 #[u.val, .int .i64 i] W (LogP ((l.set j b).turn i false).1 ((l.set j b).turn i false).2 W)) := fun a j b i u W hb hu => (redo_any _ u _ i W hu (sml_set a.sml) (hE.below hb)).mono (fun e w' h => h.p)
  have HTB : Hid (l.err = 0 -> ∀ (k : Nat) b, k < v.on -> unK l.und k = !b -> (l.turn (k : Int) b).2 = 17 \/ ((l.turn (k : Int) b) = (l.set k b, 0) /\ (l.set k b).turn (k : Int) (!b) = (l, 0))) := fun a k b hk hu => turn_back a (by rw [<- h.2.1.len]; exact hk) hu
  have HRL : Hid (∀ W, Below w.heap.size w W -> RL W v l) := fun W hb => (h.below hb).t
  have HUF : Hid (∀ W, Below w.heap.size w W -> Flgs S W v.ua v.un v.uc l.und) := fun W hb => h.2.2.below rBool_ok hb
  have HLN : Hid (l.err = 0 -> v.on = v.un) := fun a => by rw [h.2.1.len, h.2.2.len]; exact (err_zero.1 a).1.2.1
  have hub := h.2.2.bound
  have hob := h.2.1.bound
  generalize SmG l = PG at *
  generalize (l.ops.length <= 8) = PL at *
  generalize l.err = LE at *
  clear h hE
  obtain ⟨⟨sec, sa, sn, sc, ta, tn, tc, ca, cn, cc⟩, oa, on, oc, ua, un, uc⟩ := v
  have hb : Below w.heap.size w (w.alloc (.cells #[.string sec, .slice sa sn sc, .slice ta tn tc, .slice ca cn cc, .slice oa on oc, .slice ua un uc] 30)) := (Below.refl _ _).alloc (Nat.le_refl _) _
  obtain ⟨l0, l1, l2, l3, l4, l5⟩ := box_cells6 (World.alloc_heap_new w (.cells #[.string sec, .slice sa sn sc, .slice ta tn tc, .slice ca cn cc, .slice oa on oc, .slice ua un uc] 30))
  dsimp only at HTB HUF HLN hub hob
  change Hid (∀ W, _ -> RL W ⟨⟨sec, sa, sn, sc, ta, tn, tc, ca, cn, cc⟩, oa, on, oc, ua, un, uc⟩ _) at HRL
  change Calls _ _ #[.agg #[.string sec, .slice sa sn sc, .slice ta tn tc, .slice ca cn cc, .slice oa on oc, .slice ua un uc], _] _ _
  go_enter Tryz.func5, Tryz.ntmps5
  have HQ := hiq (HF.out _ hb)
  change Hid (Calls _ _ #[.agg #[.string sec, .slice sa sn sc, .slice ta tn tc, .slice ca cn cc, .slice oa on oc, .slice ua un uc]] _ _) at HQ
  go_wp2_with fail
  generalize w.alloc (.cells #[.string sec, .slice sa sn sc, .slice ta tn tc, .slice ca cn cc, .slice oa on oc, .slice ua un uc] 30) = W1 at *
  refine HQ.out.mono ?_
  rintro e W2 ⟨g, rfl, hbk, hpg⟩
  replace l0 := clq hbk l0; replace l1 := clq hbk l1; replace l2 := clq hbk l2; replace l3 := clq hbk l3; replace l4 := clq hbk l4; replace l5 := clq hbk l5
  replace hb := hb.trans (hbk.mono hb.size)
  clear hbk HQ
  cases g with
  | false =>
    have HQ := hiq (HAW.out _ hb)
    go_wp2_with fail
    refine HQ.out.mono ?_
    rintro e W3 ⟨rfl, hbk⟩
    replace l0 := clq hbk l0; replace l1 := clq hbk l1; replace l2 := clq hbk l2; replace l3 := clq hbk l3; replace l4 := clq hbk l4; replace l5 := clq hbk l5
    replace hb := hb.trans (hbk.mono hb.size)
    clear hbk HQ
    go_wp2
    go_ret
    exact ⟨rfl, hb⟩
  | true =>
    obtain ⟨hp1, hp2, hp3⟩ := hpg rfl
    have HP := hiq (And.intro hp1 (And.intro hp2 hp3))
    have hnn : Hid (on = un) := HLN.out hp3
    clear hp1 hp2 hp3 hpg HLN
    by_cases n0 : on = 0
    · have t1 : ((on : Int) == 0) = true := by simp [n0]
      clear n0
      have HQ := hiq (HAW.out _ hb)
      go_wp2_with fail
      refine HQ.out.mono ?_
      rintro e W3 ⟨rfl, hbk⟩
      replace l0 := clq hbk l0; replace l1 := clq hbk l1; replace l2 := clq hbk l2; replace l3 := clq hbk l3; replace l4 := clq hbk l4; replace l5 := clq hbk l5
      replace hb := hb.trans (hbk.mono hb.size)
      clear hbk HQ
      go_wp2
      go_ret
      exact ⟨rfl, hb⟩
    · have t1 : ((on : Int) == 0) = false := by simp; omega
      have hm : k % on < on := Nat.mod_lt _ (by omega)
      obtain ⟨i, hi⟩ : ∃ i, i = k % on := ⟨_, rfl⟩
      have hI : (((k : Int)).tmod (on : Int)) = (i : Int) := by rw [hi]; rfl
      have hwk : IntKind.i64.wrap (k : Int) = (k : Int) := by simp [IntKind.wrap, IntKind.signed, IntKind.bits]; omega
      rw [<- hi] at hm
      have hmu : i < un := by rw [<- hnn.out]; exact hm
      obtain ⟨u, bu, ofu, eu, -, eua, -, hbu, du⟩ := (HUF.out _ hb).flg hmu
      have hunk : Hid (unK l.und i = u) := by show _ = _; unfold unK; rw [eu]; rfl
      have hih : Hid (i = k % on) := hi
      subst eua
      clear eu hi
      cases u with
      | true =>
        have ht := HTB.out HP.out.2.2 i false hm hunk.out
        have HT := hiq ht
        clear ht
        have HDT := hiq (HRD.out HP.out.1 (i : Int))
        generalize hTT : l.turn (i : Int) false = TT at *
        obtain ⟨TL, TE⟩ := TT
        dsimp only at HDT
        have HTT := hiq hTT
        clear hTT
        have HQ := hiq (HDT.out _ hb)
        change Hid (Calls _ _ #[.agg #[.string sec, .slice sa sn sc, .slice ta tn tc, .slice ca cn cc, .slice oa on oc, .slice (some ⟨bu, ofu, none⟩) un uc], _] _ _) at HQ
        go_wp2_with fail
        refine HQ.out.mono ?_
        rintro e W3 ⟨v, he, hR, hbk⟩
        obtain ⟨⟨secM, saM, snM, scM, taM, tnM, tcM, caM, cnM, ccM⟩, oaM, onM, ocM, uaM, unM, ucM⟩ := v
        change e = .returned (.tuple #[.agg #[.string secM, .slice saM snM scM, .slice taM tnM tcM, .slice caM cnM ccM, .slice oaM onM ocM, .slice uaM unM ucM], .int .i64 TE]) at he
        subst he
        have hal : Below W3.heap.size W3 (W3.alloc (.cells #[.string secM, .slice saM snM scM, .slice taM tnM tcM, .slice caM cnM ccM, .slice oaM onM ocM, .slice uaM unM ucM] 30)) := (Below.refl _ _).alloc (Nat.le_refl _) _
        have hst := hbk.trans (hal.mono hbk.size)
        obtain ⟨m0, m1, m2, m3, m4, m5⟩ := box_cells6 (World.alloc_heap_new W3 (.cells #[.string secM, .slice saM snM scM, .slice taM tnM tcM, .slice caM cnM ccM, .slice oaM onM ocM, .slice uaM unM ucM] 30))
        replace l0 := clq hst l0; replace l1 := clq hst l1; replace l2 := clq hst l2; replace l3 := clq hst l3; replace l4 := clq hst l4; replace l5 := clq hst l5; replace du := clq hst du
        have HRM := hiq (hR.below hal)
        replace hb := hb.trans (hst.mono hb.size)
        clear hR hbk hal hst HQ
        rcases HT.out with q | ⟨q, q2⟩
        · change TE = 17 at q
          subst q
          clear HT HTT HTB HDT
          have HQ := hiq (HAW.out _ hb)
          go_wp2_with fail
          generalize W3.alloc (.cells #[.string secM, .slice saM snM scM, .slice taM tnM tcM, .slice caM cnM ccM, .slice oaM onM ocM, .slice uaM unM ucM] 30) = W4 at *
          refine HQ.out.mono ?_
          rintro e W5 ⟨rfl, hbk⟩
          replace l0 := clq hbk l0; replace l1 := clq hbk l1; replace l2 := clq hbk l2; replace l3 := clq hbk l3; replace l4 := clq hbk l4; replace l5 := clq hbk l5; replace du := clq hbk du; replace m0 := clq hbk m0; replace m1 := clq hbk m1; replace m2 := clq hbk m2; replace m3 := clq hbk m3; replace m4 := clq hbk m4; replace m5 := clq hbk m5
          replace HRM := hiq (HRM.out.below hbk)
          replace hb := hb.trans (hbk.mono hb.size)
          clear hbk HQ
          go_wp2
          go_ret
          exact ⟨rfl, hb⟩
        · cases q
          clear HT HTT HTB HDT
          have HBK := hiq (HUB.out HP.out.1 i false (i : Int))
          rw [show (l.set i false).turn (i : Int) true = (l, 0) from q2] at HBK
          clear q2
          have HQ := hiq (HBK.out ⟨⟨secM, saM, snM, scM, taM, tnM, tcM, caM, cnM, ccM⟩, oaM, onM, ocM, uaM, unM, ucM⟩ _ hb HRM.out)
          change Hid (Calls _ _ #[.agg #[.string secM, .slice saM snM scM, .slice taM tnM tcM, .slice caM cnM ccM, .slice oaM onM ocM, .slice uaM unM ucM], _] _ _) at HQ
          go_wp2_with fail
          generalize W3.alloc (.cells #[.string secM, .slice saM snM scM, .slice taM tnM tcM, .slice caM cnM ccM, .slice oaM onM ocM, .slice uaM unM ucM] 30) = W4 at *
          refine HQ.out.mono ?_
          rintro e W5 ⟨v, he, hR, hbk⟩
          obtain ⟨⟨secN, saN, snN, scN, taN, tnN, tcN, caN, cnN, ccN⟩, oaN, onN, ocN, uaN, unN, ucN⟩ := v
          change e = .returned (.tuple #[.agg #[.string secN, .slice saN snN scN, .slice taN tnN tcN, .slice caN cnN ccN, .slice oaN onN ocN, .slice uaN unN ucN], .int .i64 0]) at he
          subst he
          have hal : Below W5.heap.size W5 (W5.alloc (.cells #[.string secN, .slice saN snN scN, .slice taN tnN tcN, .slice caN cnN ccN, .slice oaN onN ocN, .slice uaN unN ucN] 30)) := (Below.refl _ _).alloc (Nat.le_refl _) _
          have hst := hbk.trans (hal.mono hbk.size)
          obtain ⟨n0, n1, n2, n3, n4, n5⟩ := box_cells6 (World.alloc_heap_new W5 (.cells #[.string secN, .slice saN snN scN, .slice taN tnN tcN, .slice caN cnN ccN, .slice oaN onN ocN, .slice uaN unN ucN] 30))
          replace l0 := clq hst l0; replace l1 := clq hst l1; replace l2 := clq hst l2; replace l3 := clq hst l3; replace l4 := clq hst l4; replace l5 := clq hst l5; replace du := clq hst du; replace m0 := clq hst m0; replace m1 := clq hst m1; replace m2 := clq hst m2; replace m3 := clq hst m3; replace m4 := clq hst m4; replace m5 := clq hst m5
          replace HRM := hiq (HRM.out.below hst)
          have HRN := hiq (hR.below hal)
          replace hb := hb.trans (hst.mono hb.size)
          clear hR hbk hal hst HQ
          have HQ := hiq (HSL.out ⟨⟨sec, sa, sn, sc, ta, tn, tc, ca, cn, cc⟩, oa, on, oc, some ⟨bu, ofu, none⟩, un, uc⟩ ⟨⟨secN, saN, snN, scN, taN, tnN, tcN, caN, cnN, ccN⟩, oaN, onN, ocN, uaN, unN, ucN⟩ _ _ (HRL.out _ hb) HRN.out)
          change Hid (Calls _ _ #[.agg #[.string sec, .slice sa sn sc, .slice ta tn tc, .slice ca cn cc, .slice oa on oc, .slice (some ⟨bu, ofu, none⟩) un uc], .agg #[.string secN, .slice saN snN scN, .slice taN tnN tcN, .slice caN cnN ccN, .slice oaN onN ocN, .slice uaN unN ucN]] _ _) at HQ
          go_wp2_with fail
          generalize W5.alloc (.cells #[.string secN, .slice saN snN scN, .slice taN tnN tcN, .slice caN cnN ccN, .slice oaN onN ocN, .slice uaN unN ucN] 30) = W6 at *
          refine HQ.out.mono ?_
          rintro e W7 ⟨rfl, hbk⟩
          replace l0 := clq hbk l0; replace l1 := clq hbk l1; replace l2 := clq hbk l2; replace l3 := clq hbk l3; replace l4 := clq hbk l4; replace l5 := clq hbk l5; replace du := clq hbk du; replace m0 := clq hbk m0; replace m1 := clq hbk m1; replace m2 := clq hbk m2; replace m3 := clq hbk m3; replace m4 := clq hbk m4; replace m5 := clq hbk m5; replace n0 := clq hbk n0; replace n1 := clq hbk n1; replace n2 := clq hbk n2
          replace n3 := clq hbk n3; replace n4 := clq hbk n4; replace n5 := clq hbk n5
          replace HRM := hiq (HRM.out.below hbk)
          replace HRN := hiq (HRN.out.below hbk)
          replace hb := hb.trans (hbk.mono hb.size)
          clear hbk HQ
          have HQ := hiq (HAW.out _ hb)
          go_wp2_with fail
          refine HQ.out.mono ?_
          rintro e W8 ⟨rfl, hbk⟩
          replace l0 := clq hbk l0; replace l1 := clq hbk l1; replace l2 := clq hbk l2; replace l3 := clq hbk l3; replace l4 := clq hbk l4; replace l5 := clq hbk l5; replace du := clq hbk du; replace m0 := clq hbk m0; replace m1 := clq hbk m1; replace m2 := clq hbk m2; replace m3 := clq hbk m3; replace m4 := clq hbk m4; replace m5 := clq hbk m5; replace n0 := clq hbk n0; replace n1 := clq hbk n1; replace n2 := clq hbk n2
          replace n3 := clq hbk n3; replace n4 := clq hbk n4; replace n5 := clq hbk n5
          replace HRM := hiq (HRM.out.below hbk)
          replace HRN := hiq (HRN.out.below hbk)
          replace hb := hb.trans (hbk.mono hb.size)
          clear hbk HQ
          go_wp2
          go_ret
          exact ⟨rfl, hb⟩
      | false =>
        have ht := HTB.out HP.out.2.2 i true hm hunk.out
        have HT := hiq ht
        clear ht
        have HDT := hiq (HUN.out HP.out.1 (i : Int))
        generalize hTT : l.turn (i : Int) true = TT at *
        obtain ⟨TL, TE⟩ := TT
        dsimp only at HDT
        have HTT := hiq hTT
        clear hTT
        have HQ := hiq (HDT.out _ hb)
        change Hid (Calls _ _ #[.agg #[.string sec, .slice sa sn sc, .slice ta tn tc, .slice ca cn cc, .slice oa on oc, .slice (some ⟨bu, ofu, none⟩) un uc], _] _ _) at HQ
        go_wp2_with fail
        refine HQ.out.mono ?_
        rintro e W3 ⟨v, he, hR, hbk⟩
        obtain ⟨⟨secM, saM, snM, scM, taM, tnM, tcM, caM, cnM, ccM⟩, oaM, onM, ocM, uaM, unM, ucM⟩ := v
        change e = .returned (.tuple #[.agg #[.string secM, .slice saM snM scM, .slice taM tnM tcM, .slice caM cnM ccM, .slice oaM onM ocM, .slice uaM unM ucM], .int .i64 TE]) at he
        subst he
        have hal : Below W3.heap.size W3 (W3.alloc (.cells #[.string secM, .slice saM snM scM, .slice taM tnM tcM, .slice caM cnM ccM, .slice oaM onM ocM, .slice uaM unM ucM] 30)) := (Below.refl _ _).alloc (Nat.le_refl _) _
        have hst := hbk.trans (hal.mono hbk.size)
        obtain ⟨m0, m1, m2, m3, m4, m5⟩ := box_cells6 (World.alloc_heap_new W3 (.cells #[.string secM, .slice saM snM scM, .slice taM tnM tcM, .slice caM cnM ccM, .slice oaM onM ocM, .slice uaM unM ucM] 30))
        replace l0 := clq hst l0; replace l1 := clq hst l1; replace l2 := clq hst l2; replace l3 := clq hst l3; replace l4 := clq hst l4; replace l5 := clq hst l5; replace du := clq hst du
        have HRM := hiq (hR.below hal)
        replace hb := hb.trans (hst.mono hb.size)
        clear hR hbk hal hst HQ
        rcases HT.out with q | ⟨q, q2⟩
        · change TE = 17 at q
          subst q
          clear HT HTT HTB HDT
          have HQ := hiq (HAW.out _ hb)
          go_wp2_with fail
          generalize W3.alloc (.cells #[.string secM, .slice saM snM scM, .slice taM tnM tcM, .slice caM cnM ccM, .slice oaM onM ocM, .slice uaM unM ucM] 30) = W4 at *
          refine HQ.out.mono ?_
          rintro e W5 ⟨rfl, hbk⟩
          replace l0 := clq hbk l0; replace l1 := clq hbk l1; replace l2 := clq hbk l2; replace l3 := clq hbk l3; replace l4 := clq hbk l4; replace l5 := clq hbk l5; replace du := clq hbk du; replace m0 := clq hbk m0; replace m1 := clq hbk m1; replace m2 := clq hbk m2; replace m3 := clq hbk m3; replace m4 := clq hbk m4; replace m5 := clq hbk m5
          replace HRM := hiq (HRM.out.below hbk)
          replace hb := hb.trans (hbk.mono hb.size)
          clear hbk HQ
          go_wp2
          go_ret
          exact ⟨rfl, hb⟩
        · cases q
          clear HT HTT HTB HDT
          have HBK := hiq (HRB.out HP.out.1 i true (i : Int))
          rw [show (l.set i true).turn (i : Int) false = (l, 0) from q2] at HBK
          clear q2
          have HQ := hiq (HBK.out ⟨⟨secM, saM, snM, scM, taM, tnM, tcM, caM, cnM, ccM⟩, oaM, onM, ocM, uaM, unM, ucM⟩ _ hb HRM.out)
          change Hid (Calls _ _ #[.agg #[.string secM, .slice saM snM scM, .slice taM tnM tcM, .slice caM cnM ccM, .slice oaM onM ocM, .slice uaM unM ucM], _] _ _) at HQ
          go_wp2_with fail
          generalize W3.alloc (.cells #[.string secM, .slice saM snM scM, .slice taM tnM tcM, .slice caM cnM ccM, .slice oaM onM ocM, .slice uaM unM ucM] 30) = W4 at *
          refine HQ.out.mono ?_
          rintro e W5 ⟨v, he, hR, hbk⟩
          obtain ⟨⟨secN, saN, snN, scN, taN, tnN, tcN, caN, cnN, ccN⟩, oaN, onN, ocN, uaN, unN, ucN⟩ := v
          change e = .returned (.tuple #[.agg #[.string secN, .slice saN snN scN, .slice taN tnN tcN, .slice caN cnN ccN, .slice oaN onN ocN, .slice uaN unN ucN], .int .i64 0]) at he
          subst he
          have hal : Below W5.heap.size W5 (W5.alloc (.cells #[.string secN, .slice saN snN scN, .slice taN tnN tcN, .slice caN cnN ccN, .slice oaN onN ocN, .slice uaN unN ucN] 30)) := (Below.refl _ _).alloc (Nat.le_refl _) _
          have hst := hbk.trans (hal.mono hbk.size)
          obtain ⟨n0, n1, n2, n3, n4, n5⟩ := box_cells6 (World.alloc_heap_new W5 (.cells #[.string secN, .slice saN snN scN, .slice taN tnN tcN, .slice caN cnN ccN, .slice oaN onN ocN, .slice uaN unN ucN] 30))
          replace l0 := clq hst l0; replace l1 := clq hst l1; replace l2 := clq hst l2; replace l3 := clq hst l3; replace l4 := clq hst l4; replace l5 := clq hst l5; replace du := clq hst du; replace m0 := clq hst m0; replace m1 := clq hst m1; replace m2 := clq hst m2; replace m3 := clq hst m3; replace m4 := clq hst m4; replace m5 := clq hst m5
          replace HRM := hiq (HRM.out.below hst)
          have HRN := hiq (hR.below hal)
          replace hb := hb.trans (hst.mono hb.size)
          clear hR hbk hal hst HQ
          have HQ := hiq (HSL.out ⟨⟨sec, sa, sn, sc, ta, tn, tc, ca, cn, cc⟩, oa, on, oc, some ⟨bu, ofu, none⟩, un, uc⟩ ⟨⟨secN, saN, snN, scN, taN, tnN, tcN, caN, cnN, ccN⟩, oaN, onN, ocN, uaN, unN, ucN⟩ _ _ (HRL.out _ hb) HRN.out)
          change Hid (Calls _ _ #[.agg #[.string sec, .slice sa sn sc, .slice ta tn tc, .slice ca cn cc, .slice oa on oc, .slice (some ⟨bu, ofu, none⟩) un uc], .agg #[.string secN, .slice saN snN scN, .slice taN tnN tcN, .slice caN cnN ccN, .slice oaN onN ocN, .slice uaN unN ucN]] _ _) at HQ
          go_wp2_with fail
          generalize W5.alloc (.cells #[.string secN, .slice saN snN scN, .slice taN tnN tcN, .slice caN cnN ccN, .slice oaN onN ocN, .slice uaN unN ucN] 30) = W6 at *
          refine HQ.out.mono ?_
          rintro e W7 ⟨rfl, hbk⟩
          replace l0 := clq hbk l0; replace l1 := clq hbk l1; replace l2 := clq hbk l2; replace l3 := clq hbk l3; replace l4 := clq hbk l4; replace l5 := clq hbk l5; replace du := clq hbk du; replace m0 := clq hbk m0; replace m1 := clq hbk m1; replace m2 := clq hbk m2; replace m3 := clq hbk m3; replace m4 := clq hbk m4; replace m5 := clq hbk m5; replace n0 := clq hbk n0; replace n1 := clq hbk n1; replace n2 := clq hbk n2
          replace n3 := clq hbk n3; replace n4 := clq hbk n4; replace n5 := clq hbk n5
          replace HRM := hiq (HRM.out.below hbk)
          replace HRN := hiq (HRN.out.below hbk)
          replace hb := hb.trans (hbk.mono hb.size)
          clear hbk HQ
          have HQ := hiq (HAW.out _ hb)
          go_wp2_with fail
          refine HQ.out.mono ?_
          rintro e W8 ⟨rfl, hbk⟩
          replace l0 := clq hbk l0; replace l1 := clq hbk l1; replace l2 := clq hbk l2; replace l3 := clq hbk l3; replace l4 := clq hbk l4; replace l5 := clq hbk l5; replace du := clq hbk du; replace m0 := clq hbk m0; replace m1 := clq hbk m1; replace m2 := clq hbk m2; replace m3 := clq hbk m3; replace m4 := clq hbk m4; replace m5 := clq hbk m5; replace n0 := clq hbk n0; replace n1 := clq hbk n1; replace n2 := clq hbk n2
          replace n3 := clq hbk n3; replace n4 := clq hbk n4; replace n5 := clq hbk n5
          replace HRM := hiq (HRM.out.below hbk)
          replace HRN := hiq (HRN.out.below hbk)
          replace hb := hb.trans (hbk.mono hb.size)
          clear hbk HQ
          go_wp2
          go_ret
          exact ⟨rfl, hb⟩
end Go.Proofs.YtfdipkhbemgojaaGreatDoor
