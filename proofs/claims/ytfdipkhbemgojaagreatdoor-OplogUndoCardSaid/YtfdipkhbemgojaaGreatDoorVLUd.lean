/- The law OplogUndo (printed by gen_olaws.py). -/
import Derived.Test.YtfdipkhbemgojaaGreatDoorS36
import Derived.Test.YtfdipkhbemgojaaGreatDoorS37
set_option linter.unusedVariables false
set_option linter.unusedSimpArgs false
set_option maxRecDepth 100000
set_option maxHeartbeats 16000000
namespace Go.Proofs.YtfdipkhbemgojaaGreatDoor
open Go.RowKit

def Lg.less (l : Lg) (k : Nat) : Lg := ⟨l.start, l.ops.eraseIdx k, l.und.eraseIdx k⟩
theorem undo_yes {l : Lg} {k : Nat} (h1 : l.err = 0) (hk : k < l.ops.length) (hu : unK l.und k = true) : l.turn (k : Int) true = (Lg.none, 7) /\ l.deps (k : Int) = ([], 7) := by
  have hi : l.idx (k : Int) = 0 := idx_zero.2 ⟨h1, by omega, by omega⟩
  refine ⟨turn_same hi hu, ?_⟩
  unfold Lg.deps
  rw [if_neg (by simp [hi]), Int.toNat_natCast, if_pos hu]
theorem undo_no {l : Lg} {k : Nat} (h1 : l.err = 0) (hk : k < l.ops.length) (hu : unK l.und k = false) :
    l.deps (k : Int) = ((l.set k true).run.sk, 0) /\ ((l.turn (k : Int) true = (Lg.none, 17) /\ 0 < (l.set k true).run.sk.length) \/
      (l.turn (k : Int) true = (l.set k true, 0) /\ (l.set k true).run.sk.length = 0 /\ (l.set k true).state = ((l.set k true).run.st, 0) /\ (l.less k).state = ((l.set k true).run.st, 0))) := by
  have hi : l.idx (k : Int) = 0 := idx_zero.2 ⟨h1, by omega, by omega⟩
  have h0 := (err_zero.1 h1).1
  refine ⟨?_, ?_⟩
  · unfold Lg.deps
    rw [if_neg (by simp [hi]), Int.toNat_natCast, if_neg (by simp [hu])]
  · rw [turn_changed hi (by simp [hu])]
    unfold Lg.changed
    by_cases hm : (l.set k true).err = 0
    · right
      have hs := (set_err h1).1 hm
      have hw := without_run (x := l.start) hk h0.2.1
      have hr : (l.less k).err = 0 := err_zero.2 ⟨⟨h0.1, by show (l.ops.eraseIdx k).length = (l.und.eraseIdx k).length; rw [List.length_eraseIdx_of_lt hk, List.length_eraseIdx_of_lt (by omega)]; omega, by show (l.ops.eraseIdx k).length <= 256; rw [List.length_eraseIdx_of_lt hk]; omega⟩, hw.2.trans (err_zero.1 hm).2⟩
      refine ⟨by rw [if_neg (by simp [hm])], by rw [hs]; rfl, state_ok hm, ?_⟩
      rw [state_ok hr]
      exact congrArg (fun x => (x, (0 : Int))) hw.1
    · left
      refine ⟨by rw [if_pos hm], ?_⟩
      have hs := fun q => hm ((set_err h1).2 q)
      rcases hh : (l.set k true).run.sk with _ | ⟨a, r⟩
      · exact absurd hh hs
      · simp
theorem undo_law (S : Nat -> Prop) (v : LV) (l : Lg) (k : Nat) (w : World) (h : RdL S w v l) (hE : Env w) (hk : k < 256) : Calls Tryz.prog 7 #[v.val, .int .u8 (k : Int)] w fun e w' => e = .returned (.bool true) /\ Below w.heap.size w w' := by
  have HF : Hid (∀ W, Below w.heap.size w W -> Calls Tryz.prog 24 #[v.val] W (BPost true (SmG l /\ l.ops.length <= 8 /\ l.err = 0) W)) := fun W hb => fineL_any S v l W (h.below hb) (hE.below hb)
  have HAW : Hid (∀ W, Below w.heap.size w W -> Calls Tryz.prog 13 #[] W fun e w' => e = .returned (.bool true) /\ Below W.heap.size W w') := fun W hb => awake_any W (hE.below hb)
  have HSM : Hid (∀ u v x W, RC W u x -> RC W v x -> Calls Tryz.prog 23 #[u.val, v.val] W fun e w' => e = .returned (.bool true) /\ Below W.heap.size W w') := fun u v x W h k => sameC_yes h k
  have HUN : Hid (SmG l -> ∀ i W, Below w.heap.size w W -> Calls Tryz.prog 27 #[v.val, .int .i64 i] W (LogP (l.turn i true).1 (l.turn i true).2 W)) := fun a i W hb => (undo_any _ v l i W (h.below hb) a.sml (hE.below hb)).mono (fun e w' h => h.p)
  have HDE : Hid (SmG l -> ∀ i W, Below w.heap.size w W -> Calls Tryz.prog 31 #[v.val, .int .i64 i] W (DepPost (l.deps i) W)) := fun a i W hb => deps_any _ v l i W (h.below hb) a.sml (hE.below hb)
  have HST : Hid (∀ (m : Lg) u W, SmL m -> Below w.heap.size w W -> RL W u m -> Calls Tryz.prog 18 #[u.val] W (ColP m.state.1 m.state.2 W)) := fun m u W hm hb hu => (state_any _ u m W hu hm (hE.below hb)).mono (fun e w' h => h.p)
  have HSS : Hid (SmG l -> ∀ k, SmL (l.set k true) /\ SmL (l.less k)) := fun a k => ⟨sml_set a.sml, a.sml.1, fun o ho => a.sml.2 o (List.mem_of_mem_eraseIdx ho)⟩
  have HY : Hid (l.err = 0 -> ∀ k, k < v.on -> unK l.und k = true -> l.turn (k : Int) true = (Lg.none, 7) /\ l.deps (k : Int) = ([], 7)) := by rw [h.2.1.len]; exact fun a k b c => undo_yes a b c
  have HN : Hid (l.err = 0 -> ∀ k, k < v.on -> unK l.und k = false -> l.deps (k : Int) = ((l.set k true).run.sk, 0) /\ ((l.turn (k : Int) true = (Lg.none, 17) /\ 0 < (l.set k true).run.sk.length) \/
      (l.turn (k : Int) true = (l.set k true, 0) /\ (l.set k true).run.sk.length = 0 /\ (l.set k true).state = ((l.set k true).run.st, 0) /\ (l.less k).state = ((l.set k true).run.st, 0)))) := by rw [h.2.1.len]; exact fun a k b c => undo_no a b c
  have HM : Hid (l.err = 0 -> ∀ k, k < v.on -> ∀ j ∈ (l.set k true).run.sk, (k : Int) < j /\ j < (v.on : Int) /\ unK l.und j.toNat = false) := by rw [h.2.1.len]; exact fun a k b => deps_mem a b
  have HLL : Hid (∀ W, Below w.heap.size w W -> RC W v.c l.start /\ Opsq S W v.oa v.on v.oc l.ops) := fun W hb => ⟨(h.below hb).t.1, (h.below hb).2.1⟩
  have HUF : Hid (∀ W, Below w.heap.size w W -> Flgs S W v.ua v.un v.uc l.und) := fun W hb => h.2.2.below rBool_ok hb
  have HLN : Hid (l.err = 0 -> v.on = v.un) := fun a => by rw [h.2.1.len, h.2.2.len]; exact (err_zero.1 a).1.2.1
  have HUL : Hid (v.un = l.und.length) := h.2.2.len
  have hub := h.2.2.bound
  have hob := h.2.1.bound
  have HOK : Hid (∀ o ∈ l.ops, o.ok) := opsq_ok h.2.1
  have HL8 : Hid (l.ops.length <= 8 -> v.on <= 8) := by rw [h.2.1.len]; exact fun q => q
  generalize SmG l = PG at *
  generalize (l.ops.length <= 8) = PL at *
  generalize l.err = LE at *
  clear h hE
  obtain ⟨⟨sec, sa, sn, sc, ta, tn, tc, ca, cn, cc⟩, oa, on, oc, ua, un, uc⟩ := v
  have hb : Below w.heap.size w (w.alloc (.cells #[.string sec, .slice sa sn sc, .slice ta tn tc, .slice ca cn cc, .slice oa on oc, .slice ua un uc] 30)) := (Below.refl _ _).alloc (Nat.le_refl _) _
  obtain ⟨l0, l1, l2, l3, l4, l5⟩ := box_cells6 (World.alloc_heap_new w (.cells #[.string sec, .slice sa sn sc, .slice ta tn tc, .slice ca cn cc, .slice oa on oc, .slice ua un uc] 30))
  dsimp only at HY HN HM HLL HUF HLN HUL HL8 hub hob
  change Calls _ _ #[.agg #[.string sec, .slice sa sn sc, .slice ta tn tc, .slice ca cn cc, .slice oa on oc, .slice ua un uc], _] _ _
  go_enter Tryz.func7, Tryz.ntmps7
  have HQ := hiq (HF.out _ hb)
  change Hid (Calls _ _ #[.agg #[.string sec, .slice sa sn sc, .slice ta tn tc, .slice ca cn cc, .slice oa on oc, .slice ua un uc]] _ _) at HQ
  go_wp2_with fail
  generalize w.alloc (.cells #[.string sec, .slice sa sn sc, .slice ta tn tc, .slice ca cn cc, .slice oa on oc, .slice ua un uc] 30) = W1 at *
  refine HQ.out.mono ?_
  rintro e W2 ⟨g, rfl, hbk, hpg⟩
  replace l0 := clq hbk l0; replace l1 := clq hbk l1; replace l2 := clq hbk l2; replace l3 := clq hbk l3; replace l4 := clq hbk l4; replace l5 := clq hbk l5
  replace hb := hb.trans (hbk.mono hb.size)
  clear hbk HQ
  cases g with
  | false =>
    have HQ := hiq (HAW.out _ hb)
    go_wp2_with fail
    refine HQ.out.mono ?_
    rintro e W3 ⟨rfl, hbk⟩
    replace l0 := clq hbk l0; replace l1 := clq hbk l1; replace l2 := clq hbk l2; replace l3 := clq hbk l3; replace l4 := clq hbk l4; replace l5 := clq hbk l5
    replace hb := hb.trans (hbk.mono hb.size)
    clear hbk HQ
    go_wp2
    go_ret
    exact ⟨rfl, hb⟩
  | true =>
    obtain ⟨hp1, hp2, hp3⟩ := hpg rfl
    have HP := hiq (And.intro hp1 (And.intro hp2 hp3))
    have hnn : Hid (on = un) := HLN.out hp3
    have H8 : Hid (on <= 8) := HL8.out hp2
    clear hp1 hp2 hp3 hpg HLN HL8
    by_cases n0 : on = 0
    · have t1 : ((on : Int) == 0) = true := by simp [n0]
      clear n0
      have HQ := hiq (HAW.out _ hb)
      go_wp2_with fail
      refine HQ.out.mono ?_
      rintro e W3 ⟨rfl, hbk⟩
      replace l0 := clq hbk l0; replace l1 := clq hbk l1; replace l2 := clq hbk l2; replace l3 := clq hbk l3; replace l4 := clq hbk l4; replace l5 := clq hbk l5
      replace hb := hb.trans (hbk.mono hb.size)
      clear hbk HQ
      go_wp2
      go_ret
      exact ⟨rfl, hb⟩
    · have t1 : ((on : Int) == 0) = false := by simp; omega
      have hm : k % on < on := Nat.mod_lt _ (by omega)
      obtain ⟨i, hi⟩ : ∃ i, i = k % on := ⟨_, rfl⟩
      have hI : (((k : Int)).tmod (on : Int)) = (i : Int) := by rw [hi]; rfl
      have hwk : IntKind.i64.wrap (k : Int) = (k : Int) := by simp [IntKind.wrap, IntKind.signed, IntKind.bits]; omega
      rw [<- hi] at hm
      have hmu : i < un := by rw [<- hnn.out]; exact hm
      obtain ⟨u, bu, ofu, eu, -, eua, -, hbu, du⟩ := (HUF.out _ hb).flg hmu
      have hunk : Hid (unK l.und i = u) := by show _ = _; unfold unK; rw [eu]; rfl
      have hih : Hid (i = k % on) := hi
      subst eua
      clear eu hi
      have hal : Below W2.heap.size W2 (W2.alloc (.cells #[.int .i64 (i : Int)] 3)) := (Below.refl _ _).alloc (Nat.le_refl _) _
      have ci : (W2.alloc (.cells #[.int .i64 (i : Int)] 3)).cell? ⟨W2.heap.size, 0, none⟩ = some (.int .i64 (i : Int)) := by rw [Lib.cell_of_heap (World.alloc_heap_new W2 (.cells #[.int .i64 (i : Int)] 3))]; rfl
      have z_l0 := l0
      have z_l1 := l1
      have z_l2 := l2
      have z_l3 := l3
      have z_l4 := l4
      have z_l5 := l5
      have z_du := du
      replace l0 := clq hal l0; replace l1 := clq hal l1; replace l2 := clq hal l2; replace l3 := clq hal l3; replace l4 := clq hal l4; replace l5 := clq hal l5; replace du := clq hal du
      replace hb := hb.trans (hal.mono hb.size)
      clear hal
      cases u with
      | true =>
        obtain ⟨q1, q2⟩ := HY.out HP.out.2.2 i hm hunk.out
        have HDT := hiq (HUN.out HP.out.1 (i : Int))
        have HDD := hiq (HDE.out HP.out.1 (i : Int))
        rw [q1] at HDT
        rw [q2] at HDD
        clear q1 q2 HY HN HM HUN HDE HLL HST HSS HOK
        have HQ := hiq (HDT.out _ hb)
        change Hid (Calls _ _ #[.agg #[.string sec, .slice sa sn sc, .slice ta tn tc, .slice ca cn cc, .slice oa on oc, .slice (some ⟨bu, ofu, none⟩) un uc], _] _ _) at HQ
        go_wp2_with fail
        generalize W2.alloc (.cells #[.int .i64 (i : Int)] 3) = W3 at *
        refine HQ.out.mono ?_
        rintro e W4 ⟨v, he, hR, hbk⟩
        obtain ⟨⟨secM, saM, snM, scM, taM, tnM, tcM, caM, cnM, ccM⟩, oaM, onM, ocM, uaM, unM, ucM⟩ := v
        change e = .returned (.tuple #[.agg #[.string secM, .slice saM snM scM, .slice taM tnM tcM, .slice caM cnM ccM, .slice oaM onM ocM, .slice uaM unM ucM], .int .i64 7]) at he
        subst he
        have hal : Below W4.heap.size W4 (W4.alloc (.cells #[.string secM, .slice saM snM scM, .slice taM tnM tcM, .slice caM cnM ccM, .slice oaM onM ocM, .slice uaM unM ucM] 30)) := (Below.refl _ _).alloc (Nat.le_refl _) _
        have hst := hbk.trans (hal.mono hbk.size)
        obtain ⟨m0, m1, m2, m3, m4, m5⟩ := box_cells6 (World.alloc_heap_new W4 (.cells #[.string secM, .slice saM snM scM, .slice taM tnM tcM, .slice caM cnM ccM, .slice oaM onM ocM, .slice uaM unM ucM] 30))
        replace l0 := clq hst l0; replace l1 := clq hst l1; replace l2 := clq hst l2; replace l3 := clq hst l3; replace l4 := clq hst l4; replace l5 := clq hst l5; replace du := clq hst du; replace ci := clq hst ci
        have HRM := hiq (hR.below hal)
        replace hb := hb.trans (hst.mono hb.size)
        clear hR hbk hal hst HQ
        clear z_l0 z_l1 z_l2 z_l3 z_l4 z_l5 z_du
        have HQ := hiq (HDD.out _ hb)
        change Hid (Calls _ _ #[.agg #[.string sec, .slice sa sn sc, .slice ta tn tc, .slice ca cn cc, .slice oa on oc, .slice (some ⟨bu, ofu, none⟩) un uc], _] _ _) at HQ
        go_wp2_with fail
        generalize W4.alloc (.cells #[.string secM, .slice saM snM scM, .slice taM tnM tcM, .slice caM cnM ccM, .slice oaM onM ocM, .slice uaM unM ucM] 30) = W5 at *
        refine HQ.out.mono ?_
        rintro e W6 ⟨aD, nD, cD, rfl, hN, hbk⟩
        replace l0 := clq hbk l0; replace l1 := clq hbk l1; replace l2 := clq hbk l2; replace l3 := clq hbk l3; replace l4 := clq hbk l4; replace l5 := clq hbk l5; replace du := clq hbk du; replace ci := clq hbk ci; replace m0 := clq hbk m0; replace m1 := clq hbk m1; replace m2 := clq hbk m2; replace m3 := clq hbk m3; replace m4 := clq hbk m4; replace m5 := clq hbk m5
        replace HRM := hiq (HRM.out.below hbk)
        have HND := hiq hN
        replace hb := hb.trans (hbk.mono hb.size)
        clear hN hbk HQ
        have HQ := hiq (HAW.out _ hb)
        go_wp2_with fail
        refine HQ.out.mono ?_
        rintro e W7 ⟨rfl, hbk⟩
        replace l0 := clq hbk l0; replace l1 := clq hbk l1; replace l2 := clq hbk l2; replace l3 := clq hbk l3; replace l4 := clq hbk l4; replace l5 := clq hbk l5; replace du := clq hbk du; replace ci := clq hbk ci; replace m0 := clq hbk m0; replace m1 := clq hbk m1; replace m2 := clq hbk m2; replace m3 := clq hbk m3; replace m4 := clq hbk m4; replace m5 := clq hbk m5
        replace HRM := hiq (HRM.out.below hbk)
        replace HND := hiq (HND.out.below rInt_ok hbk)
        replace hb := hb.trans (hbk.mono hb.size)
        clear hbk HQ
        go_wp2
        go_ret
        exact ⟨rfl, hb⟩
      | false =>
        obtain ⟨q2, q3⟩ := HN.out HP.out.2.2 i hm hunk.out
        have HDT := hiq (HUN.out HP.out.1 (i : Int))
        have HDD := hiq (HDE.out HP.out.1 (i : Int))
        rw [q2] at HDD
        have HMM := hiq (HM.out HP.out.2.2 i hm)
        obtain ⟨HS1, HS2⟩ := HSS.out HP.out.1 i
        replace HS1 := hiq HS1
        replace HS2 := hiq HS2
        clear q2 HY HN HM HUN HDE HSS
        generalize (l.set i true).run.sk = DL at *
        generalize (l.set i true).run.st = XR at *
        have HQ3 := hiq q3
        clear q3
        generalize hTT : l.turn (i : Int) true = TT at *
        obtain ⟨TL, TE⟩ := TT
        dsimp only at HDT
        have HTT := hiq hTT
        clear hTT
        have HQ := hiq (HDT.out _ hb)
        change Hid (Calls _ _ #[.agg #[.string sec, .slice sa sn sc, .slice ta tn tc, .slice ca cn cc, .slice oa on oc, .slice (some ⟨bu, ofu, none⟩) un uc], _] _ _) at HQ
        go_wp2_with fail
        generalize W2.alloc (.cells #[.int .i64 (i : Int)] 3) = W3 at *
        refine HQ.out.mono ?_
        rintro e W4 ⟨v, he, hR, hbk⟩
        obtain ⟨⟨secM, saM, snM, scM, taM, tnM, tcM, caM, cnM, ccM⟩, oaM, onM, ocM, uaM, unM, ucM⟩ := v
        change e = .returned (.tuple #[.agg #[.string secM, .slice saM snM scM, .slice taM tnM tcM, .slice caM cnM ccM, .slice oaM onM ocM, .slice uaM unM ucM], .int .i64 TE]) at he
        subst he
        have hal : Below W4.heap.size W4 (W4.alloc (.cells #[.string secM, .slice saM snM scM, .slice taM tnM tcM, .slice caM cnM ccM, .slice oaM onM ocM, .slice uaM unM ucM] 30)) := (Below.refl _ _).alloc (Nat.le_refl _) _
        have hst := hbk.trans (hal.mono hbk.size)
        obtain ⟨m0, m1, m2, m3, m4, m5⟩ := box_cells6 (World.alloc_heap_new W4 (.cells #[.string secM, .slice saM snM scM, .slice taM tnM tcM, .slice caM cnM ccM, .slice oaM onM ocM, .slice uaM unM ucM] 30))
        replace l0 := clq hst l0; replace l1 := clq hst l1; replace l2 := clq hst l2; replace l3 := clq hst l3; replace l4 := clq hst l4; replace l5 := clq hst l5; replace du := clq hst du; replace ci := clq hst ci
        have HRM := hiq (hR.below hal)
        replace hb := hb.trans (hst.mono hb.size)
        clear hR hbk hal hst HQ
        clear z_l0 z_l1 z_l2 z_l3 z_l4 z_l5 z_du
        have HQ := hiq (HDD.out _ hb)
        change Hid (Calls _ _ #[.agg #[.string sec, .slice sa sn sc, .slice ta tn tc, .slice ca cn cc, .slice oa on oc, .slice (some ⟨bu, ofu, none⟩) un uc], _] _ _) at HQ
        go_wp2_with fail
        generalize W4.alloc (.cells #[.string secM, .slice saM snM scM, .slice taM tnM tcM, .slice caM cnM ccM, .slice oaM onM ocM, .slice uaM unM ucM] 30) = W5 at *
        refine HQ.out.mono ?_
        rintro e W6 ⟨aD, nD, cD, rfl, hN, hbk⟩
        replace l0 := clq hbk l0; replace l1 := clq hbk l1; replace l2 := clq hbk l2; replace l3 := clq hbk l3; replace l4 := clq hbk l4; replace l5 := clq hbk l5; replace du := clq hbk du; replace ci := clq hbk ci; replace m0 := clq hbk m0; replace m1 := clq hbk m1; replace m2 := clq hbk m2; replace m3 := clq hbk m3; replace m4 := clq hbk m4; replace m5 := clq hbk m5
        replace HRM := hiq (HRM.out.below hbk)
        have HND := hiq hN
        replace hb := hb.trans (hbk.mono hb.size)
        clear hN hbk HQ
        have HUC : Hid (∀ x ∈ DL, ∀ W, Below W6.heap.size W6 W -> Calls Tryz.prog 33 #[.int .i64 x, .pointer (some ⟨W2.heap.size, 0, none⟩), .pointer (some ⟨w.heap.size, 0, none⟩)] W fun e w' => e = .returned (.bool false) /\ Below W.heap.size W w') := fun x hx W hbW => by
          obtain ⟨r1, r2, r3⟩ := HMM.out x hx
          obtain ⟨j, rfl⟩ : ∃ j : Nat, x = (j : Int) := ⟨x.toNat, by omega⟩
          rw [Int.toNat_natCast] at r3
          exact undoC_no S oa on oc _ un uc l.und i j W _ _ (HUF.out W (hb.trans (hbW.mono hb.size))) (clq hbW ci) (clq hbW l4) (clq hbW l5) (by omega) (by omega) (by rw [<- hnn.out]; omega) r3
        have HCO := hiq (contains_no _ aD nD cD DL _ _ _ HND.out HUC.out)
        have HLD : Hid (nD = DL.length) := HND.out.len
        clear HUC HMM
        have hmf : ∀ (fn : Fn) (first cap : Array Value) (w : World), (Instr.makeFunc fn first cap).run Tryz.prog w = .ok (.func fn first cap) w := fun _ _ _ _ => rfl
        have HQ := hiq (HCO.out)
        go_wp2_with fail
        refine HQ.out.mono ?_
        rintro e W7 ⟨rfl, hbk⟩
        replace l0 := clq hbk l0; replace l1 := clq hbk l1; replace l2 := clq hbk l2; replace l3 := clq hbk l3; replace l4 := clq hbk l4; replace l5 := clq hbk l5; replace du := clq hbk du; replace ci := clq hbk ci; replace m0 := clq hbk m0; replace m1 := clq hbk m1; replace m2 := clq hbk m2; replace m3 := clq hbk m3; replace m4 := clq hbk m4; replace m5 := clq hbk m5
        replace HRM := hiq (HRM.out.below hbk)
        replace HND := hiq (HND.out.below rInt_ok hbk)
        replace hb := hb.trans (hbk.mono hb.size)
        clear hbk HQ
        clear hmf
        rcases HQ3.out with ⟨q1, q2⟩ | ⟨q1, q2, q3, q4⟩
        · obtain ⟨rfl, rfl⟩ := Prod.mk.inj q1
          rw [<- HLD.out] at q2
          clear HQ3 HTT HLD
          have t2 : decide ((0 : Int) < (nD : Int)) = true := by simp; omega
          have HQ := hiq (HAW.out _ hb)
          go_wp2_with fail
          refine HQ.out.mono ?_
          rintro e W8 ⟨rfl, hbk⟩
          replace l0 := clq hbk l0; replace l1 := clq hbk l1; replace l2 := clq hbk l2; replace l3 := clq hbk l3; replace l4 := clq hbk l4; replace l5 := clq hbk l5; replace du := clq hbk du; replace ci := clq hbk ci; replace m0 := clq hbk m0; replace m1 := clq hbk m1; replace m2 := clq hbk m2; replace m3 := clq hbk m3; replace m4 := clq hbk m4; replace m5 := clq hbk m5
          replace HRM := hiq (HRM.out.below hbk)
          replace HND := hiq (HND.out.below rInt_ok hbk)
          replace hb := hb.trans (hbk.mono hb.size)
          clear hbk HQ
          go_wp2
          go_ret
          exact ⟨rfl, hb⟩
        · obtain ⟨rfl, rfl⟩ := Prod.mk.inj q1
          rw [<- HLD.out] at q2
          subst q2
          have HQX := HST.out (l.set i true) ⟨⟨secM, saM, snM, scM, taM, tnM, tcM, caM, cnM, ccM⟩, oaM, onM, ocM, uaM, unM, ucM⟩
          rw [q3] at HQX
          have HQX := hiq HQX
          have HQY := HST.out (l.less i)
          rw [q4] at HQY
          have HQY := hiq HQY
          clear HQ3 HTT HLD q3 q4 HST
          have HQ := hiq (HQX.out _ HS1.out hb HRM.out)
          change Hid (Calls _ _ #[.agg #[.string secM, .slice saM snM scM, .slice taM tnM tcM, .slice caM cnM ccM, .slice oaM onM ocM, .slice uaM unM ucM]] _ _) at HQ
          go_wp2_with fail
          refine HQ.out.mono ?_
          rintro e W8 ⟨v, he, hR, hbk⟩
          obtain ⟨secX, saX, snX, scX, taX, tnX, tcX, caX, cnX, ccX⟩ := v
          change e = .returned (.tuple #[.agg #[.string secX, .slice saX snX scX, .slice taX tnX tcX, .slice caX cnX ccX], .int .i64 0]) at he
          subst he
          have hal : Below W8.heap.size W8 (W8.alloc (.cells #[.string secX, .slice saX snX scX, .slice taX tnX tcX, .slice caX cnX ccX] 26)) := (Below.refl _ _).alloc (Nat.le_refl _) _
          have hst := hbk.trans (hal.mono hbk.size)
          obtain ⟨x0, x1, x2, x3, -⟩ := box_cells4 (World.alloc_heap_new W8 (.cells #[.string secX, .slice saX snX scX, .slice taX tnX tcX, .slice caX cnX ccX] 26))
          replace l0 := clq hst l0; replace l1 := clq hst l1; replace l2 := clq hst l2; replace l3 := clq hst l3; replace l4 := clq hst l4; replace l5 := clq hst l5; replace du := clq hst du; replace ci := clq hst ci; replace m0 := clq hst m0; replace m1 := clq hst m1; replace m2 := clq hst m2; replace m3 := clq hst m3; replace m4 := clq hst m4; replace m5 := clq hst m5
          replace HRM := hiq (HRM.out.below hst)
          replace HND := hiq (HND.out.below rInt_ok hst)
          have HRX := hiq (hR.below hal)
          replace hb := hb.trans (hst.mono hb.size)
          clear hR hbk hal hst HQ
          go_wp2_with fail
          generalize W8.alloc (.cells #[.string secX, .slice saX snX scX, .slice taX tnX tcX, .slice caX cnX ccX] 26) = W9 at *
          have HCO5 : Hid (∀ W, Below W9.heap.size W9 W -> Calls Tryz.prog 35 #[.slice oa on oc] W fun e w' => ∃ a' c', e = .returned (.slice a' on c') /\ OwnQ 32 5 Op.cells w' W.heap.size a' on c' l.ops /\ Below W.heap.size W w') := fun W h => clone_ops S _ _ _ _ W (HLL.out W (hb.trans (h.mono hb.size))).2
          have HCB5 : Hid (∀ W, Below W9.heap.size W9 W -> Calls Tryz.prog 37 #[.slice (some ⟨bu, ofu, none⟩) un uc] W fun e w' => ∃ a' c', e = .returned (.slice a' un c') /\ OwnQ 4 1 encB w' W.heap.size a' un c' l.und /\ Below W.heap.size W w') := fun W h => clone_flgs S _ _ _ _ W (HUF.out W (hb.trans (h.mono hb.size)))
          have hm8 := H8.out
          have hb8 : un <= 8 := by have := hnn.out; omega
          obtain ⟨X, Wf, hX, hS1, hS2⟩ := family (fun V => Below W9.heap.size W9 V) W9 (Below.refl _ _)
          have HS2q := hiq hS2
          have q_l0 := fun x => clq (hS1 x) l0
          have q_l1 := fun x => clq (hS1 x) l1
          have q_l2 := fun x => clq (hS1 x) l2
          have q_l3 := fun x => clq (hS1 x) l3
          have q_l4 := fun x => clq (hS1 x) l4
          have q_l5 := fun x => clq (hS1 x) l5
          have q_ci := fun x => clq (hS1 x) ci
          clear hS1 hS2
          have hd0 : Below W9.heap.size W9 W9.drew := (Below.refl _ _).drew
          refine wp_region_tre3 (Wf := Wf) 18 (.read 0 (.read 1 (.read 2 (.read 3 (.read 5 (.read 6 (.read 7 (.read 9 (.read 10 (.read 12 (.read 13 (.read 14 (.two 4 (.two 8 (.two 11 (.two 15 (.read 16 (.act 17 .fin)) 17 (.act 15 (.read 16 .fin))) 17 (.act 11 (.act 15 (.read 16 .fin)))) 17 (.act 8 (.act 11 (.act 15 (.read 16 .fin))))) 17 (.act 4 (.act 8 (.act 11 (.act 15 (.read 16 .fin)))))))))))))))))) (by kernel_rfl) (by kernel_rfl) (fun _ _ d _ _ h => by cases d <;> exact h) (HS2q.out _ hd0) ?_
          refine wpTre3_read _ rfl (fun K hK => ?_); unfold rOp; go_simp; (refine hK _ ?_; clear hK K)
          refine wpTre3_read _ rfl (fun K hK => ?_); unfold rOp; go_simp; (refine hK _ ?_; clear hK K)
          refine wpTre3_read _ rfl (fun K hK => ?_); unfold rOp; go_simp; (refine hK _ ?_; clear hK K)
          refine wpTre3_read _ rfl (fun K hK => ?_); unfold rOp; go_simp; (refine hK _ ?_; clear hK K)
          refine wpTre3_read _ rfl (fun K hK => ?_); unfold rOp; go_simp; (refine hK _ ?_; clear hK K)
          refine wpTre3_read _ rfl (fun K hK => ?_); unfold rOp; go_simp; (refine hK _ ?_; clear hK K)
          refine wpTre3_read _ rfl (fun K hK => ?_); unfold rOp; go_simp; (refine hK _ ?_; clear hK K)
          refine wpTre3_read _ rfl (fun K hK => ?_); unfold rOp; go_simp; (refine hK _ ?_; clear hK K)
          refine wpTre3_read _ rfl (fun K hK => ?_); unfold rOp; go_simp; (refine hK _ ?_; clear hK K)
          refine wpTre3_read _ rfl (fun K hK => ?_); unfold rOp; go_simp; (refine hK _ ?_; clear hK K)
          refine wpTre3_read _ rfl (fun K hK => ?_); unfold rOp; go_simp; (refine hK _ ?_; clear hK K)
          refine wpTre3_read _ rfl (fun K hK => ?_); unfold rOp; go_simp; (refine hK _ ?_; clear hK K)
          clear q_l0 q_l1 q_l2 q_l3 q_l4 q_l5 q_ci
          have hd := hd0
          clear hd0
          generalize W9.drew = V at *
          repeat' first
            | refine wpTre3_two ?_ ?_
            | (refine wpTre3_read (k := 16) _ rfl (fun K hK => ?_); unfold rOp; go_simp; (refine hK _ ?_; clear hK K))
            | (refine wpTre3_act (k := 4) _ rfl ?_
               have HQ := hiq (HCO5.out _ hd)
               go_wp2_with fail
               refine HQ.out.mono ?_
               clear HQ
               have hvs := hd.size
               rintro e V2 ⟨a1, k1, rfl, hO1, hst⟩
               try (have hFn : ∀ y, a1 = some y -> y.block ≠ bF := fun y hy => by have := (hO1.lt y hy).1; omega)
               have hO := hO1.mono hvs
               try (replace hF := (hst.block _ (Array.getElem?_eq_some_iff.1 hF).1).trans hF)
               replace hd := hd.trans (hst.mono hd.size)
               clear hst hvs hO1
               generalize V2 = V at *
               go_wp2_with fail
               refine ⟨HS2q.out _ hd, ?_⟩)
            | (refine wpTre3_act (k := 8) _ rfl ?_
               have HQ := hiq (del_ops V _ a1 on k1 i l.ops hO hm (by omega))
               go_wp2_with fail
               refine HQ.out.mono ?_
               clear HQ
               rintro e V2 ⟨rfl, hO2, hg2⟩
               try (replace hF := (hg2.block _ (Array.getElem?_eq_some_iff.1 hF).1 (by cases a1 with | none => intro e; cases e | some y => intro e; exact hFn y rfl (Option.some.inj e).symm)).trans hF)
               have hd2 := hd.grown hg2 hd.size (fun k e => by cases a1 with | none => cases e | some y => cases e; exact (hO.lt y rfl).1)
               replace hd := hd2
               replace hO := hO2
               clear hO2 hg2 hd2
               generalize V2 = V at *
               go_wp2_with fail
               refine ⟨HS2q.out _ hd, ?_⟩)
            | (refine wpTre3_act (k := 17) _ rfl ?_
               have hst : Below V.heap.size V (V.alloc (.cells #[.string ⟨#[]⟩, .slice none 0 0, .slice none 0 0, .slice none 0 0, .slice none 0 0, .slice none 0 0] 30)) := (Below.refl _ _).alloc (Nat.le_refl _) _
               have hF := World.alloc_heap_new V (.cells #[.string ⟨#[]⟩, .slice none 0 0, .slice none 0 0, .slice none 0 0, .slice none 0 0, .slice none 0 0] 30)
               have hvF : V.heap.size < (V.alloc (.cells #[.string ⟨#[]⟩, .slice none 0 0, .slice none 0 0, .slice none 0 0, .slice none 0 0, .slice none 0 0] 30)).heap.size := by simp
               have hBF : W9.heap.size <= V.heap.size := hd.size
               try (have hFn : ∀ y, a1 = some y -> y.block ≠ V.heap.size := fun y hy => by have := (hO.lt y hy).2; omega)
               try (have hFm : ∀ y, a3 = some y -> y.block ≠ V.heap.size := fun y hy => by have := (hU.lt y hy).2; omega)
               try (replace hO := hO.below hst)
               try (replace hU := hU.below hst)
               replace hd := hd.trans (hst.mono hd.size)
               clear hst
               go_wp2_with fail
               generalize V.heap.size = bF at *
               generalize V.alloc (.cells #[.string ⟨#[]⟩, .slice none 0 0, .slice none 0 0, .slice none 0 0, .slice none 0 0, .slice none 0 0] 30) = V at *
               refine ⟨HS2q.out _ hd, ?_⟩)
            | (refine wpTre3_act (k := 11) _ rfl ?_
               have HQ := hiq (HCB5.out _ hd)
               go_wp2_with fail
               refine HQ.out.mono ?_
               clear HQ
               have hvs := hd.size
               rintro e V2 ⟨a3, k3, rfl, hU1, hst⟩
               try (have hFm : ∀ y, a3 = some y -> y.block ≠ bF := fun y hy => by have := (hU1.lt y hy).1; have := (Array.getElem?_eq_some_iff.1 hF).1; omega)
               have hAU : ∀ y z, a1 = some y -> a3 = some z -> y.block ≠ z.block := fun y z hy hz => by have := (hO.lt y hy).2; have := (hU1.lt z hz).1; omega
               have hU := hU1.mono hvs
               try (replace hF := (hst.block _ (Array.getElem?_eq_some_iff.1 hF).1).trans hF)
               replace hO := hO.below hst
               replace hd := hd.trans (hst.mono hd.size)
               clear hst hvs hU1
               generalize V2 = V at *
               go_wp2_with fail
               refine ⟨HS2q.out _ hd, ?_⟩)
            | (refine wpTre3_act (k := 15) _ rfl ?_
               have HQ := hiq (del_flgs V _ a3 un k3 i l.und hU hmu)
               go_wp2_with fail
               refine HQ.out.mono ?_
               clear HQ
               rintro e V2 ⟨rfl, hU2, hg2⟩
               try (replace hF := (hg2.block _ (Array.getElem?_eq_some_iff.1 hF).1 (by cases a3 with | none => intro e; cases e | some y => intro e; exact hFm y rfl (Option.some.inj e).symm)).trans hF)
               have hd2 := hd.grown hg2 hd.size (fun k e => by cases a3 with | none => cases e | some y => cases e; exact (hU.lt y rfl).1)
               replace hO := hO.kept hg2 (fun y hy => by cases a3 with | none => intro e; cases e | some z => intro e; exact hAU y z hy rfl (Option.some.inj e))
               replace hd := hd2
               replace hU := hU2
               clear hU2 hg2 hd2 hAU
               generalize V2 = V at *
               go_wp2_with fail
               refine ⟨HS2q.out _ hd, ?_⟩)
          all_goals refine wpTre3_fin ?_
          all_goals
            have yf0 := frozen5 hF 0
            have yf1 := frozen5 hF 1
            have yf2 := frozen5 hF 2
            have yf3 := frozen5 hF 3
            have yf4 := frozen5 hF 4
            have yf5 := frozen5 hF 5
            obtain ⟨y0, y1, y2, y3, y4, y5⟩ := box_cells6 hF
            have gN : ((((((V.setCell ⟨bF, 0, none⟩ (.string sec)).setCell ⟨bF, 1, none⟩ (.slice sa sn sc)).setCell ⟨bF, 2, none⟩ (.slice ta tn tc)).setCell ⟨bF, 3, none⟩ (.slice ca cn cc)).setCell ⟨bF, 4, none⟩ (.slice a1 (on - 1) k1)).setCell ⟨bF, 5, none⟩ (.slice a3 (un - 1) k3)).heap[bF]? = some (.cells #[.string sec, .slice sa sn sc, .slice ta tn tc, .slice ca cn cc, .slice a1 (on - 1) k1, .slice a3 (un - 1) k3] 30 (0, 0)) := put6_at hF _ _ _ _ _ _
            obtain ⟨r0, r1, r2, r3, r4, r5⟩ := box_cells6 gN
            have hpt : Below W9.heap.size W9 ((((((V.setCell ⟨bF, 0, none⟩ (.string sec)).setCell ⟨bF, 1, none⟩ (.slice sa sn sc)).setCell ⟨bF, 2, none⟩ (.slice ta tn tc)).setCell ⟨bF, 3, none⟩ (.slice ca cn cc)).setCell ⟨bF, 4, none⟩ (.slice a1 (on - 1) k1)).setCell ⟨bF, 5, none⟩ (.slice a3 (un - 1) k3)) := put6_below hd hBF _ _ _ _ _ _
            have hO7 := hO.same (w' := ((((((V.setCell ⟨bF, 0, none⟩ (.string sec)).setCell ⟨bF, 1, none⟩ (.slice sa sn sc)).setCell ⟨bF, 2, none⟩ (.slice ta tn tc)).setCell ⟨bF, 3, none⟩ (.slice ca cn cc)).setCell ⟨bF, 4, none⟩ (.slice a1 (on - 1) k1)).setCell ⟨bF, 5, none⟩ (.slice a3 (un - 1) k3))) (fun y hy => put6_other (hFn y hy) _ _ _ _ _ _)
            have hU7 := hU.same (w' := ((((((V.setCell ⟨bF, 0, none⟩ (.string sec)).setCell ⟨bF, 1, none⟩ (.slice sa sn sc)).setCell ⟨bF, 2, none⟩ (.slice ta tn tc)).setCell ⟨bF, 3, none⟩ (.slice ca cn cc)).setCell ⟨bF, 4, none⟩ (.slice a1 (on - 1) k1)).setCell ⟨bF, 5, none⟩ (.slice a3 (un - 1) k3))) (fun y hy => put6_other (hFm y hy) _ _ _ _ _ _)
            replace l0 := clq hpt l0; replace l1 := clq hpt l1; replace l2 := clq hpt l2; replace l3 := clq hpt l3; replace l4 := clq hpt l4; replace l5 := clq hpt l5; replace du := clq hpt du; replace ci := clq hpt ci; replace m0 := clq hpt m0; replace m1 := clq hpt m1; replace m2 := clq hpt m2; replace m3 := clq hpt m3; replace m4 := clq hpt m4; replace m5 := clq hpt m5; replace x0 := clq hpt x0
            replace x1 := clq hpt x1; replace x2 := clq hpt x2; replace x3 := clq hpt x3
            replace HRM := hiq (HRM.out.below hpt)
            replace HND := hiq (HND.out.below rInt_ok hpt)
            replace HRX := hiq (HRX.out.below hpt)
            replace hb := hb.trans (hpt.mono hb.size)
            have hRW : RL ((((((V.setCell ⟨bF, 0, none⟩ (.string sec)).setCell ⟨bF, 1, none⟩ (.slice sa sn sc)).setCell ⟨bF, 2, none⟩ (.slice ta tn tc)).setCell ⟨bF, 3, none⟩ (.slice ca cn cc)).setCell ⟨bF, 4, none⟩ (.slice a1 (on - 1) k1)).setCell ⟨bF, 5, none⟩ (.slice a3 (un - 1) k3)) ⟨⟨sec, sa, sn, sc, ta, tn, tc, ca, cn, cc⟩, a1, on - 1, k1, a3, un - 1, k3⟩ (l.less i) := ⟨(HLL.out _ hb).1, hO7.opsq (by omega) (fun _ _ _ => trivial) (fun o ho => HOK.out o (List.mem_of_mem_eraseIdx ho)), hU7.flgs (by omega) (fun _ _ _ => trivial)⟩
            have HRW := hiq hRW
            clear hRW hO7 hU7 hO hU hpt gN hF HCO5 HCB5
            have HQ := hiq (HQY.out ⟨⟨sec, sa, sn, sc, ta, tn, tc, ca, cn, cc⟩, a1, on - 1, k1, a3, un - 1, k3⟩ _ HS2.out hb HRW.out)
            change Hid (Calls _ _ #[.agg #[.string sec, .slice sa sn sc, .slice ta tn tc, .slice ca cn cc, .slice a1 (on - 1) k1, .slice a3 (un - 1) k3]] _ _) at HQ
            go_wp2_with fail
            generalize ((((((V.setCell ⟨bF, 0, none⟩ (.string sec)).setCell ⟨bF, 1, none⟩ (.slice sa sn sc)).setCell ⟨bF, 2, none⟩ (.slice ta tn tc)).setCell ⟨bF, 3, none⟩ (.slice ca cn cc)).setCell ⟨bF, 4, none⟩ (.slice a1 (on - 1) k1)).setCell ⟨bF, 5, none⟩ (.slice a3 (un - 1) k3)) = W10 at *
            refine HQ.out.mono ?_
            rintro e W11 ⟨v, he, hR, hbk⟩
            obtain ⟨secY, saY, snY, scY, taY, tnY, tcY, caY, cnY, ccY⟩ := v
            change e = .returned (.tuple #[.agg #[.string secY, .slice saY snY scY, .slice taY tnY tcY, .slice caY cnY ccY], .int .i64 0]) at he
            subst he
            have hal : Below W11.heap.size W11 (W11.alloc (.cells #[.string secY, .slice saY snY scY, .slice taY tnY tcY, .slice caY cnY ccY] 26)) := (Below.refl _ _).alloc (Nat.le_refl _) _
            have hst := hbk.trans (hal.mono hbk.size)
            obtain ⟨y0, y1, y2, y3, -⟩ := box_cells4 (World.alloc_heap_new W11 (.cells #[.string secY, .slice saY snY scY, .slice taY tnY tcY, .slice caY cnY ccY] 26))
            replace l0 := clq hst l0; replace l1 := clq hst l1; replace l2 := clq hst l2; replace l3 := clq hst l3; replace l4 := clq hst l4; replace l5 := clq hst l5; replace du := clq hst du; replace ci := clq hst ci; replace m0 := clq hst m0; replace m1 := clq hst m1; replace m2 := clq hst m2; replace m3 := clq hst m3; replace m4 := clq hst m4; replace m5 := clq hst m5; replace x0 := clq hst x0
            replace x1 := clq hst x1; replace x2 := clq hst x2; replace x3 := clq hst x3; replace r0 := clq hst r0; replace r1 := clq hst r1; replace r2 := clq hst r2; replace r3 := clq hst r3; replace r4 := clq hst r4; replace r5 := clq hst r5
            replace HRM := hiq (HRM.out.below hst)
            replace HND := hiq (HND.out.below rInt_ok hst)
            replace HRX := hiq (HRX.out.below hst)
            replace HRW := hiq (HRW.out.below hst)
            have HRY := hiq (hR.below hal)
            replace hb := hb.trans (hst.mono hb.size)
            clear hR hbk hal hst HQ
            have HQ := hiq (HSM.out ⟨secX, saX, snX, scX, taX, tnX, tcX, caX, cnX, ccX⟩ ⟨secY, saY, snY, scY, taY, tnY, tcY, caY, cnY, ccY⟩ _ _ HRX.out HRY.out)
            change Hid (Calls _ _ #[.agg #[.string secX, .slice saX snX scX, .slice taX tnX tcX, .slice caX cnX ccX], .agg #[.string secY, .slice saY snY scY, .slice taY tnY tcY, .slice caY cnY ccY]] _ _) at HQ
            go_wp2_with fail
            generalize W11.alloc (.cells #[.string secY, .slice saY snY scY, .slice taY tnY tcY, .slice caY cnY ccY] 26) = W12 at *
            refine HQ.out.mono ?_
            rintro e W13 ⟨rfl, hbk⟩
            replace l0 := clq hbk l0; replace l1 := clq hbk l1; replace l2 := clq hbk l2; replace l3 := clq hbk l3; replace l4 := clq hbk l4; replace l5 := clq hbk l5; replace du := clq hbk du; replace ci := clq hbk ci; replace m0 := clq hbk m0; replace m1 := clq hbk m1; replace m2 := clq hbk m2; replace m3 := clq hbk m3; replace m4 := clq hbk m4; replace m5 := clq hbk m5; replace x0 := clq hbk x0
            replace x1 := clq hbk x1; replace x2 := clq hbk x2; replace x3 := clq hbk x3; replace r0 := clq hbk r0; replace r1 := clq hbk r1; replace r2 := clq hbk r2; replace r3 := clq hbk r3; replace r4 := clq hbk r4; replace r5 := clq hbk r5; replace y0 := clq hbk y0; replace y1 := clq hbk y1; replace y2 := clq hbk y2; replace y3 := clq hbk y3
            replace HRM := hiq (HRM.out.below hbk)
            replace HND := hiq (HND.out.below rInt_ok hbk)
            replace HRX := hiq (HRX.out.below hbk)
            replace HRW := hiq (HRW.out.below hbk)
            replace HRY := hiq (HRY.out.below hbk)
            replace hb := hb.trans (hbk.mono hb.size)
            clear hbk HQ
            have hun : unM = un := by have h1 := HRM.out.2.2.len; have h2 := HUL.out; have h3 : (l.set i true).und.length = l.und.length := List.length_set; dsimp only at h1; omega
            have hmM : i < unM := by omega
            obtain ⟨xx, bm, ofm, em, -, eam, -, hbm, dm⟩ := HRM.out.2.2.flg hmM
            have hxx : xx = true := by
              have h1 : unK (l.set i true).und i = true := unK_set_self (by have := HUL.out; omega)
              unfold unK at h1; rw [em] at h1; exact h1
            subst hxx
            dsimp only at eam
            subst eam
            clear em
            have t5 : ((unM : Int) == (un : Int)) = true := by rw [hun]; simp
            have HQ := hiq (HAW.out _ hb)
            go_wp2_with fail
            refine HQ.out.mono ?_
            rintro e W14 ⟨rfl, hbk⟩
            replace l0 := clq hbk l0; replace l1 := clq hbk l1; replace l2 := clq hbk l2; replace l3 := clq hbk l3; replace l4 := clq hbk l4; replace l5 := clq hbk l5; replace du := clq hbk du; replace ci := clq hbk ci; replace m0 := clq hbk m0; replace m1 := clq hbk m1; replace m2 := clq hbk m2; replace m3 := clq hbk m3; replace m4 := clq hbk m4; replace m5 := clq hbk m5; replace x0 := clq hbk x0
            replace x1 := clq hbk x1; replace x2 := clq hbk x2; replace x3 := clq hbk x3; replace r0 := clq hbk r0; replace r1 := clq hbk r1; replace r2 := clq hbk r2; replace r3 := clq hbk r3; replace r4 := clq hbk r4; replace r5 := clq hbk r5; replace y0 := clq hbk y0; replace y1 := clq hbk y1; replace y2 := clq hbk y2; replace y3 := clq hbk y3; replace dm := clq hbk dm
            replace HRM := hiq (HRM.out.below hbk)
            replace HND := hiq (HND.out.below rInt_ok hbk)
            replace HRX := hiq (HRX.out.below hbk)
            replace HRW := hiq (HRW.out.below hbk)
            replace HRY := hiq (HRY.out.below hbk)
            replace hb := hb.trans (hbk.mono hb.size)
            clear hbk HQ
            go_wp2
            go_ret
            exact ⟨rfl, hb⟩
end Go.Proofs.YtfdipkhbemgojaaGreatDoor
