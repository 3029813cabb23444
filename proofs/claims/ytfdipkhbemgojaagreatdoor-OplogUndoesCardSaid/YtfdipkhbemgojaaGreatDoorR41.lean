/- Joined: OTr0, OTrd. -/
import Derived.Test.YtfdipkhbemgojaaGreatDoorR34
set_option linter.unusedVariables false
set_option linter.unusedSimpArgs false
set_option maxRecDepth 100000
set_option maxHeartbeats 16000000
namespace Go.Proofs.YtfdipkhbemgojaaGreatDoor
open Go.RowKit

theorem redo_ref (S : Nat -> Prop) (v : LV) (l : Lg) (i : Int) (w : World) (h : RdL S w v l) (hm : SmL l) (hE : Env w) : Calls Tryz.prog 48 #[v.val, .int .i64 i] w (LogPost S (l.turn i false) w) := by
  have h2 : RdL (fun b => S b /\ b < w.heap.size) w v l := h.mono (fun b q q' => ⟨q, q'⟩)
  have HIX : Hid (∀ W, Below w.heap.size w W -> Calls Tryz.prog 78 #[v.val, .int .i64 i] W fun e w' => e = .returned (.int .i64 (l.idx i)) /\ Below W.heap.size W w') := fun W hb => idx_ref S v l i W (h.below hb) hm (hE.below hb)
  have HU := hiq h2.2.2
  have hub := h2.2.2.bound
  by_cases i0 : l.idx i = 0
  · obtain ⟨k, rfl, hk1, hk2⟩ := idx_nat i0
    have hkn : k < v.un := by rw [h2.2.2.len]; exact hk2
    have HT1 : Hid (unK l.und k ≠ false -> l.turn (k : Int) false = l.changed k false) := turn_changed i0
    have HT2 : Hid (unK l.und k = false -> l.turn (k : Int) false = (Lg.none, 6)) := fun q => turn_same i0 q
    obtain ⟨u, bu, ofu, eu, -, eua, -, hbu, du⟩ := h2.2.2.flg hkn
    have hun : unK l.und k = u := by unfold unK; rw [eu]; rfl
    rw [hun] at HT1 HT2
    rw [i0] at HIX
    have HSET : Hid (∀ W, Below w.heap.size w W -> Calls Tryz.prog 79 #[v.val, .int .i64 (k : Int), .bool false] W (SetPost (fun b => S b /\ b < w.heap.size) l k false W)) := fun W hb => set_ref _ v l k false W (h2.below hb) hk2
    have HCK : Hid (∀ (T : Nat -> Prop) (u : LV) W, Below w.heap.size w W -> RdL T W u (l.set k false) -> Calls Tryz.prog 21 #[u.val] W fun e w' => e = .returned (.int .i64 (l.set k false).err) /\ Below W.heap.size W w') := fun T u W hb hu => lck_ref T u _ W hu (sml_set hm) (hE.below hb)
    have E0 : Hid ((l.set k false).err ≠ 0 -> l.changed k false = (Lg.none, 17)) := fun q => by unfold Lg.changed; rw [if_pos q]
    have E1 : Hid ((l.set k false).err = 0 -> l.changed k false = (l.set k false, 0)) := fun q => by unfold Lg.changed; rw [if_neg (by simp [q])]
    unfold SetPost at HSET
    unfold LogPost
    generalize l.turn (k : Int) false = R at *
    generalize l.changed k false = CR at *
    generalize l.set k false = M at *
    generalize M.err = ME at *
    clear h h2 hm hE HU i0 eu hun hk1 hk2
    obtain ⟨⟨sec, sa, sn, sc, ta, tn, tc, ca, cn, cc⟩, oa, on, oc, ua, un, uc⟩ := v
    dsimp only at hkn hub eua
    subst eua
    change Calls _ _ #[.agg #[.string sec, .slice sa sn sc, .slice ta tn tc, .slice ca cn cc, .slice oa on oc, .slice (some ⟨bu, ofu, none⟩) un uc], _] _ _
    change Hid (∀ W, _ -> Calls _ _ #[.agg #[.string sec, .slice sa sn sc, .slice ta tn tc, .slice ca cn cc, .slice oa on oc, .slice (some ⟨bu, ofu, none⟩) un uc], _] _ _) at HIX
    change Hid (∀ W, _ -> Calls _ _ #[.agg #[.string sec, .slice sa sn sc, .slice ta tn tc, .slice ca cn cc, .slice oa on oc, .slice (some ⟨bu, ofu, none⟩) un uc], _, _] _ _) at HSET
    obtain ⟨W1, hW1, hb, hs1, gX, gR⟩ := box2r w #[.string sec, .slice sa sn sc, .slice ta tn tc, .slice ca cn cc, .slice oa on oc, .slice (some ⟨bu, ofu, none⟩) un uc] #[.string ⟨#[]⟩, .slice none 0 0, .slice none 0 0, .slice none 0 0, .slice none 0 0, .slice none 0 0] 30 30
    have HIQ := hiq (HIX.out _ hb)
    obtain ⟨c0, c1, c2, c3, c4, c5⟩ := box_cells6 gX
    rw [hW1] at c0 c1 c2 c3 c4 c5
    clear HIX
    go_enter Tryz.func48, Tryz.ntmps48
    go_wp2_with fail
    rw [<- hW1] at *
    clear hW1 gX
    refine HIQ.out.mono ?_
    rintro e W2 ⟨rfl, hb2⟩
    replace c0 := clq hb2 c0; replace c1 := clq hb2 c1; replace c2 := clq hb2 c2; replace c3 := clq hb2 c3; replace c4 := clq hb2 c4; replace c5 := clq hb2 c5
    replace gR := (hb2.block _ (by omega)).trans gR
    replace hb := hb.trans (hb2.mono hb.size)
    replace du := clq hb du
    have hs2 := hb2.size
    clear HIQ hb2
    cases u with
    | false =>
      have HEQ := hiq (HT2.out rfl)
      clear HT1 HT2
      obtain ⟨y0, y1, y2, y3, y4, y5⟩ := box_cells6 gR
      have yf0 := frozen5 gR 0
      have yf1 := frozen5 gR 1
      have yf2 := frozen5 gR 2
      have yf3 := frozen5 gR 3
      have yf4 := frozen5 gR 4
      have yf5 := frozen5 gR 5
      have HALL := hiq (And.intro gR hb)
      clear gR hb 
      go_wp2
      change bodyPost _ _ _ _ _ (put6 W2 (w.heap.size + 1) (.string ⟨#[]⟩) (.slice none 0 0) (.slice none 0 0) (.slice none 0 0) (.slice none 0 0) (.slice none 0 0))
      obtain ⟨gR, hb⟩ := HALL.out
      obtain ⟨r0, r1, r2, r3, r4, r5⟩ := box_cells6 (put6_at gR (.string ⟨#[]⟩) (.slice none 0 0) (.slice none 0 0) (.slice none 0 0) (.slice none 0 0) (.slice none 0 0))
      have hbf := put6_below hb (b := w.heap.size + 1) (by omega) (.string ⟨#[]⟩) (.slice none 0 0) (.slice none 0 0) (.slice none 0 0) (.slice none 0 0) (.slice none 0 0)
      generalize put6 W2 (w.heap.size + 1) (.string ⟨#[]⟩) (.slice none 0 0) (.slice none 0 0) (.slice none 0 0) (.slice none 0 0) (.slice none 0 0) = WF at *
      refine bodyPost_ret (v := .tuple #[.agg #[.string ⟨#[]⟩, .slice none 0 0, .slice none 0 0, .slice none 0 0, .slice none 0 0, .slice none 0 0], .int .i64 6]) (by simp [results, Tryz.results48, go_sem, r0, r1, r2, r3, r4, r5]) rfl ?_
      rw [HEQ.out]
      exact ⟨⟨⟨⟨#[]⟩, none, 0, 0, none, 0, 0, none, 0, 0⟩, none, 0, 0, none, 0, 0⟩, rfl, rdL_none _ _, hbf⟩
    | true =>
      have HEQ := hiq (HT1.out (by simp))
      clear HT1 HT2
      have HSQ := hiq (HSET.out _ hb)
      go_wp2_with fail
      refine HSQ.out.mono ?_
      rintro e W3 ⟨v2, he, hR3, hb4⟩
      obtain ⟨⟨sec2, sa2, sn2, sc2, ta2, tn2, tc2, ca2, cn2, cc2⟩, oa2, on2, oc2, ua2, un2, uc2⟩ := v2
      change e = .returned (.agg #[.string sec2, .slice sa2 sn2 sc2, .slice ta2 tn2 tc2, .slice ca2 cn2 cc2, .slice oa2 on2 oc2, .slice ua2 un2 uc2]) at he
      subst he
      have hal : Below W3.heap.size W3 (W3.alloc (.cells #[.string sec2, .slice sa2 sn2 sc2, .slice ta2 tn2 tc2, .slice ca2 cn2 cc2, .slice oa2 on2 oc2, .slice ua2 un2 uc2] 30)) := (Below.refl _ _).alloc (Nat.le_refl _) _
      have hb5 := hb4.trans (hal.mono hb4.size)
      obtain ⟨z0, z1, z2, z3, z4, z5⟩ := box_cells6 (World.alloc_heap_new W3 (.cells #[.string sec2, .slice sa2 sn2 sc2, .slice ta2 tn2 tc2, .slice ca2 cn2 cc2, .slice oa2 on2 oc2, .slice ua2 un2 uc2] 30))
      replace gR := (hb5.block _ (by omega)).trans gR
      have hRV := hR3.below hal
      have hsz := hb5.size
      replace hb := hb.trans (hb5.mono hb.size)
      have HCQ := hiq (HCK.out _ ⟨⟨sec2, sa2, sn2, sc2, ta2, tn2, tc2, ca2, cn2, cc2⟩, oa2, on2, oc2, ua2, un2, uc2⟩ _ hb hRV)
      change Hid (Calls _ _ #[.agg #[.string sec2, .slice sa2 sn2 sc2, .slice ta2 tn2 tc2, .slice ca2 cn2 cc2, .slice oa2 on2 oc2, .slice ua2 un2 uc2]] _ _) at HCQ
      have HRV0 := hiq hRV
      have hs3 := hb4.size
      clear hR3 hb4 hb5 hal HSQ hRV HCK HSET
      go_wp2_with fail
      generalize W3.alloc (.cells #[.string sec2, .slice sa2 sn2 sc2, .slice ta2 tn2 tc2, .slice ca2 cn2 cc2, .slice oa2 on2 oc2, .slice ua2 un2 uc2] 30) = W4 at *
      refine HCQ.out.mono ?_
      rintro e W5 ⟨rfl, hb6⟩
      replace z0 := clq hb6 z0; replace z1 := clq hb6 z1; replace z2 := clq hb6 z2; replace z3 := clq hb6 z3; replace z4 := clq hb6 z4; replace z5 := clq hb6 z5
      replace gR := (hb6.block _ (by omega)).trans gR
      replace hb := hb.trans (hb6.mono hb.size)
      have HRV := hiq (HRV0.out.below hb6)
      have hs5 := hb6.size
      clear HCQ HRV0 hb6
      by_cases m0 : ME = 0
      · have t9 : ((ME : Int) != 0) = false := by simp [m0]
        obtain ⟨y0, y1, y2, y3, y4, y5⟩ := box_cells6 gR
        have yf0 := frozen5 gR 0
        have yf1 := frozen5 gR 1
        have yf2 := frozen5 gR 2
        have yf3 := frozen5 gR 3
        have yf4 := frozen5 gR 4
        have yf5 := frozen5 gR 5
        have HALL := hiq (And.intro gR hb)
        clear gR hb 
        go_wp2
        change bodyPost _ _ _ _ _ (put6 W5 (w.heap.size + 1) (.string sec2) (.slice sa2 sn2 sc2) (.slice ta2 tn2 tc2) (.slice ca2 cn2 cc2) (.slice oa2 on2 oc2) (.slice ua2 un2 uc2))
        obtain ⟨gR, hb⟩ := HALL.out
        obtain ⟨r0, r1, r2, r3, r4, r5⟩ := box_cells6 (put6_at gR (.string sec2) (.slice sa2 sn2 sc2) (.slice ta2 tn2 tc2) (.slice ca2 cn2 cc2) (.slice oa2 on2 oc2) (.slice ua2 un2 uc2))
        have hbf := put6_below hb (b := w.heap.size + 1) (by omega) (.string sec2) (.slice sa2 sn2 sc2) (.slice ta2 tn2 tc2) (.slice ca2 cn2 cc2) (.slice oa2 on2 oc2) (.slice ua2 un2 uc2)
        have hRf := HRV.out.keep (put6_keep (W := W5) (b := w.heap.size + 1) (by rintro (⟨-, q⟩ | q) <;> omega) (.string sec2) (.slice sa2 sn2 sc2) (.slice ta2 tn2 tc2) (.slice ca2 cn2 cc2) (.slice oa2 on2 oc2) (.slice ua2 un2 uc2))
        generalize put6 W5 (w.heap.size + 1) (.string sec2) (.slice sa2 sn2 sc2) (.slice ta2 tn2 tc2) (.slice ca2 cn2 cc2) (.slice oa2 on2 oc2) (.slice ua2 un2 uc2) = WF at *
        refine bodyPost_ret (v := .tuple #[.agg #[.string sec2, .slice sa2 sn2 sc2, .slice ta2 tn2 tc2, .slice ca2 cn2 cc2, .slice oa2 on2 oc2, .slice ua2 un2 uc2], .int .i64 0]) (by simp [results, Tryz.results48, go_sem, r0, r1, r2, r3, r4, r5]) rfl ?_
        rw [HEQ.out, E1.out m0]
        exact ⟨⟨⟨sec2, sa2, sn2, sc2, ta2, tn2, tc2, ca2, cn2, cc2⟩, oa2, on2, oc2, ua2, un2, uc2⟩, rfl, hRf.mono (fun b q _ => by rcases q with q | q; exact .inl q.1; exact .inr (by omega)), hbf⟩
      · have t9 : ((ME : Int) != 0) = true := by simpa using m0
        obtain ⟨y0, y1, y2, y3, y4, y5⟩ := box_cells6 gR
        have yf0 := frozen5 gR 0
        have yf1 := frozen5 gR 1
        have yf2 := frozen5 gR 2
        have yf3 := frozen5 gR 3
        have yf4 := frozen5 gR 4
        have yf5 := frozen5 gR 5
        have HALL := hiq (And.intro gR hb)
        clear gR hb 
        go_wp2
        change bodyPost _ _ _ _ _ (put6 W5 (w.heap.size + 1) (.string ⟨#[]⟩) (.slice none 0 0) (.slice none 0 0) (.slice none 0 0) (.slice none 0 0) (.slice none 0 0))
        obtain ⟨gR, hb⟩ := HALL.out
        obtain ⟨r0, r1, r2, r3, r4, r5⟩ := box_cells6 (put6_at gR (.string ⟨#[]⟩) (.slice none 0 0) (.slice none 0 0) (.slice none 0 0) (.slice none 0 0) (.slice none 0 0))
        have hbf := put6_below hb (b := w.heap.size + 1) (by omega) (.string ⟨#[]⟩) (.slice none 0 0) (.slice none 0 0) (.slice none 0 0) (.slice none 0 0) (.slice none 0 0)
        generalize put6 W5 (w.heap.size + 1) (.string ⟨#[]⟩) (.slice none 0 0) (.slice none 0 0) (.slice none 0 0) (.slice none 0 0) (.slice none 0 0) = WF at *
        refine bodyPost_ret (v := .tuple #[.agg #[.string ⟨#[]⟩, .slice none 0 0, .slice none 0 0, .slice none 0 0, .slice none 0 0, .slice none 0 0], .int .i64 17]) (by simp [results, Tryz.results48, go_sem, r0, r1, r2, r3, r4, r5]) rfl ?_
        rw [HEQ.out, E0.out m0]
        exact ⟨⟨⟨⟨#[]⟩, none, 0, 0, none, 0, 0, none, 0, 0⟩, none, 0, 0, none, 0, 0⟩, rfl, rdL_none _ _, hbf⟩
  · have HEQ : Hid (l.turn i false = (Lg.none, l.idx i)) := turn_err i0
    have t0 : ((l.idx i : Int) != 0) = true := by simpa using i0
    unfold LogPost
    generalize l.turn i false = R at *
    generalize l.idx i = I at *
    clear h h2 hm hE HU i0
    obtain ⟨⟨sec, sa, sn, sc, ta, tn, tc, ca, cn, cc⟩, oa, on, oc, ua, un, uc⟩ := v
    change Calls _ _ #[.agg #[.string sec, .slice sa sn sc, .slice ta tn tc, .slice ca cn cc, .slice oa on oc, .slice ua un uc], _] _ _
    change Hid (∀ W, _ -> Calls _ _ #[.agg #[.string sec, .slice sa sn sc, .slice ta tn tc, .slice ca cn cc, .slice oa on oc, .slice ua un uc], _] _ _) at HIX
    obtain ⟨W1, hW1, hb, hs1, gX, gR⟩ := box2r w #[.string sec, .slice sa sn sc, .slice ta tn tc, .slice ca cn cc, .slice oa on oc, .slice ua un uc] #[.string ⟨#[]⟩, .slice none 0 0, .slice none 0 0, .slice none 0 0, .slice none 0 0, .slice none 0 0] 30 30
    have HIQ := hiq (HIX.out _ hb)
    obtain ⟨c0, c1, c2, c3, c4, c5⟩ := box_cells6 gX
    rw [hW1] at c0 c1 c2 c3 c4 c5
    clear HIX
    go_enter Tryz.func48, Tryz.ntmps48
    go_wp2_with fail
    rw [<- hW1] at *
    clear hW1 gX
    refine HIQ.out.mono ?_
    rintro e W2 ⟨rfl, hb2⟩
    replace gR := (hb2.block _ (by omega)).trans gR
    replace hb := hb.trans (hb2.mono hb.size)
    have hs2 := hb2.size
    clear HIQ hb2 c0 c1 c2 c3 c4 c5
    obtain ⟨y0, y1, y2, y3, y4, y5⟩ := box_cells6 gR
    have yf0 := frozen5 gR 0
    have yf1 := frozen5 gR 1
    have yf2 := frozen5 gR 2
    have yf3 := frozen5 gR 3
    have yf4 := frozen5 gR 4
    have yf5 := frozen5 gR 5
    have HALL := hiq (And.intro gR hb)
    clear gR hb 
    go_wp2
    change bodyPost _ _ _ _ _ (put6 W2 (w.heap.size + 1) (.string ⟨#[]⟩) (.slice none 0 0) (.slice none 0 0) (.slice none 0 0) (.slice none 0 0) (.slice none 0 0))
    obtain ⟨gR, hb⟩ := HALL.out
    obtain ⟨r0, r1, r2, r3, r4, r5⟩ := box_cells6 (put6_at gR (.string ⟨#[]⟩) (.slice none 0 0) (.slice none 0 0) (.slice none 0 0) (.slice none 0 0) (.slice none 0 0))
    have hbf := put6_below hb (b := w.heap.size + 1) (by omega) (.string ⟨#[]⟩) (.slice none 0 0) (.slice none 0 0) (.slice none 0 0) (.slice none 0 0) (.slice none 0 0)
    generalize put6 W2 (w.heap.size + 1) (.string ⟨#[]⟩) (.slice none 0 0) (.slice none 0 0) (.slice none 0 0) (.slice none 0 0) (.slice none 0 0) = WF at *
    refine bodyPost_ret (v := .tuple #[.agg #[.string ⟨#[]⟩, .slice none 0 0, .slice none 0 0, .slice none 0 0, .slice none 0 0, .slice none 0 0], .int .i64 I]) (by simp [results, Tryz.results48, go_sem, r0, r1, r2, r3, r4, r5]) rfl ?_
    rw [HEQ.out]
    exact ⟨⟨⟨⟨#[]⟩, none, 0, 0, none, 0, 0, none, 0, 0⟩, none, 0, 0, none, 0, 0⟩, rfl, rdL_none _ _, hbf⟩
end Go.Proofs.YtfdipkhbemgojaaGreatDoor
namespace Go.Proofs.YtfdipkhbemgojaaGreatDoor
open Go.RowKit

theorem deps_any (S : Nat -> Prop) (v : LV) (l : Lg) (i : Int) (w : World) (h : RdL S w v l) (hm : SmL l) (hE : Env w) : Calls Tryz.prog 31 #[v.val, .int .i64 i] w (DepPost (l.deps i) w) := by
  have h2 : RdL (fun b => S b /\ b < w.heap.size) w v l := h.mono (fun b q q' => ⟨q, q'⟩)
  have HIX : Hid (∀ W, Below w.heap.size w W -> Calls Tryz.prog 63 #[v.val, .int .i64 i] W fun e w' => e = .returned (.int .i64 (l.idx i)) /\ Below W.heap.size W w') := fun W hb => idx_any S v l i W (h.below hb) hm (hE.below hb)
  have hub := h2.2.2.bound
  unfold DepPost
  by_cases i0 : l.idx i = 0
  · obtain ⟨k, rfl, hk1, hk2⟩ := idx_nat i0
    have hkn : k < v.un := by rw [h2.2.2.len]; exact hk2
    have hle := (err_zero.1 (idx_zero.1 i0).1).1
    have HD1 : Hid (unK l.und k = false -> l.deps (k : Int) = ((l.set k true).run.sk, 0)) := fun q => by unfold Lg.deps; rw [if_neg (by simp [i0]), Int.toNat_natCast, if_neg (by simp [q])]
    have HD2 : Hid (unK l.und k = true -> l.deps (k : Int) = ([], 7)) := fun q => by unfold Lg.deps; rw [if_neg (by simp [i0]), Int.toNat_natCast, if_pos q]
    have HSET : Hid (∀ W, Below w.heap.size w W -> Calls Tryz.prog 67 #[v.val, .int .i64 (k : Int), .bool true] W (SetPost (fun b => S b /\ b < w.heap.size) l k true W)) := fun W hb => with_any _ v l k true W (h2.below hb) hk2
    have HRN : Hid (∀ (T : Nat -> Prop) (u : LV) W, Below w.heap.size w W -> RdL T W u (l.set k true) -> Calls Tryz.prog 54 #[u.c.val, .slice u.oa u.on u.oc, .slice u.ua u.un u.uc] W (RunPost T l.start l.ops (l.set k true).und W)) := fun T u W hb hu =>
      replay_any T u.c l.start _ _ _ _ _ _ l.ops _ W hu.1 hu.2.1 hu.2.2 (by show _ = (l.und.set k true).length; rw [List.length_set]; exact hle.2.1) hm.1 hm.2 (by have := hu.2.1.len; change _ = l.ops.length at this; have := hle.2.2; omega) (hE.below hb)
    obtain ⟨u, bu, ofu, eu, -, eua, -, hbu, du⟩ := h2.2.2.flg hkn
    have hun : unK l.und k = u := by unfold unK; rw [eu]; rfl
    rw [hun] at HD1 HD2
    rw [i0] at HIX
    unfold SetPost at HSET
    unfold RunPost at HRN
    change Hid (_ -> l.deps (k : Int) = ((runL l.start l.ops (l.set k true).und).sk, 0)) at HD1
    generalize l.deps (k : Int) = R at *
    generalize (runL l.start l.ops (l.set k true).und).er = ER at *
    generalize (runL l.start l.ops (l.set k true).und).st = ST at *
    generalize (runL l.start l.ops (l.set k true).und).sk = SK at *
    generalize l.set k true = M at *
    clear h h2 hm hE i0 eu hun hk1 hk2 hle
    obtain ⟨⟨sec, sa, sn, sc, ta, tn, tc, ca, cn, cc⟩, oa, on, oc, ua, un, uc⟩ := v
    dsimp only at hkn hub eua
    subst eua
    change Calls _ _ #[.agg #[.string sec, .slice sa sn sc, .slice ta tn tc, .slice ca cn cc, .slice oa on oc, .slice (some ⟨bu, ofu, none⟩) un uc], _] _ _
    change Hid (∀ W, _ -> Calls _ _ #[.agg #[.string sec, .slice sa sn sc, .slice ta tn tc, .slice ca cn cc, .slice oa on oc, .slice (some ⟨bu, ofu, none⟩) un uc], _] _ _) at HIX
    change Hid (∀ W, _ -> Calls _ _ #[.agg #[.string sec, .slice sa sn sc, .slice ta tn tc, .slice ca cn cc, .slice oa on oc, .slice (some ⟨bu, ofu, none⟩) un uc], _, _] _ _) at HSET
    have hb : Below w.heap.size w (w.alloc (.cells #[.string sec, .slice sa sn sc, .slice ta tn tc, .slice ca cn cc, .slice oa on oc, .slice (some ⟨bu, ofu, none⟩) un uc] 30)) := (Below.refl _ _).alloc (Nat.le_refl _) _
    obtain ⟨c0, c1, c2, c3, c4, c5⟩ := box_cells6 (World.alloc_heap_new w (.cells #[.string sec, .slice sa sn sc, .slice ta tn tc, .slice ca cn cc, .slice oa on oc, .slice (some ⟨bu, ofu, none⟩) un uc] 30))
    have HIQ := hiq (HIX.out _ hb)
    clear HIX
    go_enter Tryz.func31, Tryz.ntmps31
    go_wp2_with fail
    generalize w.alloc (.cells #[.string sec, .slice sa sn sc, .slice ta tn tc, .slice ca cn cc, .slice oa on oc, .slice (some ⟨bu, ofu, none⟩) un uc] 30) = W1 at *
    refine HIQ.out.mono ?_
    rintro e W2 ⟨rfl, hb2⟩
    replace c0 := clq hb2 c0; replace c1 := clq hb2 c1; replace c2 := clq hb2 c2; replace c3 := clq hb2 c3; replace c4 := clq hb2 c4; replace c5 := clq hb2 c5
    replace hb := hb.trans (hb2.mono hb.size)
    replace du := clq hb du
    clear HIQ hb2
    cases u with
    | true =>
      have HEQ := hiq (HD2.out rfl)
      clear HD1 HD2
      go_wp2
      refine bodyPost_ret (results_tmp2 rfl _ _ _) rfl ?_
      rw [HEQ.out]
      exact ⟨none, 0, 0, rfl, Sq.nil _ _ _ _ _, hb⟩
    | false =>
      have HEQ := hiq (HD1.out rfl)
      clear HD1 HD2
      have HSQ := hiq (HSET.out _ hb)
      go_wp2_with fail
      refine HSQ.out.mono ?_
      rintro e W3 ⟨v2, he, hR3, hb4⟩
      obtain ⟨⟨sec2, sa2, sn2, sc2, ta2, tn2, tc2, ca2, cn2, cc2⟩, oa2, on2, oc2, ua2, un2, uc2⟩ := v2
      change e = .returned (.agg #[.string sec2, .slice sa2 sn2 sc2, .slice ta2 tn2 tc2, .slice ca2 cn2 cc2, .slice oa2 on2 oc2, .slice ua2 un2 uc2]) at he
      subst he
      have hal : Below W3.heap.size W3 (W3.alloc (.cells #[.string sec2, .slice sa2 sn2 sc2, .slice ta2 tn2 tc2, .slice ca2 cn2 cc2, .slice oa2 on2 oc2, .slice ua2 un2 uc2] 30)) := (Below.refl _ _).alloc (Nat.le_refl _) _
      have hb5 := hb4.trans (hal.mono hb4.size)
      obtain ⟨z0, z1, z2, z3, z4, z5⟩ := box_cells6 (World.alloc_heap_new W3 (.cells #[.string sec2, .slice sa2 sn2 sc2, .slice ta2 tn2 tc2, .slice ca2 cn2 cc2, .slice oa2 on2 oc2, .slice ua2 un2 uc2] 30))
      have hRV := hR3.below hal
      replace hb := hb.trans (hb5.mono hb.size)
      have HRQ := hiq (HRN.out _ ⟨⟨sec2, sa2, sn2, sc2, ta2, tn2, tc2, ca2, cn2, cc2⟩, oa2, on2, oc2, ua2, un2, uc2⟩ _ hb hRV)
      change Hid (Calls _ _ #[.agg #[.string sec2, .slice sa2 sn2 sc2, .slice ta2 tn2 tc2, .slice ca2 cn2 cc2], .slice oa2 on2 oc2, .slice ua2 un2 uc2] _ _) at HRQ
      clear hR3 hb4 hb5 hal HSQ hRV HRN HSET
      go_wp2_with fail
      generalize W3.alloc (.cells #[.string sec2, .slice sa2 sn2 sc2, .slice ta2 tn2 tc2, .slice ca2 cn2 cc2, .slice oa2 on2 oc2, .slice ua2 un2 uc2] 30) = W4 at *
      refine HRQ.out.mono ?_
      rintro e W5 ⟨⟨sec3, sa3, sn3, sc3, ta3, tn3, tc3, ca3, cn3, cc3⟩, a, n, c, he, hR5, hN5, hb6⟩
      change e = .returned (.tuple #[.agg #[.string sec3, .slice sa3 sn3 sc3, .slice ta3 tn3 tc3, .slice ca3 cn3 cc3], .slice a n c, .int .i64 ER]) at he
      subst he
      have hal : Below W5.heap.size W5 (W5.alloc (.cells #[.string sec3, .slice sa3 sn3 sc3, .slice ta3 tn3 tc3, .slice ca3 cn3 cc3] 26)) := (Below.refl _ _).alloc (Nat.le_refl _) _
      have hbf := hb.trans ((hb6.trans (hal.mono hb6.size)).mono hb.size)
      have hNf := hN5.below rInt_ok hal
      have hsz := hb.size
      clear hR5 hN5 hb6 hal HRQ z0 z1 z2 z3 z4 z5
      go_wp2
      refine bodyPost_ret (results_tmp2 rfl _ _ _) rfl ?_
      rw [HEQ.out]
      exact ⟨a, n, c, rfl, hNf.mono rInt_ok (fun b q _ => by omega), hbf⟩
  · have HEQ : Hid (l.deps i = ([], l.idx i)) := by show _ = _; unfold Lg.deps; rw [if_pos i0]
    have t0 : ((l.idx i : Int) != 0) = true := by simpa using i0
    generalize l.deps i = R at *
    generalize l.idx i = I at *
    clear h h2 hm hE i0
    obtain ⟨⟨sec, sa, sn, sc, ta, tn, tc, ca, cn, cc⟩, oa, on, oc, ua, un, uc⟩ := v
    change Calls _ _ #[.agg #[.string sec, .slice sa sn sc, .slice ta tn tc, .slice ca cn cc, .slice oa on oc, .slice ua un uc], _] _ _
    change Hid (∀ W, _ -> Calls _ _ #[.agg #[.string sec, .slice sa sn sc, .slice ta tn tc, .slice ca cn cc, .slice oa on oc, .slice ua un uc], _] _ _) at HIX
    have hb : Below w.heap.size w (w.alloc (.cells #[.string sec, .slice sa sn sc, .slice ta tn tc, .slice ca cn cc, .slice oa on oc, .slice ua un uc] 30)) := (Below.refl _ _).alloc (Nat.le_refl _) _
    obtain ⟨c0, c1, c2, c3, c4, c5⟩ := box_cells6 (World.alloc_heap_new w (.cells #[.string sec, .slice sa sn sc, .slice ta tn tc, .slice ca cn cc, .slice oa on oc, .slice ua un uc] 30))
    have HIQ := hiq (HIX.out _ hb)
    clear HIX
    go_enter Tryz.func31, Tryz.ntmps31
    go_wp2_with fail
    generalize w.alloc (.cells #[.string sec, .slice sa sn sc, .slice ta tn tc, .slice ca cn cc, .slice oa on oc, .slice ua un uc] 30) = W1 at *
    refine HIQ.out.mono ?_
    rintro e W2 ⟨rfl, hb2⟩
    replace hb := hb.trans (hb2.mono hb.size)
    clear HIQ hb2 c0 c1 c2 c3 c4 c5
    go_wp2
    refine bodyPost_ret (results_tmp2 rfl _ _ _) rfl ?_
    rw [HEQ.out]
    exact ⟨none, 0, 0, rfl, Sq.nil _ _ _ _ _, hb⟩
theorem deps_ref (S : Nat -> Prop) (v : LV) (l : Lg) (i : Int) (w : World) (h : RdL S w v l) (hm : SmL l) (hE : Env w) : Calls Tryz.prog 50 #[v.val, .int .i64 i] w (DepPost (l.deps i) w) := by
  have h2 : RdL (fun b => S b /\ b < w.heap.size) w v l := h.mono (fun b q q' => ⟨q, q'⟩)
  have HIX : Hid (∀ W, Below w.heap.size w W -> Calls Tryz.prog 78 #[v.val, .int .i64 i] W fun e w' => e = .returned (.int .i64 (l.idx i)) /\ Below W.heap.size W w') := fun W hb => idx_ref S v l i W (h.below hb) hm (hE.below hb)
  have hub := h2.2.2.bound
  unfold DepPost
  by_cases i0 : l.idx i = 0
  · obtain ⟨k, rfl, hk1, hk2⟩ := idx_nat i0
    have hkn : k < v.un := by rw [h2.2.2.len]; exact hk2
    have hle := (err_zero.1 (idx_zero.1 i0).1).1
    have HD1 : Hid (unK l.und k = false -> l.deps (k : Int) = ((l.set k true).run.sk, 0)) := fun q => by unfold Lg.deps; rw [if_neg (by simp [i0]), Int.toNat_natCast, if_neg (by simp [q])]
    have HD2 : Hid (unK l.und k = true -> l.deps (k : Int) = ([], 7)) := fun q => by unfold Lg.deps; rw [if_neg (by simp [i0]), Int.toNat_natCast, if_pos q]
    have HSET : Hid (∀ W, Below w.heap.size w W -> Calls Tryz.prog 79 #[v.val, .int .i64 (k : Int), .bool true] W (SetPost (fun b => S b /\ b < w.heap.size) l k true W)) := fun W hb => set_ref _ v l k true W (h2.below hb) hk2
    have HRN : Hid (∀ (T : Nat -> Prop) (u : LV) W, Below w.heap.size w W -> RdL T W u (l.set k true) -> Calls Tryz.prog 56 #[u.c.val, .slice u.oa u.on u.oc, .slice u.ua u.un u.uc] W (RunPost T l.start l.ops (l.set k true).und W)) := fun T u W hb hu =>
      run_ref T u.c l.start _ _ _ _ _ _ l.ops _ W hu.1 hu.2.1 hu.2.2 (by show _ = (l.und.set k true).length; rw [List.length_set]; exact hle.2.1) hm.1 hm.2 (by have := hu.2.1.len; change _ = l.ops.length at this; have := hle.2.2; omega)
    obtain ⟨u, bu, ofu, eu, -, eua, -, hbu, du⟩ := h2.2.2.flg hkn
    have hun : unK l.und k = u := by unfold unK; rw [eu]; rfl
    rw [hun] at HD1 HD2
    rw [i0] at HIX
    unfold SetPost at HSET
    unfold RunPost at HRN
    change Hid (_ -> l.deps (k : Int) = ((runL l.start l.ops (l.set k true).und).sk, 0)) at HD1
    generalize l.deps (k : Int) = R at *
    generalize (runL l.start l.ops (l.set k true).und).er = ER at *
    generalize (runL l.start l.ops (l.set k true).und).st = ST at *
    generalize (runL l.start l.ops (l.set k true).und).sk = SK at *
    generalize l.set k true = M at *
    clear h h2 hm hE i0 eu hun hk1 hk2 hle
    obtain ⟨⟨sec, sa, sn, sc, ta, tn, tc, ca, cn, cc⟩, oa, on, oc, ua, un, uc⟩ := v
    dsimp only at hkn hub eua
    subst eua
    change Calls _ _ #[.agg #[.string sec, .slice sa sn sc, .slice ta tn tc, .slice ca cn cc, .slice oa on oc, .slice (some ⟨bu, ofu, none⟩) un uc], _] _ _
    change Hid (∀ W, _ -> Calls _ _ #[.agg #[.string sec, .slice sa sn sc, .slice ta tn tc, .slice ca cn cc, .slice oa on oc, .slice (some ⟨bu, ofu, none⟩) un uc], _] _ _) at HIX
    change Hid (∀ W, _ -> Calls _ _ #[.agg #[.string sec, .slice sa sn sc, .slice ta tn tc, .slice ca cn cc, .slice oa on oc, .slice (some ⟨bu, ofu, none⟩) un uc], _, _] _ _) at HSET
    have hb : Below w.heap.size w (w.alloc (.cells #[.string sec, .slice sa sn sc, .slice ta tn tc, .slice ca cn cc, .slice oa on oc, .slice (some ⟨bu, ofu, none⟩) un uc] 30)) := (Below.refl _ _).alloc (Nat.le_refl _) _
    obtain ⟨c0, c1, c2, c3, c4, c5⟩ := box_cells6 (World.alloc_heap_new w (.cells #[.string sec, .slice sa sn sc, .slice ta tn tc, .slice ca cn cc, .slice oa on oc, .slice (some ⟨bu, ofu, none⟩) un uc] 30))
    have HIQ := hiq (HIX.out _ hb)
    clear HIX
    go_enter Tryz.func50, Tryz.ntmps50
    go_wp2_with fail
    generalize w.alloc (.cells #[.string sec, .slice sa sn sc, .slice ta tn tc, .slice ca cn cc, .slice oa on oc, .slice (some ⟨bu, ofu, none⟩) un uc] 30) = W1 at *
    refine HIQ.out.mono ?_
    rintro e W2 ⟨rfl, hb2⟩
    replace c0 := clq hb2 c0; replace c1 := clq hb2 c1; replace c2 := clq hb2 c2; replace c3 := clq hb2 c3; replace c4 := clq hb2 c4; replace c5 := clq hb2 c5
    replace hb := hb.trans (hb2.mono hb.size)
    replace du := clq hb du
    clear HIQ hb2
    cases u with
    | true =>
      have HEQ := hiq (HD2.out rfl)
      clear HD1 HD2
      have hbf : Below w.heap.size w (W2.alloc (.cells #[] 3)) := hb.alloc hb.size _
      go_wp2
      refine bodyPost_ret (results_tmp2 rfl _ _ _) rfl ?_
      rw [HEQ.out]
      exact ⟨_, 0, 0, rfl, ⟨rfl, Nat.le_refl _, by omega, fun j x hj => by simp at hj⟩, hbf⟩
    | false =>
      have HEQ := hiq (HD1.out rfl)
      clear HD1 HD2
      have HSQ := hiq (HSET.out _ hb)
      go_wp2_with fail
      refine HSQ.out.mono ?_
      rintro e W3 ⟨v2, he, hR3, hb4⟩
      obtain ⟨⟨sec2, sa2, sn2, sc2, ta2, tn2, tc2, ca2, cn2, cc2⟩, oa2, on2, oc2, ua2, un2, uc2⟩ := v2
      change e = .returned (.agg #[.string sec2, .slice sa2 sn2 sc2, .slice ta2 tn2 tc2, .slice ca2 cn2 cc2, .slice oa2 on2 oc2, .slice ua2 un2 uc2]) at he
      subst he
      have hal : Below W3.heap.size W3 (W3.alloc (.cells #[.string sec2, .slice sa2 sn2 sc2, .slice ta2 tn2 tc2, .slice ca2 cn2 cc2, .slice oa2 on2 oc2, .slice ua2 un2 uc2] 30)) := (Below.refl _ _).alloc (Nat.le_refl _) _
      have hb5 := hb4.trans (hal.mono hb4.size)
      obtain ⟨z0, z1, z2, z3, z4, z5⟩ := box_cells6 (World.alloc_heap_new W3 (.cells #[.string sec2, .slice sa2 sn2 sc2, .slice ta2 tn2 tc2, .slice ca2 cn2 cc2, .slice oa2 on2 oc2, .slice ua2 un2 uc2] 30))
      have hRV := hR3.below hal
      replace hb := hb.trans (hb5.mono hb.size)
      have HRQ := hiq (HRN.out _ ⟨⟨sec2, sa2, sn2, sc2, ta2, tn2, tc2, ca2, cn2, cc2⟩, oa2, on2, oc2, ua2, un2, uc2⟩ _ hb hRV)
      change Hid (Calls _ _ #[.agg #[.string sec2, .slice sa2 sn2 sc2, .slice ta2 tn2 tc2, .slice ca2 cn2 cc2], .slice oa2 on2 oc2, .slice ua2 un2 uc2] _ _) at HRQ
      clear hR3 hb4 hb5 hal HSQ hRV HRN HSET
      go_wp2_with fail
      generalize W3.alloc (.cells #[.string sec2, .slice sa2 sn2 sc2, .slice ta2 tn2 tc2, .slice ca2 cn2 cc2, .slice oa2 on2 oc2, .slice ua2 un2 uc2] 30) = W4 at *
      refine HRQ.out.mono ?_
      rintro e W5 ⟨⟨sec3, sa3, sn3, sc3, ta3, tn3, tc3, ca3, cn3, cc3⟩, a, n, c, he, hR5, hN5, hb6⟩
      change e = .returned (.tuple #[.agg #[.string sec3, .slice sa3 sn3 sc3, .slice ta3 tn3 tc3, .slice ca3 cn3 cc3], .slice a n c, .int .i64 ER]) at he
      subst he
      have hal : Below W5.heap.size W5 (W5.alloc (.cells #[.string sec3, .slice sa3 sn3 sc3, .slice ta3 tn3 tc3, .slice ca3 cn3 cc3] 26)) := (Below.refl _ _).alloc (Nat.le_refl _) _
      have hbf := hb.trans ((hb6.trans (hal.mono hb6.size)).mono hb.size)
      have hNf := hN5.below rInt_ok hal
      have hsz := hb.size
      clear hR5 hN5 hb6 hal HRQ z0 z1 z2 z3 z4 z5
      go_wp2
      refine bodyPost_ret (results_tmp2 rfl _ _ _) rfl ?_
      rw [HEQ.out]
      exact ⟨a, n, c, rfl, hNf.mono rInt_ok (fun b q _ => by omega), hbf⟩
  · have HEQ : Hid (l.deps i = ([], l.idx i)) := by show _ = _; unfold Lg.deps; rw [if_pos i0]
    have t0 : ((l.idx i : Int) != 0) = true := by simpa using i0
    generalize l.deps i = R at *
    generalize l.idx i = I at *
    clear h h2 hm hE i0
    obtain ⟨⟨sec, sa, sn, sc, ta, tn, tc, ca, cn, cc⟩, oa, on, oc, ua, un, uc⟩ := v
    change Calls _ _ #[.agg #[.string sec, .slice sa sn sc, .slice ta tn tc, .slice ca cn cc, .slice oa on oc, .slice ua un uc], _] _ _
    change Hid (∀ W, _ -> Calls _ _ #[.agg #[.string sec, .slice sa sn sc, .slice ta tn tc, .slice ca cn cc, .slice oa on oc, .slice ua un uc], _] _ _) at HIX
    have hb : Below w.heap.size w (w.alloc (.cells #[.string sec, .slice sa sn sc, .slice ta tn tc, .slice ca cn cc, .slice oa on oc, .slice ua un uc] 30)) := (Below.refl _ _).alloc (Nat.le_refl _) _
    obtain ⟨c0, c1, c2, c3, c4, c5⟩ := box_cells6 (World.alloc_heap_new w (.cells #[.string sec, .slice sa sn sc, .slice ta tn tc, .slice ca cn cc, .slice oa on oc, .slice ua un uc] 30))
    have HIQ := hiq (HIX.out _ hb)
    clear HIX
    go_enter Tryz.func50, Tryz.ntmps50
    go_wp2_with fail
    generalize w.alloc (.cells #[.string sec, .slice sa sn sc, .slice ta tn tc, .slice ca cn cc, .slice oa on oc, .slice ua un uc] 30) = W1 at *
    refine HIQ.out.mono ?_
    rintro e W2 ⟨rfl, hb2⟩
    replace hb := hb.trans (hb2.mono hb.size)
    clear HIQ hb2 c0 c1 c2 c3 c4 c5
    have hbf : Below w.heap.size w (W2.alloc (.cells #[] 3)) := hb.alloc hb.size _
    go_wp2
    refine bodyPost_ret (results_tmp2 rfl _ _ _) rfl ?_
    rw [HEQ.out]
    exact ⟨_, 0, 0, rfl, ⟨rfl, Nat.le_refl _, by omega, fun j x hj => by simp at hj⟩, hbf⟩
end Go.Proofs.YtfdipkhbemgojaaGreatDoor
