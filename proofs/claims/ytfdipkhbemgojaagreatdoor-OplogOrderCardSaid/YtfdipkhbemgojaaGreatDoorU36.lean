/- Joined: OTrp, ONew, OAwk. -/
import Derived.Test.YtfdipkhbemgojaaGreatDoorU34
import Derived.Test.YtfdipkhbemgojaaGreatDoorU35
import Derived.Test.YtfdipkhbemgojaaGreatDoorU33
import Derived.Test.YtfdipkhbemgojaaGreatDoorU22
set_option linter.unusedVariables false
set_option linter.unusedSimpArgs false
set_option maxRecDepth 100000
set_option maxHeartbeats 16000000
namespace Go.Proofs.YtfdipkhbemgojaaGreatDoor
open Go.RowKit

theorem undo_any (S : Nat -> Prop) (v : LV) (l : Lg) (i : Int) (w : World) (h : RdL S w v l) (hm : SmL l) (hE : Env w) : Calls Tryz.prog 27 #[v.val, .int .i64 i] w (LogPost S (l.turn i true) w) := by
  have h2 : RdL (fun b => S b /\ b < w.heap.size) w v l := h.mono (fun b q q' => ⟨q, q'⟩)
  have HIX : Hid (∀ W, Below w.heap.size w W -> Calls Tryz.prog 63 #[v.val, .int .i64 i] W fun e w' => e = .returned (.int .i64 (l.idx i)) /\ Below W.heap.size W w') := fun W hb => idx_any S v l i W (h.below hb) hm (hE.below hb)
  have HU := hiq h2.2.2
  have hub := h2.2.2.bound
  by_cases i0 : l.idx i = 0
  · obtain ⟨k, rfl, hk1, hk2⟩ := idx_nat i0
    have hkn : k < v.un := by rw [h2.2.2.len]; exact hk2
    have HT1 : Hid (unK l.und k ≠ true -> l.turn (k : Int) true = l.changed k true) := turn_changed i0
    have HT2 : Hid (unK l.und k = true -> l.turn (k : Int) true = (Lg.none, 7)) := fun q => turn_same i0 q
    obtain ⟨u, bu, ofu, eu, -, eua, -, hbu, du⟩ := h2.2.2.flg hkn
    have hun : unK l.und k = u := by unfold unK; rw [eu]; rfl
    rw [hun] at HT1 HT2
    rw [i0] at HIX
    have HCH : Hid (∀ W, Below w.heap.size w W -> Calls Tryz.prog 64 #[v.val, .int .i64 (k : Int), .bool true] W (LogPost (fun b => S b /\ b < w.heap.size) (l.changed k true) W)) := fun W hb => changed_any _ v l k true W (h2.below hb) hm (hE.below hb) hk2
    unfold LogPost at HCH
    unfold LogPost
    generalize l.turn (k : Int) true = R at *
    generalize l.changed k true = CR at *
    clear h h2 hm hE HU i0 eu hun hk1 hk2
    obtain ⟨⟨sec, sa, sn, sc, ta, tn, tc, ca, cn, cc⟩, oa, on, oc, ua, un, uc⟩ := v
    dsimp only at hkn hub eua
    subst eua
    change Calls _ _ #[.agg #[.string sec, .slice sa sn sc, .slice ta tn tc, .slice ca cn cc, .slice oa on oc, .slice (some ⟨bu, ofu, none⟩) un uc], _] _ _
    change Hid (∀ W, _ -> Calls _ _ #[.agg #[.string sec, .slice sa sn sc, .slice ta tn tc, .slice ca cn cc, .slice oa on oc, .slice (some ⟨bu, ofu, none⟩) un uc], _] _ _) at HIX
    change Hid (∀ W, _ -> Calls _ _ #[.agg #[.string sec, .slice sa sn sc, .slice ta tn tc, .slice ca cn cc, .slice oa on oc, .slice (some ⟨bu, ofu, none⟩) un uc], _, _] _ _) at HCH
    obtain ⟨W1, hW1, hb, hs1, gX, gR⟩ := box2r w #[.string sec, .slice sa sn sc, .slice ta tn tc, .slice ca cn cc, .slice oa on oc, .slice (some ⟨bu, ofu, none⟩) un uc] #[.string ⟨#[]⟩, .slice none 0 0, .slice none 0 0, .slice none 0 0, .slice none 0 0, .slice none 0 0] 30 30
    have HIQ := hiq (HIX.out _ hb)
    obtain ⟨c0, c1, c2, c3, c4, c5⟩ := box_cells6 gX
    rw [hW1] at c0 c1 c2 c3 c4 c5
    clear HIX
    go_enter Tryz.func27, Tryz.ntmps27
    go_wp2_with fail
    rw [<- hW1] at *
    clear hW1 gX
    refine HIQ.out.mono ?_
    rintro e W2 ⟨rfl, hb2⟩
    replace c0 := clq hb2 c0; replace c1 := clq hb2 c1; replace c2 := clq hb2 c2; replace c3 := clq hb2 c3; replace c4 := clq hb2 c4; replace c5 := clq hb2 c5
    replace gR := (hb2.block _ (by omega)).trans gR
    replace hb := hb.trans (hb2.mono hb.size)
    replace du := clq hb du
    have hs2 := hb2.size
    clear HIQ hb2
    cases u with
    | true =>
      have HEQ := hiq (HT2.out rfl)
      clear HT1 HT2
      obtain ⟨y0, y1, y2, y3, y4, y5⟩ := box_cells6 gR
      have yf0 := frozen5 gR 0
      have yf1 := frozen5 gR 1
      have yf2 := frozen5 gR 2
      have yf3 := frozen5 gR 3
      have yf4 := frozen5 gR 4
      have yf5 := frozen5 gR 5
      have HALL := hiq (And.intro gR hb)
      clear gR hb 
      go_wp2
      change bodyPost _ _ _ _ _ (put6 W2 (w.heap.size + 1) (.string ⟨#[]⟩) (.slice none 0 0) (.slice none 0 0) (.slice none 0 0) (.slice none 0 0) (.slice none 0 0))
      obtain ⟨gR, hb⟩ := HALL.out
      obtain ⟨r0, r1, r2, r3, r4, r5⟩ := box_cells6 (put6_at gR (.string ⟨#[]⟩) (.slice none 0 0) (.slice none 0 0) (.slice none 0 0) (.slice none 0 0) (.slice none 0 0))
      have hbf := put6_below hb (b := w.heap.size + 1) (by omega) (.string ⟨#[]⟩) (.slice none 0 0) (.slice none 0 0) (.slice none 0 0) (.slice none 0 0) (.slice none 0 0)
      generalize put6 W2 (w.heap.size + 1) (.string ⟨#[]⟩) (.slice none 0 0) (.slice none 0 0) (.slice none 0 0) (.slice none 0 0) (.slice none 0 0) = WF at *
      refine bodyPost_ret (v := .tuple #[.agg #[.string ⟨#[]⟩, .slice none 0 0, .slice none 0 0, .slice none 0 0, .slice none 0 0, .slice none 0 0], .int .i64 7]) (by simp [results, Tryz.results27, go_sem, r0, r1, r2, r3, r4, r5]) rfl ?_
      rw [HEQ.out]
      exact ⟨⟨⟨⟨#[]⟩, none, 0, 0, none, 0, 0, none, 0, 0⟩, none, 0, 0, none, 0, 0⟩, rfl, rdL_none _ _, hbf⟩
    | false =>
      have HEQ := hiq (HT1.out (by simp))
      clear HT1 HT2
      have HCQ := hiq (HCH.out _ hb)
      clear HCH
      go_wp2_with fail
      refine HCQ.out.mono ?_
      rintro e W3 ⟨v2, he, hR3, hb4⟩
      obtain ⟨LL, RC⟩ := CR
      dsimp only at he hR3
      obtain ⟨⟨sec2, sa2, sn2, sc2, ta2, tn2, tc2, ca2, cn2, cc2⟩, oa2, on2, oc2, ua2, un2, uc2⟩ := v2
      change e = .returned (.tuple #[.agg #[.string sec2, .slice sa2 sn2 sc2, .slice ta2 tn2 tc2, .slice ca2 cn2 cc2, .slice oa2 on2 oc2, .slice ua2 un2 uc2], .int .i64 RC]) at he
      subst he
      replace gR := (hb4.block _ (by omega)).trans gR
      replace hb := hb.trans (hb4.mono hb.size)
      have HRV := hiq hR3
      have hs4 := hb4.size
      clear HCQ hR3 hb4 c0 c1 c2 c3 c4 c5 du
      obtain ⟨y0, y1, y2, y3, y4, y5⟩ := box_cells6 gR
      have yf0 := frozen5 gR 0
      have yf1 := frozen5 gR 1
      have yf2 := frozen5 gR 2
      have yf3 := frozen5 gR 3
      have yf4 := frozen5 gR 4
      have yf5 := frozen5 gR 5
      have HALL := hiq (And.intro gR hb)
      clear gR hb 
      go_wp2
      change bodyPost _ _ _ _ _ (put6 W3 (w.heap.size + 1) (.string sec2) (.slice sa2 sn2 sc2) (.slice ta2 tn2 tc2) (.slice ca2 cn2 cc2) (.slice oa2 on2 oc2) (.slice ua2 un2 uc2))
      obtain ⟨gR, hb⟩ := HALL.out
      obtain ⟨r0, r1, r2, r3, r4, r5⟩ := box_cells6 (put6_at gR (.string sec2) (.slice sa2 sn2 sc2) (.slice ta2 tn2 tc2) (.slice ca2 cn2 cc2) (.slice oa2 on2 oc2) (.slice ua2 un2 uc2))
      have hbf := put6_below hb (b := w.heap.size + 1) (by omega) (.string sec2) (.slice sa2 sn2 sc2) (.slice ta2 tn2 tc2) (.slice ca2 cn2 cc2) (.slice oa2 on2 oc2) (.slice ua2 un2 uc2)
      have hRf := HRV.out.keep (put6_keep (W := W3) (b := w.heap.size + 1) (by rintro (⟨-, q⟩ | q) <;> omega) (.string sec2) (.slice sa2 sn2 sc2) (.slice ta2 tn2 tc2) (.slice ca2 cn2 cc2) (.slice oa2 on2 oc2) (.slice ua2 un2 uc2))
      generalize put6 W3 (w.heap.size + 1) (.string sec2) (.slice sa2 sn2 sc2) (.slice ta2 tn2 tc2) (.slice ca2 cn2 cc2) (.slice oa2 on2 oc2) (.slice ua2 un2 uc2) = WF at *
      refine bodyPost_ret (v := .tuple #[.agg #[.string sec2, .slice sa2 sn2 sc2, .slice ta2 tn2 tc2, .slice ca2 cn2 cc2, .slice oa2 on2 oc2, .slice ua2 un2 uc2], .int .i64 RC]) (by simp [results, Tryz.results27, go_sem, r0, r1, r2, r3, r4, r5]) rfl ?_
      rw [HEQ.out]
      exact ⟨⟨⟨sec2, sa2, sn2, sc2, ta2, tn2, tc2, ca2, cn2, cc2⟩, oa2, on2, oc2, ua2, un2, uc2⟩, rfl, hRf.mono (fun b q _ => by rcases q with q | q; exact .inl q.1; exact .inr (by omega)), hbf⟩
  · have HEQ : Hid (l.turn i true = (Lg.none, l.idx i)) := turn_err i0
    have t0 : ((l.idx i : Int) != 0) = true := by simpa using i0
    unfold LogPost
    generalize l.turn i true = R at *
    generalize l.idx i = I at *
    clear h h2 hm hE HU i0
    obtain ⟨⟨sec, sa, sn, sc, ta, tn, tc, ca, cn, cc⟩, oa, on, oc, ua, un, uc⟩ := v
    change Calls _ _ #[.agg #[.string sec, .slice sa sn sc, .slice ta tn tc, .slice ca cn cc, .slice oa on oc, .slice ua un uc], _] _ _
    change Hid (∀ W, _ -> Calls _ _ #[.agg #[.string sec, .slice sa sn sc, .slice ta tn tc, .slice ca cn cc, .slice oa on oc, .slice ua un uc], _] _ _) at HIX
    obtain ⟨W1, hW1, hb, hs1, gX, gR⟩ := box2r w #[.string sec, .slice sa sn sc, .slice ta tn tc, .slice ca cn cc, .slice oa on oc, .slice ua un uc] #[.string ⟨#[]⟩, .slice none 0 0, .slice none 0 0, .slice none 0 0, .slice none 0 0, .slice none 0 0] 30 30
    have HIQ := hiq (HIX.out _ hb)
    obtain ⟨c0, c1, c2, c3, c4, c5⟩ := box_cells6 gX
    rw [hW1] at c0 c1 c2 c3 c4 c5
    clear HIX
    go_enter Tryz.func27, Tryz.ntmps27
    go_wp2_with fail
    rw [<- hW1] at *
    clear hW1 gX
    refine HIQ.out.mono ?_
    rintro e W2 ⟨rfl, hb2⟩
    replace gR := (hb2.block _ (by omega)).trans gR
    replace hb := hb.trans (hb2.mono hb.size)
    have hs2 := hb2.size
    clear HIQ hb2 c0 c1 c2 c3 c4 c5
    obtain ⟨y0, y1, y2, y3, y4, y5⟩ := box_cells6 gR
    have yf0 := frozen5 gR 0
    have yf1 := frozen5 gR 1
    have yf2 := frozen5 gR 2
    have yf3 := frozen5 gR 3
    have yf4 := frozen5 gR 4
    have yf5 := frozen5 gR 5
    have HALL := hiq (And.intro gR hb)
    clear gR hb 
    go_wp2
    change bodyPost _ _ _ _ _ (put6 W2 (w.heap.size + 1) (.string ⟨#[]⟩) (.slice none 0 0) (.slice none 0 0) (.slice none 0 0) (.slice none 0 0) (.slice none 0 0))
    obtain ⟨gR, hb⟩ := HALL.out
    obtain ⟨r0, r1, r2, r3, r4, r5⟩ := box_cells6 (put6_at gR (.string ⟨#[]⟩) (.slice none 0 0) (.slice none 0 0) (.slice none 0 0) (.slice none 0 0) (.slice none 0 0))
    have hbf := put6_below hb (b := w.heap.size + 1) (by omega) (.string ⟨#[]⟩) (.slice none 0 0) (.slice none 0 0) (.slice none 0 0) (.slice none 0 0) (.slice none 0 0)
    generalize put6 W2 (w.heap.size + 1) (.string ⟨#[]⟩) (.slice none 0 0) (.slice none 0 0) (.slice none 0 0) (.slice none 0 0) (.slice none 0 0) = WF at *
    refine bodyPost_ret (v := .tuple #[.agg #[.string ⟨#[]⟩, .slice none 0 0, .slice none 0 0, .slice none 0 0, .slice none 0 0, .slice none 0 0], .int .i64 I]) (by simp [results, Tryz.results27, go_sem, r0, r1, r2, r3, r4, r5]) rfl ?_
    rw [HEQ.out]
    exact ⟨⟨⟨⟨#[]⟩, none, 0, 0, none, 0, 0, none, 0, 0⟩, none, 0, 0, none, 0, 0⟩, rfl, rdL_none _ _, hbf⟩
end Go.Proofs.YtfdipkhbemgojaaGreatDoor
namespace Go.Proofs.YtfdipkhbemgojaaGreatDoor
open Go.RowKit

/-- The log without operations. -/
def newL (x : Col) : Lg × Int := if x.err ≠ 0 then (Lg.none, 1) else (⟨x, [], []⟩, 0)
theorem new_any (S : Nat -> Prop) (v : CV) (x : Col) (w : World) (h : RdC S w v x) (hm : Sml x) (hE : Env w) : Calls Tryz.prog 14 #[v.val] w (LogPost S (newL x) w) := by
  have h2 : RdC (fun b => S b /\ b < w.heap.size) w v x := h.mono (fun b q q' => ⟨q, q'⟩)
  have HC : Hid (∀ W, Below w.heap.size w W -> Calls Tryz.prog 44 #[v.val] W fun e w' => e = .returned (.int .i64 x.err) /\ Below W.heap.size W w') := fun W hb => check_any S v x W (h.below hb) hm (hE.below hb)
  have HN0 : Hid (x.err ≠ 0 -> newL x = (Lg.none, 1)) := fun q => by unfold newL; rw [if_pos q]
  have HN1 : Hid (x.err = 0 -> newL x = (⟨x, [], []⟩, 0)) := fun q => by unfold newL; rw [if_neg (by simp [q])]
  have HX : Hid (∀ W, Below w.heap.size w W -> RdL (fun b => (S b /\ b < w.heap.size) \/ W.heap.size <= b) W ⟨v, none, 0, 0, none, 0, 0⟩ ⟨x, [], []⟩) := fun W hb => ⟨(h2.below hb).mono (fun b q _ => .inl q), Sq.nil _ _ _ _ _, Sq.nil _ _ _ _ _⟩
  unfold LogPost
  generalize newL x = R at *
  generalize x.err = E at *
  clear h h2 hm hE
  obtain ⟨sec, sa, sn, sc, ta, tn, tc, ca, cn, cc⟩ := v
  change Calls _ _ #[.agg #[.string sec, .slice sa sn sc, .slice ta tn tc, .slice ca cn cc]] _ _
  change Hid (∀ W, _ -> Calls _ _ #[.agg #[.string sec, .slice sa sn sc, .slice ta tn tc, .slice ca cn cc]] _ _) at HC
  obtain ⟨W1, hW1, hb, hs1, gX, gR⟩ := box2r w #[.string sec, .slice sa sn sc, .slice ta tn tc, .slice ca cn cc] #[.string ⟨#[]⟩, .slice none 0 0, .slice none 0 0, .slice none 0 0, .slice none 0 0, .slice none 0 0] 26 30
  have HCC := hiq (HC.out _ hb)
  obtain ⟨c0, c1, c2, c3, -⟩ := box_cells4 gX
  rw [hW1] at c0 c1 c2 c3
  clear HC gX
  go_enter Tryz.func14, Tryz.ntmps14
  go_wp2_with fail
  rw [<- hW1] at *
  clear hW1
  refine HCC.out.mono ?_
  rintro e W2 ⟨rfl, hb2⟩
  replace c0 := clq hb2 c0; replace c1 := clq hb2 c1; replace c2 := clq hb2 c2; replace c3 := clq hb2 c3
  replace gR := (hb2.block _ (by omega)).trans gR
  replace hb := hb.trans (hb2.mono hb.size)
  have hs2 := hb2.size
  clear HCC hb2
  by_cases e0 : E = 0
  · have t0 : ((E : Int) != 0) = false := by simp [e0]
    have HEQ := hiq (HN1.out e0)
    have HRV := hiq (HX.out _ hb)
    clear HN0 HN1 HX
    obtain ⟨y0, y1, y2, y3, y4, y5⟩ := box_cells6 gR
    have yf0 := frozen5 gR 0
    have yf1 := frozen5 gR 1
    have yf2 := frozen5 gR 2
    have yf3 := frozen5 gR 3
    have yf4 := frozen5 gR 4
    have yf5 := frozen5 gR 5
    have HALL := hiq (And.intro gR hb)
    clear gR hb 
    go_wp2
    change bodyPost _ _ _ _ _ (put6 W2 (w.heap.size + 1) (.string sec) (.slice sa sn sc) (.slice ta tn tc) (.slice ca cn cc) (.slice none 0 0) (.slice none 0 0))
    obtain ⟨gR, hb⟩ := HALL.out
    obtain ⟨r0, r1, r2, r3, r4, r5⟩ := box_cells6 (put6_at gR (.string sec) (.slice sa sn sc) (.slice ta tn tc) (.slice ca cn cc) (.slice none 0 0) (.slice none 0 0))
    have hbf := put6_below hb (b := w.heap.size + 1) (by omega) (.string sec) (.slice sa sn sc) (.slice ta tn tc) (.slice ca cn cc) (.slice none 0 0) (.slice none 0 0)
    have hRf := HRV.out.keep (put6_keep (W := W2) (b := w.heap.size + 1) (by rintro (⟨-, q⟩ | q) <;> omega) (.string sec) (.slice sa sn sc) (.slice ta tn tc) (.slice ca cn cc) (.slice none 0 0) (.slice none 0 0))
    generalize put6 W2 (w.heap.size + 1) (.string sec) (.slice sa sn sc) (.slice ta tn tc) (.slice ca cn cc) (.slice none 0 0) (.slice none 0 0) = WF at *
    refine bodyPost_ret (v := .tuple #[.agg #[.string sec, .slice sa sn sc, .slice ta tn tc, .slice ca cn cc, .slice none 0 0, .slice none 0 0], .int .i64 0]) (by simp [results, Tryz.results14, go_sem, r0, r1, r2, r3, r4, r5]) rfl ?_
    rw [HEQ.out]
    exact ⟨⟨⟨sec, sa, sn, sc, ta, tn, tc, ca, cn, cc⟩, none, 0, 0, none, 0, 0⟩, rfl, hRf.mono (fun b q _ => by rcases q with q | q; exact .inl q.1; exact .inr (by omega)), hbf⟩
  · have t0 : ((E : Int) != 0) = true := by simpa using e0
    have HEQ := hiq (HN0.out e0)
    clear HN0 HN1 HX c0 c1 c2 c3
    obtain ⟨y0, y1, y2, y3, y4, y5⟩ := box_cells6 gR
    have yf0 := frozen5 gR 0
    have yf1 := frozen5 gR 1
    have yf2 := frozen5 gR 2
    have yf3 := frozen5 gR 3
    have yf4 := frozen5 gR 4
    have yf5 := frozen5 gR 5
    have HALL := hiq (And.intro gR hb)
    clear gR hb 
    go_wp2
    change bodyPost _ _ _ _ _ (put6 W2 (w.heap.size + 1) (.string ⟨#[]⟩) (.slice none 0 0) (.slice none 0 0) (.slice none 0 0) (.slice none 0 0) (.slice none 0 0))
    obtain ⟨gR, hb⟩ := HALL.out
    obtain ⟨r0, r1, r2, r3, r4, r5⟩ := box_cells6 (put6_at gR (.string ⟨#[]⟩) (.slice none 0 0) (.slice none 0 0) (.slice none 0 0) (.slice none 0 0) (.slice none 0 0))
    have hbf := put6_below hb (b := w.heap.size + 1) (by omega) (.string ⟨#[]⟩) (.slice none 0 0) (.slice none 0 0) (.slice none 0 0) (.slice none 0 0) (.slice none 0 0)
    generalize put6 W2 (w.heap.size + 1) (.string ⟨#[]⟩) (.slice none 0 0) (.slice none 0 0) (.slice none 0 0) (.slice none 0 0) (.slice none 0 0) = WF at *
    refine bodyPost_ret (v := .tuple #[.agg #[.string ⟨#[]⟩, .slice none 0 0, .slice none 0 0, .slice none 0 0, .slice none 0 0, .slice none 0 0], .int .i64 1]) (by simp [results, Tryz.results14, go_sem, r0, r1, r2, r3, r4, r5]) rfl ?_
    rw [HEQ.out]
    exact ⟨⟨⟨⟨#[]⟩, none, 0, 0, none, 0, 0, none, 0, 0⟩, none, 0, 0, none, 0, 0⟩, rfl, rdL_none _ _, hbf⟩
end Go.Proofs.YtfdipkhbemgojaaGreatDoor
namespace Go.Proofs.YtfdipkhbemgojaaGreatDoor
open Go.RowKit

/-- A collation, or a log, and an error. -/
def ColP (x : Col) (er : Int) (w : World) (e : Ending) (w' : World) : Prop := ∃ v : CV, e = .returned (.tuple #[v.val, .int .i64 er]) /\ RdC (fun _ => True) w' v x /\ Below w.heap.size w w'
def LogP (l : Lg) (er : Int) (w : World) (e : Ending) (w' : World) : Prop := ∃ v : LV, e = .returned (.tuple #[v.val, .int .i64 er]) /\ RdL (fun _ => True) w' v l /\ Below w.heap.size w w'
abbrev RC (w : World) (v : CV) (x : Col) : Prop := RdC (fun _ => True) w v x
abbrev RL (w : World) (v : LV) (l : Lg) : Prop := RdL (fun _ => True) w v l
theorem RdC.t {S : Nat -> Prop} {w : World} {v : CV} {x : Col} (h : RdC S w v x) : RC w v x := h.mono (fun _ _ _ => trivial)
theorem RdL.t {S : Nat -> Prop} {w : World} {v : LV} {l : Lg} (h : RdL S w v l) : RL w v l := h.mono (fun _ _ _ => trivial)
theorem StatePost.p {S : Nat -> Prop} {l : Lg} {w w' : World} {e : Ending} (h : StatePost S l w e w') : ColP l.state.1 l.state.2 w e w' := by
  obtain ⟨v, h1, h2, h3⟩ := h; exact ⟨v, h1, h2.t, h3⟩
theorem LogPost.p {S : Nat -> Prop} {r : Lg × Int} {w w' : World} {e : Ending} (h : LogPost S r w e w') : LogP r.1 r.2 w e w' := by
  obtain ⟨v, h1, h2, h3⟩ := h; exact ⟨v, h1, h2.t, h3⟩
theorem EditPost.p {S : Nat -> Prop} {x : Col} {o : Op} {w w' : World} {e : Ending} (h : EditPost S x o w e w') : ColP (opApply x o) (opErr x o) w e w' := by
  obtain ⟨v, h1, h2, h3⟩ := h; exact ⟨v, h1, h2.t, h3⟩
theorem sameC_yes {u v : CV} {x : Col} {w : World} (h : RC w u x) (k : RC w v x) : Calls Tryz.prog 23 #[u.val, v.val] w fun e w' => e = .returned (.bool true) /\ Below w.heap.size w w' := by
  have := sameC_ref _ _ u v x x w h k
  rw [decide_eq_true rfl] at this; exact this
theorem state_ok {l : Lg} (h : l.err = 0) : l.state = (l.run.st, 0) := by unfold Lg.state; rw [if_neg (by simp [h])]
def opA : Op := ⟨2, ⟨#[65]⟩, 0, 0, ⟨#[]⟩⟩
theorem st_err : startC.err = 0 := by decide +kernel
theorem st_op : opErr startC opA = 0 := by decide +kernel
theorem st_cols : (opApply startC opA).cols.length = 3 := by decide +kernel
theorem st_sml : Sml startC := ⟨fun s hs => by revert s; decide +kernel, fun r hr t ht => by revert t; revert r; unfold SmT; decide +kernel⟩
def l0 : Lg := ⟨startC, [], []⟩
def l1 : Lg := ⟨startC, [opA], [false]⟩
theorem l0_err : l0.err = 0 := err_zero.2 ⟨⟨st_err, rfl, by decide⟩, rfl⟩
theorem l0_run : l0.run.st = startC := rfl
theorem l0_new : newL startC = (l0, 0) := by unfold newL; rw [if_neg (by simp [st_err])]; rfl
theorem l0_did : l0.did opA = (l1, 0) := did_4 l0_err (by decide) (by rw [l0_run]; exact st_op)
theorem l1_err : l1.err = 0 := (did_valid (l := l0) (o := opA) l0_err (by decide) (by rw [l0_run]; exact st_op)).1
theorem l1_st : l1.state = (opApply startC opA, 0) := by
  rw [state_ok l1_err]
  have := (did_valid (l := l0) (o := opA) l0_err (by decide) (by rw [l0_run]; exact st_op)).2
  exact congrArg (fun z => (z, (0 : Int))) this
theorem l1_turn : l1.turn 0 true = (l1.set 0 true, 0) := by
  have hi : l1.idx ((0 : Nat) : Int) = 0 := idx_zero.2 ⟨l1_err, by decide, by decide⟩
  have h := turn_changed (l := l1) (k := 0) (b := true) hi (by decide)
  have hz := (undid_run (l := l0) (o := opA) l0_err (by decide)).1
  change (l1.set 0 true).err = 0 at hz
  rw [show ((0 : Nat) : Int) = 0 from rfl] at h
  rw [h]; unfold Lg.changed; rw [if_neg (by simp [hz])]
theorem l2_st : (l1.set 0 true).state = (startC, 0) := by
  have h := undid_run (l := l0) (o := opA) l0_err (by decide)
  have h1 : (l1.set 0 true).err = 0 := h.1
  rw [state_ok h1]
  exact congrArg (fun z => (z, (0 : Int))) h.2
theorem l0_sm : SmL l0 := ⟨st_sml, fun o ho => by cases ho⟩
theorem l1_sm : SmL l1 := ⟨st_sml, fun o ho => by simp [l1] at ho; subst ho; decide⟩
theorem awake_any (w : World) (hE : Env w) : Calls Tryz.prog 13 #[] w fun e w' => e = .returned (.bool true) /\ Below w.heap.size w w' := by
  have HSA : Hid (∀ W, Calls Tryz.prog 53 #[] W fun e w' => ∃ v : CV, e = .returned v.val /\ RC w' v startC /\ Below W.heap.size W w') := start_any
  have HNW : Hid (∀ u W, Below w.heap.size w W -> RC W u startC -> Calls Tryz.prog 14 #[u.val] W (LogP l0 0 W)) := fun u W hb hu => by
    have := (new_any _ u startC W hu st_sml (hE.below hb)).mono (fun e w' h => h.p)
    rw [l0_new] at this; exact this
  have HDO : Hid (∀ S u W, Below w.heap.size w W -> RdL S W u l0 -> Calls Tryz.prog 16 #[u.val, opA.val] W (LogPost S (l1, 0) W)) := fun S u W hb hu => by
    have := did_any S u l0 opA W hu l0_sm (hE.below hb) (by unfold Op.ok I64; decide) (by decide)
    rw [l0_did] at this; exact this
  have HS1' : Hid (∀ u W, Below w.heap.size w W -> RL W u l1 -> Calls Tryz.prog 18 #[u.val] W (ColP (opApply startC opA) 0 W)) := fun u W hb hu => by
    have := (state_any _ u l1 W hu l1_sm (hE.below hb)).mono (fun e w' h => h.p)
    rw [l1_st] at this; exact this
  have HUN : Hid (∀ u W, Below w.heap.size w W -> RL W u l1 -> Calls Tryz.prog 27 #[u.val, .int .i64 0] W (LogP (l1.set 0 true) 0 W)) := fun u W hb hu => by
    have := (undo_any _ u l1 0 W hu l1_sm (hE.below hb)).mono (fun e w' h => h.p)
    rw [l1_turn] at this; exact this
  have HS2' : Hid (∀ u W, Below w.heap.size w W -> RL W u (l1.set 0 true) -> Calls Tryz.prog 18 #[u.val] W (ColP startC 0 W)) := fun u W hb hu => by
    have := (state_any _ u _ W hu (sml_set l1_sm) (hE.below hb)).mono (fun e w' h => h.p)
    rw [l2_st] at this; exact this
  have HSM : Hid (∀ u v W, RC W u startC -> RC W v startC -> Calls Tryz.prog 23 #[u.val, v.val] W fun e w' => e = .returned (.bool true) /\ Below W.heap.size W w') := fun u v W h k => sameC_yes h k
  have hb : Below w.heap.size w w := Below.refl _ _
  clear hE
  go_enter Tryz.func13, Tryz.ntmps13
  have HQ := hiq (HSA.out w)
  go_wp2_with fail
  refine HQ.out.mono ?_
  rintro e W1 ⟨v, he, hR, hbk⟩
  obtain ⟨secA, saA, snA, scA, taA, tnA, tcA, caA, cnA, ccA⟩ := v
  change e = .returned (.agg #[.string secA, .slice saA snA scA, .slice taA tnA tcA, .slice caA cnA ccA]) at he
  subst he
  have HRA := hiq hR
  replace hb := hb.trans (hbk.mono hb.size)
  clear hR hbk HQ
  have HQ := hiq (HNW.out ⟨secA, saA, snA, scA, taA, tnA, tcA, caA, cnA, ccA⟩ W1 hb HRA.out)
  change Hid (Calls _ _ #[.agg #[.string secA, .slice saA snA scA, .slice taA tnA tcA, .slice caA cnA ccA]] _ _) at HQ
  go_wp2_with fail
  refine HQ.out.mono ?_
  rintro e W2 ⟨v, he, hR, hbk⟩
  have HW2 : Hid (w.heap.size <= W2.heap.size) := (hb.trans (hbk.mono hb.size)).size
  obtain ⟨⟨secK, saK, snK, scK, taK, tnK, tcK, caK, cnK, ccK⟩, oaK, onK, ocK, uaK, unK, ucK⟩ := v
  change e = .returned (.tuple #[.agg #[.string secK, .slice saK snK scK, .slice taK tnK tcK, .slice caK cnK ccK, .slice oaK onK ocK, .slice uaK unK ucK], .int .i64 0]) at he
  subst he
  have hal : Below W2.heap.size W2 (W2.alloc (.cells #[.string secK, .slice saK snK scK, .slice taK tnK tcK, .slice caK cnK ccK, .slice oaK onK ocK, .slice uaK unK ucK] 30)) := (Below.refl _ _).alloc (Nat.le_refl _) _
  have hst := hbk.trans (hal.mono hbk.size)
  obtain ⟨k0, k1, k2, k3, k4, k5⟩ := box_cells6 (World.alloc_heap_new W2 (.cells #[.string secK, .slice saK snK scK, .slice taK tnK tcK, .slice caK cnK ccK, .slice oaK onK ocK, .slice uaK unK ucK] 30))
  replace HRA := hiq (HRA.out.below hst)
  have HRK := hiq ((hR.mono (S' := fun b => b < W2.heap.size) (fun b _ h => h)).below hal)
  replace hb := hb.trans (hst.mono hb.size)
  clear hR hbk hal hst HQ
  have gL := World.alloc_heap_new W2 (.cells #[.string secK, .slice saK snK scK, .slice taK tnK tcK, .slice caK cnK ccK, .slice oaK onK ocK, .slice uaK unK ucK] 30)
  have hs3 : (W2.alloc (.cells #[.string secK, .slice saK snK scK, .slice taK tnK tcK, .slice caK cnK ccK, .slice oaK onK ocK, .slice uaK unK ucK] 30)).heap.size = W2.heap.size + 1 := by simp
  have HQ := hiq (HDO.out _ ⟨⟨secK, saK, snK, scK, taK, tnK, tcK, caK, cnK, ccK⟩, oaK, onK, ocK, uaK, unK, ucK⟩ _ hb HRK.out)
  change Hid (Calls _ _ #[.agg #[.string secK, .slice saK snK scK, .slice taK tnK tcK, .slice caK cnK ccK, .slice oaK onK ocK, .slice uaK unK ucK], .agg #[.int .i64 2, .string ⟨#[65]⟩, .int .i64 0, .int .i64 0, .string ⟨#[]⟩]] _ _) at HQ
  have hs3H : Hid ((W2.alloc (.cells #[.string secK, .slice saK snK scK, .slice taK tnK tcK, .slice caK cnK ccK, .slice oaK onK ocK, .slice uaK unK ucK] 30)).heap.size = W2.heap.size + 1) := hs3
  clear hs3
  go_wp2_with fail
  generalize W2.alloc (.cells #[.string secK, .slice saK snK scK, .slice taK tnK tcK, .slice caK cnK ccK, .slice oaK onK ocK, .slice uaK unK ucK] 30) = W3 at *
  refine HQ.out.mono ?_
  rintro e W4 ⟨v, he, hR, hbk⟩
  obtain ⟨⟨secM, saM, snM, scM, taM, tnM, tcM, caM, cnM, ccM⟩, oaM, onM, ocM, uaM, unM, ucM⟩ := v
  change e = .returned (.tuple #[.agg #[.string secM, .slice saM snM scM, .slice taM tnM tcM, .slice caM cnM ccM, .slice oaM onM ocM, .slice uaM unM ucM], .int .i64 0]) at he
  subst he
  have hs3 := hs3H.out
  replace gL := (hbk.block _ (Array.getElem?_eq_some_iff.1 gL).1).trans gL
  obtain ⟨z0, z1, z2, z3, z4, z5⟩ := box_cells6 gL
  have lf0 := frozen5 gL 0
  have lf1 := frozen5 gL 1
  have lf2 := frozen5 gL 2
  have lf3 := frozen5 gL 3
  have lf4 := frozen5 gL 4
  have lf5 := frozen5 gL 5
  have gM : (((((((W4.setCell ⟨W2.heap.size, 0, none⟩ (.string secM)).setCell ⟨W2.heap.size, 1, none⟩ (.slice saM snM scM)).setCell ⟨W2.heap.size, 2, none⟩ (.slice taM tnM tcM)).setCell ⟨W2.heap.size, 3, none⟩ (.slice caM cnM ccM)).setCell ⟨W2.heap.size, 4, none⟩ (.slice oaM onM ocM)).setCell ⟨W2.heap.size, 5, none⟩ (.slice uaM unM ucM))).heap[W2.heap.size]? = some (.cells #[.string secM, .slice saM snM scM, .slice taM tnM tcM, .slice caM cnM ccM, .slice oaM onM ocM, .slice uaM unM ucM] 30 (0, 0)) := put6_at gL (.string secM) (.slice saM snM scM) (.slice taM tnM tcM) (.slice caM cnM ccM) (.slice oaM onM ocM) (.slice uaM unM ucM)
  obtain ⟨m0, m1, m2, m3, m4, m5⟩ := box_cells6 gM
  have hw2 := HW2.out
  have hbm : Below w.heap.size w (((((((W4.setCell ⟨W2.heap.size, 0, none⟩ (.string secM)).setCell ⟨W2.heap.size, 1, none⟩ (.slice saM snM scM)).setCell ⟨W2.heap.size, 2, none⟩ (.slice taM tnM tcM)).setCell ⟨W2.heap.size, 3, none⟩ (.slice caM cnM ccM)).setCell ⟨W2.heap.size, 4, none⟩ (.slice oaM onM ocM)).setCell ⟨W2.heap.size, 5, none⟩ (.slice uaM unM ucM))) := put6_below (hb.trans (hbk.mono hb.size)) hw2 (.string secM) (.slice saM snM scM) (.slice taM tnM tcM) (.slice caM cnM ccM) (.slice oaM onM ocM) (.slice uaM unM ucM)
  have HRM : Hid (RL (((((((W4.setCell ⟨W2.heap.size, 0, none⟩ (.string secM)).setCell ⟨W2.heap.size, 1, none⟩ (.slice saM snM scM)).setCell ⟨W2.heap.size, 2, none⟩ (.slice taM tnM tcM)).setCell ⟨W2.heap.size, 3, none⟩ (.slice caM cnM ccM)).setCell ⟨W2.heap.size, 4, none⟩ (.slice oaM onM ocM)).setCell ⟨W2.heap.size, 5, none⟩ (.slice uaM unM ucM))) ⟨⟨secM, saM, snM, scM, taM, tnM, tcM, caM, cnM, ccM⟩, oaM, onM, ocM, uaM, unM, ucM⟩ l1) := (hR.keep (put6_keep (W := W4) (b := W2.heap.size) (by omega) (.string secM) (.slice saM snM scM) (.slice taM tnM tcM) (.slice caM cnM ccM) (.slice oaM onM ocM) (.slice uaM unM ucM))).t
  replace hb := hbm
  clear HQ hbk HRK HRA hR hbm hs3 hs3H gL gM hw2 HW2
  have HQ := hiq (HS1'.out ⟨⟨secM, saM, snM, scM, taM, tnM, tcM, caM, cnM, ccM⟩, oaM, onM, ocM, uaM, unM, ucM⟩ _ hb HRM.out)
  change Hid (Calls _ _ #[.agg #[.string secM, .slice saM snM scM, .slice taM tnM tcM, .slice caM cnM ccM, .slice oaM onM ocM, .slice uaM unM ucM]] _ _) at HQ
  go_wp2_with fail
  generalize ((((((W4.setCell ⟨W2.heap.size, 0, none⟩ (.string secM)).setCell ⟨W2.heap.size, 1, none⟩ (.slice saM snM scM)).setCell ⟨W2.heap.size, 2, none⟩ (.slice taM tnM tcM)).setCell ⟨W2.heap.size, 3, none⟩ (.slice caM cnM ccM)).setCell ⟨W2.heap.size, 4, none⟩ (.slice oaM onM ocM)).setCell ⟨W2.heap.size, 5, none⟩ (.slice uaM unM ucM)) = W5 at *
  refine HQ.out.mono ?_
  rintro e W6 ⟨v, he, hR, hbk⟩
  obtain ⟨secX, saX, snX, scX, taX, tnX, tcX, caX, cnX, ccX⟩ := v
  change e = .returned (.tuple #[.agg #[.string secX, .slice saX snX scX, .slice taX tnX tcX, .slice caX cnX ccX], .int .i64 0]) at he
  subst he
  have hal : Below W6.heap.size W6 (W6.alloc (.cells #[.string secX, .slice saX snX scX, .slice taX tnX tcX, .slice caX cnX ccX] 26)) := (Below.refl _ _).alloc (Nat.le_refl _) _
  have hst := hbk.trans (hal.mono hbk.size)
  obtain ⟨x0, x1, x2, x3, -⟩ := box_cells4 (World.alloc_heap_new W6 (.cells #[.string secX, .slice saX snX scX, .slice taX tnX tcX, .slice caX cnX ccX] 26))
  replace m0 := clq hst m0; replace m1 := clq hst m1; replace m2 := clq hst m2; replace m3 := clq hst m3; replace m4 := clq hst m4; replace m5 := clq hst m5
  replace HRM := hiq (HRM.out.below hst)
  have HRX := hiq (hR.below hal)
  replace hb := hb.trans (hst.mono hb.size)
  clear hR hbk hal hst HQ
  have HQ := hiq (HUN.out ⟨⟨secM, saM, snM, scM, taM, tnM, tcM, caM, cnM, ccM⟩, oaM, onM, ocM, uaM, unM, ucM⟩ _ hb HRM.out)
  change Hid (Calls _ _ #[.agg #[.string secM, .slice saM snM scM, .slice taM tnM tcM, .slice caM cnM ccM, .slice oaM onM ocM, .slice uaM unM ucM], _] _ _) at HQ
  go_wp2_with fail
  generalize W6.alloc (.cells #[.string secX, .slice saX snX scX, .slice taX tnX tcX, .slice caX cnX ccX] 26) = W7 at *
  refine HQ.out.mono ?_
  rintro e W8 ⟨v, he, hR, hbk⟩
  obtain ⟨⟨secN, saN, snN, scN, taN, tnN, tcN, caN, cnN, ccN⟩, oaN, onN, ocN, uaN, unN, ucN⟩ := v
  change e = .returned (.tuple #[.agg #[.string secN, .slice saN snN scN, .slice taN tnN tcN, .slice caN cnN ccN, .slice oaN onN ocN, .slice uaN unN ucN], .int .i64 0]) at he
  subst he
  have hal : Below W8.heap.size W8 (W8.alloc (.cells #[.string secN, .slice saN snN scN, .slice taN tnN tcN, .slice caN cnN ccN, .slice oaN onN ocN, .slice uaN unN ucN] 30)) := (Below.refl _ _).alloc (Nat.le_refl _) _
  have hst := hbk.trans (hal.mono hbk.size)
  obtain ⟨n0, n1, n2, n3, n4, n5⟩ := box_cells6 (World.alloc_heap_new W8 (.cells #[.string secN, .slice saN snN scN, .slice taN tnN tcN, .slice caN cnN ccN, .slice oaN onN ocN, .slice uaN unN ucN] 30))
  replace m0 := clq hst m0; replace m1 := clq hst m1; replace m2 := clq hst m2; replace m3 := clq hst m3; replace m4 := clq hst m4; replace m5 := clq hst m5; replace x0 := clq hst x0; replace x1 := clq hst x1; replace x2 := clq hst x2; replace x3 := clq hst x3
  replace HRM := hiq (HRM.out.below hst)
  replace HRX := hiq (HRX.out.below hst)
  have HRN := hiq (hR.below hal)
  replace hb := hb.trans (hst.mono hb.size)
  clear hR hbk hal hst HQ
  have HQ := hiq (HS2'.out ⟨⟨secN, saN, snN, scN, taN, tnN, tcN, caN, cnN, ccN⟩, oaN, onN, ocN, uaN, unN, ucN⟩ _ hb HRN.out)
  change Hid (Calls _ _ #[.agg #[.string secN, .slice saN snN scN, .slice taN tnN tcN, .slice caN cnN ccN, .slice oaN onN ocN, .slice uaN unN ucN]] _ _) at HQ
  go_wp2_with fail
  generalize W8.alloc (.cells #[.string secN, .slice saN snN scN, .slice taN tnN tcN, .slice caN cnN ccN, .slice oaN onN ocN, .slice uaN unN ucN] 30) = W9 at *
  refine HQ.out.mono ?_
  rintro e W10 ⟨v, he, hR, hbk⟩
  obtain ⟨secY, saY, snY, scY, taY, tnY, tcY, caY, cnY, ccY⟩ := v
  change e = .returned (.tuple #[.agg #[.string secY, .slice saY snY scY, .slice taY tnY tcY, .slice caY cnY ccY], .int .i64 0]) at he
  subst he
  have hal : Below W10.heap.size W10 (W10.alloc (.cells #[.string secY, .slice saY snY scY, .slice taY tnY tcY, .slice caY cnY ccY] 26)) := (Below.refl _ _).alloc (Nat.le_refl _) _
  have hst := hbk.trans (hal.mono hbk.size)
  obtain ⟨y0, y1, y2, y3, -⟩ := box_cells4 (World.alloc_heap_new W10 (.cells #[.string secY, .slice saY snY scY, .slice taY tnY tcY, .slice caY cnY ccY] 26))
  replace m0 := clq hst m0; replace m1 := clq hst m1; replace m2 := clq hst m2; replace m3 := clq hst m3; replace m4 := clq hst m4; replace m5 := clq hst m5; replace x0 := clq hst x0; replace x1 := clq hst x1; replace x2 := clq hst x2; replace x3 := clq hst x3; replace n0 := clq hst n0; replace n1 := clq hst n1; replace n2 := clq hst n2; replace n3 := clq hst n3; replace n4 := clq hst n4; replace n5 := clq hst n5
  replace HRM := hiq (HRM.out.below hst)
  replace HRX := hiq (HRX.out.below hst)
  replace HRN := hiq (HRN.out.below hst)
  have HRY := hiq (hR.below hal)
  replace hb := hb.trans (hst.mono hb.size)
  clear hR hbk hal hst HQ
  have hcx : cnX = 3 := by have := HRX.out.2.2.2.2.len; change cnX = _ at this; rw [st_cols] at this; exact this
  subst hcx
  go_wp2_with fail
  generalize W10.alloc (.cells #[.string secY, .slice saY snY scY, .slice taY tnY tcY, .slice caY cnY ccY] 26) = W11 at *
  obtain ⟨X, Wf, hX, hS1, hS2⟩ := family (fun W => Below W11.heap.size W11 W) W11 (Below.refl _ _)
  have HS1 := hiq hS1
  have HS2 := hiq hS2
  have q_m0 := fun x => clq (hS1 x) m0
  have q_m1 := fun x => clq (hS1 x) m1
  have q_m2 := fun x => clq (hS1 x) m2
  have q_m3 := fun x => clq (hS1 x) m3
  have q_m4 := fun x => clq (hS1 x) m4
  have q_m5 := fun x => clq (hS1 x) m5
  have q_x0 := fun x => clq (hS1 x) x0
  have q_x1 := fun x => clq (hS1 x) x1
  have q_x2 := fun x => clq (hS1 x) x2
  have q_x3 := fun x => clq (hS1 x) x3
  have q_n0 := fun x => clq (hS1 x) n0
  have q_n1 := fun x => clq (hS1 x) n1
  have q_n2 := fun x => clq (hS1 x) n2
  have q_n3 := fun x => clq (hS1 x) n3
  have q_n4 := fun x => clq (hS1 x) n4
  have q_n5 := fun x => clq (hS1 x) n5
  have q_y0 := fun x => clq (hS1 x) y0
  have q_y1 := fun x => clq (hS1 x) y1
  have q_y2 := fun x => clq (hS1 x) y2
  have q_y3 := fun x => clq (hS1 x) y3
  have HY : Hid (∀ x, Below w.heap.size w (Wf x)) := fun x => hb.trans ((HS1.out x).mono hb.size)
  clear hS1 hS2
  clear m0 m1 m2 m3 m4 m5 x0 x1 x2 x3 n0 n1 n2 n3 n4 n5 y0 y1 y2 y3
  have hd0 : Below W11.heap.size W11 W11.drew := (Below.refl _ _).drew
  refine wp_region_tree (Wf := Wf) 29 (.read 0 (.read 1 (.read 2 (.read 3 (.read 4 (.read 5 (.read 6 (.read 7 (.read 8 (.read 9 (.read 10 (.read 11 (.read 12 (.read 13 (.read 14 (.read 15 (.read 16 (.read 17 (.read 18 (.read 19 (.read 20 (.read 21 (.read 22 (.read 23 (.read 24 (.read 25 (.act 26 (.act 27 (.read 28 .fin))))))))))))))))))))))))))))) (by kernel_rfl) (by kernel_rfl) (fun _ _ d _ _ h => by cases d <;> exact h) (HS2.out _ hd0) ?_
  refine wpTree_read _ rfl (fun K hK => ?_); unfold rOp; go_simp; (refine hK _ ?_; clear hK K)
  refine wpTree_read _ rfl (fun K hK => ?_); unfold rOp; go_simp; (refine hK _ ?_; clear hK K)
  refine wpTree_read _ rfl (fun K hK => ?_); unfold rOp; go_simp; (refine hK _ ?_; clear hK K)
  refine wpTree_read _ rfl (fun K hK => ?_); unfold rOp; go_simp; (refine hK _ ?_; clear hK K)
  refine wpTree_read _ rfl (fun K hK => ?_); unfold rOp; go_simp; (refine hK _ ?_; clear hK K)
  refine wpTree_read _ rfl (fun K hK => ?_); unfold rOp; go_simp; (refine hK _ ?_; clear hK K)
  refine wpTree_read _ rfl (fun K hK => ?_); unfold rOp; go_simp; (refine hK _ ?_; clear hK K)
  refine wpTree_read _ rfl (fun K hK => ?_); unfold rOp; go_simp; (refine hK _ ?_; clear hK K)
  refine wpTree_read _ rfl (fun K hK => ?_); unfold rOp; go_simp; (refine hK _ ?_; clear hK K)
  refine wpTree_read _ rfl (fun K hK => ?_); unfold rOp; go_simp; (refine hK _ ?_; clear hK K)
  refine wpTree_read _ rfl (fun K hK => ?_); unfold rOp; go_simp; (refine hK _ ?_; clear hK K)
  refine wpTree_read _ rfl (fun K hK => ?_); unfold rOp; go_simp; (refine hK _ ?_; clear hK K)
  refine wpTree_read _ rfl (fun K hK => ?_); unfold rOp; go_simp; (refine hK _ ?_; clear hK K)
  refine wpTree_read _ rfl (fun K hK => ?_); unfold rOp; go_simp; (refine hK _ ?_; clear hK K)
  refine wpTree_read _ rfl (fun K hK => ?_); unfold rOp; go_simp; (refine hK _ ?_; clear hK K)
  refine wpTree_read _ rfl (fun K hK => ?_); unfold rOp; go_simp; (refine hK _ ?_; clear hK K)
  refine wpTree_read _ rfl (fun K hK => ?_); unfold rOp; go_simp; (refine hK _ ?_; clear hK K)
  refine wpTree_read _ rfl (fun K hK => ?_); unfold rOp; go_simp; (refine hK _ ?_; clear hK K)
  refine wpTree_read _ rfl (fun K hK => ?_); unfold rOp; go_simp; (refine hK _ ?_; clear hK K)
  refine wpTree_read _ rfl (fun K hK => ?_); unfold rOp; go_simp; (refine hK _ ?_; clear hK K)
  refine wpTree_read _ rfl (fun K hK => ?_); unfold rOp; go_simp; (refine hK _ ?_; clear hK K)
  refine wpTree_read _ rfl (fun K hK => ?_); unfold rOp; go_simp; (refine hK _ ?_; clear hK K)
  refine wpTree_read _ rfl (fun K hK => ?_); unfold rOp; go_simp; (refine hK _ ?_; clear hK K)
  refine wpTree_read _ rfl (fun K hK => ?_); unfold rOp; go_simp; (refine hK _ ?_; clear hK K)
  refine wpTree_read _ rfl (fun K hK => ?_); unfold rOp; go_simp; (refine hK _ ?_; clear hK K)
  refine wpTree_read _ rfl (fun K hK => ?_); unfold rOp; go_simp; (refine hK _ ?_; clear hK K)
  clear q_m0 q_m1 q_m2 q_m3 q_m4 q_m5 q_x0 q_x1 q_x2 q_x3 q_n0 q_n1 q_n2 q_n3 q_n4 q_n5 q_y0 q_y1 q_y2 q_y3
  generalize W11.drew = V0 at *
  refine wpTree_act _ rfl ?_
  have HQ := hiq (HSA.out V0)
  go_wp2_with fail
  refine HQ.out.mono ?_
  rintro e V1 ⟨v, he, hR, hbk⟩
  obtain ⟨secB, saB, snB, scB, taB, tnB, tcB, caB, cnB, ccB⟩ := v
  change e = .returned (.agg #[.string secB, .slice saB snB scB, .slice taB tnB tcB, .slice caB cnB ccB]) at he
  subst he
  have hd1 := hd0.trans (hbk.mono hd0.size)
  go_wp2_with fail
  refine ⟨HS2.out _ hd1, wpTree_act _ rfl ?_⟩
  have HQ2 := hiq (HSM.out ⟨secY, saY, snY, scY, taY, tnY, tcY, caY, cnY, ccY⟩ ⟨secB, saB, snB, scB, taB, tnB, tcB, caB, cnB, ccB⟩ V1 (HRY.out.below hd1) hR)
  change Hid (Calls _ _ #[.agg #[.string secY, .slice saY snY scY, .slice taY tnY tcY, .slice caY cnY ccY], .agg #[.string secB, .slice saB snB scB, .slice taB tnB tcB, .slice caB cnB ccB]] _ _) at HQ2
  clear HQ hbk hR
  go_wp2_with fail
  refine HQ2.out.mono ?_
  rintro e V2 ⟨rfl, hbk⟩
  have hd2 := hd1.trans (hbk.mono hd1.size)
  go_wp2_with fail
  refine ⟨HS2.out _ hd2, ?_⟩
  clear HQ2 hbk
  refine wpTree_read _ rfl (fun K hK => ?_); unfold rOp; go_simp; (refine hK _ ?_; clear hK K)
  refine wpTree_fin ?_
  have hb9 := hb.trans (hd2.mono hb.size)
  go_wp2
  go_ret
  exact ⟨rfl, hb9⟩
end Go.Proofs.YtfdipkhbemgojaaGreatDoor
