/- Joined: ONew, OSam. -/
import Derived.Test.YtfdipkhbemgojaaGreatDoorR34
import Derived.Test.YtfdipkhbemgojaaGreatDoorR33
import Derived.Test.YtfdipkhbemgojaaGreatDoorR22
set_option linter.unusedVariables false
set_option linter.unusedSimpArgs false
set_option maxRecDepth 100000
set_option maxHeartbeats 16000000
namespace Go.Proofs.YtfdipkhbemgojaaGreatDoor
open Go.RowKit

/-- The log without operations. -/
def newL (x : Col) : Lg × Int := if x.err ≠ 0 then (Lg.none, 1) else (⟨x, [], []⟩, 0)
/-- What Replay answers. -/
def RepPost (S : Nat -> Prop) (r : Col × List Int × Int) (w : World) (e : Ending) (w' : World) : Prop :=
  ∃ (v' : CV) (a : Option Addr) (n c : Nat), e = .returned (.tuple #[v'.val, .slice a n c, .int .i64 r.2.2]) /\ RdC (fun b => S b \/ w.heap.size <= b) w' v' r.1 /\ Nums (fun b => w.heap.size <= b) w' a n c r.2.1 /\ Below w.heap.size w w'
theorem new_any (S : Nat -> Prop) (v : CV) (x : Col) (w : World) (h : RdC S w v x) (hm : Sml x) (hE : Env w) : Calls Tryz.prog 14 #[v.val] w (LogPost S (newL x) w) := by
  have h2 : RdC (fun b => S b /\ b < w.heap.size) w v x := h.mono (fun b q q' => ⟨q, q'⟩)
  have HC : Hid (∀ W, Below w.heap.size w W -> Calls Tryz.prog 44 #[v.val] W fun e w' => e = .returned (.int .i64 x.err) /\ Below W.heap.size W w') := fun W hb => check_any S v x W (h.below hb) hm (hE.below hb)
  have HN0 : Hid (x.err ≠ 0 -> newL x = (Lg.none, 1)) := fun q => by unfold newL; rw [if_pos q]
  have HN1 : Hid (x.err = 0 -> newL x = (⟨x, [], []⟩, 0)) := fun q => by unfold newL; rw [if_neg (by simp [q])]
  have HX : Hid (∀ W, Below w.heap.size w W -> RdL (fun b => (S b /\ b < w.heap.size) \/ W.heap.size <= b) W ⟨v, none, 0, 0, none, 0, 0⟩ ⟨x, [], []⟩) := fun W hb => ⟨(h2.below hb).mono (fun b q _ => .inl q), Sq.nil _ _ _ _ _, Sq.nil _ _ _ _ _⟩
  unfold LogPost
  generalize newL x = R at *
  generalize x.err = E at *
  clear h h2 hm hE
  obtain ⟨sec, sa, sn, sc, ta, tn, tc, ca, cn, cc⟩ := v
  change Calls _ _ #[.agg #[.string sec, .slice sa sn sc, .slice ta tn tc, .slice ca cn cc]] _ _
  change Hid (∀ W, _ -> Calls _ _ #[.agg #[.string sec, .slice sa sn sc, .slice ta tn tc, .slice ca cn cc]] _ _) at HC
  obtain ⟨W1, hW1, hb, hs1, gX, gR⟩ := box2r w #[.string sec, .slice sa sn sc, .slice ta tn tc, .slice ca cn cc] #[.string ⟨#[]⟩, .slice none 0 0, .slice none 0 0, .slice none 0 0, .slice none 0 0, .slice none 0 0] 26 30
  have HCC := hiq (HC.out _ hb)
  obtain ⟨c0, c1, c2, c3, -⟩ := box_cells4 gX
  rw [hW1] at c0 c1 c2 c3
  clear HC gX
  go_enter Tryz.func14, Tryz.ntmps14
  go_wp2_with fail
  rw [<- hW1] at *
  clear hW1
  refine HCC.out.mono ?_
  rintro e W2 ⟨rfl, hb2⟩
  replace c0 := clq hb2 c0; replace c1 := clq hb2 c1; replace c2 := clq hb2 c2; replace c3 := clq hb2 c3
  replace gR := (hb2.block _ (by omega)).trans gR
  replace hb := hb.trans (hb2.mono hb.size)
  have hs2 := hb2.size
  clear HCC hb2
  by_cases e0 : E = 0
  · have t0 : ((E : Int) != 0) = false := by simp [e0]
    have HEQ := hiq (HN1.out e0)
    have HRV := hiq (HX.out _ hb)
    clear HN0 HN1 HX
    obtain ⟨y0, y1, y2, y3, y4, y5⟩ := box_cells6 gR
    have yf0 := frozen5 gR 0
    have yf1 := frozen5 gR 1
    have yf2 := frozen5 gR 2
    have yf3 := frozen5 gR 3
    have yf4 := frozen5 gR 4
    have yf5 := frozen5 gR 5
    have HALL := hiq (And.intro gR hb)
    clear gR hb 
    go_wp2
    change bodyPost _ _ _ _ _ (put6 W2 (w.heap.size + 1) (.string sec) (.slice sa sn sc) (.slice ta tn tc) (.slice ca cn cc) (.slice none 0 0) (.slice none 0 0))
    obtain ⟨gR, hb⟩ := HALL.out
    obtain ⟨r0, r1, r2, r3, r4, r5⟩ := box_cells6 (put6_at gR (.string sec) (.slice sa sn sc) (.slice ta tn tc) (.slice ca cn cc) (.slice none 0 0) (.slice none 0 0))
    have hbf := put6_below hb (b := w.heap.size + 1) (by omega) (.string sec) (.slice sa sn sc) (.slice ta tn tc) (.slice ca cn cc) (.slice none 0 0) (.slice none 0 0)
    have hRf := HRV.out.keep (put6_keep (W := W2) (b := w.heap.size + 1) (by rintro (⟨-, q⟩ | q) <;> omega) (.string sec) (.slice sa sn sc) (.slice ta tn tc) (.slice ca cn cc) (.slice none 0 0) (.slice none 0 0))
    generalize put6 W2 (w.heap.size + 1) (.string sec) (.slice sa sn sc) (.slice ta tn tc) (.slice ca cn cc) (.slice none 0 0) (.slice none 0 0) = WF at *
    refine bodyPost_ret (v := .tuple #[.agg #[.string sec, .slice sa sn sc, .slice ta tn tc, .slice ca cn cc, .slice none 0 0, .slice none 0 0], .int .i64 0]) (by simp [results, Tryz.results14, go_sem, r0, r1, r2, r3, r4, r5]) rfl ?_
    rw [HEQ.out]
    exact ⟨⟨⟨sec, sa, sn, sc, ta, tn, tc, ca, cn, cc⟩, none, 0, 0, none, 0, 0⟩, rfl, hRf.mono (fun b q _ => by rcases q with q | q; exact .inl q.1; exact .inr (by omega)), hbf⟩
  · have t0 : ((E : Int) != 0) = true := by simpa using e0
    have HEQ := hiq (HN0.out e0)
    clear HN0 HN1 HX c0 c1 c2 c3
    obtain ⟨y0, y1, y2, y3, y4, y5⟩ := box_cells6 gR
    have yf0 := frozen5 gR 0
    have yf1 := frozen5 gR 1
    have yf2 := frozen5 gR 2
    have yf3 := frozen5 gR 3
    have yf4 := frozen5 gR 4
    have yf5 := frozen5 gR 5
    have HALL := hiq (And.intro gR hb)
    clear gR hb 
    go_wp2
    change bodyPost _ _ _ _ _ (put6 W2 (w.heap.size + 1) (.string ⟨#[]⟩) (.slice none 0 0) (.slice none 0 0) (.slice none 0 0) (.slice none 0 0) (.slice none 0 0))
    obtain ⟨gR, hb⟩ := HALL.out
    obtain ⟨r0, r1, r2, r3, r4, r5⟩ := box_cells6 (put6_at gR (.string ⟨#[]⟩) (.slice none 0 0) (.slice none 0 0) (.slice none 0 0) (.slice none 0 0) (.slice none 0 0))
    have hbf := put6_below hb (b := w.heap.size + 1) (by omega) (.string ⟨#[]⟩) (.slice none 0 0) (.slice none 0 0) (.slice none 0 0) (.slice none 0 0) (.slice none 0 0)
    generalize put6 W2 (w.heap.size + 1) (.string ⟨#[]⟩) (.slice none 0 0) (.slice none 0 0) (.slice none 0 0) (.slice none 0 0) (.slice none 0 0) = WF at *
    refine bodyPost_ret (v := .tuple #[.agg #[.string ⟨#[]⟩, .slice none 0 0, .slice none 0 0, .slice none 0 0, .slice none 0 0, .slice none 0 0], .int .i64 1]) (by simp [results, Tryz.results14, go_sem, r0, r1, r2, r3, r4, r5]) rfl ?_
    rw [HEQ.out]
    exact ⟨⟨⟨⟨#[]⟩, none, 0, 0, none, 0, 0, none, 0, 0⟩, none, 0, 0, none, 0, 0⟩, rfl, rdL_none _ _, hbf⟩
theorem replayE_any (S : Nat -> Prop) (v : CV) (x : Col) (oa : Option Addr) (on oc : Nat) (ua : Option Addr) (un uc : Nat) (ops : List Op) (und : List Bool) (w : World) (h : RdC S w v x) (ho : Opsq S w oa on oc ops) (hu : Flgs S w ua un uc und) (hm : Sml x) (hx : ∀ o ∈ ops, o.text.size <= 1000000) (hE : Env w) :
    Calls Tryz.prog 41 #[v.val, .slice oa on oc, .slice ua un uc] w (RepPost S (replayed x ops und) w) := by
  have h2 : RdC (fun b => S b /\ b < w.heap.size) w v x := h.mono (fun b q q' => ⟨q, q'⟩)
  have ho2 : Opsq (fun b => S b /\ b < w.heap.size) w oa on oc ops := ho.mono rOpn_ok (fun b q q' => ⟨q, q'⟩)
  have hu2 : Flgs (fun b => S b /\ b < w.heap.size) w ua un uc und := hu.mono rBool_ok (fun b q q' => ⟨q, q'⟩)
  have HR : Hid (∀ W, Below w.heap.size w W -> listsErr x ops und = 0 -> Calls Tryz.prog 54 #[v.val, .slice oa on oc, .slice ua un uc] W (RunPost (fun b => S b /\ b < w.heap.size) x ops und W)) := fun W hb h0 => replay_any _ v x _ _ _ _ _ _ ops und W (h2.below hb) (ho2.below rOpn_ok hb) (hu2.below rBool_ok hb) (lists_zero.1 h0).2.1 hm hx (by have := ho2.len; have := (lists_zero.1 h0).2.2; omega) (hE.below hb)
  have HL : Hid (listsErr x ops und = if x.err ≠ 0 then 1 else if on ≠ un then 9 else if 256 < on then 4 else 0) := by rw [ho.len, hu.len]; rfl
  have HQ0 : Hid (listsErr x ops und ≠ 0 -> replayed x ops und = (Col.none, [], listsErr x ops und)) := fun q => by unfold replayed; rw [if_pos q]
  have HQ1 : Hid (listsErr x ops und = 0 -> replayed x ops und = ((runL x ops und).st, (runL x ops und).sk, 0)) := fun q => by unfold replayed; rw [if_neg (by simp [q])]
  have HC : Hid (∀ W, Below w.heap.size w W -> Calls Tryz.prog 44 #[v.val] W fun e w' => e = .returned (.int .i64 x.err) /\ Below W.heap.size W w') := fun W hb => check_any S v x W (h.below hb) hm (hE.below hb)
  unfold RunPost at HR
  unfold RepPost
  generalize replayed x ops und = R at *
  generalize (runL x ops und).er = ER at *
  generalize (runL x ops und).st = ST at *
  generalize (runL x ops und).sk = SK at *
  generalize listsErr x ops und = LE at *
  generalize x.err = E at *
  clear h h2 ho ho2 hu hu2 hm hx hE
  obtain ⟨sec, sa, sn, sc, ta, tn, tc, ca, cn, cc⟩ := v
  change Calls _ _ #[.agg #[.string sec, .slice sa sn sc, .slice ta tn tc, .slice ca cn cc], _, _] _ _
  change Hid (∀ W, _ -> Calls _ _ #[.agg #[.string sec, .slice sa sn sc, .slice ta tn tc, .slice ca cn cc]] _ _) at HC
  change Hid (∀ W, _ -> _ -> Calls _ _ #[.agg #[.string sec, .slice sa sn sc, .slice ta tn tc, .slice ca cn cc], .slice oa on oc, .slice ua un uc] _ _) at HR
  obtain ⟨W1, hW1, hb, hs1, gX, gR⟩ := box2r w #[.string sec, .slice sa sn sc, .slice ta tn tc, .slice ca cn cc] #[.string ⟨#[]⟩, .slice none 0 0, .slice none 0 0, .slice none 0 0] 26 26
  have HCC := hiq (HC.out _ hb)
  obtain ⟨c0, c1, c2, c3, -⟩ := box_cells4 gX
  rw [hW1] at c0 c1 c2 c3
  clear HC gX
  go_enter Tryz.func41, Tryz.ntmps41
  go_wp2_with fail
  rw [<- hW1] at *
  clear hW1
  refine HCC.out.mono ?_
  rintro e W2 ⟨rfl, hb2⟩
  replace c0 := clq hb2 c0; replace c1 := clq hb2 c1; replace c2 := clq hb2 c2; replace c3 := clq hb2 c3
  replace gR := (hb2.block _ (by omega)).trans gR
  replace hb := hb.trans (hb2.mono hb.size)
  have hs2 := hb2.size
  clear HCC hb2
  by_cases e0 : E = 0
  · have t0 : ((E : Int) != 0) = false := by simp [e0]
    by_cases e1 : on = un
    · have t1 : ((on : Int) != (un : Int)) = false := by simp [e1]
      by_cases e2 : 256 < on
      · have HF : Hid (E = 0 /\ on = un /\ 256 < un) := ⟨e0, e1, by omega⟩
        clear e0 e1
        have hle : LE = 4 := by rw [HL.out]; simp [HF.out.1, HF.out.2.1, HF.out.2.2]
        have HEQ : Hid (R = (Col.none, [], 4)) := by show _ = _; rw [HQ0.out (by rw [hle]; decide)]; rw [hle]
        clear HR HQ0 HQ1 c0 c1 c2 c3
        clear hle
        obtain ⟨y0, y1, y2, y3, -⟩ := box_cells4 gR
        have yf0 := frozen5 gR 0
        have yf1 := frozen5 gR 1
        have yf2 := frozen5 gR 2
        have yf3 := frozen5 gR 3
        have HALL := hiq (And.intro gR hb)
        clear gR hb 
        go_wp2
        change bodyPost _ _ _ _ _ (put4 W2 (w.heap.size + 1) (.string ⟨#[]⟩) (.slice none 0 0) (.slice none 0 0) (.slice none 0 0))
        obtain ⟨gR, hb⟩ := HALL.out
        obtain ⟨r0, r1, r2, r3, -⟩ := box_cells4 (put4_at gR (.string ⟨#[]⟩) (.slice none 0 0) (.slice none 0 0) (.slice none 0 0))
        have hbf := put4_below hb (b := w.heap.size + 1) (by omega) (.string ⟨#[]⟩) (.slice none 0 0) (.slice none 0 0) (.slice none 0 0)
        generalize put4 W2 (w.heap.size + 1) (.string ⟨#[]⟩) (.slice none 0 0) (.slice none 0 0) (.slice none 0 0) = WF at *
        refine bodyPost_ret (v := .tuple #[.agg #[.string ⟨#[]⟩, .slice none 0 0, .slice none 0 0, .slice none 0 0], .slice none 0 0, .int .i64 4]) (by simp [results, Tryz.results41, go_sem, r0, r1, r2, r3]) rfl ?_
        rw [HEQ.out]
        exact ⟨⟨⟨#[]⟩, none, 0, 0, none, 0, 0, none, 0, 0⟩, none, 0, 0, rfl, rdC_none _ _, Sq.nil _ _ _ _ _, hbf⟩
      · have HF : Hid (E = 0 /\ on = un /\ ¬ 256 < un) := ⟨e0, e1, by omega⟩
        clear e0 e1
        have hle : LE = 0 := by rw [HL.out]; simp [HF.out.1, HF.out.2.1, HF.out.2.2]
        have HEQ := hiq (HQ1.out hle)
        have HRQ := hiq (HR.out _ hb hle)
        clear HR HQ0 HQ1
        go_wp2_with fail
        refine HRQ.out.mono ?_
        rintro e W3 ⟨v2, a, n, c, he, hR3, hN3, hb4⟩
        obtain ⟨sec2, sa2, sn2, sc2, ta2, tn2, tc2, ca2, cn2, cc2⟩ := v2
        change e = .returned (.tuple #[.agg #[.string sec2, .slice sa2 sn2 sc2, .slice ta2 tn2 tc2, .slice ca2 cn2 cc2], .slice a n c, .int .i64 ER]) at he
        subst he
        have hal : Below W3.heap.size W3 (W3.alloc (.cells #[.string sec2, .slice sa2 sn2 sc2, .slice ta2 tn2 tc2, .slice ca2 cn2 cc2] 26)) := (Below.refl _ _).alloc (Nat.le_refl _) _
        have hb5 := hb4.trans (hal.mono hb4.size)
        obtain ⟨z0, z1, z2, z3, -⟩ := box_cells4 (World.alloc_heap_new W3 (.cells #[.string sec2, .slice sa2 sn2 sc2, .slice ta2 tn2 tc2, .slice ca2 cn2 cc2] 26))
        replace gR := (hb5.block _ (by omega)).trans gR
        have HRV := hiq (hR3.below hal)
        have HNV := hiq (hN3.below rInt_ok hal)
        replace hb := hb.trans (hb5.mono hb.size)
        have hs4 := hb5.size
        clear hR3 hN3 hb4 hb5 hal HRQ c0 c1 c2 c3
        obtain ⟨y0, y1, y2, y3, -⟩ := box_cells4 gR
        have yf0 := frozen5 gR 0
        have yf1 := frozen5 gR 1
        have yf2 := frozen5 gR 2
        have yf3 := frozen5 gR 3
        have HALL := hiq (And.intro gR hb)
        clear gR hb 
        go_wp2
        change bodyPost _ _ _ _ _ (put4 (W3.alloc (.cells #[.string sec2, .slice sa2 sn2 sc2, .slice ta2 tn2 tc2, .slice ca2 cn2 cc2] 26)) (w.heap.size + 1) (.string sec2) (.slice sa2 sn2 sc2) (.slice ta2 tn2 tc2) (.slice ca2 cn2 cc2))
        obtain ⟨gR, hb⟩ := HALL.out
        obtain ⟨r0, r1, r2, r3, -⟩ := box_cells4 (put4_at gR (.string sec2) (.slice sa2 sn2 sc2) (.slice ta2 tn2 tc2) (.slice ca2 cn2 cc2))
        have hbf := put4_below hb (b := w.heap.size + 1) (by omega) (.string sec2) (.slice sa2 sn2 sc2) (.slice ta2 tn2 tc2) (.slice ca2 cn2 cc2)
        have hRf := HRV.out.keep (put4_keep (W := (W3.alloc (.cells #[.string sec2, .slice sa2 sn2 sc2, .slice ta2 tn2 tc2, .slice ca2 cn2 cc2] 26))) (b := w.heap.size + 1) (by rintro (⟨-, q⟩ | q) <;> omega) (.string sec2) (.slice sa2 sn2 sc2) (.slice ta2 tn2 tc2) (.slice ca2 cn2 cc2))
        have hNf := HNV.out.keep rInt_ok (put4_keep (W := (W3.alloc (.cells #[.string sec2, .slice sa2 sn2 sc2, .slice ta2 tn2 tc2, .slice ca2 cn2 cc2] 26))) (b := w.heap.size + 1) (by omega) (.string sec2) (.slice sa2 sn2 sc2) (.slice ta2 tn2 tc2) (.slice ca2 cn2 cc2))
        generalize put4 (W3.alloc (.cells #[.string sec2, .slice sa2 sn2 sc2, .slice ta2 tn2 tc2, .slice ca2 cn2 cc2] 26)) (w.heap.size + 1) (.string sec2) (.slice sa2 sn2 sc2) (.slice ta2 tn2 tc2) (.slice ca2 cn2 cc2) = WF at *
        refine bodyPost_ret (v := .tuple #[.agg #[.string sec2, .slice sa2 sn2 sc2, .slice ta2 tn2 tc2, .slice ca2 cn2 cc2], .slice a n c, .int .i64 0]) (by simp [results, Tryz.results41, go_sem, r0, r1, r2, r3]) rfl ?_
        rw [HEQ.out]
        exact ⟨⟨sec2, sa2, sn2, sc2, ta2, tn2, tc2, ca2, cn2, cc2⟩, a, n, c, rfl, hRf.mono (fun b q _ => by rcases q with q | q; exact .inl q.1; exact .inr (by omega)), hNf.mono rInt_ok (fun b q _ => by omega), hbf⟩
    · have t1 : ((on : Int) != (un : Int)) = true := by simp; omega
      have HF : Hid (E = 0) := e0
      clear e0
      have hle : LE = 9 := by rw [HL.out]; simp [HF.out, e1]
      have HEQ : Hid (R = (Col.none, [], 9)) := by show _ = _; rw [HQ0.out (by rw [hle]; decide)]; rw [hle]
      clear HR HQ0 HQ1 c0 c1 c2 c3
      clear hle
      obtain ⟨y0, y1, y2, y3, -⟩ := box_cells4 gR
      have yf0 := frozen5 gR 0
      have yf1 := frozen5 gR 1
      have yf2 := frozen5 gR 2
      have yf3 := frozen5 gR 3
      have HALL := hiq (And.intro gR hb)
      clear gR hb 
      go_wp2
      change bodyPost _ _ _ _ _ (put4 W2 (w.heap.size + 1) (.string ⟨#[]⟩) (.slice none 0 0) (.slice none 0 0) (.slice none 0 0))
      obtain ⟨gR, hb⟩ := HALL.out
      obtain ⟨r0, r1, r2, r3, -⟩ := box_cells4 (put4_at gR (.string ⟨#[]⟩) (.slice none 0 0) (.slice none 0 0) (.slice none 0 0))
      have hbf := put4_below hb (b := w.heap.size + 1) (by omega) (.string ⟨#[]⟩) (.slice none 0 0) (.slice none 0 0) (.slice none 0 0)
      generalize put4 W2 (w.heap.size + 1) (.string ⟨#[]⟩) (.slice none 0 0) (.slice none 0 0) (.slice none 0 0) = WF at *
      refine bodyPost_ret (v := .tuple #[.agg #[.string ⟨#[]⟩, .slice none 0 0, .slice none 0 0, .slice none 0 0], .slice none 0 0, .int .i64 9]) (by simp [results, Tryz.results41, go_sem, r0, r1, r2, r3]) rfl ?_
      rw [HEQ.out]
      exact ⟨⟨⟨#[]⟩, none, 0, 0, none, 0, 0, none, 0, 0⟩, none, 0, 0, rfl, rdC_none _ _, Sq.nil _ _ _ _ _, hbf⟩
  · have t0 : ((E : Int) != 0) = true := by simpa using e0
    have hle : LE = 1 := by rw [HL.out]; simp [e0]
    have HEQ : Hid (R = (Col.none, [], 1)) := by show _ = _; rw [HQ0.out (by rw [hle]; decide)]; rw [hle]
    clear HR HQ0 HQ1 c0 c1 c2 c3
    clear hle
    obtain ⟨y0, y1, y2, y3, -⟩ := box_cells4 gR
    have yf0 := frozen5 gR 0
    have yf1 := frozen5 gR 1
    have yf2 := frozen5 gR 2
    have yf3 := frozen5 gR 3
    have HALL := hiq (And.intro gR hb)
    clear gR hb 
    go_wp2
    change bodyPost _ _ _ _ _ (put4 W2 (w.heap.size + 1) (.string ⟨#[]⟩) (.slice none 0 0) (.slice none 0 0) (.slice none 0 0))
    obtain ⟨gR, hb⟩ := HALL.out
    obtain ⟨r0, r1, r2, r3, -⟩ := box_cells4 (put4_at gR (.string ⟨#[]⟩) (.slice none 0 0) (.slice none 0 0) (.slice none 0 0))
    have hbf := put4_below hb (b := w.heap.size + 1) (by omega) (.string ⟨#[]⟩) (.slice none 0 0) (.slice none 0 0) (.slice none 0 0)
    generalize put4 W2 (w.heap.size + 1) (.string ⟨#[]⟩) (.slice none 0 0) (.slice none 0 0) (.slice none 0 0) = WF at *
    refine bodyPost_ret (v := .tuple #[.agg #[.string ⟨#[]⟩, .slice none 0 0, .slice none 0 0, .slice none 0 0], .slice none 0 0, .int .i64 1]) (by simp [results, Tryz.results41, go_sem, r0, r1, r2, r3]) rfl ?_
    rw [HEQ.out]
    exact ⟨⟨⟨#[]⟩, none, 0, 0, none, 0, 0, none, 0, 0⟩, none, 0, 0, rfl, rdC_none _ _, Sq.nil _ _ _ _ _, hbf⟩
theorem replayE_ref (S : Nat -> Prop) (v : CV) (x : Col) (oa : Option Addr) (on oc : Nat) (ua : Option Addr) (un uc : Nat) (ops : List Op) (und : List Bool) (w : World) (h : RdC S w v x) (ho : Opsq S w oa on oc ops) (hu : Flgs S w ua un uc und) (hm : Sml x) (hx : ∀ o ∈ ops, o.text.size <= 1000000) (hE : Env w) :
    Calls Tryz.prog 49 #[v.val, .slice oa on oc, .slice ua un uc] w (RepPost S (replayed x ops und) w) := by
  have h2 : RdC (fun b => S b /\ b < w.heap.size) w v x := h.mono (fun b q q' => ⟨q, q'⟩)
  have ho2 : Opsq (fun b => S b /\ b < w.heap.size) w oa on oc ops := ho.mono rOpn_ok (fun b q q' => ⟨q, q'⟩)
  have hu2 : Flgs (fun b => S b /\ b < w.heap.size) w ua un uc und := hu.mono rBool_ok (fun b q q' => ⟨q, q'⟩)
  have HR : Hid (∀ W, Below w.heap.size w W -> listsErr x ops und = 0 -> Calls Tryz.prog 56 #[v.val, .slice oa on oc, .slice ua un uc] W (RunPost (fun b => S b /\ b < w.heap.size) x ops und W)) := fun W hb h0 => run_ref _ v x _ _ _ _ _ _ ops und W (h2.below hb) (ho2.below rOpn_ok hb) (hu2.below rBool_ok hb) (lists_zero.1 h0).2.1 hm hx (by have := ho2.len; have := (lists_zero.1 h0).2.2; omega)
  have HL : Hid (listsErr x ops und = if x.err ≠ 0 then 1 else if on ≠ un then 9 else if 256 < on then 4 else 0) := by rw [ho.len, hu.len]; rfl
  have HQ0 : Hid (listsErr x ops und ≠ 0 -> replayed x ops und = (Col.none, [], listsErr x ops und)) := fun q => by unfold replayed; rw [if_pos q]
  have HQ1 : Hid (listsErr x ops und = 0 -> replayed x ops und = ((runL x ops und).st, (runL x ops und).sk, 0)) := fun q => by unfold replayed; rw [if_neg (by simp [q])]
  have HC : Hid (∀ W, Below w.heap.size w W -> Calls Tryz.prog 57 #[v.val, .slice oa on oc, .slice ua un uc] W fun e w' => e = .returned (.int .i64 (listsErr x ops und)) /\ Below W.heap.size W w') := fun W hb => lists_ref S v x _ _ _ _ _ _ ops und W (h.below hb) ho.len hu.len hm
  unfold RunPost at HR
  unfold RepPost
  generalize replayed x ops und = R at *
  generalize (runL x ops und).er = ER at *
  generalize (runL x ops und).st = ST at *
  generalize (runL x ops und).sk = SK at *
  generalize listsErr x ops und = LE at *
  generalize x.err = E at *
  clear h h2 ho ho2 hu hu2 hm hx hE
  obtain ⟨sec, sa, sn, sc, ta, tn, tc, ca, cn, cc⟩ := v
  change Calls _ _ #[.agg #[.string sec, .slice sa sn sc, .slice ta tn tc, .slice ca cn cc], _, _] _ _
  change Hid (∀ W, _ -> Calls _ _ #[.agg #[.string sec, .slice sa sn sc, .slice ta tn tc, .slice ca cn cc], _, _] _ _) at HC
  change Hid (∀ W, _ -> _ -> Calls _ _ #[.agg #[.string sec, .slice sa sn sc, .slice ta tn tc, .slice ca cn cc], .slice oa on oc, .slice ua un uc] _ _) at HR
  obtain ⟨W1, hW1, hb, hs1, gX, gR⟩ := box2r w #[.string sec, .slice sa sn sc, .slice ta tn tc, .slice ca cn cc] #[.string ⟨#[]⟩, .slice none 0 0, .slice none 0 0, .slice none 0 0] 26 26
  have HCC := hiq (HC.out _ hb)
  obtain ⟨c0, c1, c2, c3, -⟩ := box_cells4 gX
  rw [hW1] at c0 c1 c2 c3
  clear HC gX
  go_enter Tryz.func49, Tryz.ntmps49
  go_wp2_with fail
  rw [<- hW1] at *
  clear hW1
  refine HCC.out.mono ?_
  rintro e W2 ⟨rfl, hb2⟩
  replace c0 := clq hb2 c0; replace c1 := clq hb2 c1; replace c2 := clq hb2 c2; replace c3 := clq hb2 c3
  replace gR := (hb2.block _ (by omega)).trans gR
  replace hb := hb.trans (hb2.mono hb.size)
  have hs2 := hb2.size
  clear HCC hb2
  by_cases e0 : LE = 0
  · have t0 : ((LE : Int) != 0) = false := by simp [e0]
    have hle := e0
    have HEQ := hiq (HQ1.out hle)
    have HRQ := hiq (HR.out _ hb hle)
    clear HR HQ0 HQ1
    go_wp2_with fail
    refine HRQ.out.mono ?_
    rintro e W3 ⟨v2, a, n, c, he, hR3, hN3, hb4⟩
    obtain ⟨sec2, sa2, sn2, sc2, ta2, tn2, tc2, ca2, cn2, cc2⟩ := v2
    change e = .returned (.tuple #[.agg #[.string sec2, .slice sa2 sn2 sc2, .slice ta2 tn2 tc2, .slice ca2 cn2 cc2], .slice a n c, .int .i64 ER]) at he
    subst he
    have hal : Below W3.heap.size W3 (W3.alloc (.cells #[.string sec2, .slice sa2 sn2 sc2, .slice ta2 tn2 tc2, .slice ca2 cn2 cc2] 26)) := (Below.refl _ _).alloc (Nat.le_refl _) _
    have hb5 := hb4.trans (hal.mono hb4.size)
    obtain ⟨z0, z1, z2, z3, -⟩ := box_cells4 (World.alloc_heap_new W3 (.cells #[.string sec2, .slice sa2 sn2 sc2, .slice ta2 tn2 tc2, .slice ca2 cn2 cc2] 26))
    replace gR := (hb5.block _ (by omega)).trans gR
    have HRV := hiq (hR3.below hal)
    have HNV := hiq (hN3.below rInt_ok hal)
    replace hb := hb.trans (hb5.mono hb.size)
    have hs4 := hb5.size
    clear hR3 hN3 hb4 hb5 hal HRQ c0 c1 c2 c3
    obtain ⟨y0, y1, y2, y3, -⟩ := box_cells4 gR
    have yf0 := frozen5 gR 0
    have yf1 := frozen5 gR 1
    have yf2 := frozen5 gR 2
    have yf3 := frozen5 gR 3
    have HALL := hiq (And.intro gR hb)
    clear gR hb 
    go_wp2
    change bodyPost _ _ _ _ _ (put4 (W3.alloc (.cells #[.string sec2, .slice sa2 sn2 sc2, .slice ta2 tn2 tc2, .slice ca2 cn2 cc2] 26)) (w.heap.size + 1) (.string sec2) (.slice sa2 sn2 sc2) (.slice ta2 tn2 tc2) (.slice ca2 cn2 cc2))
    obtain ⟨gR, hb⟩ := HALL.out
    obtain ⟨r0, r1, r2, r3, -⟩ := box_cells4 (put4_at gR (.string sec2) (.slice sa2 sn2 sc2) (.slice ta2 tn2 tc2) (.slice ca2 cn2 cc2))
    have hbf := put4_below hb (b := w.heap.size + 1) (by omega) (.string sec2) (.slice sa2 sn2 sc2) (.slice ta2 tn2 tc2) (.slice ca2 cn2 cc2)
    have hRf := HRV.out.keep (put4_keep (W := (W3.alloc (.cells #[.string sec2, .slice sa2 sn2 sc2, .slice ta2 tn2 tc2, .slice ca2 cn2 cc2] 26))) (b := w.heap.size + 1) (by rintro (⟨-, q⟩ | q) <;> omega) (.string sec2) (.slice sa2 sn2 sc2) (.slice ta2 tn2 tc2) (.slice ca2 cn2 cc2))
    have hNf := HNV.out.keep rInt_ok (put4_keep (W := (W3.alloc (.cells #[.string sec2, .slice sa2 sn2 sc2, .slice ta2 tn2 tc2, .slice ca2 cn2 cc2] 26))) (b := w.heap.size + 1) (by omega) (.string sec2) (.slice sa2 sn2 sc2) (.slice ta2 tn2 tc2) (.slice ca2 cn2 cc2))
    generalize put4 (W3.alloc (.cells #[.string sec2, .slice sa2 sn2 sc2, .slice ta2 tn2 tc2, .slice ca2 cn2 cc2] 26)) (w.heap.size + 1) (.string sec2) (.slice sa2 sn2 sc2) (.slice ta2 tn2 tc2) (.slice ca2 cn2 cc2) = WF at *
    refine bodyPost_ret (v := .tuple #[.agg #[.string sec2, .slice sa2 sn2 sc2, .slice ta2 tn2 tc2, .slice ca2 cn2 cc2], .slice a n c, .int .i64 0]) (by simp [results, Tryz.results49, go_sem, r0, r1, r2, r3]) rfl ?_
    rw [HEQ.out]
    exact ⟨⟨sec2, sa2, sn2, sc2, ta2, tn2, tc2, ca2, cn2, cc2⟩, a, n, c, rfl, hRf.mono (fun b q _ => by rcases q with q | q; exact .inl q.1; exact .inr (by omega)), hNf.mono rInt_ok (fun b q _ => by omega), hbf⟩
  · have t0 : ((LE : Int) != 0) = true := by simpa using e0
    have HEQ : Hid (R = (Col.none, [], LE)) := by show _ = _; rw [HQ0.out (by exact e0)]
    clear HR HQ0 HQ1 c0 c1 c2 c3
    have hal : Below W2.heap.size W2 (W2.alloc (.cells #[] 3)) := (Below.refl _ _).alloc (Nat.le_refl _) _
    replace gR := (hal.block _ (by omega)).trans gR
    have hwl := hb.size
    replace hb := hb.trans (hal.mono hb.size)
    clear hal
    obtain ⟨y0, y1, y2, y3, -⟩ := box_cells4 gR
    have yf0 := frozen5 gR 0
    have yf1 := frozen5 gR 1
    have yf2 := frozen5 gR 2
    have yf3 := frozen5 gR 3
    have HALL := hiq (And.intro gR hb)
    clear gR hb 
    go_wp2
    change bodyPost _ _ _ _ _ (put4 (W2.alloc (.cells #[] 3)) (w.heap.size + 1) (.string ⟨#[]⟩) (.slice none 0 0) (.slice none 0 0) (.slice none 0 0))
    obtain ⟨gR, hb⟩ := HALL.out
    obtain ⟨r0, r1, r2, r3, -⟩ := box_cells4 (put4_at gR (.string ⟨#[]⟩) (.slice none 0 0) (.slice none 0 0) (.slice none 0 0))
    have hbf := put4_below hb (b := w.heap.size + 1) (by omega) (.string ⟨#[]⟩) (.slice none 0 0) (.slice none 0 0) (.slice none 0 0)
    generalize put4 (W2.alloc (.cells #[] 3)) (w.heap.size + 1) (.string ⟨#[]⟩) (.slice none 0 0) (.slice none 0 0) (.slice none 0 0) = WF at *
    refine bodyPost_ret (v := .tuple #[.agg #[.string ⟨#[]⟩, .slice none 0 0, .slice none 0 0, .slice none 0 0], .slice (some ⟨W2.heap.size, 0, none⟩) 0 0, .int .i64 LE]) (by simp [results, Tryz.results49, go_sem, r0, r1, r2, r3]) rfl ?_
    rw [HEQ.out]
    exact ⟨⟨⟨#[]⟩, none, 0, 0, none, 0, 0, none, 0, 0⟩, _, 0, 0, rfl, rdC_none _ _, ⟨rfl, Nat.le_refl _, by omega, fun j x hj => by simp at hj⟩, hbf⟩
end Go.Proofs.YtfdipkhbemgojaaGreatDoor
namespace Go.Proofs.YtfdipkhbemgojaaGreatDoor
open Go.RowKit

theorem lg_dec (a b : Lg) : decide (a = b) = (decide (a.start = b.start) && (decide (a.ops.drop 0 = b.ops.drop 0) && decide (a.und.drop 0 = b.und.drop 0))) := by
  rw [Bool.eq_iff_iff]
  simp [lg_eq]
theorem sameL_ref (S T : Nat -> Prop) (v u : LV) (a b : Lg) (w : World) (h : RdL S w v a) (hz : RdL T w u b) : Calls Tryz.prog 22 #[v.val, u.val] w fun e w' => e = .returned (.bool (decide (a = b))) /\ Below w.heap.size w w' := by
  have HC : Hid (∀ W, Below w.heap.size w W -> Calls Tryz.prog 23 #[v.c.val, u.c.val] W fun e w' => e = .returned (.bool (decide (a.start = b.start))) /\ Below W.heap.size W w') := fun W hb => sameC_ref S T v.c u.c _ _ W (h.1.below hb) (hz.1.below hb)
  have HX : Hid (decide (a = b) = (decide (a.start = b.start) && (decide (a.ops.drop 0 = b.ops.drop 0) && decide (a.und.drop 0 = b.und.drop 0)))) := lg_dec a b
  have hob := h.2.1.bound
  have hub := h.2.2.bound
  have hob2 := hz.2.1.bound
  have hub2 := hz.2.2.bound
  have HO1 := hiq h.2.1
  have HO2 := hiq hz.2.1
  have HU1 := hiq h.2.2
  have HU2 := hiq hz.2.2
  have HNO : Hid (v.on ≠ u.on -> decide (a = b) = false) := fun q => decide_eq_false fun e => q (by rw [HO1.out.len, HO2.out.len, e])
  have HNU : Hid (v.un ≠ u.un -> decide (a = b) = false) := fun q => decide_eq_false fun e => q (by rw [HU1.out.len, HU2.out.len, e])
  have HL : Hid (v.on = a.ops.length /\ u.on = b.ops.length /\ v.un = a.und.length /\ u.un = b.und.length) := ⟨HO1.out.len, HO2.out.len, HU1.out.len, HU2.out.len⟩
  generalize decide (a = b) = R at *
  generalize decide (a.start = b.start) = C at *
  generalize a.ops = la at *
  generalize b.ops = lb at *
  generalize a.und = ma at *
  generalize b.und = mb at *
  clear h hz
  obtain ⟨⟨sec, sa, sn, sc, ta, tn, tc, ca, cn, cc⟩, oa, on, oc, ua, un, uc⟩ := v
  obtain ⟨⟨sec2, sa2, sn2, sc2, ta2, tn2, tc2, ca2, cn2, cc2⟩, oa2, on2, oc2, ua2, un2, uc2⟩ := u
  dsimp only at hob hub hob2 hub2 HO1 HO2 HU1 HU2 HNO HNU HL
  change Calls _ _ #[.agg #[.string sec, .slice sa sn sc, .slice ta tn tc, .slice ca cn cc, .slice oa on oc, .slice ua un uc], .agg #[.string sec2, .slice sa2 sn2 sc2, .slice ta2 tn2 tc2, .slice ca2 cn2 cc2, .slice oa2 on2 oc2, .slice ua2 un2 uc2]] _ _
  change Hid (∀ W, _ -> Calls _ _ #[.agg #[.string sec, .slice sa sn sc, .slice ta tn tc, .slice ca cn cc], .agg #[.string sec2, .slice sa2 sn2 sc2, .slice ta2 tn2 tc2, .slice ca2 cn2 cc2]] _ _) at HC
  obtain ⟨W1, hW1, hb, hs1, gX, gR⟩ := box2r w #[.string sec, .slice sa sn sc, .slice ta tn tc, .slice ca cn cc, .slice oa on oc, .slice ua un uc] #[.string sec2, .slice sa2 sn2 sc2, .slice ta2 tn2 tc2, .slice ca2 cn2 cc2, .slice oa2 on2 oc2, .slice ua2 un2 uc2] 30 30
  have HCC := hiq (HC.out _ hb)
  obtain ⟨c0, c1, c2, c3, c4, c5⟩ := box_cells6 gX
  obtain ⟨d0, d1, d2, d3, d4, d5⟩ := box_cells6 gR
  rw [hW1] at c0 c1 c2 c3 c4 c5 d0 d1 d2 d3 d4 d5
  clear HC gX gR
  go_enter Tryz.func22, Tryz.ntmps22
  go_wp2_with fail
  rw [<- hW1] at *
  clear hW1
  refine HCC.out.mono ?_
  rintro e W2 ⟨rfl, hb2⟩
  replace c0 := clq hb2 c0; replace c1 := clq hb2 c1; replace c2 := clq hb2 c2; replace c3 := clq hb2 c3; replace c4 := clq hb2 c4; replace c5 := clq hb2 c5; replace d0 := clq hb2 d0; replace d1 := clq hb2 d1; replace d2 := clq hb2 d2; replace d3 := clq hb2 d3; replace d4 := clq hb2 d4; replace d5 := clq hb2 d5
  replace hb := hb.trans (hb2.mono hb.size)
  have hs2 := hb2.size
  replace HO1 := hiq (HO1.out.below rOpn_ok hb)
  replace HO2 := hiq (HO2.out.below rOpn_ok hb)
  replace HU1 := hiq (HU1.out.below rBool_ok hb)
  replace HU2 := hiq (HU2.out.below rBool_ok hb)
  have HB := hiq hb
  clear HCC hb2 c0 c1 c2 c3 d0 d1 d2 d3 hb
  cases C with
  | false =>
    have HR : Hid (R = false) := by show _ = _; rw [HX.out]; rfl
    go_wp2
    go_ret
    exact ⟨ret_bool HR.out.symm, HB.out⟩
  | true =>
    by_cases n1 : on = on2
    · subst n1
      by_cases n2 : un = un2
      · subst n2
        have hE : Hid (R = (decide (la.drop 0 = lb.drop 0) && decide (ma.drop 0 = mb.drop 0))) := by show _ = _; rw [HX.out]; rfl
        clear HX HNO HNU
        go_wp2
        go_loopw [5] (fun i wr => ∃ (k : Nat), i = .int .i64 k /\ k <= on /\ Hid (R = (decide (la.drop k = lb.drop k) && decide (ma.drop 0 = mb.drop 0))) /\ Drew W2 wr) (fun i _ => on - (intOf i).toNat)
        case atStart => exact ⟨0, rfl, Nat.zero_le _, hE.out, Drew.refl _⟩
        case round =>
          clear hE
          obtain ⟨k, rfl, hk, hx, hd⟩ := hrel
          have hdb := hd.below W2.heap.size
          have p_c4 := c4
          have p_c5 := c5
          have p_d4 := d4
          have p_d5 := d5
          replace c4 := clq hdb c4; replace c5 := clq hdb c5; replace d4 := clq hdb d4; replace d5 := clq hdb d5
          by_cases hkl : k < on
          · obtain ⟨x, b1, o1, hu, -, ea, -, -, hI1, e0⟩ := (HO1.out.below rOpn_ok hdb).op hkl
            obtain ⟨y, b2, o2, hv, -, eb, -, -, hI2, f0⟩ := (HO2.out.below rOpn_ok hdb).op hkl
            subst ea
            subst eb
            have hst := drop_eq_iff hu hv
            by_cases he : x = y
            · have HN2 : Hid (R = (decide (la.drop (k + 1) = lb.drop (k + 1)) && decide (ma.drop 0 = mb.drop 0))) := by
                show _ = _
                rw [hx.out, decide_eq_decide.2 (hst.trans ⟨fun q => q.2, fun q => ⟨he, q⟩⟩)]
              obtain ⟨x1, x2, x3, x4, x5⟩ := x
              obtain ⟨y1, y2, y3, y4, y5⟩ := y
              obtain ⟨e1, e2, e3, e4, e5⟩ := e0
              obtain ⟨f1, f2, f3, f4, f5⟩ := f0
              dsimp only at e1 e2 e3 e4 e5 f1 f2 f3 f4 f5
              have hq : ∀ W, (binOp .neq 32 (.agg #[.int .i64 x1, .string x2, .int .i64 x3, .int .i64 x4, .string x5]) (.agg #[.int .i64 y1, .string y2, .int .i64 y3, .int .i64 y4, .string y5])).run Tryz.prog W = .ok (.bool false) W := fun W => (op_neq W ⟨x1, x2, x3, x4, x5⟩ ⟨y1, y2, y3, y4, y5⟩).trans (by rw [decide_eq_false (by simpa using he)])
              clear hx hu hv hst he
              go_wp2
              go_quiet (fail)
              go_wp2
              go_roundw
              case rel => exact ⟨k + 1, by go_num, by omega, HN2.out, hd.drewN _⟩
              case measure => simp [intOf]; omega
            · have HR : Hid (R = false) := by show _ = _; rw [hx.out, decide_eq_false fun q => he (hst.1 q).1]; rfl
              obtain ⟨x1, x2, x3, x4, x5⟩ := x
              obtain ⟨y1, y2, y3, y4, y5⟩ := y
              obtain ⟨e1, e2, e3, e4, e5⟩ := e0
              obtain ⟨f1, f2, f3, f4, f5⟩ := f0
              dsimp only at e1 e2 e3 e4 e5 f1 f2 f3 f4 f5
              have hq : ∀ W, (binOp .neq 32 (.agg #[.int .i64 x1, .string x2, .int .i64 x3, .int .i64 x4, .string x5]) (.agg #[.int .i64 y1, .string y2, .int .i64 y3, .int .i64 y4, .string y5])).run Tryz.prog W = .ok (.bool true) W := fun W => (op_neq W ⟨x1, x2, x3, x4, x5⟩ ⟨y1, y2, y3, y4, y5⟩).trans (by rw [decide_eq_true he])
              clear hx hu hv hst he
              go_wp2
              go_quiet (fail)
              go_wp2
              go_ret
              exact ⟨ret_bool HR.out.symm, HB.out.trans ((hd.drewN _).below _)⟩
          · have hE : Hid (R = decide (ma.drop 0 = mb.drop 0)) := by
              show _ = _
              rw [hx.out, decide_eq_true (dropEnds (by rw [<- HL.out.1]; omega) (by rw [<- HL.out.2.1]; omega))]; rfl
            obtain ⟨W3, rfl⟩ : ∃ W3, W3 = wr := ⟨_, rfl⟩
            clear hx
            go_wp2
            go_loopw [6] (fun i wr => ∃ (k : Nat), i = .int .i64 k /\ k <= un /\ Hid (R = decide (ma.drop k = mb.drop k)) /\ Drew W2 wr) (fun i _ => un - (intOf i).toNat)
            case atStart => exact ⟨0, rfl, Nat.zero_le _, hE.out, hd⟩
            case round =>
              clear hE c4 c5 d4 d5 hd hdb
              obtain ⟨k, rfl, hk, hx, hd⟩ := hrel
              have hdb := hd.below W2.heap.size
              have c4 := clq hdb p_c4
              have c5 := clq hdb p_c5
              have d4 := clq hdb p_d4
              have d5 := clq hdb p_d5
              by_cases hkl : k < un
              · obtain ⟨x, b1, o1, hu, -, ea, -, -, e0⟩ := (HU1.out.below rBool_ok hdb).flg hkl
                obtain ⟨y, b2, o2, hv, -, eb, -, -, f0⟩ := (HU2.out.below rBool_ok hdb).flg hkl
                subst ea
                subst eb
                have hst := drop_eq_iff hu hv
                by_cases he : x = y
                · have HN2 : Hid (R = decide (ma.drop (k + 1) = mb.drop (k + 1))) := by show _ = _; rw [hx.out, decide_eq_decide]; exact hst.trans ⟨fun q => q.2, fun q => ⟨he, q⟩⟩
                  clear hx hu hv hst
                  subst he
                  cases x <;>
                  · go_wp2
                    go_quiet (fail)
                    go_wp2
                    go_roundw
                    case rel => exact ⟨k + 1, by go_num, by omega, HN2.out, hd.drewN _⟩
                    case measure => simp [intOf]; omega
                · have HR : Hid (R = false) := by show _ = _; rw [hx.out]; exact decide_eq_false fun q => he (hst.1 q).1
                  clear hx hu hv hst
                  cases x <;> cases y
                  · exact absurd rfl he
                  · clear he
                    go_wp2
                    go_quiet (fail)
                    go_wp2
                    go_ret
                    exact ⟨ret_bool HR.out.symm, HB.out.trans ((hd.drewN _).below _)⟩
                  · clear he
                    go_wp2
                    go_quiet (fail)
                    go_wp2
                    go_ret
                    exact ⟨ret_bool HR.out.symm, HB.out.trans ((hd.drewN _).below _)⟩
                  · exact absurd rfl he
              · have HR : Hid (R = true) := by
                  show _ = _
                  rw [hx.out]; exact decide_eq_true (dropEnds (by rw [<- HL.out.2.2.1]; omega) (by rw [<- HL.out.2.2.2]; omega))
                clear hx
                go_wp2
                go_ret
                exact ⟨ret_bool HR.out.symm, HB.out.trans (hd.below _)⟩
      · have HR := hiq (HNU.out n2)
        have hnm' : ((un : Int) != (un2 : Int)) = true := by simp; omega
        clear HNO HNU n2
        go_wp2
        go_ret
        exact ⟨ret_bool HR.out.symm, HB.out⟩
    · have HR := hiq (HNO.out n1)
      have hnm' : ((on : Int) != (on2 : Int)) = true := by simp; omega
      clear HNO HNU n1
      go_wp2
      go_ret
      exact ⟨ret_bool HR.out.symm, HB.out⟩
end Go.Proofs.YtfdipkhbemgojaaGreatDoor
