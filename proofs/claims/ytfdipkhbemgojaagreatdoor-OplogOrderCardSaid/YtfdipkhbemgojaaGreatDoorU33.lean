/- Joined: OLck, OSet. -/
import Derived.Test.YtfdipkhbemgojaaGreatDoorU32
import Derived.Test.YtfdipkhbemgojaaGreatDoorU31
import Derived.Test.YtfdipkhbemgojaaGreatDoorU25
import Derived.Test.YtfdipkhbemgojaaGreatDoorU29
import Derived.Lib.SliceRun
set_option linter.unusedVariables false
set_option linter.unusedSimpArgs false
set_option maxRecDepth 100000
set_option maxHeartbeats 16000000
namespace Go.Proofs.YtfdipkhbemgojaaGreatDoor
open Go.RowKit

theorem box2r (w : World) (C D : Array Value) (tc td : TypeId) : ∃ W, W = ((w.alloc (.cells C tc)).alloc (.cells D td)) /\ Below w.heap.size w W /\ W.heap.size = w.heap.size + 2 /\
    W.heap[w.heap.size]? = some (.cells C tc (0, 0)) /\ W.heap[w.heap.size + 1]? = some (.cells D td (0, 0)) := by
  have q1 := World.alloc_heap_new w (.cells C tc)
  have q2 : Below (w.heap.size + 1) (w.alloc (.cells C tc)) ((w.alloc (.cells C tc)).alloc (.cells D td)) := (Below.refl _ _).alloc (by simp) _
  have q3 := World.alloc_heap_new (w.alloc (.cells C tc)) (.cells D td)
  refine ⟨_, rfl, ((Below.refl _ _).alloc (Nat.le_refl _) _).alloc (by simp) _, by simp, (q2.block _ (by omega)).trans q1, by simpa using q3⟩
/-- What State answers. -/
def StatePost (S : Nat -> Prop) (l : Lg) (w : World) (e : Ending) (w' : World) : Prop :=
  ∃ v' : CV, e = .returned (.tuple #[v'.val, .int .i64 l.state.2]) /\ RdC (fun b => S b \/ w.heap.size <= b) w' v' l.state.1 /\ Below w.heap.size w w'
theorem lists_ref (S : Nat -> Prop) (v : CV) (x : Col) (oa : Option Addr) (on oc : Nat) (ua : Option Addr) (un uc : Nat) (ops : List Op) (und : List Bool) (w : World) (h : RdC S w v x) (hon : on = ops.length) (hun : un = und.length) (hm : Sml x) :
    Calls Tryz.prog 57 #[v.val, .slice oa on oc, .slice ua un uc] w fun e w' => e = .returned (.int .i64 (listsErr x ops und)) /\ Below w.heap.size w w' := by
  have HC : Hid (∀ W, Below w.heap.size w W -> Calls Tryz.prog 39 #[v.val] W fun e w' => e = .returned (.int .i64 x.err) /\ Below W.heap.size W w') := fun W hb => check_ref S v x W (h.below hb) hm
  have HL : Hid (listsErr x ops und = if x.err ≠ 0 then 1 else if on ≠ un then 9 else if 256 < on then 4 else 0) := by rw [hon, hun]; rfl
  generalize listsErr x ops und = LE at *
  generalize x.err = E at *
  clear h hm hon hun
  obtain ⟨sec, sa, sn, sc, ta, tn, tc, ca, cn, cc⟩ := v
  change Calls _ _ #[.agg #[.string sec, .slice sa sn sc, .slice ta tn tc, .slice ca cn cc], _, _] _ _
  change Hid (∀ W, _ -> Calls _ _ #[.agg #[.string sec, .slice sa sn sc, .slice ta tn tc, .slice ca cn cc]] _ _) at HC
  have hb0 : Below w.heap.size w (w.alloc (.cells #[.string sec, .slice sa sn sc, .slice ta tn tc, .slice ca cn cc] 26)) := (Below.refl _ _).alloc (Nat.le_refl _) _
  obtain ⟨c0, c1, c2, c3, -⟩ := box_cells4 (World.alloc_heap_new w (.cells #[.string sec, .slice sa sn sc, .slice ta tn tc, .slice ca cn cc] 26))
  have HCC := hiq (HC.out _ hb0)
  clear HC
  go_enter Tryz.func57, Tryz.ntmps57
  go_wp2_with fail
  generalize w.alloc (.cells #[.string sec, .slice sa sn sc, .slice ta tn tc, .slice ca cn cc] 26) = W1 at *
  refine HCC.out.mono ?_
  rintro e W2 ⟨rfl, hb2⟩
  have hb3 := hb0.trans (hb2.mono hb0.size)
  clear HCC hb0 hb2 c0 c1 c2 c3
  by_cases e0 : E = 0
  · have t0 : ((E : Int) != 0) = false := by simp [e0]
    by_cases e1 : on = un
    · have t1 : ((on : Int) != (un : Int)) = false := by simp [e1]
      by_cases e2 : 256 < on
      · have HF : Hid (E = 0 /\ on = un) := ⟨e0, e1⟩
        clear e0 e1
        go_wp2
        go_ret
        exact ⟨by rw [HL.out]; simp [HF.out.1, HF.out.2, show 256 < un by rw [<- HF.out.2]; exact e2], hb3⟩
      · have HF : Hid (E = 0 /\ on = un) := ⟨e0, e1⟩
        clear e0 e1
        go_wp2
        go_ret
        exact ⟨by rw [HL.out]; simp [HF.out.1, HF.out.2, show ¬ 256 < un by rw [<- HF.out.2]; exact e2], hb3⟩
    · have t1 : ((on : Int) != (un : Int)) = true := by simp; omega
      have HF : Hid (E = 0) := e0
      clear e0
      go_wp2
      go_ret
      exact ⟨by rw [HL.out]; simp [HF.out, e1], hb3⟩
  · have t0 : ((E : Int) != 0) = true := by simpa using e0
    go_wp2
    go_ret
    exact ⟨by rw [HL.out]; simp [e0], hb3⟩
theorem lck_any (S : Nat -> Prop) (v : LV) (l : Lg) (w : World) (h : RdL S w v l) (hm : SmL l) (hE : Env w) : Calls Tryz.prog 20 #[v.val] w fun e w' => e = .returned (.int .i64 l.err) /\ Below w.heap.size w w' := by
  have HC : Hid (∀ W, Below w.heap.size w W -> Calls Tryz.prog 44 #[v.c.val] W fun e w' => e = .returned (.int .i64 l.start.err) /\ Below W.heap.size W w') := fun W hb => check_any S v.c l.start W (h.1.below hb) hm.1 (hE.below hb)
  have HR : Hid (∀ W, Below w.heap.size w W -> listsErr l.start l.ops l.und = 0 -> Calls Tryz.prog 54 #[v.c.val, .slice v.oa v.on v.oc, .slice v.ua v.un v.uc] W (RunPost S l.start l.ops l.und W)) := fun W hb h0 => replay_any S v.c l.start _ _ _ _ _ _ l.ops l.und W (h.1.below hb) (h.2.1.below rOpn_ok hb) (h.2.2.below rBool_ok hb) (lists_zero.1 h0).2.1 hm.1 hm.2 (by have := h.2.1.len; have := (lists_zero.1 h0).2.2; omega) (hE.below hb)
  have HE2 : Hid (l.err = if listsErr l.start l.ops l.und ≠ 0 then listsErr l.start l.ops l.und else (runL l.start l.ops l.und).er) := rfl
  have HL : Hid (listsErr l.start l.ops l.und = if l.start.err ≠ 0 then 1 else if v.on ≠ v.un then 9 else if 256 < v.on then 4 else 0) := by rw [h.2.1.len, h.2.2.len]; rfl
  unfold RunPost at HR
  generalize l.err = LER at *
  generalize (runL l.start l.ops l.und).er = ER at *
  generalize (runL l.start l.ops l.und).st = ST at *
  generalize (runL l.start l.ops l.und).sk = SK at *
  generalize listsErr l.start l.ops l.und = LE at *
  generalize l.start.err = E at *
  clear h hm hE
  obtain ⟨⟨sec, sa, sn, sc, ta, tn, tc, ca, cn, cc⟩, oa, on, oc, ua, un, uc⟩ := v
  change Calls _ _ #[.agg #[.string sec, .slice sa sn sc, .slice ta tn tc, .slice ca cn cc, .slice oa on oc, .slice ua un uc]] _ _
  change Hid (∀ W, _ -> Calls _ _ #[.agg #[.string sec, .slice sa sn sc, .slice ta tn tc, .slice ca cn cc]] _ _) at HC
  change Hid (∀ W, _ -> _ -> Calls _ _ #[.agg #[.string sec, .slice sa sn sc, .slice ta tn tc, .slice ca cn cc], .slice oa on oc, .slice ua un uc] _ _) at HR
  dsimp only at HL
  have hb0 : Below w.heap.size w (w.alloc (.cells #[.string sec, .slice sa sn sc, .slice ta tn tc, .slice ca cn cc, .slice oa on oc, .slice ua un uc] 30)) := (Below.refl _ _).alloc (Nat.le_refl _) _
  obtain ⟨c0, c1, c2, c3, c4, c5⟩ := box_cells6 (World.alloc_heap_new w (.cells #[.string sec, .slice sa sn sc, .slice ta tn tc, .slice ca cn cc, .slice oa on oc, .slice ua un uc] 30))
  have HCC := hiq (HC.out _ hb0)
  clear HC
  go_enter Tryz.func20, Tryz.ntmps20
  go_wp2_with fail
  generalize w.alloc (.cells #[.string sec, .slice sa sn sc, .slice ta tn tc, .slice ca cn cc, .slice oa on oc, .slice ua un uc] 30) = W1 at *
  refine HCC.out.mono ?_
  rintro e W2 ⟨rfl, hb2⟩
  have hb3 := hb0.trans (hb2.mono hb0.size)
  replace c0 := clq hb2 c0; replace c1 := clq hb2 c1; replace c2 := clq hb2 c2; replace c3 := clq hb2 c3; replace c4 := clq hb2 c4; replace c5 := clq hb2 c5
  clear HCC hb0 hb2
  by_cases e0 : E = 0
  · have t0 : ((E : Int) != 0) = false := by simp [e0]
    by_cases e1 : on = un
    · have t1 : ((on : Int) != (un : Int)) = false := by simp [e1]
      by_cases e2 : 256 < on
      · have HF : Hid (E = 0 /\ on = un) := ⟨e0, e1⟩
        clear e0 e1
        go_wp2
        go_ret
        exact ⟨by rw [HE2.out, HL.out]; simp [HF.out.1, HF.out.2, show 256 < un by rw [<- HF.out.2]; exact e2], hb3⟩
      · have HF : Hid (E = 0 /\ on = un) := ⟨e0, e1⟩
        clear e0 e1
        have hle : LE = 0 := by rw [HL.out]; simp [HF.out.1, HF.out.2, show ¬ 256 < un by rw [<- HF.out.2]; exact e2]
        have HRQ := hiq (HR.out _ hb3 (by exact hle))
        clear HR
        go_wp2_with fail
        refine HRQ.out.mono ?_
        rintro e W3 ⟨v2, a, n, c, he, hR3, hN3, hb4⟩
        obtain ⟨sec2, sa2, sn2, sc2, ta2, tn2, tc2, ca2, cn2, cc2⟩ := v2
        change e = .returned (.tuple #[.agg #[.string sec2, .slice sa2 sn2 sc2, .slice ta2 tn2 tc2, .slice ca2 cn2 cc2], .slice a n c, .int .i64 ER]) at he
        subst he
        have hal : Below W3.heap.size W3 (W3.alloc (.cells #[.string sec2, .slice sa2 sn2 sc2, .slice ta2 tn2 tc2, .slice ca2 cn2 cc2] 26)) := (Below.refl _ _).alloc (Nat.le_refl _) _
        have hb5 := hb3.trans ((hb4.trans (hal.mono hb4.size)).mono hb3.size)
        clear hR3 hN3 hb4 hal c0 c1 c2 c3 c4 c5
        go_wp2
        go_ret
        exact ⟨by rw [HE2.out, hle]; rfl, hb5⟩
    · have t1 : ((on : Int) != (un : Int)) = true := by simp; omega
      have HF : Hid (E = 0) := e0
      clear e0
      go_wp2
      go_ret
      exact ⟨by rw [HE2.out, HL.out]; simp [HF.out, e1], hb3⟩
  · have t0 : ((E : Int) != 0) = true := by simpa using e0
    go_wp2
    go_ret
    exact ⟨by rw [HE2.out, HL.out]; simp [e0], hb3⟩
theorem idx_any (S : Nat -> Prop) (v : LV) (l : Lg) (i : Int) (w : World) (h : RdL S w v l) (hm : SmL l) (hE : Env w) : Calls Tryz.prog 63 #[v.val, .int .i64 i] w fun e w' => e = .returned (.int .i64 (l.idx i)) /\ Below w.heap.size w w' := by
  have HC : Hid (∀ W, Below w.heap.size w W -> Calls Tryz.prog 20 #[v.val] W fun e w' => e = .returned (.int .i64 l.err) /\ Below W.heap.size W w') := fun W hb => lck_any S v l W (h.below hb) hm (hE.below hb)
  have HI : Hid (l.idx i = if l.err ≠ 0 then 1 else if i < 0 \/ (v.on : Int) <= i then 2 else 0) := by rw [h.2.1.len]; rfl
  generalize l.idx i = I at *
  generalize l.err = E at *
  clear h hm hE
  obtain ⟨⟨sec, sa, sn, sc, ta, tn, tc, ca, cn, cc⟩, oa, on, oc, ua, un, uc⟩ := v
  change Calls _ _ #[.agg #[.string sec, .slice sa sn sc, .slice ta tn tc, .slice ca cn cc, .slice oa on oc, .slice ua un uc], _] _ _
  change Hid (∀ W, _ -> Calls _ _ #[.agg #[.string sec, .slice sa sn sc, .slice ta tn tc, .slice ca cn cc, .slice oa on oc, .slice ua un uc]] _ _) at HC
  dsimp only at HI
  have hb0 : Below w.heap.size w (w.alloc (.cells #[.string sec, .slice sa sn sc, .slice ta tn tc, .slice ca cn cc, .slice oa on oc, .slice ua un uc] 30)) := (Below.refl _ _).alloc (Nat.le_refl _) _
  obtain ⟨c0, c1, c2, c3, c4, c5⟩ := box_cells6 (World.alloc_heap_new w (.cells #[.string sec, .slice sa sn sc, .slice ta tn tc, .slice ca cn cc, .slice oa on oc, .slice ua un uc] 30))
  have HCC := hiq (HC.out _ hb0)
  clear HC
  go_enter Tryz.func63, Tryz.ntmps63
  go_wp2_with fail
  generalize w.alloc (.cells #[.string sec, .slice sa sn sc, .slice ta tn tc, .slice ca cn cc, .slice oa on oc, .slice ua un uc] 30) = W1 at *
  refine HCC.out.mono ?_
  rintro e W2 ⟨rfl, hb2⟩
  have hb3 := hb0.trans (hb2.mono hb0.size)
  replace c0 := clq hb2 c0; replace c1 := clq hb2 c1; replace c2 := clq hb2 c2; replace c3 := clq hb2 c3; replace c4 := clq hb2 c4; replace c5 := clq hb2 c5
  clear HCC hb0 hb2
  by_cases e0 : E = 0
  · have t0 : ((E : Int) != 0) = false := by simp [e0]
    by_cases i0 : i < 0
    · go_wp2
      go_ret
      exact ⟨by rw [HI.out]; simp [e0, i0], hb3⟩
    · by_cases i1 : (on : Int) <= i
      · go_wp2
        go_ret
        exact ⟨by rw [HI.out]; simp [e0, i1], hb3⟩
      · have HX : Hid (¬ (i < 0 \/ (on : Int) <= i)) := fun q => q.elim i0 i1
        go_wp2
        go_ret
        exact ⟨by rw [HI.out, if_neg (by simp [e0]), if_neg HX.out]; rfl, hb3⟩
  · have t0 : ((E : Int) != 0) = true := by simpa using e0
    go_wp2
    go_ret
    exact ⟨by rw [HI.out]; simp [e0], hb3⟩
theorem state_any (S : Nat -> Prop) (v : LV) (l : Lg) (w : World) (h : RdL S w v l) (hm : SmL l) (hE : Env w) : Calls Tryz.prog 18 #[v.val] w (StatePost S l w) := by
  have HC : Hid (∀ W, Below w.heap.size w W -> Calls Tryz.prog 20 #[v.val] W fun e w' => e = .returned (.int .i64 l.err) /\ Below W.heap.size W w') := fun W hb => lck_any S v l W (h.below hb) hm (hE.below hb)
  have h2 : RdL (fun b => S b /\ b < w.heap.size) w v l := h.mono (fun b q q' => ⟨q, q'⟩)
  have HR : Hid (∀ W, Below w.heap.size w W -> listsErr l.start l.ops l.und = 0 -> Calls Tryz.prog 54 #[v.c.val, .slice v.oa v.on v.oc, .slice v.ua v.un v.uc] W (RunPost (fun b => S b /\ b < w.heap.size) l.start l.ops l.und W)) := fun W hb h0 => replay_any _ v.c l.start _ _ _ _ _ _ l.ops l.und W (h2.1.below hb) (h2.2.1.below rOpn_ok hb) (h2.2.2.below rBool_ok hb) (lists_zero.1 h0).2.1 hm.1 hm.2 (by have := h2.2.1.len; have := (lists_zero.1 h0).2.2; omega) (hE.below hb)
  have HZ : Hid (l.err = 0 -> listsErr l.start l.ops l.und = 0) := fun q => lists_zero.2 (err_zero.1 q).1
  have HS0 : Hid (l.err ≠ 0 -> l.state = (Col.none, 1)) := fun q => by unfold Lg.state; rw [if_pos q]
  have HS1 : Hid (l.err = 0 -> l.state = ((runL l.start l.ops l.und).st, 0)) := fun q => by unfold Lg.state; rw [if_neg (by simp [q])]; rfl
  unfold RunPost at HR
  unfold StatePost
  generalize l.state = SS at *
  generalize (runL l.start l.ops l.und).er = ER at *
  generalize (runL l.start l.ops l.und).st = ST at *
  generalize (runL l.start l.ops l.und).sk = SK at *
  generalize listsErr l.start l.ops l.und = LE at *
  generalize l.err = E at *
  clear h h2 hm hE
  obtain ⟨⟨sec, sa, sn, sc, ta, tn, tc, ca, cn, cc⟩, oa, on, oc, ua, un, uc⟩ := v
  change Calls _ _ #[.agg #[.string sec, .slice sa sn sc, .slice ta tn tc, .slice ca cn cc, .slice oa on oc, .slice ua un uc]] _ _
  change Hid (∀ W, _ -> Calls _ _ #[.agg #[.string sec, .slice sa sn sc, .slice ta tn tc, .slice ca cn cc, .slice oa on oc, .slice ua un uc]] _ _) at HC
  change Hid (∀ W, _ -> _ -> Calls _ _ #[.agg #[.string sec, .slice sa sn sc, .slice ta tn tc, .slice ca cn cc], .slice oa on oc, .slice ua un uc] _ _) at HR
  obtain ⟨W1, hW1, hb0, hs1, gX, gR⟩ := box2r w #[.string sec, .slice sa sn sc, .slice ta tn tc, .slice ca cn cc, .slice oa on oc, .slice ua un uc] #[.string ⟨#[]⟩, .slice none 0 0, .slice none 0 0, .slice none 0 0] 30 26
  have HCC := hiq (HC.out _ hb0)
  obtain ⟨c0, c1, c2, c3, c4, c5⟩ := box_cells6 gX
  rw [hW1] at c0 c1 c2 c3 c4 c5
  clear HC gX
  go_enter Tryz.func18, Tryz.ntmps18
  go_wp2_with fail
  rw [<- hW1] at *
  clear hW1
  refine HCC.out.mono ?_
  rintro e W2 ⟨rfl, hb2⟩
  have hb3 := hb0.trans (hb2.mono hb0.size)
  replace c0 := clq hb2 c0; replace c1 := clq hb2 c1; replace c2 := clq hb2 c2; replace c3 := clq hb2 c3; replace c4 := clq hb2 c4; replace c5 := clq hb2 c5
  have gR2 := (hb2.block _ (by omega)).trans gR
  have hs2 := hb2.size
  clear HCC hb0 hb2 gR
  by_cases e0 : E = 0
  · have t0 : ((E : Int) != 0) = false := by simp [e0]
    have HSS := hiq (HS1.out e0)
    have hz := HZ.out e0
    have HRQ := hiq (HR.out _ hb3 (by exact hz))
    clear HR
    go_wp2_with fail
    refine HRQ.out.mono ?_
    rintro e W3 ⟨v2, a, n, c, he, hR3, hN3, hb4⟩
    obtain ⟨sec2, sa2, sn2, sc2, ta2, tn2, tc2, ca2, cn2, cc2⟩ := v2
    change e = .returned (.tuple #[.agg #[.string sec2, .slice sa2 sn2 sc2, .slice ta2 tn2 tc2, .slice ca2 cn2 cc2], .slice a n c, .int .i64 ER]) at he
    subst he
    have hal : Below W3.heap.size W3 (W3.alloc (.cells #[.string sec2, .slice sa2 sn2 sc2, .slice ta2 tn2 tc2, .slice ca2 cn2 cc2] 26)) := (Below.refl _ _).alloc (Nat.le_refl _) _
    have hb5 := hb4.trans (hal.mono hb4.size)
    have gR3 := (hb5.block _ (by omega)).trans gR2
    obtain ⟨z0, z1, z2, z3, -⟩ := box_cells4 (World.alloc_heap_new W3 (.cells #[.string sec2, .slice sa2 sn2 sc2, .slice ta2 tn2 tc2, .slice ca2 cn2 cc2] 26))
    obtain ⟨y0, y1, y2, y3, yf⟩ := box_cells4 gR3
    have yf0 := yf 0
    have yf1 := yf 1
    have yf2 := yf 2
    have yf3 := yf 3
    have hbw := hb3.trans (hb5.mono hb3.size)
    have hR5 := hiq ((hR3.mono (S' := fun b => (S b /\ b < w.heap.size) \/ W2.heap.size <= b) (fun b q _ => q)).below hal)
    have HALL := hiq (And.intro gR3 hbw)
    clear HZ HS0 HS1 hR3 hN3 hb4 hal hb5 gR2 gR3 hbw yf c0 c1 c2 c3 c4 c5 HRQ hb3
    go_wp2
    change bodyPost _ _ _ _ _ (put4 (W3.alloc (.cells #[.string sec2, .slice sa2 sn2 sc2, .slice ta2 tn2 tc2, .slice ca2 cn2 cc2] 26)) (w.heap.size + 1) (.string sec2) (.slice sa2 sn2 sc2) (.slice ta2 tn2 tc2) (.slice ca2 cn2 cc2))
    generalize W3.alloc (.cells #[.string sec2, .slice sa2 sn2 sc2, .slice ta2 tn2 tc2, .slice ca2 cn2 cc2] 26) = W4 at *
    obtain ⟨gR3, hbw⟩ := HALL.out
    obtain ⟨r0, r1, r2, r3, -⟩ := box_cells4 (put4_at gR3 (.string sec2) (.slice sa2 sn2 sc2) (.slice ta2 tn2 tc2) (.slice ca2 cn2 cc2))
    have hbf := put4_below hbw (b := w.heap.size + 1) (by omega) (.string sec2) (.slice sa2 sn2 sc2) (.slice ta2 tn2 tc2) (.slice ca2 cn2 cc2)
    have hRf := hR5.out.keep (put4_keep (W := W4) (b := w.heap.size + 1) (by rintro (⟨-, q⟩ | q) <;> omega) (.string sec2) (.slice sa2 sn2 sc2) (.slice ta2 tn2 tc2) (.slice ca2 cn2 cc2))
    generalize put4 W4 (w.heap.size + 1) (.string sec2) (.slice sa2 sn2 sc2) (.slice ta2 tn2 tc2) (.slice ca2 cn2 cc2) = WF at *
    refine bodyPost_ret (v := .tuple #[.agg #[.string sec2, .slice sa2 sn2 sc2, .slice ta2 tn2 tc2, .slice ca2 cn2 cc2], .int .i64 0]) (by simp [results, Tryz.results18, go_sem, r0, r1, r2, r3]) rfl ?_
    rw [HSS.out]
    exact ⟨⟨sec2, sa2, sn2, sc2, ta2, tn2, tc2, ca2, cn2, cc2⟩, rfl, hRf.mono (fun b q _ => by rcases q with q | q; exact .inl q.1; exact .inr (by omega)), hbf⟩
  · have t0 : ((E : Int) != 0) = true := by simpa using e0
    have HSS := hiq (HS0.out e0)
    obtain ⟨y0, y1, y2, y3, yf⟩ := box_cells4 gR2
    have yf0 := yf 0
    have yf1 := yf 1
    have yf2 := yf 2
    have yf3 := yf 3
    have HALL := hiq (And.intro gR2 hb3)
    clear HZ HS0 HS1 yf gR2 hb3 c0 c1 c2 c3 c4 c5 HR
    go_wp2
    change bodyPost _ _ _ _ _ (put4 W2 (w.heap.size + 1) (.string ⟨#[]⟩) (.slice none 0 0) (.slice none 0 0) (.slice none 0 0))
    obtain ⟨gR3, hbw⟩ := HALL.out
    obtain ⟨r0, r1, r2, r3, -⟩ := box_cells4 (put4_at gR3 (.string ⟨#[]⟩) (.slice none 0 0) (.slice none 0 0) (.slice none 0 0))
    have hbf := put4_below hbw (b := w.heap.size + 1) (by omega) (.string ⟨#[]⟩) (.slice none 0 0) (.slice none 0 0) (.slice none 0 0)
    generalize put4 W2 (w.heap.size + 1) (.string ⟨#[]⟩) (.slice none 0 0) (.slice none 0 0) (.slice none 0 0) = WF at *
    refine bodyPost_ret (v := .tuple #[.agg #[.string ⟨#[]⟩, .slice none 0 0, .slice none 0 0, .slice none 0 0], .int .i64 1]) (by simp [results, Tryz.results18, go_sem, r0, r1, r2, r3]) rfl ?_
    rw [HSS.out]
    exact ⟨⟨⟨#[]⟩, none, 0, 0, none, 0, 0, none, 0, 0⟩, rfl, rdC_none _ _, hbf⟩
theorem lck_ref (S : Nat -> Prop) (v : LV) (l : Lg) (w : World) (h : RdL S w v l) (hm : SmL l) (hE : Env w) : Calls Tryz.prog 21 #[v.val] w fun e w' => e = .returned (.int .i64 l.err) /\ Below w.heap.size w w' := by
  have HC : Hid (∀ W, Below w.heap.size w W -> Calls Tryz.prog 57 #[v.c.val, .slice v.oa v.on v.oc, .slice v.ua v.un v.uc] W fun e w' => e = .returned (.int .i64 (listsErr l.start l.ops l.und)) /\ Below W.heap.size W w') := fun W hb => lists_ref S v.c l.start _ _ _ _ _ _ l.ops l.und W (h.1.below hb) h.2.1.len h.2.2.len hm.1
  have HR : Hid (∀ W, Below w.heap.size w W -> listsErr l.start l.ops l.und = 0 -> Calls Tryz.prog 56 #[v.c.val, .slice v.oa v.on v.oc, .slice v.ua v.un v.uc] W (RunPost S l.start l.ops l.und W)) := fun W hb h0 => run_ref S v.c l.start _ _ _ _ _ _ l.ops l.und W (h.1.below hb) (h.2.1.below rOpn_ok hb) (h.2.2.below rBool_ok hb) (lists_zero.1 h0).2.1 hm.1 hm.2 (by have := h.2.1.len; have := (lists_zero.1 h0).2.2; omega)
  have HE2 : Hid (l.err = if listsErr l.start l.ops l.und ≠ 0 then listsErr l.start l.ops l.und else (runL l.start l.ops l.und).er) := rfl
  have HL : Hid (listsErr l.start l.ops l.und = if l.start.err ≠ 0 then 1 else if v.on ≠ v.un then 9 else if 256 < v.on then 4 else 0) := by rw [h.2.1.len, h.2.2.len]; rfl
  unfold RunPost at HR
  generalize l.err = LER at *
  generalize (runL l.start l.ops l.und).er = ER at *
  generalize (runL l.start l.ops l.und).st = ST at *
  generalize (runL l.start l.ops l.und).sk = SK at *
  generalize listsErr l.start l.ops l.und = LE at *
  generalize l.start.err = E at *
  clear h hm hE
  obtain ⟨⟨sec, sa, sn, sc, ta, tn, tc, ca, cn, cc⟩, oa, on, oc, ua, un, uc⟩ := v
  change Calls _ _ #[.agg #[.string sec, .slice sa sn sc, .slice ta tn tc, .slice ca cn cc, .slice oa on oc, .slice ua un uc]] _ _
  change Hid (∀ W, _ -> Calls _ _ #[.agg #[.string sec, .slice sa sn sc, .slice ta tn tc, .slice ca cn cc], .slice oa on oc, .slice ua un uc] _ _) at HC
  change Hid (∀ W, _ -> _ -> Calls _ _ #[.agg #[.string sec, .slice sa sn sc, .slice ta tn tc, .slice ca cn cc], .slice oa on oc, .slice ua un uc] _ _) at HR
  dsimp only at HL
  have hb0 : Below w.heap.size w (w.alloc (.cells #[.string sec, .slice sa sn sc, .slice ta tn tc, .slice ca cn cc, .slice oa on oc, .slice ua un uc] 30)) := (Below.refl _ _).alloc (Nat.le_refl _) _
  obtain ⟨c0, c1, c2, c3, c4, c5⟩ := box_cells6 (World.alloc_heap_new w (.cells #[.string sec, .slice sa sn sc, .slice ta tn tc, .slice ca cn cc, .slice oa on oc, .slice ua un uc] 30))
  have HCC := hiq (HC.out _ hb0)
  clear HC
  go_enter Tryz.func21, Tryz.ntmps21
  go_wp2_with fail
  generalize w.alloc (.cells #[.string sec, .slice sa sn sc, .slice ta tn tc, .slice ca cn cc, .slice oa on oc, .slice ua un uc] 30) = W1 at *
  refine HCC.out.mono ?_
  rintro e W2 ⟨rfl, hb2⟩
  have hb3 := hb0.trans (hb2.mono hb0.size)
  replace c0 := clq hb2 c0; replace c1 := clq hb2 c1; replace c2 := clq hb2 c2; replace c3 := clq hb2 c3; replace c4 := clq hb2 c4; replace c5 := clq hb2 c5
  clear HCC hb0 hb2
  by_cases e0 : LE = 0
  · have t0 : ((LE : Int) != 0) = false := by simp [e0]
    have HRQ := hiq (HR.out _ hb3 (by exact e0))
    clear HR
    go_wp2_with fail
    refine HRQ.out.mono ?_
    rintro e W3 ⟨v2, a, n, c, he, hR3, hN3, hb4⟩
    obtain ⟨sec2, sa2, sn2, sc2, ta2, tn2, tc2, ca2, cn2, cc2⟩ := v2
    change e = .returned (.tuple #[.agg #[.string sec2, .slice sa2 sn2 sc2, .slice ta2 tn2 tc2, .slice ca2 cn2 cc2], .slice a n c, .int .i64 ER]) at he
    subst he
    have hal : Below W3.heap.size W3 (W3.alloc (.cells #[.string sec2, .slice sa2 sn2 sc2, .slice ta2 tn2 tc2, .slice ca2 cn2 cc2] 26)) := (Below.refl _ _).alloc (Nat.le_refl _) _
    have hb5 := hb3.trans ((hb4.trans (hal.mono hb4.size)).mono hb3.size)
    clear hR3 hN3 hb4 hal c0 c1 c2 c3 c4 c5
    go_wp2
    go_ret
    exact ⟨by rw [HE2.out, e0]; rfl, hb5⟩
  · have t0 : ((LE : Int) != 0) = true := by simpa using e0
    go_wp2
    go_ret
    exact ⟨by rw [HE2.out, if_pos e0]; rfl, hb3⟩
end Go.Proofs.YtfdipkhbemgojaaGreatDoor
namespace Go.Proofs.YtfdipkhbemgojaaGreatDoor
open Go.RowKit

abbrev put6 (W : World) (b : Nat) (d0 d1 d2 d3 d4 d5 : Value) : World := (put4 W b d0 d1 d2 d3).setCell ⟨b, 4, none⟩ d4 |>.setCell ⟨b, 5, none⟩ d5
theorem put6_at {W : World} {b : Nat} {c0 c1 c2 c3 c4 c5 : Value} {t : TypeId} {fr : Nat × Nat} (h : W.heap[b]? = some (.cells #[c0, c1, c2, c3, c4, c5] t fr)) (d0 d1 d2 d3 d4 d5 : Value) : (put6 W b d0 d1 d2 d3 d4 d5).heap[b]? = some (.cells #[d0, d1, d2, d3, d4, d5] t fr) := by
  have h0 := heap_set_at (j := 0) h d0
  have h1 := heap_set_at (j := 1) h0 d1
  have h2 := heap_set_at (j := 2) h1 d2
  have h3 := heap_set_at (j := 3) h2 d3
  have h4 := heap_set_at (j := 4) h3 d4
  have h5 := heap_set_at (j := 5) h4 d5
  rw [h5]; rfl
theorem put6_other {W : World} {b b' : Nat} (hb : b' ≠ b) (d0 d1 d2 d3 d4 d5 : Value) : (put6 W b d0 d1 d2 d3 d4 d5).heap[b']? = W.heap[b']? := by
  have hh : ∀ (W : World) (j : Nat) (v : Value), (W.setCell ⟨b, j, none⟩ v).heap[b']? = W.heap[b']? := fun W j v => Below.heap_setCell _ _ _ _ (by simpa using hb)
  rw [hh, hh, hh, hh, hh, hh]
theorem put6_below {n : Nat} {A W : World} (h : Below n A W) {b : Nat} (hb : n <= b) (d0 d1 d2 d3 d4 d5 : Value) : Below n A (put6 W b d0 d1 d2 d3 d4 d5) :=
  ((put4_below h hb d0 d1 d2 d3).setCell (p := ⟨b, 4, none⟩) hb _).setCell (p := ⟨b, 5, none⟩) hb _
theorem put6_keep {S : Nat -> Prop} {W : World} {b : Nat} (hb : ¬ S b) (d0 d1 d2 d3 d4 d5 : Value) : KeepS S W (put6 W b d0 d1 d2 d3 d4 d5) :=
  ((put4_keep hb d0 d1 d2 d3).trans (KeepS.setCell _ hb _)).trans (KeepS.setCell _ hb _)
theorem clone_ops (S : Nat -> Prop) (a : Option Addr) (n c : Nat) (l : List Op) (w : World) (h : Opsq S w a n c l) : Calls Tryz.prog 35 #[.slice a n c] w fun e w' => ∃ a' c', e = .returned (.slice a' n c') /\ OwnQ 32 5 Op.cells w' w.heap.size a' n c' l /\ Below w.heap.size w w' := by
  cases a with
  | none =>
    obtain ⟨rfl, rfl⟩ := h.none_nil
    have hnil : (binOp .eql 27 (.slice none 0 c) (.slice none 0 0)).run Tryz.prog w = .ok (.bool true) w := Lib.run_eql_slice_nil w 27 32 none 0 c 0 0 Tryz.underlying27
    go_enter Tryz.func35, Tryz.ntmps35
    go_wp2
    go_ret
    exact ⟨none, 0, rfl, OwnQ.nil _ _ _ _ _, Below.refl _ _⟩
  | some ad =>
    have hb := h.bound
    have HL0 := hiq (OwnQ.lit0 32 5 Op.cells w w.heap.size (Nat.le_refl _))
    have hd1 : Below w.heap.size w (w.alloc (.cells #[] 32)) := (Below.refl _ _).alloc (Nat.le_refl _) _
    have HSQ := hiq (h.below rOpn_ok hd1)
    have hB1 : w.heap.size <= (w.alloc (.cells #[] 32)).heap.size := hd1.size
    have HI := infoO
    have hnil : (binOp .eql 27 (.slice (some ad) n c) (.slice none 0 0)).run Tryz.prog w = .ok (.bool false) w := Lib.run_eql_slice_nil w 27 32 (some ad) n c 0 0 Tryz.underlying27
    clear h
    go_enter Tryz.func35, Tryz.ntmps35
    go_wp2_with (at_builtin; refine wpList_appR (l := []) (ys := l) HI Tryz.underlying27 rfl (by omega) op_len op_one rfl _ _ rfl rfl rfl HL0.out HSQ.out (fun _ _ h => h.1) (by unfold maxLen; omega) (by omega) hB1 hd1 ?_; intro a5 c5 w5 ho5 hb5 hg5 hv5)
    rw [List.nil_append] at ho5
    simp only [Nat.zero_add] at ho5 ⊢
    go_ret
    exact ⟨a5, c5, rfl, ho5, hb5⟩
theorem clone_flgs (S : Nat -> Prop) (a : Option Addr) (n c : Nat) (l : List Bool) (w : World) (h : Flgs S w a n c l) : Calls Tryz.prog 37 #[.slice a n c] w fun e w' => ∃ a' c', e = .returned (.slice a' n c') /\ OwnQ 4 1 encB w' w.heap.size a' n c' l /\ Below w.heap.size w w' := by
  cases a with
  | none =>
    obtain ⟨rfl, rfl⟩ := h.none_nil
    have hnil : (binOp .eql 28 (.slice none 0 c) (.slice none 0 0)).run Tryz.prog w = .ok (.bool true) w := Lib.run_eql_slice_nil w 28 4 none 0 c 0 0 Tryz.underlying28
    go_enter Tryz.func37, Tryz.ntmps37
    go_wp2
    go_ret
    exact ⟨none, 0, rfl, OwnQ.nil _ _ _ _ _, Below.refl _ _⟩
  | some ad =>
    have hb := h.bound
    have HL0 := hiq (OwnQ.lit0 4 1 encB w w.heap.size (Nat.le_refl _))
    have hd1 : Below w.heap.size w (w.alloc (.cells #[] 4)) := (Below.refl _ _).alloc (Nat.le_refl _) _
    have HSQ := hiq (h.below rBool_ok hd1)
    have hB1 : w.heap.size <= (w.alloc (.cells #[] 4)).heap.size := hd1.size
    have HI := infoB
    have hnil : (binOp .eql 28 (.slice (some ad) n c) (.slice none 0 0)).run Tryz.prog w = .ok (.bool false) w := Lib.run_eql_slice_nil w 28 4 (some ad) n c 0 0 Tryz.underlying28
    clear h
    go_enter Tryz.func37, Tryz.ntmps37
    go_wp2_with (at_builtin; refine wpList_appR (l := []) (ys := l) HI Tryz.underlying28 rfl (by omega) (fun _ => rfl) one_b rfl _ _ rfl rfl rfl HL0.out HSQ.out (fun _ _ h => h) (by unfold maxLen; omega) (by omega) hB1 hd1 ?_; intro a5 c5 w5 ho5 hb5 hg5 hv5)
    rw [List.nil_append] at ho5
    simp only [Nat.zero_add] at ho5 ⊢
    go_ret
    exact ⟨a5, c5, rfl, ho5, hb5⟩
theorem OwnQ.flgs {S : Nat -> Prop} {w : World} {B n cap : Nat} {a : Option Addr} {l : List Bool} (h : OwnQ 4 1 encB w B a n cap l) (hn : n <= 140737488355328) (hS : ∀ b, B <= b -> b < w.heap.size -> S b) : Flgs S w a n cap l :=
  h.sq (R := rBool) (s := 1) (fun _ => rfl) (by omega) (fun x hx => hS _ (h.lt x hx).1 (h.lt x hx).2) (fun _ _ => rfl)
theorem OwnQ.opsq {S : Nat -> Prop} {w : World} {B n cap : Nat} {a : Option Addr} {l : List Op} (h : OwnQ 32 5 Op.cells w B a n cap l) (hn : n * 56 <= 140737488355328) (hS : ∀ b, B <= b -> b < w.heap.size -> S b) (hk : ∀ o ∈ l, o.ok) : Opsq S w a n cap l :=
  h.sq (R := rOpn) (s := 56) op_len hn (fun x hx => hS _ (h.lt x hx).1 (h.lt x hx).2) (fun o ho => ⟨rfl, hk o ho⟩)
theorem one_bool : ∀ x : Bool, ∃ v, encB x = [v] := fun x => ⟨_, rfl⟩
/-- What set and with answer. -/
def SetPost (S : Nat -> Prop) (l : Lg) (i : Nat) (b : Bool) (w : World) (e : Ending) (w' : World) : Prop :=
  ∃ v' : LV, e = .returned v'.val /\ RdL (fun b => S b \/ w.heap.size <= b) w' v' (l.set i b) /\ Below w.heap.size w w'
theorem with_any (S : Nat -> Prop) (v : LV) (l : Lg) (i : Nat) (b : Bool) (w : World) (h : RdL S w v l) (hi : i < l.und.length) : Calls Tryz.prog 67 #[v.val, .int .i64 (i : Int), .bool b] w (SetPost S l i b w) := by
  have h := h.mono (S' := fun b => S b /\ b < w.heap.size) (fun b q q' => ⟨q, q'⟩)
  have hil : i < v.un := by rw [h.2.2.len]; exact hi
  have hub := h.2.2.bound
  have hob := h.2.1.bound
  have HX := hiq h
  have HCO : Hid (∀ W, Below w.heap.size w W -> Calls Tryz.prog 35 #[.slice v.oa v.on v.oc] W fun e w' => ∃ a' c', e = .returned (.slice a' v.on c') /\ OwnQ 32 5 Op.cells w' W.heap.size a' v.on c' l.ops /\ Below W.heap.size W w') := fun W hb => clone_ops _ _ _ _ _ W (h.2.1.below rOpn_ok hb)
  have HCB : Hid (∀ W, Below w.heap.size w W -> Calls Tryz.prog 37 #[.slice v.ua v.un v.uc] W fun e w' => ∃ a' c', e = .returned (.slice a' v.un c') /\ OwnQ 4 1 encB w' W.heap.size a' v.un c' l.und /\ Below W.heap.size W w') := fun W hb => clone_flgs _ _ _ _ _ W (h.2.2.below rBool_ok hb)
  have hok := hiq (opsq_ok h.2.1)
  obtain ⟨V, hV⟩ : ∃ V, V = v := ⟨_, rfl⟩
  rw [<- hV] at HX
  clear h hi
  obtain ⟨⟨sec, sa, sn, sc, ta, tn, tc, ca, cn, cc⟩, oa, on, oc, ua, un, uc⟩ := v
  have hVe : Hid (V = ⟨⟨sec, sa, sn, sc, ta, tn, tc, ca, cn, cc⟩, oa, on, oc, ua, un, uc⟩) := hV
  clear hV
  dsimp only at hil hub hob HCO HCB
  change Calls _ _ #[.agg #[.string sec, .slice sa sn sc, .slice ta tn tc, .slice ca cn cc, .slice oa on oc, .slice ua un uc], _, _] _ _
  obtain ⟨W1, hW1, hb0, hs1, gX, gR⟩ := box2r w #[.string sec, .slice sa sn sc, .slice ta tn tc, .slice ca cn cc, .slice oa on oc, .slice ua un uc] #[.string ⟨#[]⟩, .slice none 0 0, .slice none 0 0, .slice none 0 0, .slice none 0 0, .slice none 0 0] 30 30
  obtain ⟨c0, c1, c2, c3, c4, c5⟩ := box_cells6 gX
  rw [hW1] at c0 c1 c2 c3 c4 c5
  go_enter Tryz.func67, Tryz.ntmps67
  go_wp2_with fail
  rw [<- hW1] at *
  clear hW1
  obtain ⟨X, Wf, hX, hS1, hS2⟩ := family (fun U : World => U.cell? ⟨w.heap.size, 5, none⟩ = some (.slice ua un uc)) W1.drew c5
  have HS2 := hiq hS2
  have q_c5 := hS1
  clear hS1 hS2
  have hd0 : Below W1.heap.size W1 W1.drew := (Below.refl _ _).drew
  refine wp_region_tree (Wf := Wf) 9 (.read 0 (.read 3 (.read 4 (.act 1 (.act 2 (.read 6 (.act 5 (.act 7 (.read 8 .fin))))))))) (by kernel_rfl) (by kernel_rfl) (fun _ _ d _ _ h => by cases d <;> exact h) (HS2.out _ c5) ?_
  refine wpTree_read _ rfl (fun K hK => ?_); unfold rOp; go_simp; (refine hK _ ?_; clear hK K)
  refine wpTree_read _ rfl (fun K hK => ?_); unfold rOp; go_simp; (refine hK _ ?_; clear hK K)
  refine wpTree_read _ rfl (fun K hK => ?_); unfold rOp; go_simp; (refine hK _ ?_; clear hK K)
  clear q_c5
  replace c4 := clq hd0 c4; replace c5 := clq hd0 c5
  have gXd := (hd0.block _ (by omega)).trans gX
  have gRd := (hd0.block _ (by omega)).trans gR
  have hbd := hb0.trans (hd0.mono hb0.size)
  have hsd := hd0.size
  generalize W1.drew = WD at *
  clear hd0 hb0 gX gR c0 c1 c2 c3
  refine wpTree_act _ rfl ?_
  go_wp2_with fail
  refine ⟨HS2.out _ c5, wpTree_act _ rfl ?_⟩
  have HC1 := hiq (HCO.out _ hbd)
  go_wp2_with fail
  refine HC1.out.mono ?_
  rintro e W2 ⟨a1, k1, rfl, hO, hb2⟩
  have hOlt : ∀ y, a1 = some y -> y.block < W2.heap.size := fun y hy => (hO.lt y hy).2
  replace c5 := clq hb2 c5
  go_wp2_with fail
  refine ⟨HS2.out _ c5, ?_⟩
  refine wpTree_read _ rfl (fun K hK => ?_); unfold rOp; go_simp; (refine hK _ ?_; clear hK K)
  refine wpTree_act _ rfl ?_
  have HC2 := hiq (HCB.out _ (hbd.trans (hb2.mono hbd.size)))
  go_wp2_with fail
  refine HC2.out.mono ?_
  rintro e W3 ⟨a2, k2, rfl, hU, hb3⟩
  have hd2 := hb2.trans (hb3.mono hb2.size)
  have hs2 := hb2.size
  have hs3 := hb3.size
  have hOf := hO.below hb3
  replace c5 := clq hb3 c5
  have gX3 := (hd2.block _ (by omega)).trans gXd
  have gR3 := (hd2.block _ (by omega)).trans gRd
  have hbw := hbd.trans (hd2.mono hbd.size)
  go_wp2_with fail
  refine ⟨HS2.out _ c5, ?_⟩
  obtain ⟨c0, c1, c2, c3, c4, c5⟩ := box_cells6 gX3
  have f4 := frozen5 gX3 4
  have f5 := frozen5 gX3 5
  have gX4 := heap_set_at (j := 4) gX3 (.slice a1 on k1)
  have f45 := frozen5 gX4 5
  have c45 := (box_cells6 gX4).2.2.2.2.2
  refine wpTree_act _ rfl ?_
  clear HC1 HC2 HCO HCB hb2 hb3 hO hd2 hbd gXd gRd
  go_wp2_with fail
  refine ⟨HS2.out _ c45, ?_⟩
  refine wpTree_read _ rfl (fun K hK => ?_); unfold rOp; go_simp; (refine hK _ ?_; clear hK K)
  refine wpTree_fin ?_
  have gX5 := heap_set_at (j := 5) gX4 (.slice a2 un k2)
  have hoth : ∀ b, b ≠ w.heap.size -> ((W3.setCell ⟨w.heap.size, 4, none⟩ (.slice a1 on k1)).setCell ⟨w.heap.size, 5, none⟩ (.slice a2 un k2)).heap[b]? = W3.heap[b]? := fun b hb => by
    rw [heap_setCell_other hb, heap_setCell_other hb]
  have gR5 := (hoth (w.heap.size + 1) (by omega)).trans gR3
  have hO5 := hOf.same (fun y hy => hoth _ (by have := (hOf.lt y hy).1; omega))
  have hU5 := hU.same (fun y hy => hoth _ (by have := (hU.lt y hy).1; omega))
  have hb5 := below_setc (below_setc hbw (Nat.le_refl _) 4 (.slice a1 on k1)) (Nat.le_refl _) 5 (.slice a2 un k2)
  have hsz5 : ((W3.setCell ⟨w.heap.size, 4, none⟩ (.slice a1 on k1)).setCell ⟨w.heap.size, 5, none⟩ (.slice a2 un k2)).heap.size = W3.heap.size := by simp [World.setCell]
  have H5 := hiq (And.intro gX5 (And.intro gR5 (And.intro hO5 (And.intro hU5 (And.intro hb5 hsz5)))))
  obtain ⟨ux, g5, hux, -, eg5, hgB, hgl, hgf, hgc⟩ := hU5.at_ (fun _ => rfl) hil
  have hag : ∀ y, a1 = some y -> y.block ≠ g5 := fun y hy => by have := hOlt y hy; omega
  replace hgc := hgc 0 _ rfl
  rw [Nat.mul_one, Nat.add_zero] at hgc
  replace hgf := hgf i
  subst eg5
  clear hoth gX5 gR5 hO5 hU5 hb5 c0 c1 c2 c3 gX4 gX3 gR3 hU hbw hux
  obtain ⟨gX5, gR5, hO5, hU5, hb5, hsz5⟩ := H5.out
  change ((W3.setCell ⟨w.heap.size, 4, none⟩ (.slice a1 on k1)).setCell ⟨w.heap.size, 5, none⟩ (.slice (some ⟨g5, 0, none⟩) un k2)).heap[w.heap.size]? = some (.cells #[.string sec, .slice sa sn sc, .slice ta tn tc, .slice ca cn cc, .slice a1 on k1, .slice (some ⟨g5, 0, none⟩) un k2] 30 (0, 0)) at gX5
  obtain ⟨-, -, -, -, -, c5⟩ := box_cells6 gX5
  have gX6 := (heap_setCell_other (b := g5) (j := i) (b' := w.heap.size) (by omega) (.bool b)).trans gX5
  have gR6 := (heap_setCell_other (b := g5) (j := i) (b' := w.heap.size + 1) (by omega) (.bool b)).trans gR5
  obtain ⟨d0, d1, d2, d3, d4, d5⟩ := box_cells6 gX6
  obtain ⟨y0, y1, y2, y3, y4, y5⟩ := box_cells6 gR6
  have yf0 := frozen5 gR6 0
  have yf1 := frozen5 gR6 1
  have yf2 := frozen5 gR6 2
  have yf3 := frozen5 gR6 3
  have yf4 := frozen5 gR6 4
  have yf5 := frozen5 gR6 5
  have hO6 := hU5.put1 one_bool i b (.bool b) rfl
  have hQ6 := hO5.setOther (g := g5) (j := i) hag (.bool b)
  have hbw6 := hb5.setCell (p := ⟨g5, i, none⟩) (by show w.heap.size <= g5; omega) (.bool b)
  have hbf := put6_below hbw6 (b := w.heap.size + 1) (by omega) (.string sec) (.slice sa sn sc) (.slice ta tn tc) (.slice ca cn cc) (.slice a1 on k1) (.slice (some ⟨g5, 0, none⟩) un k2)
  obtain ⟨r0, r1, r2, r3, r4, r5⟩ := box_cells6 (put6_at gR6 (.string sec) (.slice sa sn sc) (.slice ta tn tc) (.slice ca cn cc) (.slice a1 on k1) (.slice (some ⟨g5, 0, none⟩) un k2))
  have hO7 := hO6.same (w' := put6 (((W3.setCell ⟨w.heap.size, 4, none⟩ (.slice a1 on k1)).setCell ⟨w.heap.size, 5, none⟩ (.slice (some ⟨g5, 0, none⟩) un k2)).setCell ⟨g5, i, none⟩ (.bool b)) (w.heap.size + 1) (.string sec) (.slice sa sn sc) (.slice ta tn tc) (.slice ca cn cc) (.slice a1 on k1) (.slice (some ⟨g5, 0, none⟩) un k2)) (fun y hy => by cases hy; exact put6_other (by show g5 ≠ _; omega) _ _ _ _ _ _)
  have hQ7 := hQ6.same (w' := put6 (((W3.setCell ⟨w.heap.size, 4, none⟩ (.slice a1 on k1)).setCell ⟨w.heap.size, 5, none⟩ (.slice (some ⟨g5, 0, none⟩) un k2)).setCell ⟨g5, i, none⟩ (.bool b)) (w.heap.size + 1) (.string sec) (.slice sa sn sc) (.slice ta tn tc) (.slice ca cn cc) (.slice a1 on k1) (.slice (some ⟨g5, 0, none⟩) un k2)) (fun y hy => put6_other (by have := (hQ6.lt y hy).1; omega) _ _ _ _ _ _)
  have HALL := hiq (And.intro hbf (And.intro (And.intro r0 (And.intro r1 (And.intro r2 (And.intro r3 (And.intro r4 r5))))) (And.intro hO7 hQ7)))
  have hws := hbw6.size
  clear hbf r0 r1 r2 r3 r4 r5 hO7 hQ7 hO6 hQ6 hU5 hO5 gX5 gR5 gX6 gR6 hb5 hbw6
  go_wp2
  change bodyPost _ _ _ _ _ (put6 (((W3.setCell ⟨w.heap.size, 4, none⟩ (.slice a1 on k1)).setCell ⟨w.heap.size, 5, none⟩ (.slice (some ⟨g5, 0, none⟩) un k2)).setCell ⟨g5, i, none⟩ (.bool b)) (w.heap.size + 1) (.string sec) (.slice sa sn sc) (.slice ta tn tc) (.slice ca cn cc) (.slice a1 on k1) (.slice (some ⟨g5, 0, none⟩) un k2))
  obtain ⟨hbf, ⟨r0, r1, r2, r3, r4, r5⟩, hO7, hQ7⟩ := HALL.out
  generalize put6 (((W3.setCell ⟨w.heap.size, 4, none⟩ (.slice a1 on k1)).setCell ⟨w.heap.size, 5, none⟩ (.slice (some ⟨g5, 0, none⟩) un k2)).setCell ⟨g5, i, none⟩ (.bool b)) (w.heap.size + 1) (.string sec) (.slice sa sn sc) (.slice ta tn tc) (.slice ca cn cc) (.slice a1 on k1) (.slice (some ⟨g5, 0, none⟩) un k2) = WF at *
  refine bodyPost_ret (v := .agg #[.string sec, .slice sa sn sc, .slice ta tn tc, .slice ca cn cc, .slice a1 on k1, .slice (some ⟨g5, 0, none⟩) un k2]) (by simp [results, Tryz.results67, go_sem, r0, r1, r2, r3, r4, r5]) rfl ?_
  have hXf := HX.out.below hbf
  rw [hVe.out] at hXf
  refine ⟨⟨⟨sec, sa, sn, sc, ta, tn, tc, ca, cn, cc⟩, a1, on, k1, some ⟨g5, 0, none⟩, un, k2⟩, rfl, ⟨hXf.1.mono (fun b q _ => .inl q.1), ?_, ?_⟩, hbf⟩
  · exact hQ7.opsq (by omega) (fun b q _ => .inr (by omega)) hok.out
  · exact hO7.flgs (by omega) (fun b q _ => .inr (by omega))
end Go.Proofs.YtfdipkhbemgojaaGreatDoor
