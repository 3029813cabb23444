/- Joined: OLck. -/
import Derived.Test.YtfdipkhbemgojaaGreatDoorR32
import Derived.Test.YtfdipkhbemgojaaGreatDoorR31
set_option linter.unusedVariables false
set_option linter.unusedSimpArgs false
set_option maxRecDepth 100000
set_option maxHeartbeats 16000000
namespace Go.Proofs.YtfdipkhbemgojaaGreatDoor
open Go.RowKit

theorem box2r (w : World) (C D : Array Value) (tc td : TypeId) : ∃ W, W = ((w.alloc (.cells C tc)).alloc (.cells D td)) /\ Below w.heap.size w W /\ W.heap.size = w.heap.size + 2 /\
    W.heap[w.heap.size]? = some (.cells C tc (0, 0)) /\ W.heap[w.heap.size + 1]? = some (.cells D td (0, 0)) := by
  have q1 := World.alloc_heap_new w (.cells C tc)
  have q2 : Below (w.heap.size + 1) (w.alloc (.cells C tc)) ((w.alloc (.cells C tc)).alloc (.cells D td)) := (Below.refl _ _).alloc (by simp) _
  have q3 := World.alloc_heap_new (w.alloc (.cells C tc)) (.cells D td)
  refine ⟨_, rfl, ((Below.refl _ _).alloc (Nat.le_refl _) _).alloc (by simp) _, by simp, (q2.block _ (by omega)).trans q1, by simpa using q3⟩
/-- What State answers. -/
def StatePost (S : Nat -> Prop) (l : Lg) (w : World) (e : Ending) (w' : World) : Prop :=
  ∃ v' : CV, e = .returned (.tuple #[v'.val, .int .i64 l.state.2]) /\ RdC (fun b => S b \/ w.heap.size <= b) w' v' l.state.1 /\ Below w.heap.size w w'
theorem lists_ref (S : Nat -> Prop) (v : CV) (x : Col) (oa : Option Addr) (on oc : Nat) (ua : Option Addr) (un uc : Nat) (ops : List Op) (und : List Bool) (w : World) (h : RdC S w v x) (hon : on = ops.length) (hun : un = und.length) (hm : Sml x) :
    Calls Tryz.prog 57 #[v.val, .slice oa on oc, .slice ua un uc] w fun e w' => e = .returned (.int .i64 (listsErr x ops und)) /\ Below w.heap.size w w' := by
  have HC : Hid (∀ W, Below w.heap.size w W -> Calls Tryz.prog 39 #[v.val] W fun e w' => e = .returned (.int .i64 x.err) /\ Below W.heap.size W w') := fun W hb => check_ref S v x W (h.below hb) hm
  have HL : Hid (listsErr x ops und = if x.err ≠ 0 then 1 else if on ≠ un then 9 else if 256 < on then 4 else 0) := by rw [hon, hun]; rfl
  generalize listsErr x ops und = LE at *
  generalize x.err = E at *
  clear h hm hon hun
  obtain ⟨sec, sa, sn, sc, ta, tn, tc, ca, cn, cc⟩ := v
  change Calls _ _ #[.agg #[.string sec, .slice sa sn sc, .slice ta tn tc, .slice ca cn cc], _, _] _ _
  change Hid (∀ W, _ -> Calls _ _ #[.agg #[.string sec, .slice sa sn sc, .slice ta tn tc, .slice ca cn cc]] _ _) at HC
  have hb0 : Below w.heap.size w (w.alloc (.cells #[.string sec, .slice sa sn sc, .slice ta tn tc, .slice ca cn cc] 26)) := (Below.refl _ _).alloc (Nat.le_refl _) _
  obtain ⟨c0, c1, c2, c3, -⟩ := box_cells4 (World.alloc_heap_new w (.cells #[.string sec, .slice sa sn sc, .slice ta tn tc, .slice ca cn cc] 26))
  have HCC := hiq (HC.out _ hb0)
  clear HC
  go_enter Tryz.func57, Tryz.ntmps57
  go_wp2_with fail
  generalize w.alloc (.cells #[.string sec, .slice sa sn sc, .slice ta tn tc, .slice ca cn cc] 26) = W1 at *
  refine HCC.out.mono ?_
  rintro e W2 ⟨rfl, hb2⟩
  have hb3 := hb0.trans (hb2.mono hb0.size)
  clear HCC hb0 hb2 c0 c1 c2 c3
  by_cases e0 : E = 0
  · have t0 : ((E : Int) != 0) = false := by simp [e0]
    by_cases e1 : on = un
    · have t1 : ((on : Int) != (un : Int)) = false := by simp [e1]
      by_cases e2 : 256 < on
      · have HF : Hid (E = 0 /\ on = un) := ⟨e0, e1⟩
        clear e0 e1
        go_wp2
        go_ret
        exact ⟨by rw [HL.out]; simp [HF.out.1, HF.out.2, show 256 < un by rw [<- HF.out.2]; exact e2], hb3⟩
      · have HF : Hid (E = 0 /\ on = un) := ⟨e0, e1⟩
        clear e0 e1
        go_wp2
        go_ret
        exact ⟨by rw [HL.out]; simp [HF.out.1, HF.out.2, show ¬ 256 < un by rw [<- HF.out.2]; exact e2], hb3⟩
    · have t1 : ((on : Int) != (un : Int)) = true := by simp; omega
      have HF : Hid (E = 0) := e0
      clear e0
      go_wp2
      go_ret
      exact ⟨by rw [HL.out]; simp [HF.out, e1], hb3⟩
  · have t0 : ((E : Int) != 0) = true := by simpa using e0
    go_wp2
    go_ret
    exact ⟨by rw [HL.out]; simp [e0], hb3⟩
theorem lck_any (S : Nat -> Prop) (v : LV) (l : Lg) (w : World) (h : RdL S w v l) (hm : SmL l) (hE : Env w) : Calls Tryz.prog 20 #[v.val] w fun e w' => e = .returned (.int .i64 l.err) /\ Below w.heap.size w w' := by
  have HC : Hid (∀ W, Below w.heap.size w W -> Calls Tryz.prog 44 #[v.c.val] W fun e w' => e = .returned (.int .i64 l.start.err) /\ Below W.heap.size W w') := fun W hb => check_any S v.c l.start W (h.1.below hb) hm.1 (hE.below hb)
  have HR : Hid (∀ W, Below w.heap.size w W -> listsErr l.start l.ops l.und = 0 -> Calls Tryz.prog 54 #[v.c.val, .slice v.oa v.on v.oc, .slice v.ua v.un v.uc] W (RunPost S l.start l.ops l.und W)) := fun W hb h0 => replay_any S v.c l.start _ _ _ _ _ _ l.ops l.und W (h.1.below hb) (h.2.1.below rOpn_ok hb) (h.2.2.below rBool_ok hb) (lists_zero.1 h0).2.1 hm.1 hm.2 (by have := h.2.1.len; have := (lists_zero.1 h0).2.2; omega) (hE.below hb)
  have HE2 : Hid (l.err = if listsErr l.start l.ops l.und ≠ 0 then listsErr l.start l.ops l.und else (runL l.start l.ops l.und).er) := rfl
  have HL : Hid (listsErr l.start l.ops l.und = if l.start.err ≠ 0 then 1 else if v.on ≠ v.un then 9 else if 256 < v.on then 4 else 0) := by rw [h.2.1.len, h.2.2.len]; rfl
  unfold RunPost at HR
  generalize l.err = LER at *
  generalize (runL l.start l.ops l.und).er = ER at *
  generalize (runL l.start l.ops l.und).st = ST at *
  generalize (runL l.start l.ops l.und).sk = SK at *
  generalize listsErr l.start l.ops l.und = LE at *
  generalize l.start.err = E at *
  clear h hm hE
  obtain ⟨⟨sec, sa, sn, sc, ta, tn, tc, ca, cn, cc⟩, oa, on, oc, ua, un, uc⟩ := v
  change Calls _ _ #[.agg #[.string sec, .slice sa sn sc, .slice ta tn tc, .slice ca cn cc, .slice oa on oc, .slice ua un uc]] _ _
  change Hid (∀ W, _ -> Calls _ _ #[.agg #[.string sec, .slice sa sn sc, .slice ta tn tc, .slice ca cn cc]] _ _) at HC
  change Hid (∀ W, _ -> _ -> Calls _ _ #[.agg #[.string sec, .slice sa sn sc, .slice ta tn tc, .slice ca cn cc], .slice oa on oc, .slice ua un uc] _ _) at HR
  dsimp only at HL
  have hb0 : Below w.heap.size w (w.alloc (.cells #[.string sec, .slice sa sn sc, .slice ta tn tc, .slice ca cn cc, .slice oa on oc, .slice ua un uc] 30)) := (Below.refl _ _).alloc (Nat.le_refl _) _
  obtain ⟨c0, c1, c2, c3, c4, c5⟩ := box_cells6 (World.alloc_heap_new w (.cells #[.string sec, .slice sa sn sc, .slice ta tn tc, .slice ca cn cc, .slice oa on oc, .slice ua un uc] 30))
  have HCC := hiq (HC.out _ hb0)
  clear HC
  go_enter Tryz.func20, Tryz.ntmps20
  go_wp2_with fail
  generalize w.alloc (.cells #[.string sec, .slice sa sn sc, .slice ta tn tc, .slice ca cn cc, .slice oa on oc, .slice ua un uc] 30) = W1 at *
  refine HCC.out.mono ?_
  rintro e W2 ⟨rfl, hb2⟩
  have hb3 := hb0.trans (hb2.mono hb0.size)
  replace c0 := clq hb2 c0; replace c1 := clq hb2 c1; replace c2 := clq hb2 c2; replace c3 := clq hb2 c3; replace c4 := clq hb2 c4; replace c5 := clq hb2 c5
  clear HCC hb0 hb2
  by_cases e0 : E = 0
  · have t0 : ((E : Int) != 0) = false := by simp [e0]
    by_cases e1 : on = un
    · have t1 : ((on : Int) != (un : Int)) = false := by simp [e1]
      by_cases e2 : 256 < on
      · have HF : Hid (E = 0 /\ on = un) := ⟨e0, e1⟩
        clear e0 e1
        go_wp2
        go_ret
        exact ⟨by rw [HE2.out, HL.out]; simp [HF.out.1, HF.out.2, show 256 < un by rw [<- HF.out.2]; exact e2], hb3⟩
      · have HF : Hid (E = 0 /\ on = un) := ⟨e0, e1⟩
        clear e0 e1
        have hle : LE = 0 := by rw [HL.out]; simp [HF.out.1, HF.out.2, show ¬ 256 < un by rw [<- HF.out.2]; exact e2]
        have HRQ := hiq (HR.out _ hb3 (by exact hle))
        clear HR
        go_wp2_with fail
        refine HRQ.out.mono ?_
        rintro e W3 ⟨v2, a, n, c, he, hR3, hN3, hb4⟩
        obtain ⟨sec2, sa2, sn2, sc2, ta2, tn2, tc2, ca2, cn2, cc2⟩ := v2
        change e = .returned (.tuple #[.agg #[.string sec2, .slice sa2 sn2 sc2, .slice ta2 tn2 tc2, .slice ca2 cn2 cc2], .slice a n c, .int .i64 ER]) at he
        subst he
        have hal : Below W3.heap.size W3 (W3.alloc (.cells #[.string sec2, .slice sa2 sn2 sc2, .slice ta2 tn2 tc2, .slice ca2 cn2 cc2] 26)) := (Below.refl _ _).alloc (Nat.le_refl _) _
        have hb5 := hb3.trans ((hb4.trans (hal.mono hb4.size)).mono hb3.size)
        clear hR3 hN3 hb4 hal c0 c1 c2 c3 c4 c5
        go_wp2
        go_ret
        exact ⟨by rw [HE2.out, hle]; rfl, hb5⟩
    · have t1 : ((on : Int) != (un : Int)) = true := by simp; omega
      have HF : Hid (E = 0) := e0
      clear e0
      go_wp2
      go_ret
      exact ⟨by rw [HE2.out, HL.out]; simp [HF.out, e1], hb3⟩
  · have t0 : ((E : Int) != 0) = true := by simpa using e0
    go_wp2
    go_ret
    exact ⟨by rw [HE2.out, HL.out]; simp [e0], hb3⟩
theorem idx_any (S : Nat -> Prop) (v : LV) (l : Lg) (i : Int) (w : World) (h : RdL S w v l) (hm : SmL l) (hE : Env w) : Calls Tryz.prog 63 #[v.val, .int .i64 i] w fun e w' => e = .returned (.int .i64 (l.idx i)) /\ Below w.heap.size w w' := by
  have HC : Hid (∀ W, Below w.heap.size w W -> Calls Tryz.prog 20 #[v.val] W fun e w' => e = .returned (.int .i64 l.err) /\ Below W.heap.size W w') := fun W hb => lck_any S v l W (h.below hb) hm (hE.below hb)
  have HI : Hid (l.idx i = if l.err ≠ 0 then 1 else if i < 0 \/ (v.on : Int) <= i then 2 else 0) := by rw [h.2.1.len]; rfl
  generalize l.idx i = I at *
  generalize l.err = E at *
  clear h hm hE
  obtain ⟨⟨sec, sa, sn, sc, ta, tn, tc, ca, cn, cc⟩, oa, on, oc, ua, un, uc⟩ := v
  change Calls _ _ #[.agg #[.string sec, .slice sa sn sc, .slice ta tn tc, .slice ca cn cc, .slice oa on oc, .slice ua un uc], _] _ _
  change Hid (∀ W, _ -> Calls _ _ #[.agg #[.string sec, .slice sa sn sc, .slice ta tn tc, .slice ca cn cc, .slice oa on oc, .slice ua un uc]] _ _) at HC
  dsimp only at HI
  have hb0 : Below w.heap.size w (w.alloc (.cells #[.string sec, .slice sa sn sc, .slice ta tn tc, .slice ca cn cc, .slice oa on oc, .slice ua un uc] 30)) := (Below.refl _ _).alloc (Nat.le_refl _) _
  obtain ⟨c0, c1, c2, c3, c4, c5⟩ := box_cells6 (World.alloc_heap_new w (.cells #[.string sec, .slice sa sn sc, .slice ta tn tc, .slice ca cn cc, .slice oa on oc, .slice ua un uc] 30))
  have HCC := hiq (HC.out _ hb0)
  clear HC
  go_enter Tryz.func63, Tryz.ntmps63
  go_wp2_with fail
  generalize w.alloc (.cells #[.string sec, .slice sa sn sc, .slice ta tn tc, .slice ca cn cc, .slice oa on oc, .slice ua un uc] 30) = W1 at *
  refine HCC.out.mono ?_
  rintro e W2 ⟨rfl, hb2⟩
  have hb3 := hb0.trans (hb2.mono hb0.size)
  replace c0 := clq hb2 c0; replace c1 := clq hb2 c1; replace c2 := clq hb2 c2; replace c3 := clq hb2 c3; replace c4 := clq hb2 c4; replace c5 := clq hb2 c5
  clear HCC hb0 hb2
  by_cases e0 : E = 0
  · have t0 : ((E : Int) != 0) = false := by simp [e0]
    by_cases i0 : i < 0
    · go_wp2
      go_ret
      exact ⟨by rw [HI.out]; simp [e0, i0], hb3⟩
    · by_cases i1 : (on : Int) <= i
      · go_wp2
        go_ret
        exact ⟨by rw [HI.out]; simp [e0, i1], hb3⟩
      · have HX : Hid (¬ (i < 0 \/ (on : Int) <= i)) := fun q => q.elim i0 i1
        go_wp2
        go_ret
        exact ⟨by rw [HI.out, if_neg (by simp [e0]), if_neg HX.out]; rfl, hb3⟩
  · have t0 : ((E : Int) != 0) = true := by simpa using e0
    go_wp2
    go_ret
    exact ⟨by rw [HI.out]; simp [e0], hb3⟩
theorem state_any (S : Nat -> Prop) (v : LV) (l : Lg) (w : World) (h : RdL S w v l) (hm : SmL l) (hE : Env w) : Calls Tryz.prog 18 #[v.val] w (StatePost S l w) := by
  have HC : Hid (∀ W, Below w.heap.size w W -> Calls Tryz.prog 20 #[v.val] W fun e w' => e = .returned (.int .i64 l.err) /\ Below W.heap.size W w') := fun W hb => lck_any S v l W (h.below hb) hm (hE.below hb)
  have h2 : RdL (fun b => S b /\ b < w.heap.size) w v l := h.mono (fun b q q' => ⟨q, q'⟩)
  have HR : Hid (∀ W, Below w.heap.size w W -> listsErr l.start l.ops l.und = 0 -> Calls Tryz.prog 54 #[v.c.val, .slice v.oa v.on v.oc, .slice v.ua v.un v.uc] W (RunPost (fun b => S b /\ b < w.heap.size) l.start l.ops l.und W)) := fun W hb h0 => replay_any _ v.c l.start _ _ _ _ _ _ l.ops l.und W (h2.1.below hb) (h2.2.1.below rOpn_ok hb) (h2.2.2.below rBool_ok hb) (lists_zero.1 h0).2.1 hm.1 hm.2 (by have := h2.2.1.len; have := (lists_zero.1 h0).2.2; omega) (hE.below hb)
  have HZ : Hid (l.err = 0 -> listsErr l.start l.ops l.und = 0) := fun q => lists_zero.2 (err_zero.1 q).1
  have HS0 : Hid (l.err ≠ 0 -> l.state = (Col.none, 1)) := fun q => by unfold Lg.state; rw [if_pos q]
  have HS1 : Hid (l.err = 0 -> l.state = ((runL l.start l.ops l.und).st, 0)) := fun q => by unfold Lg.state; rw [if_neg (by simp [q])]; rfl
  unfold RunPost at HR
  unfold StatePost
  generalize l.state = SS at *
  generalize (runL l.start l.ops l.und).er = ER at *
  generalize (runL l.start l.ops l.und).st = ST at *
  generalize (runL l.start l.ops l.und).sk = SK at *
  generalize listsErr l.start l.ops l.und = LE at *
  generalize l.err = E at *
  clear h h2 hm hE
  obtain ⟨⟨sec, sa, sn, sc, ta, tn, tc, ca, cn, cc⟩, oa, on, oc, ua, un, uc⟩ := v
  change Calls _ _ #[.agg #[.string sec, .slice sa sn sc, .slice ta tn tc, .slice ca cn cc, .slice oa on oc, .slice ua un uc]] _ _
  change Hid (∀ W, _ -> Calls _ _ #[.agg #[.string sec, .slice sa sn sc, .slice ta tn tc, .slice ca cn cc, .slice oa on oc, .slice ua un uc]] _ _) at HC
  change Hid (∀ W, _ -> _ -> Calls _ _ #[.agg #[.string sec, .slice sa sn sc, .slice ta tn tc, .slice ca cn cc], .slice oa on oc, .slice ua un uc] _ _) at HR
  obtain ⟨W1, hW1, hb0, hs1, gX, gR⟩ := box2r w #[.string sec, .slice sa sn sc, .slice ta tn tc, .slice ca cn cc, .slice oa on oc, .slice ua un uc] #[.string ⟨#[]⟩, .slice none 0 0, .slice none 0 0, .slice none 0 0] 30 26
  have HCC := hiq (HC.out _ hb0)
  obtain ⟨c0, c1, c2, c3, c4, c5⟩ := box_cells6 gX
  rw [hW1] at c0 c1 c2 c3 c4 c5
  clear HC gX
  go_enter Tryz.func18, Tryz.ntmps18
  go_wp2_with fail
  rw [<- hW1] at *
  clear hW1
  refine HCC.out.mono ?_
  rintro e W2 ⟨rfl, hb2⟩
  have hb3 := hb0.trans (hb2.mono hb0.size)
  replace c0 := clq hb2 c0; replace c1 := clq hb2 c1; replace c2 := clq hb2 c2; replace c3 := clq hb2 c3; replace c4 := clq hb2 c4; replace c5 := clq hb2 c5
  have gR2 := (hb2.block _ (by omega)).trans gR
  have hs2 := hb2.size
  clear HCC hb0 hb2 gR
  by_cases e0 : E = 0
  · have t0 : ((E : Int) != 0) = false := by simp [e0]
    have HSS := hiq (HS1.out e0)
    have hz := HZ.out e0
    have HRQ := hiq (HR.out _ hb3 (by exact hz))
    clear HR
    go_wp2_with fail
    refine HRQ.out.mono ?_
    rintro e W3 ⟨v2, a, n, c, he, hR3, hN3, hb4⟩
    obtain ⟨sec2, sa2, sn2, sc2, ta2, tn2, tc2, ca2, cn2, cc2⟩ := v2
    change e = .returned (.tuple #[.agg #[.string sec2, .slice sa2 sn2 sc2, .slice ta2 tn2 tc2, .slice ca2 cn2 cc2], .slice a n c, .int .i64 ER]) at he
    subst he
    have hal : Below W3.heap.size W3 (W3.alloc (.cells #[.string sec2, .slice sa2 sn2 sc2, .slice ta2 tn2 tc2, .slice ca2 cn2 cc2] 26)) := (Below.refl _ _).alloc (Nat.le_refl _) _
    have hb5 := hb4.trans (hal.mono hb4.size)
    have gR3 := (hb5.block _ (by omega)).trans gR2
    obtain ⟨z0, z1, z2, z3, -⟩ := box_cells4 (World.alloc_heap_new W3 (.cells #[.string sec2, .slice sa2 sn2 sc2, .slice ta2 tn2 tc2, .slice ca2 cn2 cc2] 26))
    obtain ⟨y0, y1, y2, y3, yf⟩ := box_cells4 gR3
    have yf0 := yf 0
    have yf1 := yf 1
    have yf2 := yf 2
    have yf3 := yf 3
    have hbw := hb3.trans (hb5.mono hb3.size)
    have hR5 := hiq ((hR3.mono (S' := fun b => (S b /\ b < w.heap.size) \/ W2.heap.size <= b) (fun b q _ => q)).below hal)
    have HALL := hiq (And.intro gR3 hbw)
    clear HZ HS0 HS1 hR3 hN3 hb4 hal hb5 gR2 gR3 hbw yf c0 c1 c2 c3 c4 c5 HRQ hb3
    go_wp2
    change bodyPost _ _ _ _ _ (put4 (W3.alloc (.cells #[.string sec2, .slice sa2 sn2 sc2, .slice ta2 tn2 tc2, .slice ca2 cn2 cc2] 26)) (w.heap.size + 1) (.string sec2) (.slice sa2 sn2 sc2) (.slice ta2 tn2 tc2) (.slice ca2 cn2 cc2))
    generalize W3.alloc (.cells #[.string sec2, .slice sa2 sn2 sc2, .slice ta2 tn2 tc2, .slice ca2 cn2 cc2] 26) = W4 at *
    obtain ⟨gR3, hbw⟩ := HALL.out
    obtain ⟨r0, r1, r2, r3, -⟩ := box_cells4 (put4_at gR3 (.string sec2) (.slice sa2 sn2 sc2) (.slice ta2 tn2 tc2) (.slice ca2 cn2 cc2))
    have hbf := put4_below hbw (b := w.heap.size + 1) (by omega) (.string sec2) (.slice sa2 sn2 sc2) (.slice ta2 tn2 tc2) (.slice ca2 cn2 cc2)
    have hRf := hR5.out.keep (put4_keep (W := W4) (b := w.heap.size + 1) (by rintro (⟨-, q⟩ | q) <;> omega) (.string sec2) (.slice sa2 sn2 sc2) (.slice ta2 tn2 tc2) (.slice ca2 cn2 cc2))
    generalize put4 W4 (w.heap.size + 1) (.string sec2) (.slice sa2 sn2 sc2) (.slice ta2 tn2 tc2) (.slice ca2 cn2 cc2) = WF at *
    refine bodyPost_ret (v := .tuple #[.agg #[.string sec2, .slice sa2 sn2 sc2, .slice ta2 tn2 tc2, .slice ca2 cn2 cc2], .int .i64 0]) (by simp [results, Tryz.results18, go_sem, r0, r1, r2, r3]) rfl ?_
    rw [HSS.out]
    exact ⟨⟨sec2, sa2, sn2, sc2, ta2, tn2, tc2, ca2, cn2, cc2⟩, rfl, hRf.mono (fun b q _ => by rcases q with q | q; exact .inl q.1; exact .inr (by omega)), hbf⟩
  · have t0 : ((E : Int) != 0) = true := by simpa using e0
    have HSS := hiq (HS0.out e0)
    obtain ⟨y0, y1, y2, y3, yf⟩ := box_cells4 gR2
    have yf0 := yf 0
    have yf1 := yf 1
    have yf2 := yf 2
    have yf3 := yf 3
    have HALL := hiq (And.intro gR2 hb3)
    clear HZ HS0 HS1 yf gR2 hb3 c0 c1 c2 c3 c4 c5 HR
    go_wp2
    change bodyPost _ _ _ _ _ (put4 W2 (w.heap.size + 1) (.string ⟨#[]⟩) (.slice none 0 0) (.slice none 0 0) (.slice none 0 0))
    obtain ⟨gR3, hbw⟩ := HALL.out
    obtain ⟨r0, r1, r2, r3, -⟩ := box_cells4 (put4_at gR3 (.string ⟨#[]⟩) (.slice none 0 0) (.slice none 0 0) (.slice none 0 0))
    have hbf := put4_below hbw (b := w.heap.size + 1) (by omega) (.string ⟨#[]⟩) (.slice none 0 0) (.slice none 0 0) (.slice none 0 0)
    generalize put4 W2 (w.heap.size + 1) (.string ⟨#[]⟩) (.slice none 0 0) (.slice none 0 0) (.slice none 0 0) = WF at *
    refine bodyPost_ret (v := .tuple #[.agg #[.string ⟨#[]⟩, .slice none 0 0, .slice none 0 0, .slice none 0 0], .int .i64 1]) (by simp [results, Tryz.results18, go_sem, r0, r1, r2, r3]) rfl ?_
    rw [HSS.out]
    exact ⟨⟨⟨#[]⟩, none, 0, 0, none, 0, 0, none, 0, 0⟩, rfl, rdC_none _ _, hbf⟩
theorem lck_ref (S : Nat -> Prop) (v : LV) (l : Lg) (w : World) (h : RdL S w v l) (hm : SmL l) (hE : Env w) : Calls Tryz.prog 21 #[v.val] w fun e w' => e = .returned (.int .i64 l.err) /\ Below w.heap.size w w' := by
  have HC : Hid (∀ W, Below w.heap.size w W -> Calls Tryz.prog 57 #[v.c.val, .slice v.oa v.on v.oc, .slice v.ua v.un v.uc] W fun e w' => e = .returned (.int .i64 (listsErr l.start l.ops l.und)) /\ Below W.heap.size W w') := fun W hb => lists_ref S v.c l.start _ _ _ _ _ _ l.ops l.und W (h.1.below hb) h.2.1.len h.2.2.len hm.1
  have HR : Hid (∀ W, Below w.heap.size w W -> listsErr l.start l.ops l.und = 0 -> Calls Tryz.prog 56 #[v.c.val, .slice v.oa v.on v.oc, .slice v.ua v.un v.uc] W (RunPost S l.start l.ops l.und W)) := fun W hb h0 => run_ref S v.c l.start _ _ _ _ _ _ l.ops l.und W (h.1.below hb) (h.2.1.below rOpn_ok hb) (h.2.2.below rBool_ok hb) (lists_zero.1 h0).2.1 hm.1 hm.2 (by have := h.2.1.len; have := (lists_zero.1 h0).2.2; omega)
  have HE2 : Hid (l.err = if listsErr l.start l.ops l.und ≠ 0 then listsErr l.start l.ops l.und else (runL l.start l.ops l.und).er) := rfl
  have HL : Hid (listsErr l.start l.ops l.und = if l.start.err ≠ 0 then 1 else if v.on ≠ v.un then 9 else if 256 < v.on then 4 else 0) := by rw [h.2.1.len, h.2.2.len]; rfl
  unfold RunPost at HR
  generalize l.err = LER at *
  generalize (runL l.start l.ops l.und).er = ER at *
  generalize (runL l.start l.ops l.und).st = ST at *
  generalize (runL l.start l.ops l.und).sk = SK at *
  generalize listsErr l.start l.ops l.und = LE at *
  generalize l.start.err = E at *
  clear h hm hE
  obtain ⟨⟨sec, sa, sn, sc, ta, tn, tc, ca, cn, cc⟩, oa, on, oc, ua, un, uc⟩ := v
  change Calls _ _ #[.agg #[.string sec, .slice sa sn sc, .slice ta tn tc, .slice ca cn cc, .slice oa on oc, .slice ua un uc]] _ _
  change Hid (∀ W, _ -> Calls _ _ #[.agg #[.string sec, .slice sa sn sc, .slice ta tn tc, .slice ca cn cc], .slice oa on oc, .slice ua un uc] _ _) at HC
  change Hid (∀ W, _ -> _ -> Calls _ _ #[.agg #[.string sec, .slice sa sn sc, .slice ta tn tc, .slice ca cn cc], .slice oa on oc, .slice ua un uc] _ _) at HR
  dsimp only at HL
  have hb0 : Below w.heap.size w (w.alloc (.cells #[.string sec, .slice sa sn sc, .slice ta tn tc, .slice ca cn cc, .slice oa on oc, .slice ua un uc] 30)) := (Below.refl _ _).alloc (Nat.le_refl _) _
  obtain ⟨c0, c1, c2, c3, c4, c5⟩ := box_cells6 (World.alloc_heap_new w (.cells #[.string sec, .slice sa sn sc, .slice ta tn tc, .slice ca cn cc, .slice oa on oc, .slice ua un uc] 30))
  have HCC := hiq (HC.out _ hb0)
  clear HC
  go_enter Tryz.func21, Tryz.ntmps21
  go_wp2_with fail
  generalize w.alloc (.cells #[.string sec, .slice sa sn sc, .slice ta tn tc, .slice ca cn cc, .slice oa on oc, .slice ua un uc] 30) = W1 at *
  refine HCC.out.mono ?_
  rintro e W2 ⟨rfl, hb2⟩
  have hb3 := hb0.trans (hb2.mono hb0.size)
  replace c0 := clq hb2 c0; replace c1 := clq hb2 c1; replace c2 := clq hb2 c2; replace c3 := clq hb2 c3; replace c4 := clq hb2 c4; replace c5 := clq hb2 c5
  clear HCC hb0 hb2
  by_cases e0 : LE = 0
  · have t0 : ((LE : Int) != 0) = false := by simp [e0]
    have HRQ := hiq (HR.out _ hb3 (by exact e0))
    clear HR
    go_wp2_with fail
    refine HRQ.out.mono ?_
    rintro e W3 ⟨v2, a, n, c, he, hR3, hN3, hb4⟩
    obtain ⟨sec2, sa2, sn2, sc2, ta2, tn2, tc2, ca2, cn2, cc2⟩ := v2
    change e = .returned (.tuple #[.agg #[.string sec2, .slice sa2 sn2 sc2, .slice ta2 tn2 tc2, .slice ca2 cn2 cc2], .slice a n c, .int .i64 ER]) at he
    subst he
    have hal : Below W3.heap.size W3 (W3.alloc (.cells #[.string sec2, .slice sa2 sn2 sc2, .slice ta2 tn2 tc2, .slice ca2 cn2 cc2] 26)) := (Below.refl _ _).alloc (Nat.le_refl _) _
    have hb5 := hb3.trans ((hb4.trans (hal.mono hb4.size)).mono hb3.size)
    clear hR3 hN3 hb4 hal c0 c1 c2 c3 c4 c5
    go_wp2
    go_ret
    exact ⟨by rw [HE2.out, e0]; rfl, hb5⟩
  · have t0 : ((LE : Int) != 0) = true := by simpa using e0
    go_wp2
    go_ret
    exact ⟨by rw [HE2.out, if_pos e0]; rfl, hb3⟩
theorem idx_ref (S : Nat -> Prop) (v : LV) (l : Lg) (i : Int) (w : World) (h : RdL S w v l) (hm : SmL l) (hE : Env w) : Calls Tryz.prog 78 #[v.val, .int .i64 i] w fun e w' => e = .returned (.int .i64 (l.idx i)) /\ Below w.heap.size w w' := by
  have HC : Hid (∀ W, Below w.heap.size w W -> Calls Tryz.prog 21 #[v.val] W fun e w' => e = .returned (.int .i64 l.err) /\ Below W.heap.size W w') := fun W hb => lck_ref S v l W (h.below hb) hm (hE.below hb)
  have HI : Hid (l.idx i = if l.err ≠ 0 then 1 else if i < 0 \/ (v.on : Int) <= i then 2 else 0) := by rw [h.2.1.len]; rfl
  generalize l.idx i = I at *
  generalize l.err = E at *
  clear h hm hE
  obtain ⟨⟨sec, sa, sn, sc, ta, tn, tc, ca, cn, cc⟩, oa, on, oc, ua, un, uc⟩ := v
  change Calls _ _ #[.agg #[.string sec, .slice sa sn sc, .slice ta tn tc, .slice ca cn cc, .slice oa on oc, .slice ua un uc], _] _ _
  change Hid (∀ W, _ -> Calls _ _ #[.agg #[.string sec, .slice sa sn sc, .slice ta tn tc, .slice ca cn cc, .slice oa on oc, .slice ua un uc]] _ _) at HC
  dsimp only at HI
  have hb0 : Below w.heap.size w (w.alloc (.cells #[.string sec, .slice sa sn sc, .slice ta tn tc, .slice ca cn cc, .slice oa on oc, .slice ua un uc] 30)) := (Below.refl _ _).alloc (Nat.le_refl _) _
  obtain ⟨c0, c1, c2, c3, c4, c5⟩ := box_cells6 (World.alloc_heap_new w (.cells #[.string sec, .slice sa sn sc, .slice ta tn tc, .slice ca cn cc, .slice oa on oc, .slice ua un uc] 30))
  have HCC := hiq (HC.out _ hb0)
  clear HC
  go_enter Tryz.func78, Tryz.ntmps78
  go_wp2_with fail
  generalize w.alloc (.cells #[.string sec, .slice sa sn sc, .slice ta tn tc, .slice ca cn cc, .slice oa on oc, .slice ua un uc] 30) = W1 at *
  refine HCC.out.mono ?_
  rintro e W2 ⟨rfl, hb2⟩
  have hb3 := hb0.trans (hb2.mono hb0.size)
  replace c0 := clq hb2 c0; replace c1 := clq hb2 c1; replace c2 := clq hb2 c2; replace c3 := clq hb2 c3; replace c4 := clq hb2 c4; replace c5 := clq hb2 c5
  clear HCC hb0 hb2
  by_cases e0 : E = 0
  · have t0 : ((E : Int) != 0) = false := by simp [e0]
    by_cases i0 : i < 0
    · go_wp2
      go_ret
      exact ⟨by rw [HI.out]; simp [e0, i0], hb3⟩
    · by_cases i1 : (on : Int) <= i
      · go_wp2
        go_ret
        exact ⟨by rw [HI.out]; simp [e0, i1], hb3⟩
      · have HX : Hid (¬ (i < 0 \/ (on : Int) <= i)) := fun q => q.elim i0 i1
        go_wp2
        go_ret
        exact ⟨by rw [HI.out, if_neg (by simp [e0]), if_neg HX.out]; rfl, hb3⟩
  · have t0 : ((E : Int) != 0) = true := by simpa using e0
    go_wp2
    go_ret
    exact ⟨by rw [HI.out]; simp [e0], hb3⟩
end Go.Proofs.YtfdipkhbemgojaaGreatDoor
