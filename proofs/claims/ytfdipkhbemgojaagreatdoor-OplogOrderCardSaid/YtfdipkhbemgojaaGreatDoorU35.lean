/- Joined: ODo, OSta. -/
import Derived.Test.YtfdipkhbemgojaaGreatDoorU34
import Derived.Test.YtfdipkhbemgojaaGreatDoorU32
set_option linter.unusedVariables false
set_option linter.unusedSimpArgs false
set_option maxRecDepth 100000
set_option maxHeartbeats 16000000
namespace Go.Proofs.YtfdipkhbemgojaaGreatDoor
open Go.RowKit

theorem box3q (w : World) (C D E : Array Value) (tc td te : TypeId) : ∃ W, W = (((w.alloc (.cells C tc)).alloc (.cells D td)).alloc (.cells E te)) /\ Below w.heap.size w W /\ W.heap.size = w.heap.size + 3 /\
    W.heap[w.heap.size]? = some (.cells C tc (0, 0)) /\ W.heap[w.heap.size + 1]? = some (.cells D td (0, 0)) /\ W.heap[w.heap.size + 1 + 1]? = some (.cells E te (0, 0)) := by
  obtain ⟨W, rfl, hb, hs, g1, g2⟩ := box2r w C D tc td
  have q : Below ((w.alloc (.cells C tc)).alloc (.cells D td)).heap.size ((w.alloc (.cells C tc)).alloc (.cells D td)) (((w.alloc (.cells C tc)).alloc (.cells D td)).alloc (.cells E te)) := (Below.refl _ _).alloc (Nat.le_refl _) _
  have g3 := World.alloc_heap_new ((w.alloc (.cells C tc)).alloc (.cells D td)) (.cells E te)
  refine ⟨_, rfl, hb.trans (q.mono hb.size), by simp, (q.block _ (by omega)).trans g1, (q.block _ (by omega)).trans g2, ?_⟩
  rw [hs] at g3; exact g3
theorem did_1 {l : Lg} {o : Op} (h : l.err ≠ 0) : l.did o = (Lg.none, 1) := by unfold Lg.did; rw [if_pos h]
theorem did_2 {l : Lg} {o : Op} (h : l.err = 0) (h2 : l.ops.length = 256) : l.did o = (Lg.none, 4) := by unfold Lg.did; rw [if_neg (by simp [h]), if_pos h2]
theorem did_3 {l : Lg} {o : Op} (h : l.err = 0) (h2 : l.ops.length ≠ 256) (h3 : opErr l.run.st o ≠ 0) : l.did o = (Lg.none, opErr l.run.st o) := by unfold Lg.did; rw [if_neg (by simp [h]), if_neg h2, if_pos h3]
theorem did_4 {l : Lg} {o : Op} (h : l.err = 0) (h2 : l.ops.length ≠ 256) (h3 : opErr l.run.st o = 0) : l.did o = (⟨l.start, l.ops ++ [o], l.und ++ [false]⟩, 0) := by unfold Lg.did; rw [if_neg (by simp [h]), if_neg h2, if_neg (by simp [h3])]
theorem run_sml {l : Lg} (hm : SmL l) : Sml l.run.st := runN_sml hm.1 hm.2 _
theorem run_len {l : Lg} (h : l.err = 0) : l.ops.length <= 256 /\ l.und.length <= 256 := by
  have := (err_zero.1 h).1; omega
theorem did_any (S : Nat -> Prop) (v : LV) (l : Lg) (o : Op) (w : World) (h : RdL S w v l) (hm : SmL l) (hE : Env w) (ho : o.ok) (hx : o.text.size <= 1000000) : Calls Tryz.prog 16 #[v.val, o.val] w (LogPost S (l.did o) w) := by
  have h2 : RdL (fun b => S b /\ b < w.heap.size) w v l := h.mono (fun b q q' => ⟨q, q'⟩)
  have HC : Hid (∀ W, Below w.heap.size w W -> Calls Tryz.prog 20 #[v.val] W fun e w' => e = .returned (.int .i64 l.err) /\ Below W.heap.size W w') := fun W hb => lck_any S v l W (h.below hb) hm (hE.below hb)
  have HR : Hid (∀ W, Below w.heap.size w W -> l.err = 0 -> Calls Tryz.prog 54 #[v.c.val, .slice v.oa v.on v.oc, .slice v.ua v.un v.uc] W (RunPost S l.start l.ops l.und W)) := fun W hb h0 => replay_any S v.c l.start _ _ _ _ _ _ l.ops l.und W (h.1.below hb) (h.2.1.below rOpn_ok hb) (h.2.2.below rBool_ok hb) (err_zero.1 h0).1.2.1 hm.1 hm.2 (by have := h.2.1.len; have := (err_zero.1 h0).1.2.2; omega) (hE.below hb)
  have HK : Hid (∀ (T : Nat -> Prop) (u : CV) W, Below w.heap.size w W -> RdC T W u l.run.st -> Calls Tryz.prog 25 #[u.val, o.val] W fun e w' => e = .returned (.int .i64 (opErr l.run.st o)) /\ Below W.heap.size W w') := fun T u W hb hu => echeck_any T u _ o W hu (run_sml hm) (hE.below hb) ho hx
  have HCO : Hid (∀ W, Below w.heap.size w W -> Calls Tryz.prog 35 #[.slice v.oa v.on v.oc] W fun e w' => ∃ a' c', e = .returned (.slice a' v.on c') /\ OwnQ 32 5 Op.cells w' W.heap.size a' v.on c' l.ops /\ Below W.heap.size W w') := fun W hb => clone_ops _ _ _ _ _ W (h.2.1.below rOpn_ok hb)
  have HCB : Hid (∀ W, Below w.heap.size w W -> Calls Tryz.prog 37 #[.slice v.ua v.un v.uc] W fun e w' => ∃ a' c', e = .returned (.slice a' v.un c') /\ OwnQ 4 1 encB w' W.heap.size a' v.un c' l.und /\ Below W.heap.size W w') := fun W hb => clone_flgs _ _ _ _ _ W (h.2.2.below rBool_ok hb)
  have hok : Hid (∀ p ∈ l.ops ++ [o], p.ok) := fun p hp => by
    rcases List.mem_append.1 hp with q | q
    · exact opsq_ok h.2.1 p q
    · simp at q; subst q; exact ho
  have HX : Hid (∀ W, Below w.heap.size w W -> RdC (fun b => S b /\ b < w.heap.size) W v.c l.start) := fun W hb => h2.1.below hb
  have D1 : Hid (l.err ≠ 0 -> l.did o = (Lg.none, 1)) := did_1
  have D2 : Hid (l.err = 0 -> v.on = 256 -> l.did o = (Lg.none, 4)) := fun a b => did_2 a (by rw [<- h.2.1.len]; exact b)
  have D3 : Hid (l.err = 0 -> v.on ≠ 256 -> opErr l.run.st o ≠ 0 -> l.did o = (Lg.none, opErr l.run.st o)) := fun a b => did_3 a (by rw [<- h.2.1.len]; exact b)
  have D4 : Hid (l.err = 0 -> v.on ≠ 256 -> opErr l.run.st o = 0 -> l.did o = (⟨l.start, l.ops ++ [o], l.und ++ [false]⟩, 0)) := fun a b => did_4 a (by rw [<- h.2.1.len]; exact b)
  have DL : Hid (l.err = 0 -> v.on <= 256 /\ v.un <= 256) := fun a => by rw [h.2.1.len, h.2.2.len]; exact run_len a
  obtain ⟨O, hO⟩ : ∃ O, O = o := ⟨_, rfl⟩
  unfold LogPost
  unfold RunPost at HR
  change Hid (∀ W, _ -> _ -> Calls _ _ _ W (fun e w' => ∃ (v' : CV) (a : Option Addr) (n c : Nat), e = .returned (.tuple #[v'.val, .slice a n c, .int .i64 l.run.er]) /\ RdC (fun b => S b \/ W.heap.size <= b) w' v' l.run.st /\ Nums (fun b => W.heap.size <= b) w' a n c l.run.sk /\ Below W.heap.size W w')) at HR
  rw [<- hO] at D1 D2 D3 D4 hok
  rw [show l.did o = l.did O by rw [hO]]
  have hOe := hiq hO
  generalize l.did O = R at *
  generalize l.run.er = ER at *
  generalize l.run.st = ST at *
  generalize l.run.sk = SK at *
  generalize hOE : opErr ST O = OE at *
  generalize l.err = E at *
  rw [hO] at hOE
  rw [hOE] at HK
  generalize l.start = LST at *
  generalize l.ops = LO at *
  generalize l.und = LU at *
  clear h h2 hm hE ho hx hO hOE
  obtain ⟨⟨sec, sa, sn, sc, ta, tn, tc, ca, cn, cc⟩, oa, on, oc, ua, un, uc⟩ := v
  obtain ⟨ok, og, ot, oo, ox⟩ := o
  dsimp only at D2 D3 D4 DL HCO HCB HX
  change Calls _ _ #[.agg #[.string sec, .slice sa sn sc, .slice ta tn tc, .slice ca cn cc, .slice oa on oc, .slice ua un uc], .agg #[.int .i64 ok, .string og, .int .i64 ot, .int .i64 oo, .string ox]] _ _
  change Hid (∀ W, _ -> Calls _ _ #[.agg #[.string sec, .slice sa sn sc, .slice ta tn tc, .slice ca cn cc, .slice oa on oc, .slice ua un uc]] _ _) at HC
  change Hid (∀ W, _ -> _ -> Calls _ _ #[.agg #[.string sec, .slice sa sn sc, .slice ta tn tc, .slice ca cn cc], .slice oa on oc, .slice ua un uc] _ _) at HR
  change Hid (∀ (T : Nat -> Prop) (u : CV) W, _ -> _ -> Calls _ _ #[_, .agg #[.int .i64 ok, .string og, .int .i64 ot, .int .i64 oo, .string ox]] _ _) at HK
  obtain ⟨W1, hW1, hb, hs1, gX, gO, gR⟩ := box3q w #[.string sec, .slice sa sn sc, .slice ta tn tc, .slice ca cn cc, .slice oa on oc, .slice ua un uc] #[.int .i64 ok, .string og, .int .i64 ot, .int .i64 oo, .string ox] #[.string ⟨#[]⟩, .slice none 0 0, .slice none 0 0, .slice none 0 0, .slice none 0 0, .slice none 0 0] 30 32 30
  have HCC := hiq (HC.out _ hb)
  obtain ⟨c0, c1, c2, c3, c4, c5⟩ := box_cells6 gX
  rw [hW1] at c0 c1 c2 c3 c4 c5
  clear HC
  go_enter Tryz.func16, Tryz.ntmps16
  go_wp2_with fail
  rw [<- hW1] at *
  clear hW1
  refine HCC.out.mono ?_
  rintro e W2 ⟨rfl, hb2⟩
  replace c0 := clq hb2 c0; replace c1 := clq hb2 c1; replace c2 := clq hb2 c2; replace c3 := clq hb2 c3; replace c4 := clq hb2 c4; replace c5 := clq hb2 c5
  replace gX := (hb2.block _ (by omega)).trans gX
  replace gO := (hb2.block _ (by omega)).trans gO
  replace gR := (hb2.block _ (by omega)).trans gR
  replace hb := hb.trans (hb2.mono hb.size)
  have hs2 := hb2.size
  clear HCC hb2
  by_cases e0 : E = 0
  · have t0 : ((E : Int) != 0) = false := by simp [e0]
    obtain ⟨hon, hun⟩ := DL.out e0
    by_cases e1 : on = 256
    · subst e1
      have HEQ := hiq (D2.out e0 rfl)
      clear gX gO HCO HCB HX HK HR D1 D2 D3 D4 DL
      have t1 : True := trivial
      obtain ⟨y0, y1, y2, y3, y4, y5⟩ := box_cells6 gR
      have yf0 := frozen5 gR 0
      have yf1 := frozen5 gR 1
      have yf2 := frozen5 gR 2
      have yf3 := frozen5 gR 3
      have yf4 := frozen5 gR 4
      have yf5 := frozen5 gR 5
      have HALL := hiq (And.intro gR hb)
      clear gR hb 
      go_wp2
      change bodyPost _ _ _ _ _ (put6 W2 (w.heap.size + 1 + 1) (.string ⟨#[]⟩) (.slice none 0 0) (.slice none 0 0) (.slice none 0 0) (.slice none 0 0) (.slice none 0 0))
      obtain ⟨gR, hb⟩ := HALL.out
      obtain ⟨r0, r1, r2, r3, r4, r5⟩ := box_cells6 (put6_at gR (.string ⟨#[]⟩) (.slice none 0 0) (.slice none 0 0) (.slice none 0 0) (.slice none 0 0) (.slice none 0 0))
      have hbf := put6_below hb (b := w.heap.size + 1 + 1) (by omega) (.string ⟨#[]⟩) (.slice none 0 0) (.slice none 0 0) (.slice none 0 0) (.slice none 0 0) (.slice none 0 0)
      generalize put6 W2 (w.heap.size + 1 + 1) (.string ⟨#[]⟩) (.slice none 0 0) (.slice none 0 0) (.slice none 0 0) (.slice none 0 0) (.slice none 0 0) = WF at *
      refine bodyPost_ret (v := .tuple #[.agg #[.string ⟨#[]⟩, .slice none 0 0, .slice none 0 0, .slice none 0 0, .slice none 0 0, .slice none 0 0], .int .i64 4]) (by simp [results, Tryz.results16, go_sem, r0, r1, r2, r3, r4, r5]) rfl ?_
      rw [HEQ.out]
      exact ⟨⟨⟨⟨#[]⟩, none, 0, 0, none, 0, 0, none, 0, 0⟩, none, 0, 0, none, 0, 0⟩, rfl, rdL_none _ _, hbf⟩
    · have t1 : ((on : Int) == 256) = false := by simp; omega
      have HRQ := hiq (HR.out _ hb (by exact e0))
      have D5 : Hid (OE ≠ 0 -> R = (Lg.none, OE)) := D3.out e0 e1
      have D6 : Hid (OE = 0 -> R = (⟨LST, LO ++ [O], LU ++ [false]⟩, 0)) := D4.out e0 e1
      have HE1 := hiq e1
      clear HR D1 D2 D3 D4 DL e0 e1
      go_wp2_with fail
      refine HRQ.out.mono ?_
      rintro e W3 ⟨v2, a, n, c, he, hR3, hN3, hb4⟩
      obtain ⟨sec2, sa2, sn2, sc2, ta2, tn2, tc2, ca2, cn2, cc2⟩ := v2
      change e = .returned (.tuple #[.agg #[.string sec2, .slice sa2 sn2 sc2, .slice ta2 tn2 tc2, .slice ca2 cn2 cc2], .slice a n c, .int .i64 ER]) at he
      subst he
      have hal : Below W3.heap.size W3 (W3.alloc (.cells #[.string sec2, .slice sa2 sn2 sc2, .slice ta2 tn2 tc2, .slice ca2 cn2 cc2] 26)) := (Below.refl _ _).alloc (Nat.le_refl _) _
      have hb5 := hb4.trans (hal.mono hb4.size)
      obtain ⟨z0, z1, z2, z3, -⟩ := box_cells4 (World.alloc_heap_new W3 (.cells #[.string sec2, .slice sa2 sn2 sc2, .slice ta2 tn2 tc2, .slice ca2 cn2 cc2] 26))
      replace gX := (hb5.block _ (by omega)).trans gX
      replace gO := (hb5.block _ (by omega)).trans gO
      replace gR := (hb5.block _ (by omega)).trans gR
      have hs4 := hb5.size
      replace hb := hb.trans (hb5.mono hb.size)
      have HKQ := hiq (HK.out _ ⟨sec2, sa2, sn2, sc2, ta2, tn2, tc2, ca2, cn2, cc2⟩ _ hb (hR3.below hal))
      change Hid (Calls _ _ #[.agg #[.string sec2, .slice sa2 sn2 sc2, .slice ta2 tn2 tc2, .slice ca2 cn2 cc2], .agg #[.int .i64 ok, .string og, .int .i64 ot, .int .i64 oo, .string ox]] _ _) at HKQ
      obtain ⟨o0, o1, o2, o3, o4⟩ := box_cells5 gO
      clear hR3 hN3 hb4 hb5 hal HRQ HK c0 c1 c2 c3 c4 c5
      go_wp2_with fail
      generalize W3.alloc (.cells #[.string sec2, .slice sa2 sn2 sc2, .slice ta2 tn2 tc2, .slice ca2 cn2 cc2] 26) = W4 at *
      refine HKQ.out.mono ?_
      rintro e W5 ⟨rfl, hb6⟩
      replace gX := (hb6.block _ (by omega)).trans gX
      replace gO := (hb6.block _ (by omega)).trans gO
      replace gR := (hb6.block _ (by omega)).trans gR
      replace hb := hb.trans (hb6.mono hb.size)
      have hs5 := hb6.size
      obtain ⟨c0, c1, c2, c3, c4, c5⟩ := box_cells6 gX
      replace o0 := clq hb6 o0; replace o1 := clq hb6 o1; replace o2 := clq hb6 o2; replace o3 := clq hb6 o3; replace o4 := clq hb6 o4
      clear HKQ hb6 z0 z1 z2 z3
      by_cases m0 : OE = 0
      · have t9 : ((OE : Int) != 0) = false := by simp [m0]
        have HEQ := hiq (D6.out m0)
        have HB5 := hiq hb
        have hsw : w.heap.size + 3 <= W5.heap.size := by omega
        clear D5 D6 m0 hs1 hs2 hs4 hs5
        go_wp2_with fail
        obtain ⟨X, Wf, hX, hS1, hS2⟩ := family (fun V => Below W5.heap.size W5 V) W5 (Below.refl _ _)
        have HS2 := hiq hS2
        have q_c4 := fun x => clq (hS1 x) c4
        have q_c5 := fun x => clq (hS1 x) c5
        have q_o0 := fun x => clq (hS1 x) o0
        have q_o1 := fun x => clq (hS1 x) o1
        have q_o2 := fun x => clq (hS1 x) o2
        have q_o3 := fun x => clq (hS1 x) o3
        have q_o4 := fun x => clq (hS1 x) o4
        clear hS1 hS2
        have hd0 : Below W5.heap.size W5 W5.drew := (Below.refl _ _).drew
        refine wp_region_tre3 (Wf := Wf) 12 (.read 0 (.read 1 (.read 3 (.read 6 (.read 7 (.three 2 (.two 4 (.two 5 (.read 11 (.two 8 (.act 9 (.act 10 .fin)) 9 (.act 8 (.act 10 .fin)))) 9 (.act 5 (.read 11 (.act 8 (.act 10 .fin))))) 9 (.act 4 (.act 5 (.read 11 (.act 8 (.act 10 .fin)))))) 4 (.two 2 (.two 5 (.read 11 (.two 8 (.act 9 (.act 10 .fin)) 9 (.act 8 (.act 10 .fin)))) 9 (.act 5 (.read 11 (.act 8 (.act 10 .fin))))) 9 (.act 2 (.act 5 (.read 11 (.act 8 (.act 10 .fin)))))) 9 (.two 2 (.act 4 (.act 5 (.read 11 (.act 8 (.act 10 .fin))))) 4 (.act 2 (.act 5 (.read 11 (.act 8 (.act 10 .fin)))))))))))) (by kernel_rfl) (by kernel_rfl) (fun _ _ d _ _ h => by cases d <;> exact h) (HS2.out _ hd0) ?_
        refine wpTre3_read _ rfl (fun K hK => ?_); unfold rOp; go_simp; (refine hK _ ?_; clear hK K)
        refine wpTre3_read _ rfl (fun K hK => ?_); unfold rOp; go_simp; (refine hK _ ?_; clear hK K)
        refine wpTre3_read _ rfl (fun K hK => ?_); unfold rOp; go_simp; (refine hK _ ?_; clear hK K)
        refine wpTre3_read _ rfl (fun K hK => ?_); unfold rOp; go_simp; (refine hK _ ?_; clear hK K)
        refine wpTre3_read _ rfl (fun K hK => ?_); unfold rOp; go_simp; (refine hK _ ?_; clear hK K)
        clear q_c4 q_c5 q_o0 q_o1 q_o2 q_o3 q_o4
        have hd := hd0
        clear hd0
        generalize W5.drew = V at *
        have HCO5 : Hid (∀ W, Below W5.heap.size W5 W -> Calls Tryz.prog 35 #[.slice oa on oc] W fun e w' => ∃ a' c', e = .returned (.slice a' on c') /\ OwnQ 32 5 Op.cells w' W.heap.size a' on c' LO /\ Below W.heap.size W w') := fun W h => HCO.out W (HB5.out.trans (h.mono HB5.out.size))
        have HCB5 : Hid (∀ W, Below W5.heap.size W5 W -> Calls Tryz.prog 37 #[.slice ua un uc] W fun e w' => ∃ a' c', e = .returned (.slice a' un c') /\ OwnQ 4 1 encB w' W.heap.size a' un c' LU /\ Below W.heap.size W w') := fun W h => HCB.out W (HB5.out.trans (h.mono HB5.out.size))
        have HIO := infoO
        have HIB := infoB
        clear HCO HCB
        repeat' first
          | refine wpTre3_three ?_ ?_ ?_
          | refine wpTre3_two ?_ ?_
          | (refine wpTre3_read (k := 11) _ rfl (fun K hK => ?_); unfold rOp; go_simp; (refine hK _ ?_; clear hK K))
          | (refine wpTre3_act (k := 2) _ rfl ?_
             have HQ := hiq (HCO5.out _ hd)
             go_wp2_with fail
             refine HQ.out.mono ?_
             clear HQ
             have hvs := hd.size
             rintro e V2 ⟨a1, k1, rfl, hO1, hst⟩
             try (have hFn : ∀ y, a1 = some y -> y.block ≠ bF := fun y hy => by have := (hO1.lt y hy).1; omega)
             have hO := hO1.mono hvs
             have hOl := hO1.lt
             try (replace hF := (hst.block _ (Array.getElem?_eq_some_iff.1 hF).1).trans hF)
             try (replace hLo := fun j u hj => clq hst (hLo j u hj))
             replace hd := hd.trans (hst.mono hd.size)
             clear hst hvs hO1
             generalize V2 = V at *
             go_wp2_with fail
             refine ⟨HS2.out _ hd, ?_⟩)
          | (refine wpTre3_act (k := 4) _ rfl ?_
             have hst : Below V.heap.size V (V.alloc (.cells #[.int .i64 ok, .string og, .int .i64 ot, .int .i64 oo, .string ox] 32)) := (Below.refl _ _).alloc (Nat.le_refl _) _
             have hLo : ∀ j u, (([O] : List Op).flatMap Op.cells)[j]? = some u -> (V.alloc (.cells #[.int .i64 ok, .string og, .int .i64 ot, .int .i64 oo, .string ox] 32)).cell? ((⟨V.heap.size, 0, none⟩ : Addr).add j) = some u := fun j u hj => lit_cells (by rw [hOe.out] at hj; exact hj)
             try (replace hO := hO.below hst)
             try (replace hF := (hst.block _ (Array.getElem?_eq_some_iff.1 hF).1).trans hF)
             try (replace hvF := Nat.lt_of_lt_of_le hvF hst.size)
             replace hd := hd.trans (hst.mono hd.size)
             clear hst
             go_wp2_with fail
             generalize V.heap.size = bL at *
             generalize V.alloc (.cells #[.int .i64 ok, .string og, .int .i64 ot, .int .i64 oo, .string ox] 32) = V at *
             refine ⟨HS2.out _ hd, ?_⟩)
          | (refine wpTre3_act (k := 9) _ rfl ?_
             have hst : Below V.heap.size V (V.alloc (.cells #[.bool false] 4)) := (Below.refl _ _).alloc (Nat.le_refl _) _
             have hF := World.alloc_heap_new V (.cells #[.bool false] 4)
             have hvF : V.heap.size < (V.alloc (.cells #[.bool false] 4)).heap.size := by simp
             try (have hFn : ∀ y, a1 = some y -> y.block ≠ V.heap.size := fun y hy => by have := (hO.lt y hy).2; omega)
             try (replace hO := hO.below hst)
             try (replace hU := hU.below hst)
             try (replace hLo := fun j u hj => clq hst (hLo j u hj))
             replace hd := hd.trans (hst.mono hd.size)
             clear hst
             go_wp2_with fail
             generalize V.heap.size = bF at *
             generalize V.alloc (.cells #[.bool false] 4) = V at *
             refine ⟨HS2.out _ hd, ?_⟩)
          | (refine wpTre3_act (k := 5) _ rfl ?_
             go_wp2_with (at_builtin; refine wpList_appQ (w0 := W5) (l := LO) (ys := [O]) HIO Tryz.underlying27 rfl (by decide) op_len op_one rfl _ _ rfl rfl rfl hO rfl hLo (by unfold maxLen; omega) (by omega) hd.size hd ?_; intro a2 k2 V2 hO2 hb2 hg2 hv2)
             try (replace hF := (hg2.block _ (Array.getElem?_eq_some_iff.1 hF).1 (by cases a1 with | none => intro e; cases e | some y => intro e; exact hFn y rfl (Option.some.inj e).symm)).trans hF)
             replace hd := hb2
             replace hO := hO2
             clear hO2 hb2 hg2 hv2 hLo hOl
             try clear hFn
             generalize V2 = V at *
             generalize a2 = a1 at *
             generalize k2 = k1 at *
             refine ⟨HS2.out _ hd, ?_⟩)
          | (refine wpTre3_act (k := 8) _ rfl ?_
             have HQ := hiq (HCB5.out _ hd)
             go_wp2_with fail
             refine HQ.out.mono ?_
             clear HQ
             have hvs := hd.size
             rintro e V2 ⟨a3, k3, rfl, hU1, hst⟩
             have hAU : ∀ y z, a1 = some y -> a3 = some z -> y.block ≠ z.block := fun y z hy hz => by have := (hO.lt y hy).2; have := (hU1.lt z hz).1; omega
             have hU := hU1.mono hvs
             try (replace hF := (hst.block _ (Array.getElem?_eq_some_iff.1 hF).1).trans hF)
             replace hO := hO.below hst
             replace hd := hd.trans (hst.mono hd.size)
             clear hst hvs hU1
             generalize V2 = V at *
             go_wp2_with fail
             refine ⟨HS2.out _ hd, ?_⟩)
          | (refine wpTre3_act (k := 10) _ rfl ?_
             have hLf : ∀ j u, (([false] : List Bool).flatMap encB)[j]? = some u -> V.cell? ((⟨bF, 0, none⟩ : Addr).add j) = some u := fun j u hj => by
               match j with
               | 0 => cases hj; simp [Addr.add_lit, World.cell?, hF]
               | j + 1 => simp [encB] at hj
             go_wp2_with (at_builtin; refine wpList_appQ (w0 := W5) (l := LU) (ys := [false]) HIB Tryz.underlying28 rfl (by decide) (fun _ => rfl) one_b rfl _ _ rfl rfl rfl hU rfl hLf (by unfold maxLen; omega) (by omega) hd.size hd ?_; intro a4 k4 V2 hU2 hb2 hg2 hv2)
             replace hO := hO.kept hg2 (fun y hy => by cases a3 with | none => intro e; cases e | some z => intro e; exact hAU y z hy rfl (Option.some.inj e))
             replace hd := hb2
             clear hb2 hg2 hv2 hLf hU hF hAU
             generalize V2 = V at *
             refine ⟨HS2.out _ hd, ?_⟩)
        all_goals
          refine wpTre3_fin ?_
          have gXd := (hd.block _ (by omega)).trans gX
          have gRd := (hd.block _ (by omega)).trans gR
          have hbw := HB5.out.trans (hd.mono HB5.out.size)
          have f4 := frozen5 gXd 4
          have gX4 := heap_set_at (j := 4) gXd (.slice a1 (on + 1) k1)
          have f45 := frozen5 gX4 5
          have gX5 := heap_set_at (j := 5) gX4 (.slice a4 (un + 1) k4)
          have hoth : ∀ b, b ≠ w.heap.size -> ((V.setCell ⟨w.heap.size, 4, none⟩ (.slice a1 (on + 1) k1)).setCell ⟨w.heap.size, 5, none⟩ (.slice a4 (un + 1) k4)).heap[b]? = V.heap[b]? := fun b hb => by
            rw [heap_setCell_other hb, heap_setCell_other hb]
          have gR5 := (hoth (w.heap.size + 1 + 1) (by omega)).trans gRd
          have hO5 := hO.same (fun y hy => hoth _ (by have := (hO.lt y hy).1; omega))
          have hU5 := hU2.same (fun y hy => hoth _ (by have := (hU2.lt y hy).1; omega))
          have hb5 := below_setc (below_setc hbw (Nat.le_refl _) 4 (.slice a1 (on + 1) k1)) (Nat.le_refl _) 5 (.slice a4 (un + 1) k4)
          have hvs := hd.size
          have hszV : ((V.setCell ⟨w.heap.size, 4, none⟩ (.slice a1 (on + 1) k1)).setCell ⟨w.heap.size, 5, none⟩ (.slice a4 (un + 1) k4)).heap.size = V.heap.size := by simp [World.setCell]
          have H5 := hiq (And.intro gX5 (And.intro gR5 (And.intro hO5 (And.intro hU5 hb5))))
          obtain ⟨x0, x1, x2, x3, x4, x5⟩ := box_cells6 gXd
          obtain ⟨y0, y1, y2, y3, y4, y5⟩ := box_cells6 gX4
          change ((V.setCell ⟨w.heap.size, 4, none⟩ (.slice a1 (on + 1) k1)).setCell ⟨w.heap.size, 5, none⟩ (.slice a4 (un + 1) k4)).heap[w.heap.size]? = some (.cells #[.string sec, .slice sa sn sc, .slice ta tn tc, .slice ca cn cc, .slice a1 (on + 1) k1, .slice a4 (un + 1) k4] 30 (0, 0)) at gX5
          obtain ⟨u0, u1, u2, u3, u4, u5⟩ := box_cells6 gX5
          obtain ⟨s0, s1, s2, s3, s4, s5⟩ := box_cells6 gR5
          have sf0 := frozen5 gR5 0
          have sf1 := frozen5 gR5 1
          have sf2 := frozen5 gR5 2
          have sf3 := frozen5 gR5 3
          have sf4 := frozen5 gR5 4
          have sf5 := frozen5 gR5 5
          clear hoth gX5 gR5 hO5 hU5 hb5 gX4 gXd gRd hO hU2 hbw gX gO gR c0 c1 c2 c3 c4 c5 o0 o1 o2 o3 o4 HCO5 HCB5 HIO HIB
          go_wp2
          change bodyPost _ _ _ _ _ (put6 ((V.setCell ⟨w.heap.size, 4, none⟩ (.slice a1 (on + 1) k1)).setCell ⟨w.heap.size, 5, none⟩ (.slice a4 (un + 1) k4)) (w.heap.size + 1 + 1) (.string sec) (.slice sa sn sc) (.slice ta tn tc) (.slice ca cn cc) (.slice a1 (on + 1) k1) (.slice a4 (un + 1) k4))
          obtain ⟨gX5, gR5, hO5, hU5, hb5⟩ := H5.out
          generalize (V.setCell ⟨w.heap.size, 4, none⟩ (.slice a1 (on + 1) k1)).setCell ⟨w.heap.size, 5, none⟩ (.slice a4 (un + 1) k4) = VF at *
          have hbf := put6_below hb5 (b := w.heap.size + 1 + 1) (by omega) (.string sec) (.slice sa sn sc) (.slice ta tn tc) (.slice ca cn cc) (.slice a1 (on + 1) k1) (.slice a4 (un + 1) k4)
          obtain ⟨r0, r1, r2, r3, r4, r5⟩ := box_cells6 (put6_at gR5 (.string sec) (.slice sa sn sc) (.slice ta tn tc) (.slice ca cn cc) (.slice a1 (on + 1) k1) (.slice a4 (un + 1) k4))
          have hO7 := hO5.same (w' := put6 VF (w.heap.size + 1 + 1) (.string sec) (.slice sa sn sc) (.slice ta tn tc) (.slice ca cn cc) (.slice a1 (on + 1) k1) (.slice a4 (un + 1) k4)) (fun y hy => put6_other (by have := (hO5.lt y hy).1; omega) _ _ _ _ _ _)
          have hU7 := hU5.same (w' := put6 VF (w.heap.size + 1 + 1) (.string sec) (.slice sa sn sc) (.slice ta tn tc) (.slice ca cn cc) (.slice a1 (on + 1) k1) (.slice a4 (un + 1) k4)) (fun y hy => put6_other (by have := (hU5.lt y hy).1; omega) _ _ _ _ _ _)
          generalize put6 VF (w.heap.size + 1 + 1) (.string sec) (.slice sa sn sc) (.slice ta tn tc) (.slice ca cn cc) (.slice a1 (on + 1) k1) (.slice a4 (un + 1) k4) = WF at *
          refine bodyPost_ret (v := .tuple #[.agg #[.string sec, .slice sa sn sc, .slice ta tn tc, .slice ca cn cc, .slice a1 (on + 1) k1, .slice a4 (un + 1) k4], .int .i64 0]) (by simp [results, Tryz.results16, go_sem, r0, r1, r2, r3, r4, r5]) rfl ?_
          rw [HEQ.out]
          refine ⟨⟨⟨sec, sa, sn, sc, ta, tn, tc, ca, cn, cc⟩, a1, on + 1, k1, a4, un + 1, k4⟩, rfl, ⟨(HX.out _ hbf).mono (fun b q _ => .inl q.1), ?_, ?_⟩, hbf⟩
          · exact hO7.opsq (by omega) (fun b q _ => .inr (by omega)) hok.out
          · exact hU7.flgs (by omega) (fun b q _ => .inr (by omega))
      · have t9 : ((OE : Int) != 0) = true := by simpa using m0
        have HEQ := hiq (D5.out m0)
        clear D5 D6 m0 gX gO HCO HCB HX c0 c1 c2 c3 c4 c5 o0 o1 o2 o3 o4
        obtain ⟨y0, y1, y2, y3, y4, y5⟩ := box_cells6 gR
        have yf0 := frozen5 gR 0
        have yf1 := frozen5 gR 1
        have yf2 := frozen5 gR 2
        have yf3 := frozen5 gR 3
        have yf4 := frozen5 gR 4
        have yf5 := frozen5 gR 5
        have HALL := hiq (And.intro gR hb)
        clear gR hb 
        go_wp2
        change bodyPost _ _ _ _ _ (put6 W5 (w.heap.size + 1 + 1) (.string ⟨#[]⟩) (.slice none 0 0) (.slice none 0 0) (.slice none 0 0) (.slice none 0 0) (.slice none 0 0))
        obtain ⟨gR, hb⟩ := HALL.out
        obtain ⟨r0, r1, r2, r3, r4, r5⟩ := box_cells6 (put6_at gR (.string ⟨#[]⟩) (.slice none 0 0) (.slice none 0 0) (.slice none 0 0) (.slice none 0 0) (.slice none 0 0))
        have hbf := put6_below hb (b := w.heap.size + 1 + 1) (by omega) (.string ⟨#[]⟩) (.slice none 0 0) (.slice none 0 0) (.slice none 0 0) (.slice none 0 0) (.slice none 0 0)
        generalize put6 W5 (w.heap.size + 1 + 1) (.string ⟨#[]⟩) (.slice none 0 0) (.slice none 0 0) (.slice none 0 0) (.slice none 0 0) (.slice none 0 0) = WF at *
        refine bodyPost_ret (v := .tuple #[.agg #[.string ⟨#[]⟩, .slice none 0 0, .slice none 0 0, .slice none 0 0, .slice none 0 0, .slice none 0 0], .int .i64 OE]) (by simp [results, Tryz.results16, go_sem, r0, r1, r2, r3, r4, r5]) rfl ?_
        rw [HEQ.out]
        exact ⟨⟨⟨⟨#[]⟩, none, 0, 0, none, 0, 0, none, 0, 0⟩, none, 0, 0, none, 0, 0⟩, rfl, rdL_none _ _, hbf⟩
  · have t0 : ((E : Int) != 0) = true := by simpa using e0
    have HEQ := hiq (D1.out e0)
    clear gX gO HCO HCB HX HK HR D1 D2 D3 D4 DL c0 c1 c2 c3 c4 c5
    obtain ⟨y0, y1, y2, y3, y4, y5⟩ := box_cells6 gR
    have yf0 := frozen5 gR 0
    have yf1 := frozen5 gR 1
    have yf2 := frozen5 gR 2
    have yf3 := frozen5 gR 3
    have yf4 := frozen5 gR 4
    have yf5 := frozen5 gR 5
    have HALL := hiq (And.intro gR hb)
    clear gR hb 
    go_wp2
    change bodyPost _ _ _ _ _ (put6 W2 (w.heap.size + 1 + 1) (.string ⟨#[]⟩) (.slice none 0 0) (.slice none 0 0) (.slice none 0 0) (.slice none 0 0) (.slice none 0 0))
    obtain ⟨gR, hb⟩ := HALL.out
    obtain ⟨r0, r1, r2, r3, r4, r5⟩ := box_cells6 (put6_at gR (.string ⟨#[]⟩) (.slice none 0 0) (.slice none 0 0) (.slice none 0 0) (.slice none 0 0) (.slice none 0 0))
    have hbf := put6_below hb (b := w.heap.size + 1 + 1) (by omega) (.string ⟨#[]⟩) (.slice none 0 0) (.slice none 0 0) (.slice none 0 0) (.slice none 0 0) (.slice none 0 0)
    generalize put6 W2 (w.heap.size + 1 + 1) (.string ⟨#[]⟩) (.slice none 0 0) (.slice none 0 0) (.slice none 0 0) (.slice none 0 0) (.slice none 0 0) = WF at *
    refine bodyPost_ret (v := .tuple #[.agg #[.string ⟨#[]⟩, .slice none 0 0, .slice none 0 0, .slice none 0 0, .slice none 0 0, .slice none 0 0], .int .i64 1]) (by simp [results, Tryz.results16, go_sem, r0, r1, r2, r3, r4, r5]) rfl ?_
    rw [HEQ.out]
    exact ⟨⟨⟨⟨#[]⟩, none, 0, 0, none, 0, 0, none, 0, 0⟩, none, 0, 0, none, 0, 0⟩, rfl, rdL_none _ _, hbf⟩
end Go.Proofs.YtfdipkhbemgojaaGreatDoor
namespace Go.Proofs.YtfdipkhbemgojaaGreatDoor
open Go.RowKit

def allocs (w : World) : List (Array Value × TypeId) -> World
  | [] => w
  | p :: r => allocs (w.alloc (.cells p.1 p.2)) r
theorem allocs_spec : ∀ (l : List (Array Value × TypeId)) (w : World), Below w.heap.size w (allocs w l) /\ (allocs w l).heap.size = w.heap.size + l.length /\ ∀ i p, l[i]? = some p -> (allocs w l).heap[w.heap.size + i]? = some (.cells p.1 p.2 (0, 0))
  | [], w => ⟨Below.refl _ _, rfl, fun i p h => by simp at h⟩
  | p :: r, w => by
    obtain ⟨h1, h2, h3⟩ := allocs_spec r (w.alloc (.cells p.1 p.2))
    have hs : (w.alloc (.cells p.1 p.2)).heap.size = w.heap.size + 1 := by simp
    have ha : Below w.heap.size w (w.alloc (.cells p.1 p.2)) := (Below.refl _ _).alloc (Nat.le_refl _) _
    refine ⟨ha.trans (h1.mono ha.size), by show (allocs _ r).heap.size = _; rw [h2, hs, List.length_cons]; omega, fun i q hi => ?_⟩
    match i with
    | 0 =>
      cases hi
      show (allocs _ r).heap[w.heap.size + 0]? = _
      rw [h1.block _ (by omega)]
      exact World.alloc_heap_new w _
    | i + 1 =>
      have := h3 i q hi
      rw [hs, show w.heap.size + 1 + i = w.heap.size + (i + 1) by omega] at this
      exact this
def bAa : ByteArray := ⟨#[97]⟩
def bBb : ByteArray := ⟨#[98]⟩
def startC : Col := ⟨⟨#[73]⟩, [⟨#[65]⟩, ⟨#[66]⟩], [[tokS bAa, tokS bBb], [tokS bAa, tokS bBb]], [[0, 0], [1, 1]]⟩
theorem start_any (w : World) : Calls Tryz.prog 53 #[] w fun e w' => ∃ v : CV, e = .returned v.val /\ RdC (fun _ => True) w' v startC /\ Below w.heap.size w w' := by
  go_enter Tryz.func53, Tryz.ntmps53
  go_wp2
  change bodyPost _ _ _ _ _ (allocs w [(#[.string ⟨#[73]⟩, .slice (some ⟨w.heap.size + 1 + 1 + 1, 0, none⟩) 2 2, .slice (some ⟨w.heap.size + 1 + 1 + 1 + 1 + 1 + 1, 0, none⟩) 2 2, .slice (some ⟨w.heap.size + 1 + 1 + 1 + 1 + 1 + 1 + 1 + 1 + 1, 0, none⟩) 2 2], 26), (#[.string ⟨#[97]⟩, .string ⟨#[97]⟩, .string ⟨#[]⟩, .int .i64 0, .int .i64 0, .string ⟨#[]⟩], 102), (#[.string ⟨#[98]⟩, .string ⟨#[98]⟩, .string ⟨#[]⟩, .int .i64 0, .int .i64 0, .string ⟨#[]⟩], 102), (#[.string ⟨#[65]⟩, .string ⟨#[66]⟩], 9), (#[.string ⟨#[97]⟩, .string ⟨#[97]⟩, .string ⟨#[]⟩, .int .i64 0, .int .i64 0, .string ⟨#[]⟩, .string ⟨#[98]⟩, .string ⟨#[98]⟩, .string ⟨#[]⟩, .int .i64 0, .int .i64 0, .string ⟨#[]⟩], 102), (#[.string ⟨#[97]⟩, .string ⟨#[97]⟩, .string ⟨#[]⟩, .int .i64 0, .int .i64 0, .string ⟨#[]⟩, .string ⟨#[98]⟩, .string ⟨#[98]⟩, .string ⟨#[]⟩, .int .i64 0, .int .i64 0, .string ⟨#[]⟩], 102), (#[.slice (some ⟨w.heap.size + 1 + 1 + 1 + 1, 0, none⟩) 2 2, .slice (some ⟨w.heap.size + 1 + 1 + 1 + 1 + 1, 0, none⟩) 2 2], 94), (#[.int .i64 0, .int .i64 0], 3), (#[.int .i64 1, .int .i64 1], 3), (#[.slice (some ⟨w.heap.size + 1 + 1 + 1 + 1 + 1 + 1 + 1, 0, none⟩) 2 2, .slice (some ⟨w.heap.size + 1 + 1 + 1 + 1 + 1 + 1 + 1 + 1, 0, none⟩) 2 2], 51)])
  obtain ⟨hb, hs, hg⟩ := allocs_spec [(#[.string ⟨#[73]⟩, .slice (some ⟨w.heap.size + 1 + 1 + 1, 0, none⟩) 2 2, .slice (some ⟨w.heap.size + 1 + 1 + 1 + 1 + 1 + 1, 0, none⟩) 2 2, .slice (some ⟨w.heap.size + 1 + 1 + 1 + 1 + 1 + 1 + 1 + 1 + 1, 0, none⟩) 2 2], 26), (#[.string ⟨#[97]⟩, .string ⟨#[97]⟩, .string ⟨#[]⟩, .int .i64 0, .int .i64 0, .string ⟨#[]⟩], 102), (#[.string ⟨#[98]⟩, .string ⟨#[98]⟩, .string ⟨#[]⟩, .int .i64 0, .int .i64 0, .string ⟨#[]⟩], 102), (#[.string ⟨#[65]⟩, .string ⟨#[66]⟩], 9), (#[.string ⟨#[97]⟩, .string ⟨#[97]⟩, .string ⟨#[]⟩, .int .i64 0, .int .i64 0, .string ⟨#[]⟩, .string ⟨#[98]⟩, .string ⟨#[98]⟩, .string ⟨#[]⟩, .int .i64 0, .int .i64 0, .string ⟨#[]⟩], 102), (#[.string ⟨#[97]⟩, .string ⟨#[97]⟩, .string ⟨#[]⟩, .int .i64 0, .int .i64 0, .string ⟨#[]⟩, .string ⟨#[98]⟩, .string ⟨#[98]⟩, .string ⟨#[]⟩, .int .i64 0, .int .i64 0, .string ⟨#[]⟩], 102), (#[.slice (some ⟨w.heap.size + 1 + 1 + 1 + 1, 0, none⟩) 2 2, .slice (some ⟨w.heap.size + 1 + 1 + 1 + 1 + 1, 0, none⟩) 2 2], 94), (#[.int .i64 0, .int .i64 0], 3), (#[.int .i64 1, .int .i64 1], 3), (#[.slice (some ⟨w.heap.size + 1 + 1 + 1 + 1 + 1 + 1 + 1, 0, none⟩) 2 2, .slice (some ⟨w.heap.size + 1 + 1 + 1 + 1 + 1 + 1 + 1 + 1, 0, none⟩) 2 2], 51)] w
  have gC := hg 0 _ rfl
  have gS := hg 3 _ rfl
  have gT1 := hg 4 _ rfl
  have gT2 := hg 5 _ rfl
  have gR := hg 6 _ rfl
  have gI1 := hg 7 _ rfl
  have gI2 := hg 8 _ rfl
  have gK := hg 9 _ rfl
  generalize allocs w [(#[.string ⟨#[73]⟩, .slice (some ⟨w.heap.size + 1 + 1 + 1, 0, none⟩) 2 2, .slice (some ⟨w.heap.size + 1 + 1 + 1 + 1 + 1 + 1, 0, none⟩) 2 2, .slice (some ⟨w.heap.size + 1 + 1 + 1 + 1 + 1 + 1 + 1 + 1 + 1, 0, none⟩) 2 2], 26), (#[.string ⟨#[97]⟩, .string ⟨#[97]⟩, .string ⟨#[]⟩, .int .i64 0, .int .i64 0, .string ⟨#[]⟩], 102), (#[.string ⟨#[98]⟩, .string ⟨#[98]⟩, .string ⟨#[]⟩, .int .i64 0, .int .i64 0, .string ⟨#[]⟩], 102), (#[.string ⟨#[65]⟩, .string ⟨#[66]⟩], 9), (#[.string ⟨#[97]⟩, .string ⟨#[97]⟩, .string ⟨#[]⟩, .int .i64 0, .int .i64 0, .string ⟨#[]⟩, .string ⟨#[98]⟩, .string ⟨#[98]⟩, .string ⟨#[]⟩, .int .i64 0, .int .i64 0, .string ⟨#[]⟩], 102), (#[.string ⟨#[97]⟩, .string ⟨#[97]⟩, .string ⟨#[]⟩, .int .i64 0, .int .i64 0, .string ⟨#[]⟩, .string ⟨#[98]⟩, .string ⟨#[98]⟩, .string ⟨#[]⟩, .int .i64 0, .int .i64 0, .string ⟨#[]⟩], 102), (#[.slice (some ⟨w.heap.size + 1 + 1 + 1 + 1, 0, none⟩) 2 2, .slice (some ⟨w.heap.size + 1 + 1 + 1 + 1 + 1, 0, none⟩) 2 2], 94), (#[.int .i64 0, .int .i64 0], 3), (#[.int .i64 1, .int .i64 1], 3), (#[.slice (some ⟨w.heap.size + 1 + 1 + 1 + 1 + 1 + 1 + 1, 0, none⟩) 2 2, .slice (some ⟨w.heap.size + 1 + 1 + 1 + 1 + 1 + 1 + 1 + 1, 0, none⟩) 2 2], 51)] = W at *
  clear hg hs
  have hS1 : Strs (fun _ => True) W (some ⟨w.heap.size + 3, 0, none⟩) 2 2 [⟨#[65]⟩, ⟨#[66]⟩] := Sq.lit _ [⟨#[65]⟩, ⟨#[66]⟩] encS gS rfl (fun _ => rfl) trivial (by simp) (fun x hx => ⟨rfl, by simp at hx; rcases hx with rfl | rfl <;> decide⟩)
  have hT1 : Toks (fun _ => True) W (some ⟨w.heap.size + 4, 0, none⟩) 2 2 [tokS bAa, tokS bBb] := Sq.lit _ [tokS bAa, tokS bBb] Tok.cells gT1 rfl (fun _ => rfl) trivial (by simp) (fun x hx => ⟨rfl, by simp at hx; rcases hx with rfl | rfl <;> (unfold Tok.ok I64; decide)⟩)
  have hT2 : Toks (fun _ => True) W (some ⟨w.heap.size + 5, 0, none⟩) 2 2 [tokS bAa, tokS bBb] := Sq.lit _ [tokS bAa, tokS bBb] Tok.cells gT2 rfl (fun _ => rfl) trivial (by simp) (fun x hx => ⟨rfl, by simp at hx; rcases hx with rfl | rfl <;> (unfold Tok.ok I64; decide)⟩)
  have hC1 : Nums (fun _ => True) W (some ⟨w.heap.size + 7, 0, none⟩) 2 2 [0, 0] := Sq.lit _ [0, 0] encI gI1 rfl (fun _ => rfl) trivial (by simp) (fun x hx => ⟨rfl, by simp at hx; subst hx; unfold I64; decide⟩)
  have hC2 : Nums (fun _ => True) W (some ⟨w.heap.size + 8, 0, none⟩) 2 2 [1, 1] := Sq.lit _ [1, 1] encI gI2 rfl (fun _ => rfl) trivial (by simp) (fun x hx => ⟨rfl, by simp at hx; subst hx; unfold I64; decide⟩)
  have hR : RdC (fun _ => True) W ⟨⟨#[73]⟩, some ⟨w.heap.size + 1 + 1 + 1, 0, none⟩, 2, 2, some ⟨w.heap.size + 1 + 1 + 1 + 1 + 1 + 1, 0, none⟩, 2, 2, some ⟨w.heap.size + 1 + 1 + 1 + 1 + 1 + 1 + 1 + 1 + 1, 0, none⟩, 2, 2⟩ startC :=
    ⟨rfl, by show (⟨#[73]⟩ : ByteArray).size <= _; decide, hS1, Sq.lit2 gR trivial hT1 hT2, Sq.lit2 gK trivial hC1 hC2⟩
  obtain ⟨r0, r1, r2, r3, -⟩ := box_cells4 gC
  rw [Nat.add_zero] at r0 r1 r2 r3
  exact bodyPost_ret (v := .agg #[.string ⟨#[73]⟩, .slice (some ⟨w.heap.size + 1 + 1 + 1, 0, none⟩) 2 2, .slice (some ⟨w.heap.size + 1 + 1 + 1 + 1 + 1 + 1, 0, none⟩) 2 2, .slice (some ⟨w.heap.size + 1 + 1 + 1 + 1 + 1 + 1 + 1 + 1 + 1, 0, none⟩) 2 2]) (by simp [results, Tryz.results53, go_sem, r0, r1, r2, r3]) rfl ⟨_, rfl, hR, hb⟩
end Go.Proofs.YtfdipkhbemgojaaGreatDoor
