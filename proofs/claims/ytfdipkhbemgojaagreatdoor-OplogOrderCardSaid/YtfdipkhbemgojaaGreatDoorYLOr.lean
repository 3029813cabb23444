/- The law OplogOrder (printed by gen_olaws.py). -/
import Derived.Test.YtfdipkhbemgojaaGreatDoorU36
import Derived.Test.YtfdipkhbemgojaaGreatDoorU37
import Derived.Test.YtfdipkhbemgojaaGreatDoorU38
set_option linter.unusedVariables false
set_option linter.unusedSimpArgs false
set_option maxRecDepth 100000
set_option maxHeartbeats 16000000
namespace Go.Proofs.YtfdipkhbemgojaaGreatDoor
open Go.RowKit

def Lg.front (l : Lg) (m : Nat) : Lg := ⟨l.start, l.ops.take m, l.und.take m⟩
def Lg.other (l : Lg) (m : Nat) : Lg := ⟨l.start, (l.ops.set m (opK l.ops (m + 1))).set (m + 1) (opK l.ops m), l.und⟩
theorem order_facts {l : Lg} {m : Nat} (he : l.err = 0) (hn : l.ops.length = m + 2) (hu : l.und.any id = false) :
    (l.front m).state = ((l.front m).run.st, 0) /\ l.state = (l.run.st, 0) /\ (commute (l.front m).run.st (opK l.ops m) (opK l.ops (m + 1)) = (true, 0) -> (l.other m).state = (l.run.st, 0)) := by
  have hall : ∀ b ∈ l.und, b = false := fun b hb => by have := List.any_eq_false.1 hu b hb; simpa using this
  obtain ⟨h1, h2⟩ := last_two he hn hall
  obtain ⟨-, -, h3, h4⟩ := h2 _ _ rfl rfl _ rfl
  refine ⟨state_ok h1, state_ok he, fun hc => ?_⟩
  obtain ⟨c1, c2, c3⟩ := commute_yes hc
  obtain ⟨g1, g2⟩ := h4 c1 c2
  have := state_ok g1
  rw [g2] at this
  rw [h3]
  exact this.trans (congrArg (fun x => (x, (0 : Int))) c3.symm)
theorem order_law (S : Nat -> Prop) (v : LV) (l : Lg) (w : World) (h : RdL S w v l) (hE : Env w) : Calls Tryz.prog 10 #[v.val] w fun e w' => e = .returned (.bool true) /\ Below w.heap.size w w' := by
  have HF : Hid (∀ W, Below w.heap.size w W -> Calls Tryz.prog 24 #[v.val] W (BPost true (SmG l /\ l.ops.length <= 8 /\ l.err = 0) W)) := fun W hb => fineL_any S v l W (h.below hb) (hE.below hb)
  have HAW : Hid (∀ W, Below w.heap.size w W -> Calls Tryz.prog 13 #[] W fun e w' => e = .returned (.bool true) /\ Below W.heap.size W w') := fun W hb => awake_any W (hE.below hb)
  have HSM : Hid (∀ u v x W, RC W u x -> RC W v x -> Calls Tryz.prog 23 #[u.val, v.val] W fun e w' => e = .returned (.bool true) /\ Below W.heap.size W w') := fun u v x W h k => sameC_yes h k
  have HCN : Hid (∀ W, Below w.heap.size w W -> Calls Tryz.prog 30 #[.slice v.ua v.un v.uc, .bool true] W fun e w' => e = .returned (.bool (l.und.any id)) /\ Below W.heap.size W w') := fun W hb => contains_flgs S v.ua v.un v.uc _ W (h.2.2.below rBool_ok hb)
  have HFA : Hid (l.err = 0 -> ∀ m, v.on = m + 2 -> l.und.any id = false -> (l.front m).state = ((l.front m).run.st, 0) /\ l.state = (l.run.st, 0) /\ (commute (l.front m).run.st (opK l.ops m) (opK l.ops (m + 1)) = (true, 0) -> (l.other m).state = (l.run.st, 0))) := by rw [h.2.1.len]; exact fun a m b c => order_facts a b c
  have HST : Hid (∀ (m : Lg) u W, SmL m -> Below w.heap.size w W -> RL W u m -> Calls Tryz.prog 18 #[u.val] W (ColP m.state.1 m.state.2 W)) := fun m u W hm hb hu => (state_any _ u m W hu hm (hE.below hb)).mono (fun e w' h => h.p)
  have HRL : Hid (∀ W, Below w.heap.size w W -> RL W v l) := fun W hb => (h.below hb).t
  have HOP : Hid (∀ W, Below w.heap.size w W -> Opsq S W v.oa v.on v.oc l.ops) := fun W hb => (h.below hb).2.1
  have HEB : Hid (∀ W, Below w.heap.size w W -> Env W) := fun W hb => hE.below hb
  have HSG : Hid (SmG l -> SmL l) := fun a => a.sml
  have HLN : Hid (l.err = 0 -> v.on = v.un) := fun a => by rw [h.2.1.len, h.2.2.len]; exact (err_zero.1 a).1.2.1
  have hub := h.2.2.bound
  have hob := h.2.1.bound
  have huc := h.2.2.le
  have hoc := h.2.1.le
  have HOK : Hid (∀ o ∈ l.ops, o.ok) := opsq_ok h.2.1
  have HL8 : Hid (l.ops.length <= 8 -> v.on <= 8) := by rw [h.2.1.len]; exact fun q => q
  generalize SmG l = PG at *
  generalize (l.ops.length <= 8) = PL at *
  generalize l.err = LE at *
  generalize l.und.any id = U at *
  clear h hE
  obtain ⟨⟨sec, sa, sn, sc, ta, tn, tc, ca, cn, cc⟩, oa, on, oc, ua, un, uc⟩ := v
  have hb : Below w.heap.size w (w.alloc (.cells #[.string sec, .slice sa sn sc, .slice ta tn tc, .slice ca cn cc, .slice oa on oc, .slice ua un uc] 30)) := (Below.refl _ _).alloc (Nat.le_refl _) _
  obtain ⟨l0, l1, l2, l3, l4, l5⟩ := box_cells6 (World.alloc_heap_new w (.cells #[.string sec, .slice sa sn sc, .slice ta tn tc, .slice ca cn cc, .slice oa on oc, .slice ua un uc] 30))
  dsimp only at HCN HFA HLN HOP HL8 hub hob huc hoc
  change Hid (∀ W, _ -> RL W ⟨⟨sec, sa, sn, sc, ta, tn, tc, ca, cn, cc⟩, oa, on, oc, ua, un, uc⟩ _) at HRL
  change Calls _ _ #[.agg #[.string sec, .slice sa sn sc, .slice ta tn tc, .slice ca cn cc, .slice oa on oc, .slice ua un uc]] _ _
  go_enter Tryz.func10, Tryz.ntmps10
  have HQ := hiq (HF.out _ hb)
  change Hid (Calls _ _ #[.agg #[.string sec, .slice sa sn sc, .slice ta tn tc, .slice ca cn cc, .slice oa on oc, .slice ua un uc]] _ _) at HQ
  go_wp2_with fail
  generalize w.alloc (.cells #[.string sec, .slice sa sn sc, .slice ta tn tc, .slice ca cn cc, .slice oa on oc, .slice ua un uc] 30) = W1 at *
  refine HQ.out.mono ?_
  rintro e W2 ⟨g, rfl, hbk, hpg⟩
  replace l0 := clq hbk l0; replace l1 := clq hbk l1; replace l2 := clq hbk l2; replace l3 := clq hbk l3; replace l4 := clq hbk l4; replace l5 := clq hbk l5
  replace hb := hb.trans (hbk.mono hb.size)
  clear hbk HQ
  cases g with
  | false =>
    have HQ := hiq (HAW.out _ hb)
    go_wp2_with fail
    refine HQ.out.mono ?_
    rintro e W3 ⟨rfl, hbk⟩
    replace l0 := clq hbk l0; replace l1 := clq hbk l1; replace l2 := clq hbk l2; replace l3 := clq hbk l3; replace l4 := clq hbk l4; replace l5 := clq hbk l5
    replace hb := hb.trans (hbk.mono hb.size)
    clear hbk HQ
    go_wp2
    go_ret
    exact ⟨rfl, hb⟩
  | true =>
    obtain ⟨hp1, hp2, hp3⟩ := hpg rfl
    have HP := hiq (And.intro hp1 (And.intro hp2 hp3))
    have hnn : Hid (on = un) := HLN.out hp3
    have H8 : Hid (on <= 8) := HL8.out hp2
    have HSG2 : Hid (SmL l) := hiq (HSG.out hp1)
    clear hp1 hp2 hpg HLN HL8 HSG
    by_cases n0 : on < 2
    · have t1 : decide ((on : Int) < 2) = true := by simp; omega
      clear n0
      have HQ := hiq (HAW.out _ hb)
      go_wp2_with fail
      refine HQ.out.mono ?_
      rintro e W3 ⟨rfl, hbk⟩
      replace l0 := clq hbk l0; replace l1 := clq hbk l1; replace l2 := clq hbk l2; replace l3 := clq hbk l3; replace l4 := clq hbk l4; replace l5 := clq hbk l5
      replace hb := hb.trans (hbk.mono hb.size)
      clear hbk HQ
      go_wp2
      go_ret
      exact ⟨rfl, hb⟩
    · have t1 : decide ((on : Int) < 2) = false := by simp; omega
      have HQ := hiq (HCN.out _ hb)
      go_wp2_with fail
      refine HQ.out.mono ?_
      rintro e W3 ⟨rfl, hbk⟩
      replace l0 := clq hbk l0; replace l1 := clq hbk l1; replace l2 := clq hbk l2; replace l3 := clq hbk l3; replace l4 := clq hbk l4; replace l5 := clq hbk l5
      replace hb := hb.trans (hbk.mono hb.size)
      clear hbk HQ
      cases U with
      | true =>
        have HQ := hiq (HAW.out _ hb)
        go_wp2_with fail
        refine HQ.out.mono ?_
        rintro e W4 ⟨rfl, hbk⟩
        replace l0 := clq hbk l0; replace l1 := clq hbk l1; replace l2 := clq hbk l2; replace l3 := clq hbk l3; replace l4 := clq hbk l4; replace l5 := clq hbk l5
        replace hb := hb.trans (hbk.mono hb.size)
        clear hbk HQ
        go_wp2
        go_ret
        exact ⟨rfl, hb⟩
      | false =>
        obtain ⟨m, rfl⟩ : ∃ m, on = m + 2 := ⟨on - 2, by omega⟩
        obtain ⟨f1, f2, f3⟩ := HFA.out hp3 m rfl rfl
        have F1 := hiq f1
        have F2 := hiq f2
        have F3 := hiq f3
        obtain rfl : m + 2 = un := hnn.out
        clear f1 f2 f3 HFA HCN hp3 hnn n0
        have hm8 := H8.out
        have hwm : IntKind.i64.wrap (m : Int) = (m : Int) := by simp [IntKind.wrap, IntKind.signed, IntKind.bits]; omega
        have hmo : m <= oc := by omega
        have hmu : m <= uc := by omega
        have hlt1 : (m : Int) < (m : Int) + 2 := by omega
        have hge1 : (0 : Int) <= (m : Int) + 1 := by omega
        have hlt2 : (m : Int) + 1 < (m : Int) + 2 := by omega
        have hwm1 : IntKind.i64.wrap ((m : Int) + 2 - 1) = (m : Int) + 1 := by simp [IntKind.wrap, IntKind.signed, IntKind.bits]; omega
        have hok : (m + 2) * 56 <= 140737488355328 := hob
        obtain ⟨A, bo, ofo, eA, mA, eoa, -, hbo, kA, ⟨a0, a1, a2, a3, a4⟩⟩ := (HOP.out _ hb).op (j := m) (by omega)
        obtain ⟨E, bo2, ofo2, eE, mE, eoa2, -, hbo2, kE, ⟨e0, e1, e2, e3, e4⟩⟩ := (HOP.out _ hb).op (j := m + 1) (by omega)
        subst eoa
        cases eoa2
        have HA := hiq (show opK l.ops m = A from by unfold opK; rw [eA]; rfl)
        have HE := hiq (show opK l.ops (m + 1) = E from by unfold opK; rw [eE]; rfl)
        have HAT := hiq (And.intro (HSG2.out.2 A mA) (HSG2.out.2 E mE))
        have HKA := hiq (And.intro kA kE)
        obtain ⟨ak, ag, at_, ao, ax⟩ := A
        obtain ⟨ek, eg, et, eo, ex⟩ := E
        dsimp only at a0 a1 a2 a3 a4 e0 e1 e2 e3 e4
        clear eA eE mA mE kA kE
        go_wp2_with fail
        have hF0 : RdL (fun b => b < W3.heap.size) W3 ⟨⟨sec, sa, sn, sc, ta, tn, tc, ca, cn, cc⟩, some ⟨bo, ofo, none⟩, m, oc, ua, m, uc⟩ (l.front m) := by
          have q := (HRL.out _ hb).mono (S' := fun b => b < W3.heap.size) (fun b _ q => q)
          exact ⟨q.1, q.2.1.take (by show m <= m + 2; omega) hmo, q.2.2.take (by show m <= m + 2; omega) hmu⟩
        have hsf : SmL (l.front m) := ⟨HSG2.out.1, fun o ho => HSG2.out.2 o (List.mem_of_mem_take ho)⟩
        have hrs : Sml (l.front m).run.st := run_sml hsf
        have HB4 : Hid (∀ W, Below W3.heap.size W3 W -> Calls Tryz.prog 18 #[.agg #[.string sec, .slice sa sn sc, .slice ta tn tc, .slice ca cn cc, .slice (some ⟨bo, ofo, none⟩) m oc, .slice ua m uc]] W fun e w' => ∃ v : CV, e = .returned (.tuple #[v.val, .int .i64 0]) /\ RdC (fun b => b < W3.heap.size \/ W.heap.size <= b) w' v (l.front m).run.st /\ Below W.heap.size W w') := fun W h => by
          have q := state_any _ _ (l.front m) W (hF0.below h) hsf (HEB.out _ (hb.trans (h.mono hb.size)))
          unfold StatePost at q
          rw [F1.out] at q
          exact q
        have HRS := hiq hrs
        clear hF0 hsf hrs F1
        generalize (l.front m).run.st = XB at *
        obtain ⟨X, Wf, hX, hS1, hS2⟩ := family (fun V => Below W3.heap.size W3 V) W3 (Below.refl _ _)
        have HS2q := hiq hS2
        have q_l0 := fun x => clq (hS1 x) l0
        have q_l1 := fun x => clq (hS1 x) l1
        have q_l2 := fun x => clq (hS1 x) l2
        have q_l3 := fun x => clq (hS1 x) l3
        have q_l4 := fun x => clq (hS1 x) l4
        have q_l5 := fun x => clq (hS1 x) l5
        clear hS1 hS2
        have hd0 : Below W3.heap.size W3 W3.drew := (Below.refl _ _).drew
        refine wp_region_tre3 (Wf := Wf) 19 (.read 0 (.read 1 (.read 2 (.read 3 (.read 4 (.read 5 (.read 6 (.read 7 (.read 8 (.read 9 (.read 10 (.read 11 (.read 12 (.two 13 (.read 14 (.read 15 (.read 16 (.act 17 (.act 18 .fin))))) 17 (.act 13 (.read 14 (.read 15 (.read 16 (.act 18 .fin))))))))))))))))))) (by kernel_rfl) (by kernel_rfl) (fun _ _ d _ _ h => by cases d <;> exact h) (HS2q.out _ hd0) ?_
        refine wpTre3_read _ rfl (fun K hK => ?_); unfold rOp; go_simp; (refine hK _ ?_; clear hK K)
        refine wpTre3_read _ rfl (fun K hK => ?_); unfold rOp; go_simp; (refine hK _ ?_; clear hK K)
        refine wpTre3_read _ rfl (fun K hK => ?_); unfold rOp; go_simp; (refine hK _ ?_; clear hK K)
        refine wpTre3_read _ rfl (fun K hK => ?_); unfold rOp; go_simp; (refine hK _ ?_; clear hK K)
        refine wpTre3_read _ rfl (fun K hK => ?_); unfold rOp; go_simp; (refine hK _ ?_; clear hK K)
        refine wpTre3_read _ rfl (fun K hK => ?_); unfold rOp; go_simp; (refine hK _ ?_; clear hK K)
        refine wpTre3_read _ rfl (fun K hK => ?_); unfold rOp; go_simp; (refine hK _ ?_; clear hK K)
        refine wpTre3_read _ rfl (fun K hK => ?_); unfold rOp; go_simp; (refine hK _ ?_; clear hK K)
        refine wpTre3_read _ rfl (fun K hK => ?_); unfold rOp; go_simp; (refine hK _ ?_; clear hK K)
        refine wpTre3_read _ rfl (fun K hK => ?_); unfold rOp; go_simp; (refine hK _ ?_; clear hK K)
        refine wpTre3_read _ rfl (fun K hK => ?_); unfold rOp; go_simp; (refine hK _ ?_; clear hK K)
        refine wpTre3_read _ rfl (fun K hK => ?_); unfold rOp; go_simp; (refine hK _ ?_; clear hK K)
        refine wpTre3_read _ rfl (fun K hK => ?_); unfold rOp; go_simp; (refine hK _ ?_; clear hK K)
        clear q_l0 q_l1 q_l2 q_l3 q_l4 q_l5
        have hd := hd0
        clear hd0
        generalize W3.drew = V at *
        repeat' first
          | refine wpTre3_two ?_ ?_
          | (refine wpTre3_read (k := 14) _ rfl (fun K hK => ?_); unfold rOp; go_simp; (refine hK _ ?_; clear hK K))
          | (refine wpTre3_read (k := 15) _ rfl (fun K hK => ?_); unfold rOp; go_simp; (refine hK _ ?_; clear hK K))
          | (refine wpTre3_read (k := 16) _ rfl (fun K hK => ?_); unfold rOp; go_simp; (refine hK _ ?_; clear hK K))
          | (refine wpTre3_act (k := 13) _ rfl ?_
             have HQ := hiq (HB4.out _ hd)
             go_wp2_with fail
             refine HQ.out.mono ?_
             clear HQ
             have hvs := hd.size
             rintro e V2 ⟨v, he, hR, hst⟩
             obtain ⟨secB, saB, snB, scB, taB, tnB, tcB, caB, cnB, ccB⟩ := v
             change e = .returned (.tuple #[.agg #[.string secB, .slice saB snB scB, .slice taB tnB tcB, .slice caB cnB ccB], .int .i64 0]) at he
             subst he
             try (have hRX := hR.mono (S' := fun b => b ≠ bF) (fun b q _ => by have := (Array.getElem?_eq_some_iff.1 hF).1; omega))
             try (replace hF := (hst.block _ (Array.getElem?_eq_some_iff.1 hF).1).trans hF)
             replace hd := hd.trans (hst.mono hd.size)
             clear hst hvs
             generalize V2 = V at *
             go_wp2_with fail
             refine ⟨HS2q.out _ hd, ?_⟩)
          | (refine wpTre3_act (k := 17) _ rfl ?_
             have hst : Below V.heap.size V (V.alloc (.cells #[.string ⟨#[]⟩, .slice none 0 0, .slice none 0 0, .slice none 0 0] 26)) := (Below.refl _ _).alloc (Nat.le_refl _) _
             have hF := World.alloc_heap_new V (.cells #[.string ⟨#[]⟩, .slice none 0 0, .slice none 0 0, .slice none 0 0] 26)
             have hBF : W3.heap.size <= V.heap.size := hd.size
             try (have hRX := ((hR.mono (S' := fun b => b < V.heap.size) (fun b _ q => q)).below hst).mono (S' := fun b => b ≠ V.heap.size) (fun b q _ => by omega))
             replace hd := hd.trans (hst.mono hd.size)
             clear hst
             go_wp2_with fail
             generalize V.heap.size = bF at *
             generalize V.alloc (.cells #[.string ⟨#[]⟩, .slice none 0 0, .slice none 0 0, .slice none 0 0] 26) = V at *
             refine ⟨HS2q.out _ hd, ?_⟩)
          | (refine wpTre3_act (k := 18) _ rfl ?_
             have yf0 := frozen5 hF 0
             have yf1 := frozen5 hF 1
             have yf2 := frozen5 hF 2
             have yf3 := frozen5 hF 3
             obtain ⟨y0, y1, y2, y3, -⟩ := box_cells4 hF
             have hG := put4_at hF (.string secB) (.slice saB snB scB) (.slice taB tnB tcB) (.slice caB cnB ccB)
             have hpt : Below W3.heap.size W3 ((((V.setCell ⟨bF, 0, none⟩ (.string secB)).setCell ⟨bF, 1, none⟩ (.slice saB snB scB)).setCell ⟨bF, 2, none⟩ (.slice taB tnB tcB)).setCell ⟨bF, 3, none⟩ (.slice caB cnB ccB)) := put4_below hd hBF _ _ _ _
             have hRN : RdC (fun b => b ≠ bF) ((((V.setCell ⟨bF, 0, none⟩ (.string secB)).setCell ⟨bF, 1, none⟩ (.slice saB snB scB)).setCell ⟨bF, 2, none⟩ (.slice taB tnB tcB)).setCell ⟨bF, 3, none⟩ (.slice caB cnB ccB)) ⟨secB, saB, snB, scB, taB, tnB, tcB, caB, cnB, ccB⟩ XB := hRX.keep (put4_keep (by simp) _ _ _ _)
             change ((((V.setCell ⟨bF, 0, none⟩ (.string secB)).setCell ⟨bF, 1, none⟩ (.slice saB snB scB)).setCell ⟨bF, 2, none⟩ (.slice taB tnB tcB)).setCell ⟨bF, 3, none⟩ (.slice caB cnB ccB)).heap[bF]? = _ at hG
             go_wp2_with fail
             generalize ((((V.setCell ⟨bF, 0, none⟩ (.string secB)).setCell ⟨bF, 1, none⟩ (.slice saB snB scB)).setCell ⟨bF, 2, none⟩ (.slice taB tnB tcB)).setCell ⟨bF, 3, none⟩ (.slice caB cnB ccB)) = VN at *
             refine ⟨HS2q.out _ hpt, ?_⟩)
        all_goals refine wpTre3_fin ?_
        all_goals
          clear yf0 yf1 yf2 yf3 y0 y1 y2 y3 hF hRX hR HB4 hd
          obtain ⟨b0, b1, b2, b3, -⟩ := box_cells4 hG
          replace l0 := clq hpt l0; replace l1 := clq hpt l1; replace l2 := clq hpt l2; replace l3 := clq hpt l3; replace l4 := clq hpt l4; replace l5 := clq hpt l5; replace a0 := clq hpt a0; replace a1 := clq hpt a1; replace a2 := clq hpt a2; replace a3 := clq hpt a3; replace a4 := clq hpt a4; replace e0 := clq hpt e0; replace e1 := clq hpt e1; replace e2 := clq hpt e2; replace e3 := clq hpt e3; replace e4 := clq hpt e4
          replace hb := hb.trans (hpt.mono hb.size)
          have HRB := hiq hRN
          clear hRN hpt hG
          have HB5 : Hid (∀ W, Below VN.heap.size VN W -> Calls Tryz.prog 46 #[.agg #[.string secB, .slice saB snB scB, .slice taB tnB tcB, .slice caB cnB ccB], .agg #[.int .i64 ak, .string ag, .int .i64 at_, .int .i64 ao, .string ax], .agg #[.int .i64 ek, .string eg, .int .i64 et, .int .i64 eo, .string ex]] W fun e w' => e = .returned (.tuple #[.bool (commute XB ⟨ak, ag, at_, ao, ax⟩ ⟨ek, eg, et, eo, ex⟩).1, .int .i64 (commute XB ⟨ak, ag, at_, ao, ax⟩ ⟨ek, eg, et, eo, ex⟩).2]) /\ Below W.heap.size W w') := fun W h => by
            have q := commute_any _ ⟨secB, saB, snB, scB, taB, tnB, tcB, caB, cnB, ccB⟩ XB ⟨ak, ag, at_, ao, ax⟩ ⟨ek, eg, et, eo, ex⟩ W (HRB.out.below h) HRS.out (HEB.out _ (hb.trans (h.mono hb.size))) HKA.out.1 HKA.out.2 HAT.out.1 HAT.out.2
            exact q
          go_wp2_with fail
          obtain ⟨X, Wf, hX, hS1, hS2⟩ := family (fun V => Below VN.heap.size VN V) VN (Below.refl _ _)
          have HS2q := hiq hS2
          have q_l4 := fun x => clq (hS1 x) l4
          have q_l5 := fun x => clq (hS1 x) l5
          have q_b0 := fun x => clq (hS1 x) b0
          have q_b1 := fun x => clq (hS1 x) b1
          have q_b2 := fun x => clq (hS1 x) b2
          have q_b3 := fun x => clq (hS1 x) b3
          have q_a0 := fun x => clq (hS1 x) a0
          have q_a1 := fun x => clq (hS1 x) a1
          have q_a2 := fun x => clq (hS1 x) a2
          have q_a3 := fun x => clq (hS1 x) a3
          have q_a4 := fun x => clq (hS1 x) a4
          have q_e0 := fun x => clq (hS1 x) e0
          have q_e1 := fun x => clq (hS1 x) e1
          have q_e2 := fun x => clq (hS1 x) e2
          have q_e3 := fun x => clq (hS1 x) e3
          have q_e4 := fun x => clq (hS1 x) e4
          clear hS1 hS2
          have hd0 : Below VN.heap.size VN VN.drew := (Below.refl _ _).drew
          refine wp_region_tre3 (Wf := Wf) 18 (.read 0 (.read 1 (.read 2 (.read 3 (.read 4 (.read 5 (.read 6 (.read 7 (.read 8 (.read 9 (.read 10 (.read 11 (.read 12 (.act 13 (.read 14 (.read 15 (.read 16 (.act 17 .fin)))))))))))))))))) (by kernel_rfl) (by kernel_rfl) (fun _ _ d _ _ h => by cases d <;> exact h) (HS2q.out _ hd0) ?_
          refine wpTre3_read _ rfl (fun K hK => ?_); unfold rOp; go_simp; (refine hK _ ?_; clear hK K)
          refine wpTre3_read _ rfl (fun K hK => ?_); unfold rOp; go_simp; (refine hK _ ?_; clear hK K)
          refine wpTre3_read _ rfl (fun K hK => ?_); unfold rOp; go_simp; (refine hK _ ?_; clear hK K)
          refine wpTre3_read _ rfl (fun K hK => ?_); unfold rOp; go_simp; (refine hK _ ?_; clear hK K)
          refine wpTre3_read _ rfl (fun K hK => ?_); unfold rOp; go_simp; (refine hK _ ?_; clear hK K)
          refine wpTre3_read _ rfl (fun K hK => ?_); unfold rOp; go_simp; (refine hK _ ?_; clear hK K)
          refine wpTre3_read _ rfl (fun K hK => ?_); unfold rOp; go_simp; (refine hK _ ?_; clear hK K)
          refine wpTre3_read _ rfl (fun K hK => ?_); unfold rOp; go_simp; (refine hK _ ?_; clear hK K)
          refine wpTre3_read _ rfl (fun K hK => ?_); unfold rOp; go_simp; (refine hK _ ?_; clear hK K)
          refine wpTre3_read _ rfl (fun K hK => ?_); unfold rOp; go_simp; (refine hK _ ?_; clear hK K)
          refine wpTre3_read _ rfl (fun K hK => ?_); unfold rOp; go_simp; (refine hK _ ?_; clear hK K)
          refine wpTre3_read _ rfl (fun K hK => ?_); unfold rOp; go_simp; (refine hK _ ?_; clear hK K)
          refine wpTre3_read _ rfl (fun K hK => ?_); unfold rOp; go_simp; (refine hK _ ?_; clear hK K)
          clear q_l4 q_l5 q_b0 q_b1 q_b2 q_b3 q_a0 q_a1 q_a2 q_a3 q_a4 q_e0 q_e1 q_e2 q_e3 q_e4
          have hd := hd0
          clear hd0
          generalize VN.drew = V at *
          refine wpTre3_act (k := 13) _ rfl ?_
          have HQ := hiq (HB5.out _ hd)
          go_wp2_with fail
          refine HQ.out.mono ?_
          rintro e V6 ⟨rfl, hst⟩
          replace hd := hd.trans (hst.mono hd.size)
          clear hst HQ HB5
          go_wp2_with fail
          refine ⟨HS2q.out _ hd, ?_⟩
          refine wpTre3_read _ rfl (fun K hK => ?_); unfold rOp; go_simp; (refine hK _ ?_; clear hK K)
          refine wpTre3_read _ rfl (fun K hK => ?_); unfold rOp; go_simp; (refine hK _ ?_; clear hK K)
          refine wpTre3_read _ rfl (fun K hK => ?_); unfold rOp; go_simp; (refine hK _ ?_; clear hK K)
          refine wpTre3_act (k := 17) _ rfl ?_
          go_wp2_with fail
          refine ⟨HS2q.out _ hd, ?_⟩
          refine wpTre3_fin ?_
          clear HS2q hX
          replace l0 := clq hd l0; replace l1 := clq hd l1; replace l2 := clq hd l2; replace l3 := clq hd l3; replace l4 := clq hd l4; replace l5 := clq hd l5; replace a0 := clq hd a0; replace a1 := clq hd a1; replace a2 := clq hd a2; replace a3 := clq hd a3; replace a4 := clq hd a4; replace e0 := clq hd e0; replace e1 := clq hd e1; replace e2 := clq hd e2; replace e3 := clq hd e3; replace e4 := clq hd e4
          replace b0 := clq hd b0; replace b1 := clq hd b1; replace b2 := clq hd b2; replace b3 := clq hd b3
          replace HRB := hiq (HRB.out.below hd)
          replace hb := hb.trans (hd.mono hb.size)
          clear hd
          rw [HA.out, HE.out] at F3
          generalize commute XB ⟨ak, ag, at_, ao, ax⟩ ⟨ek, eg, et, eo, ex⟩ = CM at *
          obtain ⟨is, f⟩ := CM
          dsimp only
          by_cases hf : f = 0
          · subst hf
            cases is with
            | false =>
              have HQ := hiq (HAW.out _ hb)
              go_wp2_with fail
              refine HQ.out.mono ?_
              rintro e W4 ⟨rfl, hbk⟩
              replace l0 := clq hbk l0; replace l1 := clq hbk l1; replace l2 := clq hbk l2; replace l3 := clq hbk l3; replace l4 := clq hbk l4; replace l5 := clq hbk l5; replace a0 := clq hbk a0; replace a1 := clq hbk a1; replace a2 := clq hbk a2; replace a3 := clq hbk a3; replace a4 := clq hbk a4; replace e0 := clq hbk e0; replace e1 := clq hbk e1; replace e2 := clq hbk e2; replace e3 := clq hbk e3
              replace e4 := clq hbk e4; replace b0 := clq hbk b0; replace b1 := clq hbk b1; replace b2 := clq hbk b2; replace b3 := clq hbk b3
              replace HRB := hiq (HRB.out.below hbk)
              replace hb := hb.trans (hbk.mono hb.size)
              clear hbk HQ
              go_wp2
              go_ret
              exact ⟨rfl, hb⟩
            | true =>
              have F4 := hiq (F3.out rfl)
              clear F3
              have HS1 : Hid (∀ W, Below w.heap.size w W -> Calls Tryz.prog 18 #[.agg #[.string sec, .slice sa sn sc, .slice ta tn tc, .slice ca cn cc, .slice (some ⟨bo, ofo, none⟩) (m + 2) oc, .slice ua (m + 2) uc]] W (ColP l.run.st 0 W)) := fun W hb => by
                have q := HST.out l ⟨⟨sec, sa, sn, sc, ta, tn, tc, ca, cn, cc⟩, some ⟨bo, ofo, none⟩, m + 2, oc, ua, m + 2, uc⟩ W HSG2.out hb (HRL.out _ hb)
                rw [F2.out] at q
                exact q
              have HS2 : Hid (∀ W B ga gk, Below w.heap.size w W -> OwnQ 32 5 Op.cells W B ga (m + 2) gk ((l.ops.set m ⟨ek, eg, et, eo, ex⟩).set (m + 1) ⟨ak, ag, at_, ao, ax⟩) -> Calls Tryz.prog 18 #[.agg #[.string sec, .slice sa sn sc, .slice ta tn tc, .slice ca cn cc, .slice ga (m + 2) gk, .slice ua (m + 2) uc]] W (ColP l.run.st 0 W)) := fun W B ga gk hb hO => by
                have e : (l.other m).ops = (l.ops.set m ⟨ek, eg, et, eo, ex⟩).set (m + 1) ⟨ak, ag, at_, ao, ax⟩ := by unfold Lg.other; rw [HA.out, HE.out]
                have hin : ∀ o ∈ (l.other m).ops, o ∈ l.ops \/ o = ⟨ek, eg, et, eo, ex⟩ \/ o = ⟨ak, ag, at_, ao, ax⟩ := fun o ho => by
                  rw [e] at ho
                  rcases List.mem_or_eq_of_mem_set ho with q | q
                  · rcases List.mem_or_eq_of_mem_set q with q | q
                    · exact .inl q
                    · exact .inr (.inl q)
                  · exact .inr (.inr q)
                have hr : RL W ⟨⟨sec, sa, sn, sc, ta, tn, tc, ca, cn, cc⟩, ga, m + 2, gk, ua, m + 2, uc⟩ (l.other m) := by
                  have q := HRL.out W hb
                  refine ⟨q.1, ?_, q.2.2⟩
                  refine OwnQ.opsq (by rw [e]; exact hO) hok (fun _ _ _ => trivial) (fun o ho => ?_)
                  rcases hin o ho with q | rfl | rfl
                  · exact HOK.out o q
                  · exact HKA.out.2
                  · exact HKA.out.1
                have hsm : SmL (l.other m) := ⟨HSG2.out.1, fun o ho => by
                  rcases hin o ho with q | rfl | rfl
                  · exact HSG2.out.2 o q
                  · exact HAT.out.2
                  · exact HAT.out.1⟩
                have q := HST.out (l.other m) _ W hsm hb hr
                rw [F4.out] at q
                exact q
              have hal : Below V6.heap.size V6 (V6.alloc (.cells #[.string sec, .slice sa sn sc, .slice ta tn tc, .slice ca cn cc, .slice (some ⟨bo, ofo, none⟩) (m + 2) oc, .slice ua (m + 2) uc] 30)) := (Below.refl _ _).alloc (Nat.le_refl _) _
              have gX := World.alloc_heap_new V6 (.cells #[.string sec, .slice sa sn sc, .slice ta tn tc, .slice ca cn cc, .slice (some ⟨bo, ofo, none⟩) (m + 2) oc, .slice ua (m + 2) uc] 30)
              have HCL := hiq (clone_ops _ _ _ _ _ (V6.alloc (.cells #[.string sec, .slice sa sn sc, .slice ta tn tc, .slice ca cn cc, .slice (some ⟨bo, ofo, none⟩) (m + 2) oc, .slice ua (m + 2) uc] 30)) (HOP.out _ (hb.trans (hal.mono hb.size))))
              obtain ⟨c0, c1, c2, c3, c4, c5⟩ := box_cells6 gX
              have n4 := clq hal l4
              have hvx : V6.heap.size < (V6.alloc (.cells #[.string sec, .slice sa sn sc, .slice ta tn tc, .slice ca cn cc, .slice (some ⟨bo, ofo, none⟩) (m + 2) oc, .slice ua (m + 2) uc] 30)).heap.size := by simp
              go_wp2_with fail
              generalize V6.alloc (.cells #[.string sec, .slice sa sn sc, .slice ta tn tc, .slice ca cn cc, .slice (some ⟨bo, ofo, none⟩) (m + 2) oc, .slice ua (m + 2) uc] 30) = W7 at *
              refine HCL.out.mono ?_
              rintro e W8 ⟨ga, gk, rfl, hO, hst⟩
              clear HCL n4 c0 c1 c2 c3 c4 c5
              have hw8 := hst.size
              replace gX := (hst.block _ (Array.getElem?_eq_some_iff.1 gX).1).trans gX
              have hp8 := hal.trans (hst.mono hal.size)
              have c4 := (box_cells6 gX).2.2.2.2.1
              have f4 := frozen5 gX 4
              have gY : (W8.setCell ⟨V6.heap.size, 4, none⟩ (.slice ga (m + 2) gk)).heap[V6.heap.size]? = some (.cells #[.string sec, .slice sa sn sc, .slice ta tn tc, .slice ca cn cc, .slice ga (m + 2) gk, .slice ua (m + 2) uc] 30 (0, 0)) := heap_set_at (j := 4) gX _
              have hpt : Below V6.heap.size V6 (W8.setCell ⟨V6.heap.size, 4, none⟩ (.slice ga (m + 2) gk)) := hp8.setCell (p := ⟨V6.heap.size, 4, none⟩) (Nat.le_refl _) _
              have hO2 := hO.same (w' := W8.setCell ⟨V6.heap.size, 4, none⟩ (.slice ga (m + 2) gk)) (fun y hy => heap_setCell_other (by have := (hO.lt y hy).1; omega) _)
              go_wp2_with fail
              generalize W8.setCell ⟨V6.heap.size, 4, none⟩ (.slice ga (m + 2) gk) = W9 at *
              clear hO c4 f4 hst hal hp8 gX
              obtain ⟨g, rfl, hgB, hgl⟩ := hO2.addr (by omega)
              have hgx : V6.heap.size ≠ g := by omega
              have hgz : V6.heap.size <= g := by omega
              obtain ⟨X, Wf, hX, hS1, hS2⟩ := family (fun V => Below V6.heap.size V6 V /\ V.heap[V6.heap.size]? = some (.cells #[.string sec, .slice sa sn sc, .slice ta tn tc, .slice ca cn cc, .slice (some ⟨g, 0, none⟩) (m + 2) gk, .slice ua (m + 2) uc] 30 (0, 0))) W9 ⟨hpt, gY⟩
              have HS2q := hiq hS2
              have q_c4 := fun x => (box_cells6 (hS1 x).2).2.2.2.2.1
              have q_l4 := fun x => clq (hS1 x).1 l4
              have q_a0 := fun x => clq (hS1 x).1 a0
              have q_a1 := fun x => clq (hS1 x).1 a1
              have q_a2 := fun x => clq (hS1 x).1 a2
              have q_a3 := fun x => clq (hS1 x).1 a3
              have q_a4 := fun x => clq (hS1 x).1 a4
              have q_e0 := fun x => clq (hS1 x).1 e0
              have q_e1 := fun x => clq (hS1 x).1 e1
              have q_e2 := fun x => clq (hS1 x).1 e2
              have q_e3 := fun x => clq (hS1 x).1 e3
              have q_e4 := fun x => clq (hS1 x).1 e4
              clear hS1 hS2
              have hd0 : Below V6.heap.size V6 W9.drew := hpt.drew
              have gZ : W9.drew.heap[V6.heap.size]? = some (.cells #[.string sec, .slice sa sn sc, .slice ta tn tc, .slice ca cn cc, .slice (some ⟨g, 0, none⟩) (m + 2) gk, .slice ua (m + 2) uc] 30 (0, 0)) := gY
              have HO3 : Hid (OwnQ 32 5 Op.cells W9.drew W7.heap.size (some ⟨g, 0, none⟩) (m + 2) gk l.ops) := hO2
              refine wp_region_tre3 (Wf := Wf) 23 (.read 0 (.read 1 (.read 2 (.read 3 (.read 4 (.read 5 (.read 6 (.read 7 (.read 8 (.read 9 (.read 10 (.read 11 (.read 12 (.read 13 (.read 14 (.read 15 (.read 16 (.read 17 (.read 18 (.read 19 (.read 20 (.act 21 (.read 22 .fin))))))))))))))))))))))) (by kernel_rfl) (by kernel_rfl) (fun _ _ d _ _ h => by cases d <;> exact h) (HS2q.out _ ⟨hd0, gZ⟩) ?_
              clear hO2 gY hpt
              refine wpTre3_read _ rfl (fun K hK => ?_); unfold rOp; go_simp; (refine hK _ ?_; clear hK K)
              refine wpTre3_read _ rfl (fun K hK => ?_); unfold rOp; go_simp; (refine hK _ ?_; clear hK K)
              refine wpTre3_read _ rfl (fun K hK => ?_); unfold rOp; go_simp; (refine hK _ ?_; clear hK K)
              refine wpTre3_read _ rfl (fun K hK => ?_); unfold rOp; go_simp; (refine hK _ ?_; clear hK K)
              refine wpTre3_read _ rfl (fun K hK => ?_); unfold rOp; go_simp; (refine hK _ ?_; clear hK K)
              refine wpTre3_read _ rfl (fun K hK => ?_); unfold rOp; go_simp; (refine hK _ ?_; clear hK K)
              refine wpTre3_read _ rfl (fun K hK => ?_); unfold rOp; go_simp; (refine hK _ ?_; clear hK K)
              refine wpTre3_read _ rfl (fun K hK => ?_); unfold rOp; go_simp; (refine hK _ ?_; clear hK K)
              refine wpTre3_read _ rfl (fun K hK => ?_); unfold rOp; go_simp; (refine hK _ ?_; clear hK K)
              refine wpTre3_read _ rfl (fun K hK => ?_); unfold rOp; go_simp; (refine hK _ ?_; clear hK K)
              refine wpTre3_read _ rfl (fun K hK => ?_); unfold rOp; go_simp; (refine hK _ ?_; clear hK K)
              refine wpTre3_read _ rfl (fun K hK => ?_); unfold rOp; go_simp; (refine hK _ ?_; clear hK K)
              refine wpTre3_read _ rfl (fun K hK => ?_); unfold rOp; go_simp; (refine hK _ ?_; clear hK K)
              refine wpTre3_read _ rfl (fun K hK => ?_); unfold rOp; go_simp; (refine hK _ ?_; clear hK K)
              refine wpTre3_read _ rfl (fun K hK => ?_); unfold rOp; go_simp; (refine hK _ ?_; clear hK K)
              refine wpTre3_read _ rfl (fun K hK => ?_); unfold rOp; go_simp; (refine hK _ ?_; clear hK K)
              refine wpTre3_read _ rfl (fun K hK => ?_); unfold rOp; go_simp; (refine hK _ ?_; clear hK K)
              refine wpTre3_read _ rfl (fun K hK => ?_); unfold rOp; go_simp; (refine hK _ ?_; clear hK K)
              refine wpTre3_read _ rfl (fun K hK => ?_); unfold rOp; go_simp; (refine hK _ ?_; clear hK K)
              refine wpTre3_read _ rfl (fun K hK => ?_); unfold rOp; go_simp; (refine hK _ ?_; clear hK K)
              refine wpTre3_read _ rfl (fun K hK => ?_); unfold rOp; go_simp; (refine hK _ ?_; clear hK K)
              clear q_c4 q_l4 q_a0 q_a1 q_a2 q_a3 q_a4 q_e0 q_e1 q_e2 q_e3 q_e4
              generalize W9.drew = V at *
              obtain ⟨p, y0, y1, y2, y3, y4⟩ := HO3.out.opAt (j := m) (by omega)
              have yf0 := HO3.out.frozenAt (m * 5)
              have yf1 := HO3.out.frozenAt (m * 5 + 1)
              have yf2 := HO3.out.frozenAt (m * 5 + 2)
              have yf3 := HO3.out.frozenAt (m * 5 + 3)
              have yf4 := HO3.out.frozenAt (m * 5 + 4)
              have HO4 := hiq (HO3.out.putOp (j := m) (by omega) ⟨ek, eg, et, eo, ex⟩)
              have hdn := putQ_below hd0 hgz (m * 5) ⟨ek, eg, et, eo, ex⟩
              have gN := (putQ_other hgx (m * 5) ⟨ek, eg, et, eo, ex⟩).trans gZ
              dsimp only at HO4
              dsimp only [putQ] at hdn gN
              refine wpTre3_act (k := 21) _ rfl ?_
              go_wp2_with fail
              generalize (((((V.setCell ⟨g, m * 5, none⟩ (.int .i64 ek)).setCell ⟨g, m * 5 + 1, none⟩ (.string eg)).setCell ⟨g, m * 5 + 2, none⟩ (.int .i64 et)).setCell ⟨g, m * 5 + 3, none⟩ (.int .i64 eo)).setCell ⟨g, m * 5 + 4, none⟩ (.string ex)) = VN2 at *
              refine ⟨HS2q.out _ ⟨hdn, gN⟩, ?_⟩
              clear y0 y1 y2 y3 y4 yf0 yf1 yf2 yf3 yf4 p hd0 gZ HO3
              refine wpTre3_read _ rfl (fun K hK => ?_); unfold rOp; go_simp; (refine hK _ ?_; clear hK K)
              refine wpTre3_fin ?_
              clear HS2q hX
              obtain ⟨p, y0, y1, y2, y3, y4⟩ := HO4.out.opAt (j := m + 1) (by omega)
              have yf0 := HO4.out.frozenAt ((m + 1) * 5)
              have yf1 := HO4.out.frozenAt ((m + 1) * 5 + 1)
              have yf2 := HO4.out.frozenAt ((m + 1) * 5 + 2)
              have yf3 := HO4.out.frozenAt ((m + 1) * 5 + 3)
              have yf4 := HO4.out.frozenAt ((m + 1) * 5 + 4)
              have HO5 := hiq (HO4.out.putOp (j := m + 1) (by omega) ⟨ak, ag, at_, ao, ax⟩)
              have hpt := putQ_below hdn hgz ((m + 1) * 5) ⟨ak, ag, at_, ao, ax⟩
              have gP := (putQ_other hgx ((m + 1) * 5) ⟨ak, ag, at_, ao, ax⟩).trans gN
              dsimp only at HO5
              dsimp only [putQ] at hpt gP
              clear hdn gN HO4
              replace l0 := clq hpt l0; replace l1 := clq hpt l1; replace l2 := clq hpt l2; replace l3 := clq hpt l3; replace l4 := clq hpt l4; replace l5 := clq hpt l5; replace a0 := clq hpt a0; replace a1 := clq hpt a1; replace a2 := clq hpt a2; replace a3 := clq hpt a3; replace a4 := clq hpt a4; replace e0 := clq hpt e0; replace e1 := clq hpt e1; replace e2 := clq hpt e2; replace e3 := clq hpt e3
              replace e4 := clq hpt e4; replace b0 := clq hpt b0; replace b1 := clq hpt b1; replace b2 := clq hpt b2; replace b3 := clq hpt b3
              replace HRB := hiq (HRB.out.below hpt)
              obtain ⟨c0, c1, c2, c3, c4, c5⟩ := box_cells6 gP
              replace hb := hb.trans (hpt.mono hb.size)
              have HQ := hiq (HS1.out _ hb)
              change Hid (Calls _ _ #[.agg #[.string sec, .slice sa sn sc, .slice ta tn tc, .slice ca cn cc, .slice (some ⟨bo, ofo, none⟩) (m + 2) oc, .slice ua (m + 2) uc]] _ _) at HQ
              go_wp2_with fail
              generalize (((((VN2.setCell ⟨g, (m + 1) * 5, none⟩ (.int .i64 ak)).setCell ⟨g, (m + 1) * 5 + 1, none⟩ (.string ag)).setCell ⟨g, (m + 1) * 5 + 2, none⟩ (.int .i64 at_)).setCell ⟨g, (m + 1) * 5 + 3, none⟩ (.int .i64 ao)).setCell ⟨g, (m + 1) * 5 + 4, none⟩ (.string ax)) = W4 at *
              refine HQ.out.mono ?_
              rintro e W5 ⟨v, he, hR, hbk⟩
              obtain ⟨secX, saX, snX, scX, taX, tnX, tcX, caX, cnX, ccX⟩ := v
              change e = .returned (.tuple #[.agg #[.string secX, .slice saX snX scX, .slice taX tnX tcX, .slice caX cnX ccX], .int .i64 0]) at he
              subst he
              have hal : Below W5.heap.size W5 (W5.alloc (.cells #[.string secX, .slice saX snX scX, .slice taX tnX tcX, .slice caX cnX ccX] 26)) := (Below.refl _ _).alloc (Nat.le_refl _) _
              have hst := hbk.trans (hal.mono hbk.size)
              obtain ⟨x0, x1, x2, x3, -⟩ := box_cells4 (World.alloc_heap_new W5 (.cells #[.string secX, .slice saX snX scX, .slice taX tnX tcX, .slice caX cnX ccX] 26))
              replace l0 := clq hst l0; replace l1 := clq hst l1; replace l2 := clq hst l2; replace l3 := clq hst l3; replace l4 := clq hst l4; replace l5 := clq hst l5; replace a0 := clq hst a0; replace a1 := clq hst a1; replace a2 := clq hst a2; replace a3 := clq hst a3; replace a4 := clq hst a4; replace e0 := clq hst e0; replace e1 := clq hst e1; replace e2 := clq hst e2; replace e3 := clq hst e3
              replace e4 := clq hst e4; replace b0 := clq hst b0; replace b1 := clq hst b1; replace b2 := clq hst b2; replace b3 := clq hst b3; replace c0 := clq hst c0; replace c1 := clq hst c1; replace c2 := clq hst c2; replace c3 := clq hst c3; replace c4 := clq hst c4; replace c5 := clq hst c5
              replace HRB := hiq (HRB.out.below hst)
              replace HO5 := hiq (HO5.out.below hst)
              have HRX := hiq (hR.below hal)
              replace hb := hb.trans (hst.mono hb.size)
              clear hR hbk hal hst HQ
              have HQ := hiq (HS2.out _ _ _ _ hb HO5.out)
              change Hid (Calls _ _ #[.agg #[.string sec, .slice sa sn sc, .slice ta tn tc, .slice ca cn cc, .slice (some ⟨g, 0, none⟩) (m + 2) gk, .slice ua (m + 2) uc]] _ _) at HQ
              go_wp2_with fail
              generalize W5.alloc (.cells #[.string secX, .slice saX snX scX, .slice taX tnX tcX, .slice caX cnX ccX] 26) = W6 at *
              refine HQ.out.mono ?_
              rintro e W7 ⟨v, he, hR, hbk⟩
              obtain ⟨secY, saY, snY, scY, taY, tnY, tcY, caY, cnY, ccY⟩ := v
              change e = .returned (.tuple #[.agg #[.string secY, .slice saY snY scY, .slice taY tnY tcY, .slice caY cnY ccY], .int .i64 0]) at he
              subst he
              have hal : Below W7.heap.size W7 (W7.alloc (.cells #[.string secY, .slice saY snY scY, .slice taY tnY tcY, .slice caY cnY ccY] 26)) := (Below.refl _ _).alloc (Nat.le_refl _) _
              have hst := hbk.trans (hal.mono hbk.size)
              obtain ⟨y0, y1, y2, y3, -⟩ := box_cells4 (World.alloc_heap_new W7 (.cells #[.string secY, .slice saY snY scY, .slice taY tnY tcY, .slice caY cnY ccY] 26))
              replace l0 := clq hst l0; replace l1 := clq hst l1; replace l2 := clq hst l2; replace l3 := clq hst l3; replace l4 := clq hst l4; replace l5 := clq hst l5; replace a0 := clq hst a0; replace a1 := clq hst a1; replace a2 := clq hst a2; replace a3 := clq hst a3; replace a4 := clq hst a4; replace e0 := clq hst e0; replace e1 := clq hst e1; replace e2 := clq hst e2; replace e3 := clq hst e3
              replace e4 := clq hst e4; replace b0 := clq hst b0; replace b1 := clq hst b1; replace b2 := clq hst b2; replace b3 := clq hst b3; replace c0 := clq hst c0; replace c1 := clq hst c1; replace c2 := clq hst c2; replace c3 := clq hst c3; replace c4 := clq hst c4; replace c5 := clq hst c5; replace x0 := clq hst x0; replace x1 := clq hst x1; replace x2 := clq hst x2; replace x3 := clq hst x3
              replace HRB := hiq (HRB.out.below hst)
              replace HO5 := hiq (HO5.out.below hst)
              replace HRX := hiq (HRX.out.below hst)
              have HRY := hiq (hR.below hal)
              replace hb := hb.trans (hst.mono hb.size)
              clear hR hbk hal hst HQ
              have HQ := hiq (HSM.out ⟨secX, saX, snX, scX, taX, tnX, tcX, caX, cnX, ccX⟩ ⟨secY, saY, snY, scY, taY, tnY, tcY, caY, cnY, ccY⟩ _ _ HRX.out HRY.out)
              change Hid (Calls _ _ #[.agg #[.string secX, .slice saX snX scX, .slice taX tnX tcX, .slice caX cnX ccX], .agg #[.string secY, .slice saY snY scY, .slice taY tnY tcY, .slice caY cnY ccY]] _ _) at HQ
              go_wp2_with fail
              generalize W7.alloc (.cells #[.string secY, .slice saY snY scY, .slice taY tnY tcY, .slice caY cnY ccY] 26) = W8 at *
              refine HQ.out.mono ?_
              rintro e W9 ⟨rfl, hbk⟩
              replace l0 := clq hbk l0; replace l1 := clq hbk l1; replace l2 := clq hbk l2; replace l3 := clq hbk l3; replace l4 := clq hbk l4; replace l5 := clq hbk l5; replace a0 := clq hbk a0; replace a1 := clq hbk a1; replace a2 := clq hbk a2; replace a3 := clq hbk a3; replace a4 := clq hbk a4; replace e0 := clq hbk e0; replace e1 := clq hbk e1; replace e2 := clq hbk e2; replace e3 := clq hbk e3
              replace e4 := clq hbk e4; replace b0 := clq hbk b0; replace b1 := clq hbk b1; replace b2 := clq hbk b2; replace b3 := clq hbk b3; replace c0 := clq hbk c0; replace c1 := clq hbk c1; replace c2 := clq hbk c2; replace c3 := clq hbk c3; replace c4 := clq hbk c4; replace c5 := clq hbk c5; replace x0 := clq hbk x0; replace x1 := clq hbk x1; replace x2 := clq hbk x2; replace x3 := clq hbk x3
              replace y0 := clq hbk y0; replace y1 := clq hbk y1; replace y2 := clq hbk y2; replace y3 := clq hbk y3
              replace HRB := hiq (HRB.out.below hbk)
              replace HO5 := hiq (HO5.out.below hbk)
              replace HRX := hiq (HRX.out.below hbk)
              replace HRY := hiq (HRY.out.below hbk)
              replace hb := hb.trans (hbk.mono hb.size)
              clear hbk HQ
              have HQ := hiq (HAW.out _ hb)
              go_wp2_with fail
              refine HQ.out.mono ?_
              rintro e W10 ⟨rfl, hbk⟩
              replace l0 := clq hbk l0; replace l1 := clq hbk l1; replace l2 := clq hbk l2; replace l3 := clq hbk l3; replace l4 := clq hbk l4; replace l5 := clq hbk l5; replace a0 := clq hbk a0; replace a1 := clq hbk a1; replace a2 := clq hbk a2; replace a3 := clq hbk a3; replace a4 := clq hbk a4; replace e0 := clq hbk e0; replace e1 := clq hbk e1; replace e2 := clq hbk e2; replace e3 := clq hbk e3
              replace e4 := clq hbk e4; replace b0 := clq hbk b0; replace b1 := clq hbk b1; replace b2 := clq hbk b2; replace b3 := clq hbk b3; replace c0 := clq hbk c0; replace c1 := clq hbk c1; replace c2 := clq hbk c2; replace c3 := clq hbk c3; replace c4 := clq hbk c4; replace c5 := clq hbk c5; replace x0 := clq hbk x0; replace x1 := clq hbk x1; replace x2 := clq hbk x2; replace x3 := clq hbk x3
              replace y0 := clq hbk y0; replace y1 := clq hbk y1; replace y2 := clq hbk y2; replace y3 := clq hbk y3
              replace HRB := hiq (HRB.out.below hbk)
              replace HO5 := hiq (HO5.out.below hbk)
              replace HRX := hiq (HRX.out.below hbk)
              replace HRY := hiq (HRY.out.below hbk)
              replace hb := hb.trans (hbk.mono hb.size)
              clear hbk HQ
              go_wp2
              go_ret
              exact ⟨rfl, hb⟩
          · have t7 : ((f : Int) != 0) = true := by simpa using hf
            have t8 : ((f : Int) == 0) = false := by simpa using hf
            have HQ := hiq (HAW.out _ hb)
            go_wp2_with fail
            refine HQ.out.mono ?_
            rintro e W4 ⟨rfl, hbk⟩
            replace l0 := clq hbk l0; replace l1 := clq hbk l1; replace l2 := clq hbk l2; replace l3 := clq hbk l3; replace l4 := clq hbk l4; replace l5 := clq hbk l5; replace a0 := clq hbk a0; replace a1 := clq hbk a1; replace a2 := clq hbk a2; replace a3 := clq hbk a3; replace a4 := clq hbk a4; replace e0 := clq hbk e0; replace e1 := clq hbk e1; replace e2 := clq hbk e2; replace e3 := clq hbk e3
            replace e4 := clq hbk e4; replace b0 := clq hbk b0; replace b1 := clq hbk b1; replace b2 := clq hbk b2; replace b3 := clq hbk b3
            replace HRB := hiq (HRB.out.below hbk)
            replace hb := hb.trans (hbk.mono hb.size)
            clear hbk HQ
            go_wp2
            go_ret
            exact ⟨rfl, hb⟩
end Go.Proofs.YtfdipkhbemgojaaGreatDoor
