/- Joined: ORun. -/
import Derived.Test.YtfdipkhbemgojaaGreatDoorU21
import Derived.Test.YtfdipkhbemgojaaGreatDoorU29
import Derived.Test.YtfdipkhbemgojaaGreatDoorU30
set_option linter.unusedVariables false
set_option linter.unusedSimpArgs false
set_option maxRecDepth 100000
set_option maxHeartbeats 16000000
namespace Go.Proofs.YtfdipkhbemgojaaGreatDoor
open Go.RowKit

/-- Blocks that are not the skipped ones' own. -/
def Apt (G : Nat -> Prop) (a : Option Addr) (b : Nat) : Prop := G b /\ ∀ y, a = some y -> y.block ≠ b
theorem runN_len (x : Col) (ops : List Op) (und : List Bool) : ∀ k, (runN x ops und k).sk.length <= k
  | 0 => Nat.le_refl _
  | k + 1 => by
    have ih := runN_len x ops und k
    rw [runN_succ]
    unfold stepR
    split
    · omega
    · split
      · dsimp only; omega
      · simp; omega
theorem run_ref (S : Nat -> Prop) (v : CV) (x : Col) (oa : Option Addr) (on oc : Nat) (ua : Option Addr) (un uc : Nat) (ops : List Op) (und : List Bool) (w : World) (h : RdC S w v x) (ho : Opsq S w oa on oc ops) (hu : Flgs S w ua un uc und)
    (hl : ops.length = und.length) (hm : Sml x) (ht : ∀ o ∈ ops, o.text.size <= 1000000) (hn : on <= 4096) : Calls Tryz.prog 56 #[v.val, .slice oa on oc, .slice ua un uc] w (RunPost S x ops und w) := by
  have HCK : Hid (∀ (T : Nat -> Prop) (u : CV) (k : Nat) (o : Op) (W : World), RdC T W u (runN x ops und k).st -> Calls Tryz.prog 55 #[u.val, o.val] W fun e w' => e = .returned (.int .i64 (opErr (runN x ops und k).st o)) /\ Below W.heap.size W w') := fun T u k o W hr => rcheck_ref T u _ o W hr (runN_sml hm ht k)
  have HAP : Hid (∀ (T : Nat -> Prop) (u : CV) (k : Nat) (o : Op) (W : World), o.ok -> RdC T W u (runN x ops und k).st -> Calls Tryz.prog 84 #[u.val, o.val] W (EditPost T (runN x ops und k).st o W)) := fun T u k o W hok hr => rapply_ref T u _ o W hr (runN_sml hm ht k) hok
  have HU := hiq hu
  have HOP := hiq ho
  have HX := hiq h
  have HLL : Hid (on = ops.length /\ un = und.length /\ ops.length = und.length) := ⟨ho.len, hu.len, hl⟩
  have hun : on <= un := by have := ho.len; have := hu.len; omega
  have hob := ho.bound
  have hub := hu.bound
  obtain ⟨V, hV⟩ : ∃ V, V = v := ⟨_, rfl⟩
  rw [<- hV] at HX
  clear h ho hu hl hm ht
  obtain ⟨sec, sa, sn, sc, ta, tn, tc, ca, cn, cc⟩ := v
  have hVe : Hid (V = ⟨sec, sa, sn, sc, ta, tn, tc, ca, cn, cc⟩) := hV
  clear hV
  change Calls _ _ #[.agg #[.string sec, .slice sa sn sc, .slice ta tn tc, .slice ca cn cc], _, _] _ _
  obtain ⟨W1, hW1, hb0, hs1, gX, gR, gS⟩ := box3r w #[.string sec, .slice sa sn sc, .slice ta tn tc, .slice ca cn cc] #[.string ⟨#[]⟩, .slice none 0 0, .slice none 0 0, .slice none 0 0] #[] 26 26 3
  have hQ0 : Hid (OwnQ 3 1 encI W1 (w.heap.size + 2) (some ⟨w.heap.size + 1 + 1, 0, none⟩) 0 0 (runN x ops und 0).sk) := by
    show OwnQ _ _ _ _ _ _ _ _ []
    have := OwnQ.lit0 3 1 encI ((w.alloc (.cells #[.string sec, .slice sa sn sc, .slice ta tn tc, .slice ca cn cc] 26)).alloc (.cells #[.string ⟨#[]⟩, .slice none 0 0, .slice none 0 0, .slice none 0 0] 26)) (w.heap.size + 2) (by simp)
    rw [<- hW1] at this
    simpa using this
  have hR0 : Hid (RdC (Apt (fun b => (S b /\ b < w.heap.size) \/ w.heap.size + 2 <= b) (some ⟨w.heap.size + 1 + 1, 0, none⟩)) W1 V (runN x ops und 0).st) :=
    ((HX.out.mono (S' := fun b => S b /\ b < w.heap.size) (fun b h1 h2 => ⟨h1, h2⟩)).below hb0).mono (fun b q _ => ⟨.inl q, fun y hy => by cases hy; have := q.2; show w.heap.size + 1 + 1 ≠ b; omega⟩)
  have gX' : W1.heap[w.heap.size]? = some (.cells V.arr 26 (0, 0)) := by rw [hVe.out]; exact gX
  have HGX := hiq gX'
  have HGR := hiq gR
  obtain ⟨c0, c1, c2, c3, -⟩ := box_cells4 gX
  rw [hW1] at c0 c1 c2 c3
  have HB0 := hiq hb0
  clear gX gX' gR gS
  go_enter Tryz.func56, Tryz.ntmps56
  go_wp2_with fail
  rw [<- hW1] at *
  clear hW1
  clear c0 c1 c2 c3
  go_loopw [9, 10, 11] (fun s f i wr => ∃ (k : Nat) (v' : CV) (a : Option Addr) (n c : Nat), i = .int .i64 k /\ k <= on /\ f = .int .i64 (runN x ops und k).er /\ s = .slice a n c /\ n <= k /\ wr.heap[w.heap.size]? = some (.cells v'.arr 26 (0, 0)) /\ wr.heap[w.heap.size + 1]? = some (.cells #[.string ⟨#[]⟩, .slice none 0 0, .slice none 0 0, .slice none 0 0] 26 (0, 0)) /\
    Hid (RdC (Apt (fun b => (S b /\ b < w.heap.size) \/ w.heap.size + 2 <= b) a) wr v' (runN x ops und k).st) /\ Hid (OwnQ 3 1 encI wr (w.heap.size + 2) a n c (runN x ops und k).sk) /\ Below w.heap.size w wr) (fun _ _ i _ => on - (intOf i).toNat)
  case atStart => exact ⟨0, V, _, 0, 0, rfl, Nat.zero_le _, rfl, rfl, Nat.le_refl _, HGX.out, HGR.out, hR0, hQ0, HB0.out⟩
  case round =>
    clear HGX HGR hR0 hQ0 HB0 hb0
    obtain ⟨k, v', a, n, c, rfl, hk, rfl, rfl, hnk, gX, gR, hR, hQ, hb⟩ := hrel
    have hlx := (Array.getElem?_eq_some_iff.1 gR).1
    by_cases hlt : k < on
    · obtain ⟨o, bo, off, eo, hmo, rfl, -, -, hoo, ⟨d0, d1, d2, d3, d4⟩⟩ := (HOP.out.below rOpn_ok hb).op hlt
      obtain ⟨u, bu, ofu, eu, -, rfl, -, -, du⟩ := (HU.out.below rBool_ok hb).flg (j := k) (by omega)
      have hop : opK ops k = o := by unfold opK; rw [eo]; rfl
      have hunk : unK und k = u := by unfold unK; rw [eu]; rfl
      have hNX : Hid (runN x ops und (k + 1) = stepR (runN x ops und k) k o u) := by rw [<- hop, <- hunk]; exact runN_succ _ _ _ _
      have hku : k < un := by omega
      have HER : Hid ((runN x ops und k).er = 0 ↔ (runN x ops und k).sk = []) := runN_er x ops und k
      have HOOK := hiq hoo
      clear eo eu hmo hop hunk hoo
      cases u with
      | true =>
        have hNX2 : Hid (runN x ops und (k + 1) = runN x ops und k) := by show _ = _; rw [hNX.out, stepR, if_pos rfl]
        clear d0 d1 d2 d3 d4 hNX
        go_wp2
        go_roundw
        case rel => exact ⟨k + 1, v', a, n, c, by go_num, by omega, by rw [hNX2.out], rfl, by omega, gX, gR, by rw [hNX2.out]; exact hR, by rw [hNX2.out]; exact hQ, hb⟩
        case measure => simp [intOf]; omega
      | false =>
        have hNX0 : Hid (opErr (runN x ops und k).st o = 0 -> runN x ops und (k + 1) = ⟨opApply (runN x ops und k).st o, (runN x ops und k).sk, (runN x ops und k).er⟩) := fun h0 => by rw [hNX.out, stepR, if_neg (by simp), if_pos h0]
        have hNX1 : Hid (opErr (runN x ops und k).st o ≠ 0 -> runN x ops und (k + 1) = ⟨(runN x ops und k).st, (runN x ops und k).sk ++ [(k : Int)], if (runN x ops und k).er = 0 then opErr (runN x ops und k).st o else (runN x ops und k).er⟩) := fun h0 => by rw [hNX.out, stepR, if_neg (by simp), if_neg h0]
        have HCQ := hiq (fun W (hbW : Below wr.heap.size wr W) => HCK.out _ v' k o W (hR.out.below hbW))
        have HAQ := hiq (fun W (hbW : Below wr.heap.size wr W) => HAP.out _ v' k o W HOOK.out (hR.out.below hbW))
        unfold EditPost at HAQ
        generalize opErr (runN x ops und k).st o = E at *
        generalize opApply (runN x ops und k).st o = Y at *
        clear hNX HOOK
        obtain ⟨sec1, sa1, sn1, sc1, ta1, tn1, tc1, ca1, cn1, cc1⟩ := v'
        obtain ⟨ok, og, ot, oo, ox⟩ := o
        change wr.heap[w.heap.size]? = some (.cells #[.string sec1, .slice sa1 sn1 sc1, .slice ta1 tn1 tc1, .slice ca1 cn1 cc1] 26 (0, 0)) at gX
        change Hid (∀ W, _ -> Calls _ _ #[.agg #[.string sec1, .slice sa1 sn1 sc1, .slice ta1 tn1 tc1, .slice ca1 cn1 cc1], .agg #[.int .i64 ok, .string og, .int .i64 ot, .int .i64 oo, .string ox]] _ _) at HCQ
        change Hid (∀ W, _ -> Calls _ _ #[.agg #[.string sec1, .slice sa1 sn1 sc1, .slice ta1 tn1 tc1, .slice ca1 cn1 cc1], .agg #[.int .i64 ok, .string og, .int .i64 ot, .int .i64 oo, .string ox]] _ _) at HAQ
        dsimp only at d0 d1 d2 d3 d4
        obtain ⟨c0, c1, c2, c3, -⟩ := box_cells4 gX
        go_wp2_with fail
        obtain ⟨X, Wf, hX, hS1, hS2⟩ := family (fun V => Below wr.heap.size wr V) wr (Below.refl _ _)
        have HS2 := hiq hS2
        have q_c0 := fun x => clq (hS1 x) c0
        have q_c1 := fun x => clq (hS1 x) c1
        have q_c2 := fun x => clq (hS1 x) c2
        have q_c3 := fun x => clq (hS1 x) c3
        have q_d0 := fun x => clq (hS1 x) d0
        have q_d1 := fun x => clq (hS1 x) d1
        have q_d2 := fun x => clq (hS1 x) d2
        have q_d3 := fun x => clq (hS1 x) d3
        have q_d4 := fun x => clq (hS1 x) d4
        clear hS1 hS2
        have hd0 : Below wr.heap.size wr wr.drew := (Below.refl _ _).drew
        refine wp_region_tree (Wf := Wf) 6 (.read 0 (.read 1 (.read 2 (.read 3 (.read 4 (.act 5 .fin)))))) (by kernel_rfl) (by kernel_rfl) (fun _ _ d _ _ h => by cases d <;> exact h) (HS2.out _ hd0) ?_
        refine wpTree_read _ rfl (fun K hK => ?_); unfold rOp; go_simp; (refine hK _ ?_; clear hK K)
        refine wpTree_read _ rfl (fun K hK => ?_); unfold rOp; go_simp; (refine hK _ ?_; clear hK K)
        refine wpTree_read _ rfl (fun K hK => ?_); unfold rOp; go_simp; (refine hK _ ?_; clear hK K)
        refine wpTree_read _ rfl (fun K hK => ?_); unfold rOp; go_simp; (refine hK _ ?_; clear hK K)
        refine wpTree_read _ rfl (fun K hK => ?_); unfold rOp; go_simp; (refine hK _ ?_; clear hK K)
        clear q_c0 q_c1 q_c2 q_c3 q_d0 q_d1 q_d2 q_d3 q_d4
        refine wpTree_act _ rfl ?_
        have HC1 := hiq (HCQ.out _ hd0)
        go_wp2_with fail
        refine HC1.out.mono ?_
        rintro e W2 ⟨rfl, hb2⟩
        have hd1 := hd0.trans (hb2.mono hd0.size)
        go_wp2_with fail
        refine ⟨HS2.out _ hd1, wpTree_fin ?_⟩
        have gX2 := (hd1.block _ (by omega)).trans gX
        have gR2 := (hd1.block _ hlx).trans gR
        replace d0 := clq hd1 d0; replace d1 := clq hd1 d1; replace d2 := clq hd1 d2; replace d3 := clq hd1 d3; replace d4 := clq hd1 d4
        obtain ⟨c0, c1, c2, c3, cf⟩ := box_cells4 gX2
        have hR2 := hiq (hR.out.below hd1)
        have hQ2 := hiq (hQ.out.below hd1)
        have hbw2 := hb.trans (hd1.mono hb.size)
        have hs2 := hd1.size
        clear HS2 HC1 hd0 hb2
        by_cases h0 : E = 0
        · have t0 : ((E : Int) != 0) = false := by simp [h0]
          have hNX := hiq (hNX0.out h0)
          clear hNX0 hNX1
          have HD1 := hiq hd1
          clear hd1
          go_wp2_with fail
          refine wp_region_treeZ (Wf := fun w : World => w) (.read 1 (.read 2 (.read 3 (.two 0 (.act 4 (.act 5 (.read 6 (.read 7 (.read 8 (.act 9 .fin)))))) 4 (.act 0 (.act 5 (.read 6 (.read 7 (.read 8 (.act 9 .fin)))))))))) (by kernel_rfl) (by kernel_rfl) (fun _ _ d _ _ h => by cases d <;> exact h) ⟨_, rfl⟩ ?_
          have hd0 : Below W2.heap.size W2 W2.drew := (Below.refl _ _).drew
          refine wpTree_read _ rfl (fun K hK => ?_); unfold rOp; go_simp; (refine hK _ ?_; clear hK K)
          refine wpTree_read _ rfl (fun K hK => ?_); unfold rOp; go_simp; (refine hK _ ?_; clear hK K)
          refine wpTree_read _ rfl (fun K hK => ?_); unfold rOp; go_simp; (refine hK _ ?_; clear hK K)
          have HA1 := hiq (HAQ.out _ (HD1.out.trans (hd0.mono HD1.out.size)))
          have gX2d : W2.drew.heap[w.heap.size]? = some (.cells #[.string sec1, .slice sa1 sn1 sc1, .slice ta1 tn1 tc1, .slice ca1 cn1 cc1] 26 (0, 0)) := gX2
          have gR2d : W2.drew.heap[w.heap.size + 1]? = some (.cells #[.string ⟨#[]⟩, .slice none 0 0, .slice none 0 0, .slice none 0 0] 26 (0, 0)) := gR2
          have hQ2d := hiq (hQ2.out.below hd0)
          have hbw2d := hbw2.trans (hd0.mono hbw2.size)
          have hs2d := hd0.size
          replace c0 := clq hd0 c0; replace c1 := clq hd0 c1; replace c2 := clq hd0 c2; replace c3 := clq hd0 c3; replace d0 := clq hd0 d0; replace d1 := clq hd0 d1; replace d2 := clq hd0 d2; replace d3 := clq hd0 d3; replace d4 := clq hd0 d4
          generalize hWD : W2.drew = WD at *
          clear hWD gX2 gR2 hQ2 hbw2 hd0 cf
          refine wpTree_two ?_ ?_ <;>
          · refine wpTree_act _ rfl ?_
            go_wp2_with fail
            refine ⟨⟨_, rfl⟩, wpTree_act _ rfl ?_⟩
            go_wp2_with fail
            refine ⟨⟨_, rfl⟩, wpTree_act _ rfl ?_⟩
            go_wp2_with fail
            refine HA1.out.mono ?_
            rintro e W3 ⟨v2, he, hR3, hb3⟩
            obtain ⟨sec2, sa2, sn2, sc2, ta2, tn2, tc2, ca2, cn2, cc2⟩ := v2
            change e = .returned (.tuple #[.agg #[.string sec2, .slice sa2 sn2 sc2, .slice ta2 tn2 tc2, .slice ca2 cn2 cc2], .int .i64 E]) at he
            subst he
            go_wp2_with fail
            refine ⟨⟨_, rfl⟩, ?_⟩
            refine wpTree_read _ rfl (fun K hK => ?_); unfold rOp; go_simp; (refine hK _ ?_; clear hK K)
            refine wpTree_read _ rfl (fun K hK => ?_); unfold rOp; go_simp; (refine hK _ ?_; clear hK K)
            refine wpTree_read _ rfl (fun K hK => ?_); unfold rOp; go_simp; (refine hK _ ?_; clear hK K)
            have gX3 := (hb3.block _ (by omega)).trans gX2d
            have gR3 := (hb3.block _ (by omega)).trans gR2d
            have hQ3 := hiq (hQ2d.out.below hb3)
            have hbw3 := hbw2d.trans (hb3.mono hbw2d.size)
            have hs3 := hb3.size
            have hR3H := hiq hR3
            obtain ⟨y0, y1, y2, y3, yf⟩ := box_cells4 gX3
            have yf0 := yf 0
            have yf1 := yf 1
            have yf2 := yf 2
            have yf3 := yf 3
            clear yf c0 c1 c2 c3 d0 d1 d2 d3 d4 hb3 hR3
            refine wpTree_act _ rfl ?_
            go_wp2_with fail
            refine ⟨⟨_, rfl⟩, wpTree_fin ?_⟩
            change Exit.inBlock _ _ _ _ (put4 W3 w.heap.size (.string sec2) (.slice sa2 sn2 sc2) (.slice ta2 tn2 tc2) (.slice ca2 cn2 cc2))
            have gXf := put4_at gX3 (.string sec2) (.slice sa2 sn2 sc2) (.slice ta2 tn2 tc2) (.slice ca2 cn2 cc2)
            have gRf := (put4_other (W := W3) (b := w.heap.size) (b' := w.heap.size + 1) (by omega) (.string sec2) (.slice sa2 sn2 sc2) (.slice ta2 tn2 tc2) (.slice ca2 cn2 cc2)).trans gR3
            have hbf : Below w.heap.size w (put4 W3 w.heap.size (.string sec2) (.slice sa2 sn2 sc2) (.slice ta2 tn2 tc2) (.slice ca2 cn2 cc2)) := put4_below hbw3 (Nat.le_refl _) _ _ _ _
            have hQf : Hid (OwnQ 3 1 encI (put4 W3 w.heap.size (.string sec2) (.slice sa2 sn2 sc2) (.slice ta2 tn2 tc2) (.slice ca2 cn2 cc2)) (w.heap.size + 2) a n c (runN x ops und (k + 1)).sk) := by
              show OwnQ _ _ _ _ _ _ _ _ _
              rw [hNX.out]
              exact hQ3.out.same (fun y hy => put4_other (by have := (hQ3.out.lt y hy).1; omega) _ _ _ _)
            have hRf : Hid (RdC (Apt (fun b => (S b /\ b < w.heap.size) \/ w.heap.size + 2 <= b) a) (put4 W3 w.heap.size (.string sec2) (.slice sa2 sn2 sc2) (.slice ta2 tn2 tc2) (.slice ca2 cn2 cc2)) ⟨sec2, sa2, sn2, sc2, ta2, tn2, tc2, ca2, cn2, cc2⟩ (runN x ops und (k + 1)).st) := by
              show RdC _ _ _ _
              rw [hNX.out]
              refine (hR3H.out.keep (put4_keep ?_ _ _ _ _)).mono ?_
              · rintro (⟨q, -⟩ | q)
                · rcases q with q | q <;> omega
                · omega
              · rintro b (q | q) _
                · exact q
                · exact ⟨.inr (by omega), fun y hy => by have := (hQ2d.out.lt y hy).2; omega⟩
            have hNE : Hid ((runN x ops und (k + 1)).er = (runN x ops und k).er) := by show _ = _; rw [hNX.out]
            clear y0 y1 y2 y3 yf0 yf1 yf2 yf3 gX3 gR3 hQ3 hbw3 hR3H
            generalize put4 W3 w.heap.size (.string sec2) (.slice sa2 sn2 sc2) (.slice ta2 tn2 tc2) (.slice ca2 cn2 cc2) = W4 at *
            go_wp2
            go_roundw
            case rel => exact ⟨k + 1, ⟨sec2, sa2, sn2, sc2, ta2, tn2, tc2, ca2, cn2, cc2⟩, a, n, c, by go_num, by omega, by rw [hNE.out], rfl, by omega, gXf, gRf, hRf, hQf, hbf⟩
            case measure => simp [intOf]; omega
        · have t0 : ((E : Int) != 0) = true := by simpa using h0
          have hNX := hiq (hNX1.out h0)
          have hal : Below W2.heap.size W2 (W2.alloc (.cells #[.int .i64 (k : Int)] 3)) := (Below.refl _ _).alloc (Nat.le_refl _) _
          have HQa := hiq (hQ2.out.below hal)
          have HV : Hid (∀ j u, (([(k : Int)] : List Int).flatMap encI)[j]? = some u -> (W2.alloc (.cells #[.int .i64 (k : Int)] 3)).cell? ((⟨W2.heap.size, 0, none⟩ : Addr).add j) = some u) := fun j u hj => lit_cells (by exact hj)
          have hB9 : Hid (w.heap.size + 2 <= (W2.alloc (.cells #[.int .i64 (k : Int)] 3)).heap.size) := by show _ <= _; have := hal.size; omega
          have hbB : Hid (Below (w.heap.size + 2) W2 (W2.alloc (.cells #[.int .i64 (k : Int)] 3))) := hal.mono (by omega)
          have HAL := hiq hal
          have HBW := hiq hbw2
          have HG2 := hiq (And.intro gX2 gR2)
          clear hNX0 hNX1 hal hbw2 gX2 gR2 c0 c1 c2 c3 cf d0 d1 d2 d3 d4 hd1
          obtain ⟨ER, hER⟩ : ∃ ER, ER = (runN x ops und k).er := ⟨_, rfl⟩
          rw [<- hER] at hNX HER
          have HERE : Hid (ER = (runN x ops und k).er) := hER
          rw [<- hER]
          clear hER
          by_cases he0 : ER = 0
          all_goals
            first
            | (have t1 : ((ER : Int) == 0) = true := by simpa using he0
               rw [if_pos he0] at hNX)
            | (have t1 : ((ER : Int) == 0) = false := by simpa using he0
               rw [if_neg he0] at hNX)
            go_wp2_with (at_builtin; refine wpList_appQ (l := (runN x ops und k).sk) (ys := [(k : Int)]) infoI Tryz.underlying51 rfl (by decide) (fun _ => rfl) one_i rfl _ _ rfl rfl rfl HQa.out rfl HV.out (by unfold maxLen; omega) (by omega) hB9.out hbB.out ?_; intro a5 c5 w5 ho5 hb5 hg5 hv5)
            have hRf : Hid (RdC (Apt (fun b => (S b /\ b < w.heap.size) \/ w.heap.size + 2 <= b) a5) w5 ⟨sec1, sa1, sn1, sc1, ta1, tn1, tc1, ca1, cn1, cc1⟩ (runN x ops und (k + 1)).st) := by
              show RdC _ _ _ _
              rw [hNX.out]
              refine (((hR2.out.mono (S' := fun b => Apt (fun b => (S b /\ b < w.heap.size) \/ w.heap.size + 2 <= b) a b /\ b < W2.heap.size) (fun b q q' => ⟨q, q'⟩)).below HAL.out).keep (KeepS.grown hg5 ?_)).mono ?_
              · rintro r e ⟨⟨-, q⟩, -⟩
                cases a with
                | none => cases e
                | some y => exact q y rfl (Option.some.inj e)
              · rintro b ⟨⟨q, q'⟩, q2⟩ _
                refine ⟨q, fun y hy => ?_⟩
                subst hy
                rcases hv5 with e | e
                · cases a with
                  | none => cases e
                  | some z => intro e2; exact q' z rfl ((Option.some.inj e).symm.trans e2)
                · have e3 : y.block = (W2.alloc (.cells #[.int .i64 (k : Int)] 3)).heap.size := Option.some.inj e
                  have := HAL.out.size
                  intro e2; omega
            have hQf : Hid (OwnQ 3 1 encI w5 (w.heap.size + 2) a5 (n + 1) c5 (runN x ops und (k + 1)).sk) := by show OwnQ _ _ _ _ _ _ _ _ _; rw [hNX.out]; exact ho5
            have hbf := HBW.out.trans (hb5.mono (by omega))
            have gXf := (hb5.block w.heap.size (by omega)).trans HG2.out.1
            have gRf := (hb5.block (w.heap.size + 1) (by omega)).trans HG2.out.2
            have hNE : Hid ((runN x ops und (k + 1)).er = if ER = 0 then E else ER) := by show _ = _; rw [hNX.out]; first | rw [if_pos he0] | rw [if_neg he0]
            go_roundw
            case rel => exact ⟨k + 1, ⟨sec1, sa1, sn1, sc1, ta1, tn1, tc1, ca1, cn1, cc1⟩, a5, n + 1, c5, by go_num, by omega, by rw [hNE.out]; first | rw [if_pos he0] | rw [if_neg he0], rfl, by omega, gXf, gRf, hRf, hQf, hbf⟩
            case measure => simp [intOf]; omega
    · obtain rfl : on = k := by omega
      obtain ⟨sec1, sa1, sn1, sc1, ta1, tn1, tc1, ca1, cn1, cc1⟩ := v'
      obtain ⟨c0, c1, c2, c3, -⟩ := box_cells4 gX
      obtain ⟨y0, y1, y2, y3, yf⟩ := box_cells4 gR
      have yf0 := yf 0
      have yf1 := yf 1
      have yf2 := yf 2
      have yf3 := yf 3
      have gRf := put4_at gR (.string sec1) (.slice sa1 sn1 sc1) (.slice ta1 tn1 tc1) (.slice ca1 cn1 cc1)
      have hbf := put4_below hb (b := w.heap.size + 1) (by omega) (.string sec1) (.slice sa1 sn1 sc1) (.slice ta1 tn1 tc1) (.slice ca1 cn1 cc1)
      have hRf := hR.out.keep (put4_keep (W := wr) (b := w.heap.size + 1) (by rintro ⟨q | q, -⟩ <;> omega) (.string sec1) (.slice sa1 sn1 sc1) (.slice ta1 tn1 tc1) (.slice ca1 cn1 cc1))
      have hQf := hQ.out.same (w' := put4 wr (w.heap.size + 1) (.string sec1) (.slice sa1 sn1 sc1) (.slice ta1 tn1 tc1) (.slice ca1 cn1 cc1)) (fun y hy => put4_other (by have := (hQ.out.lt y hy).1; omega) _ _ _ _)
      have HALL := hiq (And.intro gRf (And.intro hbf (And.intro hRf hQf)))
      clear yf gRf hbf hRf hQf
      go_wp2
      change bodyPost _ _ _ _ _ (put4 wr (w.heap.size + 1) (.string sec1) (.slice sa1 sn1 sc1) (.slice ta1 tn1 tc1) (.slice ca1 cn1 cc1))
      obtain ⟨gRf, hbf, hRf, hQf⟩ := HALL.out
      obtain ⟨r0, r1, r2, r3, -⟩ := box_cells4 gRf
      generalize put4 wr (w.heap.size + 1) (.string sec1) (.slice sa1 sn1 sc1) (.slice ta1 tn1 tc1) (.slice ca1 cn1 cc1) = WF at *
      have hrl : runL x ops und = runN x ops und on := by rw [HLL.out.1]; rfl
      refine bodyPost_ret (v := .tuple #[.agg #[.string sec1, .slice sa1 sn1 sc1, .slice ta1 tn1 tc1, .slice ca1 cn1 cc1], .slice a n c, .int .i64 (runN x ops und on).er]) (by simp [results, Tryz.results56, go_sem, r0, r1, r2, r3]) rfl ?_
      refine ⟨⟨sec1, sa1, sn1, sc1, ta1, tn1, tc1, ca1, cn1, cc1⟩, a, n, c, by rw [hrl]; rfl, ?_, ?_, hbf⟩
      · rw [hrl]
        refine hRf.mono ?_
        rintro b ⟨q | q, -⟩ _
        · exact .inl q.1
        · exact .inr (by omega)
      · rw [hrl]
        refine hQf.sq (R := rInt) (s := 8) (fun _ => rfl) (by omega) (fun y hy => by have := (hQf.lt y hy).1; omega) (fun z hz => ⟨rfl, ?_⟩)
        obtain ⟨j, hj, rfl, -⟩ := (runN_sk (x := x) (ops := ops) (und := und) on).1 z hz
        exact ⟨by omega, by omega⟩
end Go.Proofs.YtfdipkhbemgojaaGreatDoor
