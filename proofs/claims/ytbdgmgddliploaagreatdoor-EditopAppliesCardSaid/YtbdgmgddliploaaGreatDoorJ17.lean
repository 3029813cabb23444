/- Joined: EFinB. -/
import Derived.Test.YtbdgmgddliploaaGreatDoorJ16
set_option linter.unusedVariables false
set_option linter.unusedSimpArgs false
set_option maxRecDepth 100000
set_option maxHeartbeats 16000000
namespace Go.Proofs.YtbdgmgddliploaaGreatDoor
open Go.RowKit


theorem find_1 (S : Nat -> Prop) (v : CV) (x : Col) (o : Op) (w : World) (h : RdC S w v x) (hm : Sml x) (hE : Env w) (ho : o.ok) (hx : o.text.size <= 1000000) (hv : x.err = 0) (hk : o.kind = 1)
    (ha : ¬ ((o.other ≠ 0 /\ o.kind ≠ 3) \/ (o.text.size ≠ 0 /\ o.kind ≠ 4))) :
    Calls Tryz.prog 40 #[v.val, o.val] w (FindPost x o w) := by
  unfold FindPost
  have HW := hiq (find_ways hv (by omega) ha)
  have HX : Hid (∀ W, Below w.heap.size w W -> Calls Tryz.prog 69 #[.slice v.sa v.sn v.sc, .string o.sig] W fun e w' => e = .returned (.int .i64 (numO (x.src o.sig))) /\ W = w') :=
    fun W hb => index_any S v.sa v.sn v.sc x o.sig W (h.below hb).2.2.1
  have HD : Hid (∀ W s, Below w.heap.size w W -> s < x.sigla.length -> Calls Tryz.prog 25 #[v.val, .int .i64 (s : Int), .int .i64 o.tok] W fun e w' => e = .returned (.tuple #[.int .i64 (findN x s o.tok), .int .i64 (findE x s o.tok)]) /\ Below W.heap.size W w') :=
    fun W s hb hs => find_any S v x s o.tok W (h.below hb) hm (hE.below hb) hv hs ho.2.2.1
  have HC : Hid (∀ W s c, Below w.heap.size w W -> s < x.sigla.length -> c < x.cols.length -> 0 <= o.tok -> o.tok < ((x.tks s).length : Int) -> Calls Tryz.prog 73 #[v.val, o.val, .agg #[.int .i64 (s : Int), .int .i64 (c : Int), .int .i64 ((c : Int) + 1)]] W fun e w' => e = .returned (.int .i64 (kindErr x o s c)) /\ Below W.heap.size W w') := by
    intro W s c hb hs hc ht0 ht1
    have hz : kindErr x o s c = (if x.cols.length <= c + 1 then 2 else if clash (x.row c) (x.row (c + 1)) = true then 19 else 0) := by
      unfold kindErr; rw [if_pos hk]
    rw [hz]
    exact ckJoin_any S v x o s c W (h.below hb) hv hc
  have HO : Hid (∀ c : Nat, o.oth c = (c : Int) + 1) := by intro c; unfold Op.oth; rw [if_neg (by omega)]
  have HCK : Hid (∀ W, Below w.heap.size w W -> Calls Tryz.prog 26 #[v.val] W fun e w' => e = .returned (.int .i64 0) /\ Below W.heap.size W w') := fun W hb => by
    have := check_any S v x W (h.below hb) hm (hE.below hb)
    rw [hv] at this; exact this
  have HCN : Hid (∀ c, c < x.cols.length -> c < v.cn) := fun c hc => by rw [h.2.2.2.2.len]; exact hc
  generalize opErr x o = E at *
  generalize x.place o = PL at *
  generalize Op.oth o = TH at *
  have hcb : v.cn * 24 <= 140737488355328 := h.2.2.2.2.bound
  have d0 : o.text.size = 0 := by omega
  have d1 := isEmpty_yes d0
  have e0 : ((o.other : Int) != 0) = false := by simp; omega
  clear d0
  clear h hm hE ho hx hv ha
  obtain ⟨sec, sa, sn, sc, ta, tn, tc, ca, cn, cc⟩ := v
  obtain ⟨ok, og, ot, oo, ox⟩ := o
  dsimp only at hk hcb e0 d1
  subst hk
  change Calls _ _ #[.agg #[.string sec, .slice sa sn sc, .slice ta tn tc, .slice ca cn cc], .agg #[.int .i64 1, .string og, .int .i64 ot, .int .i64 oo, .string ox]] _ _
  change Hid (∀ W, _ -> Calls _ _ #[.slice sa sn sc, .string og] W _) at HX
  change Hid (∀ W (s : Nat), _ -> _ -> Calls _ _ #[.agg #[.string sec, .slice sa sn sc, .slice ta tn tc, .slice ca cn cc], .int .i64 (s : Int), .int .i64 ot] W _) at HD
  change Hid (∀ W (s c : Nat), _ -> _ -> _ -> _ -> _ -> Calls _ _ #[.agg #[.string sec, .slice sa sn sc, .slice ta tn tc, .slice ca cn cc], .agg #[.int .i64 1, .string og, .int .i64 ot, .int .i64 oo, .string ox], _] W _) at HC
  change Hid (∀ W, _ -> Calls _ _ #[.agg #[.string sec, .slice sa sn sc, .slice ta tn tc, .slice ca cn cc]] W _) at HCK
  change Hid (∀ c : Nat, _ -> c < cn) at HCN
  obtain ⟨hb0, hsz, hC, hO, hP⟩ := box3 w #[.string sec, .slice sa sn sc, .slice ta tn tc, .slice ca cn cc] #[.int .i64 1, .string og, .int .i64 ot, .int .i64 oo, .string ox] #[.int .i64 0, .int .i64 0, .int .i64 0] 26 28 66
  have HF := hiq (HCK.out _ hb0)
  have hbx : (((w.alloc (.cells #[.string sec, .slice sa sn sc, .slice ta tn tc, .slice ca cn cc] 26)).alloc (.cells #[.int .i64 1, .string og, .int .i64 ot, .int .i64 oo, .string ox] 28)).alloc (.cells #[.int .i64 0, .int .i64 0, .int .i64 0] 66)).heap[w.heap.size + 1 + 1]? = some (.cells #[.int .i64 0, .int .i64 0, .int .i64 0] 66 (0, 0)) := by
    have := World.alloc_heap_new ((w.alloc (.cells #[.string sec, .slice sa sn sc, .slice ta tn tc, .slice ca cn cc] 26)).alloc (.cells #[.int .i64 1, .string og, .int .i64 ot, .int .i64 oo, .string ox] 28)) (.cells #[.int .i64 0, .int .i64 0, .int .i64 0] 66)
    simpa using this
  have hsb : w.heap.size + 1 + 1 < (((w.alloc (.cells #[.string sec, .slice sa sn sc, .slice ta tn tc, .slice ca cn cc] 26)).alloc (.cells #[.int .i64 1, .string og, .int .i64 ot, .int .i64 oo, .string ox] 28)).alloc (.cells #[.int .i64 0, .int .i64 0, .int .i64 0] 66)).heap.size := by simp
  have c0 := hC 0 _ rfl
  have c1 := hC 1 _ rfl
  have c2 := hC 2 _ rfl
  have c3 := hC 3 _ rfl
  have o0 := hO 0 _ rfl
  have o1 := hO 1 _ rfl
  have o2 := hO 2 _ rfl
  have o3 := hO 3 _ rfl
  have o4 := hO 4 _ rfl
  clear hC hO hP HCK
  go_enter Tryz.func40, Tryz.ntmps40
  go_wp2_with fail
  generalize ((w.alloc (.cells #[.string sec, .slice sa sn sc, .slice ta tn tc, .slice ca cn cc] 26)).alloc (.cells #[.int .i64 1, .string og, .int .i64 ot, .int .i64 oo, .string ox] 28)).alloc (.cells #[.int .i64 0, .int .i64 0, .int .i64 0] 66) = W1 at *
  refine HF.out.mono ?_
  rintro e W2 ⟨rfl, hb2⟩
  have hb3 := hb0.trans (hb2.mono hb0.size)
  replace c0 := clq hb2 c0; replace c1 := clq hb2 c1; replace c2 := clq hb2 c2; replace c3 := clq hb2 c3; replace o0 := clq hb2 o0; replace o1 := clq hb2 o1; replace o2 := clq hb2 o2; replace o3 := clq hb2 o3; replace o4 := clq hb2 o4
  have hz2 := (hb2.block _ hsb).trans hbx
  obtain ⟨z0, z1, z2, zf⟩ := box_cells3 hz2
  have zf0 := zf 0
  have zf1 := zf 1
  have zf2 := zf 2
  clear HF hb2 hb0 hsz hbx hsb zf W1
  obtain ⟨r0, r1, r2, -⟩ := box_cells3 (put3_at hz2 (.int .i64 0) (.int .i64 0) (.int .i64 0))
  have HRR := hiq (And.intro r0 (And.intro r1 r2))
  have HB : Hid (Below w.heap.size w (put3 W2 (w.heap.size + 1 + 1) (.int .i64 0) (.int .i64 0) (.int .i64 0))) := put3_below hb3 (by omega) _ _ _
  clear r0 r1 r2
  have HXX := hiq (HX.out W2 hb3)
  clear HX
  rcases HW.out with ⟨hs, hr⟩ | ⟨s, hs, s1, hf, hr⟩ | ⟨s, c, hs, s1, ht0, ht1, hc, hf, hn, hpl, hr⟩
  · change x.src og = none at hs
    rw [hs] at HXX
    change Hid (Calls _ _ _ _ fun e w' => e = .returned (.int .i64 (-1)) /\ _) at HXX
    subst hr
    clear hs HW HD HC HO HCN hb3 hz2
    go_wp2_with (go_at_call 69; refine HXX.out.mono ?_; rintro e w' ⟨rfl, rfl⟩)
    exact bodyPost_ret (v := .tuple #[.agg #[.int .i64 0, .int .i64 0, .int .i64 0], .int .i64 6]) (by obtain ⟨r0, r1, r2⟩ := HRR.out; simp [results, Tryz.results40, go_sem, r0, r1, r2]) rfl ⟨0, 0, 0, rfl, fun h0 => absurd h0 (by decide), HB.out⟩
  · change x.src og = some s at hs
    change findE x s ot = 2 at hf
    rw [hs] at HXX
    change Hid (Calls _ _ _ _ fun e w' => e = .returned (.int .i64 (s : Int)) /\ _) at HXX
    subst hr
    have HDD := hiq (HD.out W2 s hb3 s1)
    rw [hf] at HDD
    generalize findN x s ot = FN at *
    have hs0 : decide ((s : Int) < 0) = false := decide_eq_false (by omega)
    have HZ2 := hiq hz2
    have HSB := hiq hb3
    clear hs HW HD HC HO HCN hf HB HRR z0 z1 z2 zf0 zf1 zf2 hz2 hb3
    go_wp2_with (first | (go_at_call 69; refine HXX.out.mono ?_; rintro e w' ⟨rfl, rfl⟩) | fail)
    refine HDD.out.mono ?_
    rintro e W3 ⟨rfl, hb4⟩
    have hb5 := HSB.out.trans (hb4.mono HSB.out.size)
    have hz3 := (hb4.block _ (Array.getElem?_eq_some_iff.1 HZ2.out).1).trans HZ2.out
    obtain ⟨z0, z1, z2, zf⟩ := box_cells3 hz3
    have zf0 := zf 0
    have zf1 := zf 1
    have zf2 := zf 2
    obtain ⟨r0, r1, r2, -⟩ := box_cells3 (put3_at hz3 (.int .i64 0) (.int .i64 0) (.int .i64 0))
    have HRR := hiq (And.intro r0 (And.intro r1 r2))
    have HB : Hid (Below w.heap.size w (put3 W3 (w.heap.size + 1 + 1) (.int .i64 0) (.int .i64 0) (.int .i64 0))) := put3_below hb5 (by omega) _ _ _
    clear r0 r1 r2 zf hz3 hb5 hb4 HZ2 HSB HDD HXX
    go_wp2
    exact bodyPost_ret (v := .tuple #[.agg #[.int .i64 0, .int .i64 0, .int .i64 0], .int .i64 6]) (by obtain ⟨r0, r1, r2⟩ := HRR.out; simp [results, Tryz.results40, go_sem, r0, r1, r2]) rfl ⟨0, 0, 0, rfl, fun h0 => absurd h0 (by decide), HB.out⟩
  · change x.src og = some s at hs
    change findE x s ot = 0 at hf
    change findN x s ot = (c : Int) at hn
    rw [hs] at HXX
    change Hid (Calls _ _ _ _ fun e w' => e = .returned (.int .i64 (s : Int)) /\ _) at HXX
    have HDD := hiq (HD.out W2 s hb3 s1)
    rw [hf, hn] at HDD
    have hs0 : decide ((s : Int) < 0) = false := decide_eq_false (by omega)
    have HZ2 := hiq hz2
    have HSB := hiq hb3
    have hccn := HCN.out c hc
    have HCC : Hid (∀ W, Below w.heap.size w W -> Calls _ _ _ W _) := fun W hb => HC.out W s c hb s1 hc ht0 ht1
    rw [<- hr] at HCC
    have HPL := hiq hpl
    have HOT := hiq (HO.out c)
    clear hs HW HD HC HO HCN hf hn HB HRR z0 z1 z2 zf0 zf1 zf2 hz2 hb3 hpl ht0 ht1 hr s1 hc
    go_wp2_with (first | (go_at_call 69; refine HXX.out.mono ?_; rintro e w' ⟨rfl, rfl⟩) | fail)
    refine HDD.out.mono ?_
    rintro e W3 ⟨rfl, hb4⟩
    have hb5 := HSB.out.trans (hb4.mono HSB.out.size)
    have HZ3 := hiq ((hb4.block _ (Array.getElem?_eq_some_iff.1 HZ2.out).1).trans HZ2.out)
    replace c0 := clq hb4 c0; replace c1 := clq hb4 c1; replace c2 := clq hb4 c2; replace c3 := clq hb4 c3; replace o0 := clq hb4 o0; replace o1 := clq hb4 o1; replace o2 := clq hb4 o2; replace o3 := clq hb4 o3; replace o4 := clq hb4 o4
    have hba : Below W3.heap.size W3 (W3.alloc (.cells #[.int .i64 (s : Int), .int .i64 (c : Int), .int .i64 ((c : Int) + 1)] 66)) := (Below.refl _ _).alloc (Nat.le_refl _) _
    have hp4 := World.alloc_heap_new W3 (.cells #[.int .i64 (s : Int), .int .i64 (c : Int), .int .i64 ((c : Int) + 1)] 66)
    replace c0 := clq hba c0; replace c1 := clq hba c1; replace c2 := clq hba c2; replace c3 := clq hba c3; replace o0 := clq hba o0; replace o1 := clq hba o1; replace o2 := clq hba o2; replace o3 := clq hba o3; replace o4 := clq hba o4
    have HB6 := hiq (hb5.trans (hba.mono hb5.size))
    have HZ4 := hiq ((hba.block _ (Array.getElem?_eq_some_iff.1 HZ3.out).1).trans HZ3.out)
    clear hb5 hb4 HZ2 HSB HDD HXX hba HZ3
    obtain ⟨p0, p1, p2, -⟩ := box_cells3 hp4
    go_wp2_with fail
    generalize W3.alloc (.cells #[.int .i64 (s : Int), .int .i64 (c : Int), .int .i64 ((c : Int) + 1)] 66) = W4 at *
    obtain ⟨X, Wf, hX, hS1, hS2⟩ := family (fun W => Below W4.heap.size W4 W) W4 (Below.refl _ _)
    have HS2 := hiq hS2
    have q0 := fun x => clq (hS1 x) c0
    have q1 := fun x => clq (hS1 x) c1
    have q2 := fun x => clq (hS1 x) c2
    have q3 := fun x => clq (hS1 x) c3
    have q4 := fun x => clq (hS1 x) o0
    have q5 := fun x => clq (hS1 x) o1
    have q6 := fun x => clq (hS1 x) o2
    have q7 := fun x => clq (hS1 x) o3
    have q8 := fun x => clq (hS1 x) o4
    have q9 := fun x => clq (hS1 x) p0
    have qa := fun x => clq (hS1 x) p1
    have qb := fun x => clq (hS1 x) p2
    clear hS1 hS2
    have hd0 : Below W4.heap.size W4 W4.drew := (Below.refl _ _).drew
    refine wp_region_reads (Wf := Wf) 10 [0, 2, 3, 6, 7, 8] [1, 4, 5, 9] (by kernel_rfl) (by kernel_rfl) (fun _ _ d _ _ h => by cases d <;> exact h) (HS2.out _ hd0) ?_
    simp only [pickOps, List.filterMap_cons, List.filterMap_nil, List.getElem?_cons_zero, List.getElem?_cons_succ]
    repeat (refine wpReads_step (fun K hK => ?_); unfold rOp; go_simp; (refine hK _ ?_; clear hK K))
    clear q0 q1 q2 q3 q4 q5 q6 q7 q8 q9 qa qb
    refine wpReads_nil (wpActs_cons ?_)
    have HK := hiq (kinds_any W4.drew)
    go_wp2_with fail
    refine HK.out.mono ?_
    rintro e W5 ⟨rfl, hb5⟩
    have hd1 := hd0.trans (hb5.mono hd0.size)
    go_wp2_with fail
    refine ⟨HS2.out _ hd1, wpActs_cons ?_⟩
    have hix := kind_1 W5
    go_wp2_with fail
    clear hix
    refine ⟨HS2.out _ hd1, wpActs_cons ?_⟩
    have hif := kindC_1 W5
    go_wp2_with fail
    clear hif
    refine ⟨HS2.out _ hd1, wpActs_cons ?_⟩
    have HCL := hiq (HCC.out W5 (HB6.out.trans (hd1.mono HB6.out.size)))
    clear HK HCC
    go_wp2_with fail
    refine HCL.out.mono ?_
    rintro e W6 ⟨rfl, hb6⟩
    have hd2 := hd1.trans (hb6.mono hd1.size)
    go_wp2_with fail
    refine ⟨HS2.out _ hd2, wpActs_nil ?_⟩
    have hz6 := (hd2.block _ (Array.getElem?_eq_some_iff.1 HZ4.out).1).trans HZ4.out
    obtain ⟨z0, z1, z2, zf⟩ := box_cells3 hz6
    have zf0 := zf 0
    have zf1 := zf 1
    have zf2 := zf 2
    obtain ⟨r0, r1, r2, -⟩ := box_cells3 (put3_at hz6 (.int .i64 (s : Int)) (.int .i64 (c : Int)) (.int .i64 ((c : Int) + 1)))
    have HRR := hiq (And.intro r0 (And.intro r1 r2))
    have HB : Hid (Below w.heap.size w (put3 W6 (w.heap.size + 1 + 1) (.int .i64 (s : Int)) (.int .i64 (c : Int)) (.int .i64 ((c : Int) + 1)))) := put3_below (HB6.out.trans (hd2.mono HB6.out.size)) (by omega) _ _ _
    clear r0 r1 r2 zf hz6 HS2 hd0 hd1 hd2 hb5 hb6 HCL HZ4 HB6 c0 c1 c2 c3 o0 o1 o2 o3 o4 p0 p1 p2 hp4
    simp only [List.drop_succ_cons, List.drop_zero]
    go_wp2
    exact bodyPost_ret (v := .tuple #[.agg #[.int .i64 (s : Int), .int .i64 (c : Int), .int .i64 ((c : Int) + 1)], .int .i64 E]) (by obtain ⟨r0, r1, r2⟩ := HRR.out; simp [results, Tryz.results40, go_sem, r0, r1, r2]) rfl ⟨_, _, _, rfl, fun _ => ⟨s, c, HPL.out, rfl, rfl, HOT.out.symm⟩, HB.out⟩

theorem find_2 (S : Nat -> Prop) (v : CV) (x : Col) (o : Op) (w : World) (h : RdC S w v x) (hm : Sml x) (hE : Env w) (ho : o.ok) (hx : o.text.size <= 1000000) (hv : x.err = 0) (hk : o.kind = 2)
    (ha : ¬ ((o.other ≠ 0 /\ o.kind ≠ 3) \/ (o.text.size ≠ 0 /\ o.kind ≠ 4))) :
    Calls Tryz.prog 40 #[v.val, o.val] w (FindPost x o w) := by
  unfold FindPost
  have HW := hiq (find_ways hv (by omega) ha)
  have HX : Hid (∀ W, Below w.heap.size w W -> Calls Tryz.prog 69 #[.slice v.sa v.sn v.sc, .string o.sig] W fun e w' => e = .returned (.int .i64 (numO (x.src o.sig))) /\ W = w') :=
    fun W hb => index_any S v.sa v.sn v.sc x o.sig W (h.below hb).2.2.1
  have HD : Hid (∀ W s, Below w.heap.size w W -> s < x.sigla.length -> Calls Tryz.prog 25 #[v.val, .int .i64 (s : Int), .int .i64 o.tok] W fun e w' => e = .returned (.tuple #[.int .i64 (findN x s o.tok), .int .i64 (findE x s o.tok)]) /\ Below W.heap.size W w') :=
    fun W s hb hs => find_any S v x s o.tok W (h.below hb) hm (hE.below hb) hv hs ho.2.2.1
  have HC : Hid (∀ W s c, Below w.heap.size w W -> s < x.sigla.length -> c < x.cols.length -> 0 <= o.tok -> o.tok < ((x.tks s).length : Int) -> Calls Tryz.prog 75 #[v.val, o.val, .agg #[.int .i64 (s : Int), .int .i64 (c : Int), .int .i64 ((c : Int) + 1)]] W fun e w' => e = .returned (.int .i64 (kindErr x o s c)) /\ Below W.heap.size W w') := by
    intro W s c hb hs hc ht0 ht1
    have hz : kindErr x o s c = (if alone (x.row c) s = true then 19 else 0) := by
      unfold kindErr; rw [if_neg (by omega), if_pos hk]
    rw [hz]
    exact ckSplit_any S v x o s c _ W (h.below hb) hc
  have HO : Hid (∀ c : Nat, o.oth c = (c : Int) + 1) := by intro c; unfold Op.oth; rw [if_neg (by omega)]
  have HCK : Hid (∀ W, Below w.heap.size w W -> Calls Tryz.prog 26 #[v.val] W fun e w' => e = .returned (.int .i64 0) /\ Below W.heap.size W w') := fun W hb => by
    have := check_any S v x W (h.below hb) hm (hE.below hb)
    rw [hv] at this; exact this
  have HCN : Hid (∀ c, c < x.cols.length -> c < v.cn) := fun c hc => by rw [h.2.2.2.2.len]; exact hc
  generalize opErr x o = E at *
  generalize x.place o = PL at *
  generalize Op.oth o = TH at *
  have hcb : v.cn * 24 <= 140737488355328 := h.2.2.2.2.bound
  have d0 : o.text.size = 0 := by omega
  have d1 := isEmpty_yes d0
  have e0 : ((o.other : Int) != 0) = false := by simp; omega
  clear d0
  clear h hm hE ho hx hv ha
  obtain ⟨sec, sa, sn, sc, ta, tn, tc, ca, cn, cc⟩ := v
  obtain ⟨ok, og, ot, oo, ox⟩ := o
  dsimp only at hk hcb e0 d1
  subst hk
  change Calls _ _ #[.agg #[.string sec, .slice sa sn sc, .slice ta tn tc, .slice ca cn cc], .agg #[.int .i64 2, .string og, .int .i64 ot, .int .i64 oo, .string ox]] _ _
  change Hid (∀ W, _ -> Calls _ _ #[.slice sa sn sc, .string og] W _) at HX
  change Hid (∀ W (s : Nat), _ -> _ -> Calls _ _ #[.agg #[.string sec, .slice sa sn sc, .slice ta tn tc, .slice ca cn cc], .int .i64 (s : Int), .int .i64 ot] W _) at HD
  change Hid (∀ W (s c : Nat), _ -> _ -> _ -> _ -> _ -> Calls _ _ #[.agg #[.string sec, .slice sa sn sc, .slice ta tn tc, .slice ca cn cc], .agg #[.int .i64 2, .string og, .int .i64 ot, .int .i64 oo, .string ox], _] W _) at HC
  change Hid (∀ W, _ -> Calls _ _ #[.agg #[.string sec, .slice sa sn sc, .slice ta tn tc, .slice ca cn cc]] W _) at HCK
  change Hid (∀ c : Nat, _ -> c < cn) at HCN
  obtain ⟨hb0, hsz, hC, hO, hP⟩ := box3 w #[.string sec, .slice sa sn sc, .slice ta tn tc, .slice ca cn cc] #[.int .i64 2, .string og, .int .i64 ot, .int .i64 oo, .string ox] #[.int .i64 0, .int .i64 0, .int .i64 0] 26 28 66
  have HF := hiq (HCK.out _ hb0)
  have hbx : (((w.alloc (.cells #[.string sec, .slice sa sn sc, .slice ta tn tc, .slice ca cn cc] 26)).alloc (.cells #[.int .i64 2, .string og, .int .i64 ot, .int .i64 oo, .string ox] 28)).alloc (.cells #[.int .i64 0, .int .i64 0, .int .i64 0] 66)).heap[w.heap.size + 1 + 1]? = some (.cells #[.int .i64 0, .int .i64 0, .int .i64 0] 66 (0, 0)) := by
    have := World.alloc_heap_new ((w.alloc (.cells #[.string sec, .slice sa sn sc, .slice ta tn tc, .slice ca cn cc] 26)).alloc (.cells #[.int .i64 2, .string og, .int .i64 ot, .int .i64 oo, .string ox] 28)) (.cells #[.int .i64 0, .int .i64 0, .int .i64 0] 66)
    simpa using this
  have hsb : w.heap.size + 1 + 1 < (((w.alloc (.cells #[.string sec, .slice sa sn sc, .slice ta tn tc, .slice ca cn cc] 26)).alloc (.cells #[.int .i64 2, .string og, .int .i64 ot, .int .i64 oo, .string ox] 28)).alloc (.cells #[.int .i64 0, .int .i64 0, .int .i64 0] 66)).heap.size := by simp
  have c0 := hC 0 _ rfl
  have c1 := hC 1 _ rfl
  have c2 := hC 2 _ rfl
  have c3 := hC 3 _ rfl
  have o0 := hO 0 _ rfl
  have o1 := hO 1 _ rfl
  have o2 := hO 2 _ rfl
  have o3 := hO 3 _ rfl
  have o4 := hO 4 _ rfl
  clear hC hO hP HCK
  go_enter Tryz.func40, Tryz.ntmps40
  go_wp2_with fail
  generalize ((w.alloc (.cells #[.string sec, .slice sa sn sc, .slice ta tn tc, .slice ca cn cc] 26)).alloc (.cells #[.int .i64 2, .string og, .int .i64 ot, .int .i64 oo, .string ox] 28)).alloc (.cells #[.int .i64 0, .int .i64 0, .int .i64 0] 66) = W1 at *
  refine HF.out.mono ?_
  rintro e W2 ⟨rfl, hb2⟩
  have hb3 := hb0.trans (hb2.mono hb0.size)
  replace c0 := clq hb2 c0; replace c1 := clq hb2 c1; replace c2 := clq hb2 c2; replace c3 := clq hb2 c3; replace o0 := clq hb2 o0; replace o1 := clq hb2 o1; replace o2 := clq hb2 o2; replace o3 := clq hb2 o3; replace o4 := clq hb2 o4
  have hz2 := (hb2.block _ hsb).trans hbx
  obtain ⟨z0, z1, z2, zf⟩ := box_cells3 hz2
  have zf0 := zf 0
  have zf1 := zf 1
  have zf2 := zf 2
  clear HF hb2 hb0 hsz hbx hsb zf W1
  obtain ⟨r0, r1, r2, -⟩ := box_cells3 (put3_at hz2 (.int .i64 0) (.int .i64 0) (.int .i64 0))
  have HRR := hiq (And.intro r0 (And.intro r1 r2))
  have HB : Hid (Below w.heap.size w (put3 W2 (w.heap.size + 1 + 1) (.int .i64 0) (.int .i64 0) (.int .i64 0))) := put3_below hb3 (by omega) _ _ _
  clear r0 r1 r2
  have HXX := hiq (HX.out W2 hb3)
  clear HX
  rcases HW.out with ⟨hs, hr⟩ | ⟨s, hs, s1, hf, hr⟩ | ⟨s, c, hs, s1, ht0, ht1, hc, hf, hn, hpl, hr⟩
  · change x.src og = none at hs
    rw [hs] at HXX
    change Hid (Calls _ _ _ _ fun e w' => e = .returned (.int .i64 (-1)) /\ _) at HXX
    subst hr
    clear hs HW HD HC HO HCN hb3 hz2
    go_wp2_with (go_at_call 69; refine HXX.out.mono ?_; rintro e w' ⟨rfl, rfl⟩)
    exact bodyPost_ret (v := .tuple #[.agg #[.int .i64 0, .int .i64 0, .int .i64 0], .int .i64 6]) (by obtain ⟨r0, r1, r2⟩ := HRR.out; simp [results, Tryz.results40, go_sem, r0, r1, r2]) rfl ⟨0, 0, 0, rfl, fun h0 => absurd h0 (by decide), HB.out⟩
  · change x.src og = some s at hs
    change findE x s ot = 2 at hf
    rw [hs] at HXX
    change Hid (Calls _ _ _ _ fun e w' => e = .returned (.int .i64 (s : Int)) /\ _) at HXX
    subst hr
    have HDD := hiq (HD.out W2 s hb3 s1)
    rw [hf] at HDD
    generalize findN x s ot = FN at *
    have hs0 : decide ((s : Int) < 0) = false := decide_eq_false (by omega)
    have HZ2 := hiq hz2
    have HSB := hiq hb3
    clear hs HW HD HC HO HCN hf HB HRR z0 z1 z2 zf0 zf1 zf2 hz2 hb3
    go_wp2_with (first | (go_at_call 69; refine HXX.out.mono ?_; rintro e w' ⟨rfl, rfl⟩) | fail)
    refine HDD.out.mono ?_
    rintro e W3 ⟨rfl, hb4⟩
    have hb5 := HSB.out.trans (hb4.mono HSB.out.size)
    have hz3 := (hb4.block _ (Array.getElem?_eq_some_iff.1 HZ2.out).1).trans HZ2.out
    obtain ⟨z0, z1, z2, zf⟩ := box_cells3 hz3
    have zf0 := zf 0
    have zf1 := zf 1
    have zf2 := zf 2
    obtain ⟨r0, r1, r2, -⟩ := box_cells3 (put3_at hz3 (.int .i64 0) (.int .i64 0) (.int .i64 0))
    have HRR := hiq (And.intro r0 (And.intro r1 r2))
    have HB : Hid (Below w.heap.size w (put3 W3 (w.heap.size + 1 + 1) (.int .i64 0) (.int .i64 0) (.int .i64 0))) := put3_below hb5 (by omega) _ _ _
    clear r0 r1 r2 zf hz3 hb5 hb4 HZ2 HSB HDD HXX
    go_wp2
    exact bodyPost_ret (v := .tuple #[.agg #[.int .i64 0, .int .i64 0, .int .i64 0], .int .i64 6]) (by obtain ⟨r0, r1, r2⟩ := HRR.out; simp [results, Tryz.results40, go_sem, r0, r1, r2]) rfl ⟨0, 0, 0, rfl, fun h0 => absurd h0 (by decide), HB.out⟩
  · change x.src og = some s at hs
    change findE x s ot = 0 at hf
    change findN x s ot = (c : Int) at hn
    rw [hs] at HXX
    change Hid (Calls _ _ _ _ fun e w' => e = .returned (.int .i64 (s : Int)) /\ _) at HXX
    have HDD := hiq (HD.out W2 s hb3 s1)
    rw [hf, hn] at HDD
    have hs0 : decide ((s : Int) < 0) = false := decide_eq_false (by omega)
    have HZ2 := hiq hz2
    have HSB := hiq hb3
    have hccn := HCN.out c hc
    have HCC : Hid (∀ W, Below w.heap.size w W -> Calls _ _ _ W _) := fun W hb => HC.out W s c hb s1 hc ht0 ht1
    rw [<- hr] at HCC
    have HPL := hiq hpl
    have HOT := hiq (HO.out c)
    clear hs HW HD HC HO HCN hf hn HB HRR z0 z1 z2 zf0 zf1 zf2 hz2 hb3 hpl ht0 ht1 hr s1 hc
    go_wp2_with (first | (go_at_call 69; refine HXX.out.mono ?_; rintro e w' ⟨rfl, rfl⟩) | fail)
    refine HDD.out.mono ?_
    rintro e W3 ⟨rfl, hb4⟩
    have hb5 := HSB.out.trans (hb4.mono HSB.out.size)
    have HZ3 := hiq ((hb4.block _ (Array.getElem?_eq_some_iff.1 HZ2.out).1).trans HZ2.out)
    replace c0 := clq hb4 c0; replace c1 := clq hb4 c1; replace c2 := clq hb4 c2; replace c3 := clq hb4 c3; replace o0 := clq hb4 o0; replace o1 := clq hb4 o1; replace o2 := clq hb4 o2; replace o3 := clq hb4 o3; replace o4 := clq hb4 o4
    have hba : Below W3.heap.size W3 (W3.alloc (.cells #[.int .i64 (s : Int), .int .i64 (c : Int), .int .i64 ((c : Int) + 1)] 66)) := (Below.refl _ _).alloc (Nat.le_refl _) _
    have hp4 := World.alloc_heap_new W3 (.cells #[.int .i64 (s : Int), .int .i64 (c : Int), .int .i64 ((c : Int) + 1)] 66)
    replace c0 := clq hba c0; replace c1 := clq hba c1; replace c2 := clq hba c2; replace c3 := clq hba c3; replace o0 := clq hba o0; replace o1 := clq hba o1; replace o2 := clq hba o2; replace o3 := clq hba o3; replace o4 := clq hba o4
    have HB6 := hiq (hb5.trans (hba.mono hb5.size))
    have HZ4 := hiq ((hba.block _ (Array.getElem?_eq_some_iff.1 HZ3.out).1).trans HZ3.out)
    clear hb5 hb4 HZ2 HSB HDD HXX hba HZ3
    obtain ⟨p0, p1, p2, -⟩ := box_cells3 hp4
    go_wp2_with fail
    generalize W3.alloc (.cells #[.int .i64 (s : Int), .int .i64 (c : Int), .int .i64 ((c : Int) + 1)] 66) = W4 at *
    obtain ⟨X, Wf, hX, hS1, hS2⟩ := family (fun W => Below W4.heap.size W4 W) W4 (Below.refl _ _)
    have HS2 := hiq hS2
    have q0 := fun x => clq (hS1 x) c0
    have q1 := fun x => clq (hS1 x) c1
    have q2 := fun x => clq (hS1 x) c2
    have q3 := fun x => clq (hS1 x) c3
    have q4 := fun x => clq (hS1 x) o0
    have q5 := fun x => clq (hS1 x) o1
    have q6 := fun x => clq (hS1 x) o2
    have q7 := fun x => clq (hS1 x) o3
    have q8 := fun x => clq (hS1 x) o4
    have q9 := fun x => clq (hS1 x) p0
    have qa := fun x => clq (hS1 x) p1
    have qb := fun x => clq (hS1 x) p2
    clear hS1 hS2
    have hd0 : Below W4.heap.size W4 W4.drew := (Below.refl _ _).drew
    refine wp_region_reads (Wf := Wf) 10 [0, 2, 3, 6, 7, 8] [1, 4, 5, 9] (by kernel_rfl) (by kernel_rfl) (fun _ _ d _ _ h => by cases d <;> exact h) (HS2.out _ hd0) ?_
    simp only [pickOps, List.filterMap_cons, List.filterMap_nil, List.getElem?_cons_zero, List.getElem?_cons_succ]
    repeat (refine wpReads_step (fun K hK => ?_); unfold rOp; go_simp; (refine hK _ ?_; clear hK K))
    clear q0 q1 q2 q3 q4 q5 q6 q7 q8 q9 qa qb
    refine wpReads_nil (wpActs_cons ?_)
    have HK := hiq (kinds_any W4.drew)
    go_wp2_with fail
    refine HK.out.mono ?_
    rintro e W5 ⟨rfl, hb5⟩
    have hd1 := hd0.trans (hb5.mono hd0.size)
    go_wp2_with fail
    refine ⟨HS2.out _ hd1, wpActs_cons ?_⟩
    have hix := kind_2 W5
    go_wp2_with fail
    clear hix
    refine ⟨HS2.out _ hd1, wpActs_cons ?_⟩
    have hif := kindC_2 W5
    go_wp2_with fail
    clear hif
    refine ⟨HS2.out _ hd1, wpActs_cons ?_⟩
    have HCL := hiq (HCC.out W5 (HB6.out.trans (hd1.mono HB6.out.size)))
    clear HK HCC
    go_wp2_with fail
    refine HCL.out.mono ?_
    rintro e W6 ⟨rfl, hb6⟩
    have hd2 := hd1.trans (hb6.mono hd1.size)
    go_wp2_with fail
    refine ⟨HS2.out _ hd2, wpActs_nil ?_⟩
    have hz6 := (hd2.block _ (Array.getElem?_eq_some_iff.1 HZ4.out).1).trans HZ4.out
    obtain ⟨z0, z1, z2, zf⟩ := box_cells3 hz6
    have zf0 := zf 0
    have zf1 := zf 1
    have zf2 := zf 2
    obtain ⟨r0, r1, r2, -⟩ := box_cells3 (put3_at hz6 (.int .i64 (s : Int)) (.int .i64 (c : Int)) (.int .i64 ((c : Int) + 1)))
    have HRR := hiq (And.intro r0 (And.intro r1 r2))
    have HB : Hid (Below w.heap.size w (put3 W6 (w.heap.size + 1 + 1) (.int .i64 (s : Int)) (.int .i64 (c : Int)) (.int .i64 ((c : Int) + 1)))) := put3_below (HB6.out.trans (hd2.mono HB6.out.size)) (by omega) _ _ _
    clear r0 r1 r2 zf hz6 HS2 hd0 hd1 hd2 hb5 hb6 HCL HZ4 HB6 c0 c1 c2 c3 o0 o1 o2 o3 o4 p0 p1 p2 hp4
    simp only [List.drop_succ_cons, List.drop_zero]
    go_wp2
    exact bodyPost_ret (v := .tuple #[.agg #[.int .i64 (s : Int), .int .i64 (c : Int), .int .i64 ((c : Int) + 1)], .int .i64 E]) (by obtain ⟨r0, r1, r2⟩ := HRR.out; simp [results, Tryz.results40, go_sem, r0, r1, r2]) rfl ⟨_, _, _, rfl, fun _ => ⟨s, c, HPL.out, rfl, rfl, HOT.out.symm⟩, HB.out⟩

theorem find_3a (S : Nat -> Prop) (v : CV) (x : Col) (o : Op) (w : World) (h : RdC S w v x) (hm : Sml x) (hE : Env w) (ho : o.ok) (hx : o.text.size <= 1000000) (hv : x.err = 0) (hk : o.kind = 3) (h0 : o.other = -1)
    (ha : ¬ ((o.other ≠ 0 /\ o.kind ≠ 3) \/ (o.text.size ≠ 0 /\ o.kind ≠ 4))) :
    Calls Tryz.prog 40 #[v.val, o.val] w (FindPost x o w) := by
  unfold FindPost
  have HW := hiq (find_ways hv (by omega) ha)
  have HX : Hid (∀ W, Below w.heap.size w W -> Calls Tryz.prog 69 #[.slice v.sa v.sn v.sc, .string o.sig] W fun e w' => e = .returned (.int .i64 (numO (x.src o.sig))) /\ W = w') :=
    fun W hb => index_any S v.sa v.sn v.sc x o.sig W (h.below hb).2.2.1
  have HD : Hid (∀ W s, Below w.heap.size w W -> s < x.sigla.length -> Calls Tryz.prog 25 #[v.val, .int .i64 (s : Int), .int .i64 o.tok] W fun e w' => e = .returned (.tuple #[.int .i64 (findN x s o.tok), .int .i64 (findE x s o.tok)]) /\ Below W.heap.size W w') :=
    fun W s hb hs => find_any S v x s o.tok W (h.below hb) hm (hE.below hb) hv hs ho.2.2.1
  have HC : Hid (∀ W s c, Below w.heap.size w W -> s < x.sigla.length -> c < x.cols.length -> 0 <= o.tok -> o.tok < ((x.tks s).length : Int) -> Calls Tryz.prog 77 #[v.val, o.val, .agg #[.int .i64 (s : Int), .int .i64 (c : Int), .int .i64 ((c : Int) - 1)]] W fun e w' => e = .returned (.int .i64 (kindErr x o s c)) /\ Below W.heap.size W w') := by
    intro W s c hb hs hc ht0 ht1
    have hz : kindErr x o s c = (if (o.other ≠ -1 /\ o.other ≠ 1) \/ (c : Int) - 1 < 0 \/ (x.cols.length : Int) <= (c : Int) - 1 then 2 else if 0 <= ent (x.row ((c : Int) - 1).toNat) s then 19 else 0) := by
      unfold kindErr; rw [if_neg (by omega), if_neg (by omega), if_pos hk, h0]; rfl
    rw [hz]
    exact ckShift_any S v x o s c _ W (h.below hb) hv hs
  have HO : Hid (∀ c : Nat, o.oth c = (c : Int) - 1) := by intro c; unfold Op.oth; rw [if_pos ⟨hk, h0⟩]
  have HCK : Hid (∀ W, Below w.heap.size w W -> Calls Tryz.prog 26 #[v.val] W fun e w' => e = .returned (.int .i64 0) /\ Below W.heap.size W w') := fun W hb => by
    have := check_any S v x W (h.below hb) hm (hE.below hb)
    rw [hv] at this; exact this
  have HCN : Hid (∀ c, c < x.cols.length -> c < v.cn) := fun c hc => by rw [h.2.2.2.2.len]; exact hc
  generalize opErr x o = E at *
  generalize x.place o = PL at *
  generalize Op.oth o = TH at *
  have hcb : v.cn * 24 <= 140737488355328 := h.2.2.2.2.bound
  have d0 : o.text.size = 0 := by omega
  have d1 := isEmpty_yes d0
  clear d0
  clear h hm hE ho hx hv ha
  obtain ⟨sec, sa, sn, sc, ta, tn, tc, ca, cn, cc⟩ := v
  obtain ⟨ok, og, ot, oo, ox⟩ := o
  dsimp only at hk hcb h0 d1
  subst hk
  subst h0
  change Calls _ _ #[.agg #[.string sec, .slice sa sn sc, .slice ta tn tc, .slice ca cn cc], .agg #[.int .i64 3, .string og, .int .i64 ot, .int .i64 (-1), .string ox]] _ _
  change Hid (∀ W, _ -> Calls _ _ #[.slice sa sn sc, .string og] W _) at HX
  change Hid (∀ W (s : Nat), _ -> _ -> Calls _ _ #[.agg #[.string sec, .slice sa sn sc, .slice ta tn tc, .slice ca cn cc], .int .i64 (s : Int), .int .i64 ot] W _) at HD
  change Hid (∀ W (s c : Nat), _ -> _ -> _ -> _ -> _ -> Calls _ _ #[.agg #[.string sec, .slice sa sn sc, .slice ta tn tc, .slice ca cn cc], .agg #[.int .i64 3, .string og, .int .i64 ot, .int .i64 (-1), .string ox], _] W _) at HC
  change Hid (∀ W, _ -> Calls _ _ #[.agg #[.string sec, .slice sa sn sc, .slice ta tn tc, .slice ca cn cc]] W _) at HCK
  change Hid (∀ c : Nat, _ -> c < cn) at HCN
  obtain ⟨hb0, hsz, hC, hO, hP⟩ := box3 w #[.string sec, .slice sa sn sc, .slice ta tn tc, .slice ca cn cc] #[.int .i64 3, .string og, .int .i64 ot, .int .i64 (-1), .string ox] #[.int .i64 0, .int .i64 0, .int .i64 0] 26 28 66
  have HF := hiq (HCK.out _ hb0)
  have hbx : (((w.alloc (.cells #[.string sec, .slice sa sn sc, .slice ta tn tc, .slice ca cn cc] 26)).alloc (.cells #[.int .i64 3, .string og, .int .i64 ot, .int .i64 (-1), .string ox] 28)).alloc (.cells #[.int .i64 0, .int .i64 0, .int .i64 0] 66)).heap[w.heap.size + 1 + 1]? = some (.cells #[.int .i64 0, .int .i64 0, .int .i64 0] 66 (0, 0)) := by
    have := World.alloc_heap_new ((w.alloc (.cells #[.string sec, .slice sa sn sc, .slice ta tn tc, .slice ca cn cc] 26)).alloc (.cells #[.int .i64 3, .string og, .int .i64 ot, .int .i64 (-1), .string ox] 28)) (.cells #[.int .i64 0, .int .i64 0, .int .i64 0] 66)
    simpa using this
  have hsb : w.heap.size + 1 + 1 < (((w.alloc (.cells #[.string sec, .slice sa sn sc, .slice ta tn tc, .slice ca cn cc] 26)).alloc (.cells #[.int .i64 3, .string og, .int .i64 ot, .int .i64 (-1), .string ox] 28)).alloc (.cells #[.int .i64 0, .int .i64 0, .int .i64 0] 66)).heap.size := by simp
  have c0 := hC 0 _ rfl
  have c1 := hC 1 _ rfl
  have c2 := hC 2 _ rfl
  have c3 := hC 3 _ rfl
  have o0 := hO 0 _ rfl
  have o1 := hO 1 _ rfl
  have o2 := hO 2 _ rfl
  have o3 := hO 3 _ rfl
  have o4 := hO 4 _ rfl
  clear hC hO hP HCK
  go_enter Tryz.func40, Tryz.ntmps40
  go_wp2_with fail
  generalize ((w.alloc (.cells #[.string sec, .slice sa sn sc, .slice ta tn tc, .slice ca cn cc] 26)).alloc (.cells #[.int .i64 3, .string og, .int .i64 ot, .int .i64 (-1), .string ox] 28)).alloc (.cells #[.int .i64 0, .int .i64 0, .int .i64 0] 66) = W1 at *
  refine HF.out.mono ?_
  rintro e W2 ⟨rfl, hb2⟩
  have hb3 := hb0.trans (hb2.mono hb0.size)
  replace c0 := clq hb2 c0; replace c1 := clq hb2 c1; replace c2 := clq hb2 c2; replace c3 := clq hb2 c3; replace o0 := clq hb2 o0; replace o1 := clq hb2 o1; replace o2 := clq hb2 o2; replace o3 := clq hb2 o3; replace o4 := clq hb2 o4
  have hz2 := (hb2.block _ hsb).trans hbx
  obtain ⟨z0, z1, z2, zf⟩ := box_cells3 hz2
  have zf0 := zf 0
  have zf1 := zf 1
  have zf2 := zf 2
  clear HF hb2 hb0 hsz hbx hsb zf W1
  obtain ⟨r0, r1, r2, -⟩ := box_cells3 (put3_at hz2 (.int .i64 0) (.int .i64 0) (.int .i64 0))
  have HRR := hiq (And.intro r0 (And.intro r1 r2))
  have HB : Hid (Below w.heap.size w (put3 W2 (w.heap.size + 1 + 1) (.int .i64 0) (.int .i64 0) (.int .i64 0))) := put3_below hb3 (by omega) _ _ _
  clear r0 r1 r2
  have HXX := hiq (HX.out W2 hb3)
  clear HX
  rcases HW.out with ⟨hs, hr⟩ | ⟨s, hs, s1, hf, hr⟩ | ⟨s, c, hs, s1, ht0, ht1, hc, hf, hn, hpl, hr⟩
  · change x.src og = none at hs
    rw [hs] at HXX
    change Hid (Calls _ _ _ _ fun e w' => e = .returned (.int .i64 (-1)) /\ _) at HXX
    subst hr
    clear hs HW HD HC HO HCN hb3 hz2
    go_wp2_with (go_at_call 69; refine HXX.out.mono ?_; rintro e w' ⟨rfl, rfl⟩)
    exact bodyPost_ret (v := .tuple #[.agg #[.int .i64 0, .int .i64 0, .int .i64 0], .int .i64 6]) (by obtain ⟨r0, r1, r2⟩ := HRR.out; simp [results, Tryz.results40, go_sem, r0, r1, r2]) rfl ⟨0, 0, 0, rfl, fun h0 => absurd h0 (by decide), HB.out⟩
  · change x.src og = some s at hs
    change findE x s ot = 2 at hf
    rw [hs] at HXX
    change Hid (Calls _ _ _ _ fun e w' => e = .returned (.int .i64 (s : Int)) /\ _) at HXX
    subst hr
    have HDD := hiq (HD.out W2 s hb3 s1)
    rw [hf] at HDD
    generalize findN x s ot = FN at *
    have hs0 : decide ((s : Int) < 0) = false := decide_eq_false (by omega)
    have HZ2 := hiq hz2
    have HSB := hiq hb3
    clear hs HW HD HC HO HCN hf HB HRR z0 z1 z2 zf0 zf1 zf2 hz2 hb3
    go_wp2_with (first | (go_at_call 69; refine HXX.out.mono ?_; rintro e w' ⟨rfl, rfl⟩) | fail)
    refine HDD.out.mono ?_
    rintro e W3 ⟨rfl, hb4⟩
    have hb5 := HSB.out.trans (hb4.mono HSB.out.size)
    have hz3 := (hb4.block _ (Array.getElem?_eq_some_iff.1 HZ2.out).1).trans HZ2.out
    obtain ⟨z0, z1, z2, zf⟩ := box_cells3 hz3
    have zf0 := zf 0
    have zf1 := zf 1
    have zf2 := zf 2
    obtain ⟨r0, r1, r2, -⟩ := box_cells3 (put3_at hz3 (.int .i64 0) (.int .i64 0) (.int .i64 0))
    have HRR := hiq (And.intro r0 (And.intro r1 r2))
    have HB : Hid (Below w.heap.size w (put3 W3 (w.heap.size + 1 + 1) (.int .i64 0) (.int .i64 0) (.int .i64 0))) := put3_below hb5 (by omega) _ _ _
    clear r0 r1 r2 zf hz3 hb5 hb4 HZ2 HSB HDD HXX
    go_wp2
    exact bodyPost_ret (v := .tuple #[.agg #[.int .i64 0, .int .i64 0, .int .i64 0], .int .i64 6]) (by obtain ⟨r0, r1, r2⟩ := HRR.out; simp [results, Tryz.results40, go_sem, r0, r1, r2]) rfl ⟨0, 0, 0, rfl, fun h0 => absurd h0 (by decide), HB.out⟩
  · change x.src og = some s at hs
    change findE x s ot = 0 at hf
    change findN x s ot = (c : Int) at hn
    rw [hs] at HXX
    change Hid (Calls _ _ _ _ fun e w' => e = .returned (.int .i64 (s : Int)) /\ _) at HXX
    have HDD := hiq (HD.out W2 s hb3 s1)
    rw [hf, hn] at HDD
    have hs0 : decide ((s : Int) < 0) = false := decide_eq_false (by omega)
    have HZ2 := hiq hz2
    have HSB := hiq hb3
    have hccn := HCN.out c hc
    have HCC : Hid (∀ W, Below w.heap.size w W -> Calls _ _ _ W _) := fun W hb => HC.out W s c hb s1 hc ht0 ht1
    rw [<- hr] at HCC
    have HPL := hiq hpl
    have HOT := hiq (HO.out c)
    clear hs HW HD HC HO HCN hf hn HB HRR z0 z1 z2 zf0 zf1 zf2 hz2 hb3 hpl ht0 ht1 hr s1 hc
    go_wp2_with (first | (go_at_call 69; refine HXX.out.mono ?_; rintro e w' ⟨rfl, rfl⟩) | fail)
    refine HDD.out.mono ?_
    rintro e W3 ⟨rfl, hb4⟩
    have hb5 := HSB.out.trans (hb4.mono HSB.out.size)
    have HZ3 := hiq ((hb4.block _ (Array.getElem?_eq_some_iff.1 HZ2.out).1).trans HZ2.out)
    replace c0 := clq hb4 c0; replace c1 := clq hb4 c1; replace c2 := clq hb4 c2; replace c3 := clq hb4 c3; replace o0 := clq hb4 o0; replace o1 := clq hb4 o1; replace o2 := clq hb4 o2; replace o3 := clq hb4 o3; replace o4 := clq hb4 o4
    have hba : Below W3.heap.size W3 (W3.alloc (.cells #[.int .i64 (s : Int), .int .i64 (c : Int), .int .i64 ((c : Int) - 1)] 66)) := (Below.refl _ _).alloc (Nat.le_refl _) _
    have hbA : Below W3.heap.size W3 (W3.alloc (.cells #[.int .i64 (s : Int), .int .i64 (c : Int), .int .i64 ((c : Int) + 1)] 66)) := (Below.refl _ _).alloc (Nat.le_refl _) _
    have u0 := clq hbA o0
    have u3 := clq hbA o3
    have hp4 := World.alloc_heap_new W3 (.cells #[.int .i64 (s : Int), .int .i64 (c : Int), .int .i64 ((c : Int) - 1)] 66)
    replace c0 := clq hba c0; replace c1 := clq hba c1; replace c2 := clq hba c2; replace c3 := clq hba c3; replace o0 := clq hba o0; replace o1 := clq hba o1; replace o2 := clq hba o2; replace o3 := clq hba o3; replace o4 := clq hba o4
    have HB6 := hiq (hb5.trans (hba.mono hb5.size))
    have HZ4 := hiq ((hba.block _ (Array.getElem?_eq_some_iff.1 HZ3.out).1).trans HZ3.out)
    clear hb5 hb4 HZ2 HSB HDD HXX hba HZ3
    obtain ⟨p0, p1, p2, -⟩ := box_cells3 hp4
    go_wp2_with fail
    generalize W3.alloc (.cells #[.int .i64 (s : Int), .int .i64 (c : Int), .int .i64 ((c : Int) - 1)] 66) = W4 at *
    obtain ⟨X, Wf, hX, hS1, hS2⟩ := family (fun W => Below W4.heap.size W4 W) W4 (Below.refl _ _)
    have HS2 := hiq hS2
    have q0 := fun x => clq (hS1 x) c0
    have q1 := fun x => clq (hS1 x) c1
    have q2 := fun x => clq (hS1 x) c2
    have q3 := fun x => clq (hS1 x) c3
    have q4 := fun x => clq (hS1 x) o0
    have q5 := fun x => clq (hS1 x) o1
    have q6 := fun x => clq (hS1 x) o2
    have q7 := fun x => clq (hS1 x) o3
    have q8 := fun x => clq (hS1 x) o4
    have q9 := fun x => clq (hS1 x) p0
    have qa := fun x => clq (hS1 x) p1
    have qb := fun x => clq (hS1 x) p2
    clear hS1 hS2
    have hd0 : Below W4.heap.size W4 W4.drew := (Below.refl _ _).drew
    refine wp_region_reads (Wf := Wf) 10 [0, 2, 3, 6, 7, 8] [1, 4, 5, 9] (by kernel_rfl) (by kernel_rfl) (fun _ _ d _ _ h => by cases d <;> exact h) (HS2.out _ hd0) ?_
    simp only [pickOps, List.filterMap_cons, List.filterMap_nil, List.getElem?_cons_zero, List.getElem?_cons_succ]
    repeat (refine wpReads_step (fun K hK => ?_); unfold rOp; go_simp; (refine hK _ ?_; clear hK K))
    clear q0 q1 q2 q3 q4 q5 q6 q7 q8 q9 qa qb
    refine wpReads_nil (wpActs_cons ?_)
    have HK := hiq (kinds_any W4.drew)
    go_wp2_with fail
    refine HK.out.mono ?_
    rintro e W5 ⟨rfl, hb5⟩
    have hd1 := hd0.trans (hb5.mono hd0.size)
    go_wp2_with fail
    refine ⟨HS2.out _ hd1, wpActs_cons ?_⟩
    have hix := kind_3 W5
    go_wp2_with fail
    clear hix
    refine ⟨HS2.out _ hd1, wpActs_cons ?_⟩
    have hif := kindC_3 W5
    go_wp2_with fail
    clear hif
    refine ⟨HS2.out _ hd1, wpActs_cons ?_⟩
    have HCL := hiq (HCC.out W5 (HB6.out.trans (hd1.mono HB6.out.size)))
    clear HK HCC
    go_wp2_with fail
    refine HCL.out.mono ?_
    rintro e W6 ⟨rfl, hb6⟩
    have hd2 := hd1.trans (hb6.mono hd1.size)
    go_wp2_with fail
    refine ⟨HS2.out _ hd2, wpActs_nil ?_⟩
    have hz6 := (hd2.block _ (Array.getElem?_eq_some_iff.1 HZ4.out).1).trans HZ4.out
    obtain ⟨z0, z1, z2, zf⟩ := box_cells3 hz6
    have zf0 := zf 0
    have zf1 := zf 1
    have zf2 := zf 2
    obtain ⟨r0, r1, r2, -⟩ := box_cells3 (put3_at hz6 (.int .i64 (s : Int)) (.int .i64 (c : Int)) (.int .i64 ((c : Int) - 1)))
    have HRR := hiq (And.intro r0 (And.intro r1 r2))
    have HB : Hid (Below w.heap.size w (put3 W6 (w.heap.size + 1 + 1) (.int .i64 (s : Int)) (.int .i64 (c : Int)) (.int .i64 ((c : Int) - 1)))) := put3_below (HB6.out.trans (hd2.mono HB6.out.size)) (by omega) _ _ _
    clear r0 r1 r2 zf hz6 HS2 hd0 hd1 hd2 hb5 hb6 HCL HZ4 HB6 c0 c1 c2 c3 o0 o1 o2 o3 o4 p0 p1 p2 hp4
    simp only [List.drop_succ_cons, List.drop_zero]
    go_wp2
    exact bodyPost_ret (v := .tuple #[.agg #[.int .i64 (s : Int), .int .i64 (c : Int), .int .i64 ((c : Int) - 1)], .int .i64 E]) (by obtain ⟨r0, r1, r2⟩ := HRR.out; simp [results, Tryz.results40, go_sem, r0, r1, r2]) rfl ⟨_, _, _, rfl, fun _ => ⟨s, c, HPL.out, rfl, rfl, HOT.out.symm⟩, HB.out⟩

theorem find_3b (S : Nat -> Prop) (v : CV) (x : Col) (o : Op) (w : World) (h : RdC S w v x) (hm : Sml x) (hE : Env w) (ho : o.ok) (hx : o.text.size <= 1000000) (hv : x.err = 0) (hk : o.kind = 3) (h0 : o.other = 0)
    (ha : ¬ ((o.other ≠ 0 /\ o.kind ≠ 3) \/ (o.text.size ≠ 0 /\ o.kind ≠ 4))) :
    Calls Tryz.prog 40 #[v.val, o.val] w (FindPost x o w) := by
  unfold FindPost
  have HW := hiq (find_ways hv (by omega) ha)
  have HX : Hid (∀ W, Below w.heap.size w W -> Calls Tryz.prog 69 #[.slice v.sa v.sn v.sc, .string o.sig] W fun e w' => e = .returned (.int .i64 (numO (x.src o.sig))) /\ W = w') :=
    fun W hb => index_any S v.sa v.sn v.sc x o.sig W (h.below hb).2.2.1
  have HD : Hid (∀ W s, Below w.heap.size w W -> s < x.sigla.length -> Calls Tryz.prog 25 #[v.val, .int .i64 (s : Int), .int .i64 o.tok] W fun e w' => e = .returned (.tuple #[.int .i64 (findN x s o.tok), .int .i64 (findE x s o.tok)]) /\ Below W.heap.size W w') :=
    fun W s hb hs => find_any S v x s o.tok W (h.below hb) hm (hE.below hb) hv hs ho.2.2.1
  have HC : Hid (∀ W s c, Below w.heap.size w W -> s < x.sigla.length -> c < x.cols.length -> 0 <= o.tok -> o.tok < ((x.tks s).length : Int) -> Calls Tryz.prog 77 #[v.val, o.val, .agg #[.int .i64 (s : Int), .int .i64 (c : Int), .int .i64 ((c : Int) + 1)]] W fun e w' => e = .returned (.int .i64 (kindErr x o s c)) /\ Below W.heap.size W w') := by
    intro W s c hb hs hc ht0 ht1
    have hz : kindErr x o s c = (if (o.other ≠ -1 /\ o.other ≠ 1) \/ (c : Int) + 1 < 0 \/ (x.cols.length : Int) <= (c : Int) + 1 then 2 else if 0 <= ent (x.row ((c : Int) + 1).toNat) s then 19 else 0) := by
      unfold kindErr; rw [if_neg (by omega), if_neg (by omega), if_pos hk]
      by_cases q : o.other = 1
      · rw [q]
      · rw [if_pos (.inl ⟨by omega, q⟩), if_pos (.inl ⟨by omega, q⟩)]
    rw [hz]
    exact ckShift_any S v x o s c _ W (h.below hb) hv hs
  have HO : Hid (∀ c : Nat, o.oth c = (c : Int) + 1) := by intro c; unfold Op.oth; rw [if_neg (by omega)]
  have HCK : Hid (∀ W, Below w.heap.size w W -> Calls Tryz.prog 26 #[v.val] W fun e w' => e = .returned (.int .i64 0) /\ Below W.heap.size W w') := fun W hb => by
    have := check_any S v x W (h.below hb) hm (hE.below hb)
    rw [hv] at this; exact this
  have HCN : Hid (∀ c, c < x.cols.length -> c < v.cn) := fun c hc => by rw [h.2.2.2.2.len]; exact hc
  generalize opErr x o = E at *
  generalize x.place o = PL at *
  generalize Op.oth o = TH at *
  have hcb : v.cn * 24 <= 140737488355328 := h.2.2.2.2.bound
  have d0 : o.text.size = 0 := by omega
  have d1 := isEmpty_yes d0
  clear d0
  clear h hm hE ho hx hv ha
  obtain ⟨sec, sa, sn, sc, ta, tn, tc, ca, cn, cc⟩ := v
  obtain ⟨ok, og, ot, oo, ox⟩ := o
  dsimp only at hk hcb h0 d1
  subst hk
  subst h0
  change Calls _ _ #[.agg #[.string sec, .slice sa sn sc, .slice ta tn tc, .slice ca cn cc], .agg #[.int .i64 3, .string og, .int .i64 ot, .int .i64 0, .string ox]] _ _
  change Hid (∀ W, _ -> Calls _ _ #[.slice sa sn sc, .string og] W _) at HX
  change Hid (∀ W (s : Nat), _ -> _ -> Calls _ _ #[.agg #[.string sec, .slice sa sn sc, .slice ta tn tc, .slice ca cn cc], .int .i64 (s : Int), .int .i64 ot] W _) at HD
  change Hid (∀ W (s c : Nat), _ -> _ -> _ -> _ -> _ -> Calls _ _ #[.agg #[.string sec, .slice sa sn sc, .slice ta tn tc, .slice ca cn cc], .agg #[.int .i64 3, .string og, .int .i64 ot, .int .i64 0, .string ox], _] W _) at HC
  change Hid (∀ W, _ -> Calls _ _ #[.agg #[.string sec, .slice sa sn sc, .slice ta tn tc, .slice ca cn cc]] W _) at HCK
  change Hid (∀ c : Nat, _ -> c < cn) at HCN
  obtain ⟨hb0, hsz, hC, hO, hP⟩ := box3 w #[.string sec, .slice sa sn sc, .slice ta tn tc, .slice ca cn cc] #[.int .i64 3, .string og, .int .i64 ot, .int .i64 0, .string ox] #[.int .i64 0, .int .i64 0, .int .i64 0] 26 28 66
  have HF := hiq (HCK.out _ hb0)
  have hbx : (((w.alloc (.cells #[.string sec, .slice sa sn sc, .slice ta tn tc, .slice ca cn cc] 26)).alloc (.cells #[.int .i64 3, .string og, .int .i64 ot, .int .i64 0, .string ox] 28)).alloc (.cells #[.int .i64 0, .int .i64 0, .int .i64 0] 66)).heap[w.heap.size + 1 + 1]? = some (.cells #[.int .i64 0, .int .i64 0, .int .i64 0] 66 (0, 0)) := by
    have := World.alloc_heap_new ((w.alloc (.cells #[.string sec, .slice sa sn sc, .slice ta tn tc, .slice ca cn cc] 26)).alloc (.cells #[.int .i64 3, .string og, .int .i64 ot, .int .i64 0, .string ox] 28)) (.cells #[.int .i64 0, .int .i64 0, .int .i64 0] 66)
    simpa using this
  have hsb : w.heap.size + 1 + 1 < (((w.alloc (.cells #[.string sec, .slice sa sn sc, .slice ta tn tc, .slice ca cn cc] 26)).alloc (.cells #[.int .i64 3, .string og, .int .i64 ot, .int .i64 0, .string ox] 28)).alloc (.cells #[.int .i64 0, .int .i64 0, .int .i64 0] 66)).heap.size := by simp
  have c0 := hC 0 _ rfl
  have c1 := hC 1 _ rfl
  have c2 := hC 2 _ rfl
  have c3 := hC 3 _ rfl
  have o0 := hO 0 _ rfl
  have o1 := hO 1 _ rfl
  have o2 := hO 2 _ rfl
  have o3 := hO 3 _ rfl
  have o4 := hO 4 _ rfl
  clear hC hO hP HCK
  go_enter Tryz.func40, Tryz.ntmps40
  go_wp2_with fail
  generalize ((w.alloc (.cells #[.string sec, .slice sa sn sc, .slice ta tn tc, .slice ca cn cc] 26)).alloc (.cells #[.int .i64 3, .string og, .int .i64 ot, .int .i64 0, .string ox] 28)).alloc (.cells #[.int .i64 0, .int .i64 0, .int .i64 0] 66) = W1 at *
  refine HF.out.mono ?_
  rintro e W2 ⟨rfl, hb2⟩
  have hb3 := hb0.trans (hb2.mono hb0.size)
  replace c0 := clq hb2 c0; replace c1 := clq hb2 c1; replace c2 := clq hb2 c2; replace c3 := clq hb2 c3; replace o0 := clq hb2 o0; replace o1 := clq hb2 o1; replace o2 := clq hb2 o2; replace o3 := clq hb2 o3; replace o4 := clq hb2 o4
  have hz2 := (hb2.block _ hsb).trans hbx
  obtain ⟨z0, z1, z2, zf⟩ := box_cells3 hz2
  have zf0 := zf 0
  have zf1 := zf 1
  have zf2 := zf 2
  clear HF hb2 hb0 hsz hbx hsb zf W1
  obtain ⟨r0, r1, r2, -⟩ := box_cells3 (put3_at hz2 (.int .i64 0) (.int .i64 0) (.int .i64 0))
  have HRR := hiq (And.intro r0 (And.intro r1 r2))
  have HB : Hid (Below w.heap.size w (put3 W2 (w.heap.size + 1 + 1) (.int .i64 0) (.int .i64 0) (.int .i64 0))) := put3_below hb3 (by omega) _ _ _
  clear r0 r1 r2
  have HXX := hiq (HX.out W2 hb3)
  clear HX
  rcases HW.out with ⟨hs, hr⟩ | ⟨s, hs, s1, hf, hr⟩ | ⟨s, c, hs, s1, ht0, ht1, hc, hf, hn, hpl, hr⟩
  · change x.src og = none at hs
    rw [hs] at HXX
    change Hid (Calls _ _ _ _ fun e w' => e = .returned (.int .i64 (-1)) /\ _) at HXX
    subst hr
    clear hs HW HD HC HO HCN hb3 hz2
    go_wp2_with (go_at_call 69; refine HXX.out.mono ?_; rintro e w' ⟨rfl, rfl⟩)
    exact bodyPost_ret (v := .tuple #[.agg #[.int .i64 0, .int .i64 0, .int .i64 0], .int .i64 6]) (by obtain ⟨r0, r1, r2⟩ := HRR.out; simp [results, Tryz.results40, go_sem, r0, r1, r2]) rfl ⟨0, 0, 0, rfl, fun h0 => absurd h0 (by decide), HB.out⟩
  · change x.src og = some s at hs
    change findE x s ot = 2 at hf
    rw [hs] at HXX
    change Hid (Calls _ _ _ _ fun e w' => e = .returned (.int .i64 (s : Int)) /\ _) at HXX
    subst hr
    have HDD := hiq (HD.out W2 s hb3 s1)
    rw [hf] at HDD
    generalize findN x s ot = FN at *
    have hs0 : decide ((s : Int) < 0) = false := decide_eq_false (by omega)
    have HZ2 := hiq hz2
    have HSB := hiq hb3
    clear hs HW HD HC HO HCN hf HB HRR z0 z1 z2 zf0 zf1 zf2 hz2 hb3
    go_wp2_with (first | (go_at_call 69; refine HXX.out.mono ?_; rintro e w' ⟨rfl, rfl⟩) | fail)
    refine HDD.out.mono ?_
    rintro e W3 ⟨rfl, hb4⟩
    have hb5 := HSB.out.trans (hb4.mono HSB.out.size)
    have hz3 := (hb4.block _ (Array.getElem?_eq_some_iff.1 HZ2.out).1).trans HZ2.out
    obtain ⟨z0, z1, z2, zf⟩ := box_cells3 hz3
    have zf0 := zf 0
    have zf1 := zf 1
    have zf2 := zf 2
    obtain ⟨r0, r1, r2, -⟩ := box_cells3 (put3_at hz3 (.int .i64 0) (.int .i64 0) (.int .i64 0))
    have HRR := hiq (And.intro r0 (And.intro r1 r2))
    have HB : Hid (Below w.heap.size w (put3 W3 (w.heap.size + 1 + 1) (.int .i64 0) (.int .i64 0) (.int .i64 0))) := put3_below hb5 (by omega) _ _ _
    clear r0 r1 r2 zf hz3 hb5 hb4 HZ2 HSB HDD HXX
    go_wp2
    exact bodyPost_ret (v := .tuple #[.agg #[.int .i64 0, .int .i64 0, .int .i64 0], .int .i64 6]) (by obtain ⟨r0, r1, r2⟩ := HRR.out; simp [results, Tryz.results40, go_sem, r0, r1, r2]) rfl ⟨0, 0, 0, rfl, fun h0 => absurd h0 (by decide), HB.out⟩
  · change x.src og = some s at hs
    change findE x s ot = 0 at hf
    change findN x s ot = (c : Int) at hn
    rw [hs] at HXX
    change Hid (Calls _ _ _ _ fun e w' => e = .returned (.int .i64 (s : Int)) /\ _) at HXX
    have HDD := hiq (HD.out W2 s hb3 s1)
    rw [hf, hn] at HDD
    have hs0 : decide ((s : Int) < 0) = false := decide_eq_false (by omega)
    have HZ2 := hiq hz2
    have HSB := hiq hb3
    have hccn := HCN.out c hc
    have HCC : Hid (∀ W, Below w.heap.size w W -> Calls _ _ _ W _) := fun W hb => HC.out W s c hb s1 hc ht0 ht1
    rw [<- hr] at HCC
    have HPL := hiq hpl
    have HOT := hiq (HO.out c)
    clear hs HW HD HC HO HCN hf hn HB HRR z0 z1 z2 zf0 zf1 zf2 hz2 hb3 hpl ht0 ht1 hr s1 hc
    go_wp2_with (first | (go_at_call 69; refine HXX.out.mono ?_; rintro e w' ⟨rfl, rfl⟩) | fail)
    refine HDD.out.mono ?_
    rintro e W3 ⟨rfl, hb4⟩
    have hb5 := HSB.out.trans (hb4.mono HSB.out.size)
    have HZ3 := hiq ((hb4.block _ (Array.getElem?_eq_some_iff.1 HZ2.out).1).trans HZ2.out)
    replace c0 := clq hb4 c0; replace c1 := clq hb4 c1; replace c2 := clq hb4 c2; replace c3 := clq hb4 c3; replace o0 := clq hb4 o0; replace o1 := clq hb4 o1; replace o2 := clq hb4 o2; replace o3 := clq hb4 o3; replace o4 := clq hb4 o4
    have hba : Below W3.heap.size W3 (W3.alloc (.cells #[.int .i64 (s : Int), .int .i64 (c : Int), .int .i64 ((c : Int) + 1)] 66)) := (Below.refl _ _).alloc (Nat.le_refl _) _
    have hp4 := World.alloc_heap_new W3 (.cells #[.int .i64 (s : Int), .int .i64 (c : Int), .int .i64 ((c : Int) + 1)] 66)
    replace c0 := clq hba c0; replace c1 := clq hba c1; replace c2 := clq hba c2; replace c3 := clq hba c3; replace o0 := clq hba o0; replace o1 := clq hba o1; replace o2 := clq hba o2; replace o3 := clq hba o3; replace o4 := clq hba o4
    have HB6 := hiq (hb5.trans (hba.mono hb5.size))
    have HZ4 := hiq ((hba.block _ (Array.getElem?_eq_some_iff.1 HZ3.out).1).trans HZ3.out)
    clear hb5 hb4 HZ2 HSB HDD HXX hba HZ3
    obtain ⟨p0, p1, p2, -⟩ := box_cells3 hp4
    go_wp2_with fail
    generalize W3.alloc (.cells #[.int .i64 (s : Int), .int .i64 (c : Int), .int .i64 ((c : Int) + 1)] 66) = W4 at *
    obtain ⟨X, Wf, hX, hS1, hS2⟩ := family (fun W => Below W4.heap.size W4 W) W4 (Below.refl _ _)
    have HS2 := hiq hS2
    have q0 := fun x => clq (hS1 x) c0
    have q1 := fun x => clq (hS1 x) c1
    have q2 := fun x => clq (hS1 x) c2
    have q3 := fun x => clq (hS1 x) c3
    have q4 := fun x => clq (hS1 x) o0
    have q5 := fun x => clq (hS1 x) o1
    have q6 := fun x => clq (hS1 x) o2
    have q7 := fun x => clq (hS1 x) o3
    have q8 := fun x => clq (hS1 x) o4
    have q9 := fun x => clq (hS1 x) p0
    have qa := fun x => clq (hS1 x) p1
    have qb := fun x => clq (hS1 x) p2
    clear hS1 hS2
    have hd0 : Below W4.heap.size W4 W4.drew := (Below.refl _ _).drew
    refine wp_region_reads (Wf := Wf) 10 [0, 2, 3, 6, 7, 8] [1, 4, 5, 9] (by kernel_rfl) (by kernel_rfl) (fun _ _ d _ _ h => by cases d <;> exact h) (HS2.out _ hd0) ?_
    simp only [pickOps, List.filterMap_cons, List.filterMap_nil, List.getElem?_cons_zero, List.getElem?_cons_succ]
    repeat (refine wpReads_step (fun K hK => ?_); unfold rOp; go_simp; (refine hK _ ?_; clear hK K))
    clear q0 q1 q2 q3 q4 q5 q6 q7 q8 q9 qa qb
    refine wpReads_nil (wpActs_cons ?_)
    have HK := hiq (kinds_any W4.drew)
    go_wp2_with fail
    refine HK.out.mono ?_
    rintro e W5 ⟨rfl, hb5⟩
    have hd1 := hd0.trans (hb5.mono hd0.size)
    go_wp2_with fail
    refine ⟨HS2.out _ hd1, wpActs_cons ?_⟩
    have hix := kind_3 W5
    go_wp2_with fail
    clear hix
    refine ⟨HS2.out _ hd1, wpActs_cons ?_⟩
    have hif := kindC_3 W5
    go_wp2_with fail
    clear hif
    refine ⟨HS2.out _ hd1, wpActs_cons ?_⟩
    have HCL := hiq (HCC.out W5 (HB6.out.trans (hd1.mono HB6.out.size)))
    clear HK HCC
    go_wp2_with fail
    refine HCL.out.mono ?_
    rintro e W6 ⟨rfl, hb6⟩
    have hd2 := hd1.trans (hb6.mono hd1.size)
    go_wp2_with fail
    refine ⟨HS2.out _ hd2, wpActs_nil ?_⟩
    have hz6 := (hd2.block _ (Array.getElem?_eq_some_iff.1 HZ4.out).1).trans HZ4.out
    obtain ⟨z0, z1, z2, zf⟩ := box_cells3 hz6
    have zf0 := zf 0
    have zf1 := zf 1
    have zf2 := zf 2
    obtain ⟨r0, r1, r2, -⟩ := box_cells3 (put3_at hz6 (.int .i64 (s : Int)) (.int .i64 (c : Int)) (.int .i64 ((c : Int) + 1)))
    have HRR := hiq (And.intro r0 (And.intro r1 r2))
    have HB : Hid (Below w.heap.size w (put3 W6 (w.heap.size + 1 + 1) (.int .i64 (s : Int)) (.int .i64 (c : Int)) (.int .i64 ((c : Int) + 1)))) := put3_below (HB6.out.trans (hd2.mono HB6.out.size)) (by omega) _ _ _
    clear r0 r1 r2 zf hz6 HS2 hd0 hd1 hd2 hb5 hb6 HCL HZ4 HB6 c0 c1 c2 c3 o0 o1 o2 o3 o4 p0 p1 p2 hp4
    simp only [List.drop_succ_cons, List.drop_zero]
    go_wp2
    exact bodyPost_ret (v := .tuple #[.agg #[.int .i64 (s : Int), .int .i64 (c : Int), .int .i64 ((c : Int) + 1)], .int .i64 E]) (by obtain ⟨r0, r1, r2⟩ := HRR.out; simp [results, Tryz.results40, go_sem, r0, r1, r2]) rfl ⟨_, _, _, rfl, fun _ => ⟨s, c, HPL.out, rfl, rfl, HOT.out.symm⟩, HB.out⟩

theorem find_3c (S : Nat -> Prop) (v : CV) (x : Col) (o : Op) (w : World) (h : RdC S w v x) (hm : Sml x) (hE : Env w) (ho : o.ok) (hx : o.text.size <= 1000000) (hv : x.err = 0) (hk : o.kind = 3) (h0 : o.other ≠ 0) (h1 : o.other ≠ -1)
    (ha : ¬ ((o.other ≠ 0 /\ o.kind ≠ 3) \/ (o.text.size ≠ 0 /\ o.kind ≠ 4))) :
    Calls Tryz.prog 40 #[v.val, o.val] w (FindPost x o w) := by
  unfold FindPost
  have HW := hiq (find_ways hv (by omega) ha)
  have HX : Hid (∀ W, Below w.heap.size w W -> Calls Tryz.prog 69 #[.slice v.sa v.sn v.sc, .string o.sig] W fun e w' => e = .returned (.int .i64 (numO (x.src o.sig))) /\ W = w') :=
    fun W hb => index_any S v.sa v.sn v.sc x o.sig W (h.below hb).2.2.1
  have HD : Hid (∀ W s, Below w.heap.size w W -> s < x.sigla.length -> Calls Tryz.prog 25 #[v.val, .int .i64 (s : Int), .int .i64 o.tok] W fun e w' => e = .returned (.tuple #[.int .i64 (findN x s o.tok), .int .i64 (findE x s o.tok)]) /\ Below W.heap.size W w') :=
    fun W s hb hs => find_any S v x s o.tok W (h.below hb) hm (hE.below hb) hv hs ho.2.2.1
  have HC : Hid (∀ W s c, Below w.heap.size w W -> s < x.sigla.length -> c < x.cols.length -> 0 <= o.tok -> o.tok < ((x.tks s).length : Int) -> Calls Tryz.prog 77 #[v.val, o.val, .agg #[.int .i64 (s : Int), .int .i64 (c : Int), .int .i64 ((c : Int) + 1)]] W fun e w' => e = .returned (.int .i64 (kindErr x o s c)) /\ Below W.heap.size W w') := by
    intro W s c hb hs hc ht0 ht1
    have hz : kindErr x o s c = (if (o.other ≠ -1 /\ o.other ≠ 1) \/ (c : Int) + 1 < 0 \/ (x.cols.length : Int) <= (c : Int) + 1 then 2 else if 0 <= ent (x.row ((c : Int) + 1).toNat) s then 19 else 0) := by
      unfold kindErr; rw [if_neg (by omega), if_neg (by omega), if_pos hk]
      by_cases q : o.other = 1
      · rw [q]
      · rw [if_pos (.inl ⟨h1, q⟩), if_pos (.inl ⟨h1, q⟩)]
    rw [hz]
    exact ckShift_any S v x o s c _ W (h.below hb) hv hs
  have HO : Hid (∀ c : Nat, o.oth c = (c : Int) + 1) := by intro c; unfold Op.oth; rw [if_neg (by omega)]
  have HCK : Hid (∀ W, Below w.heap.size w W -> Calls Tryz.prog 26 #[v.val] W fun e w' => e = .returned (.int .i64 0) /\ Below W.heap.size W w') := fun W hb => by
    have := check_any S v x W (h.below hb) hm (hE.below hb)
    rw [hv] at this; exact this
  have HCN : Hid (∀ c, c < x.cols.length -> c < v.cn) := fun c hc => by rw [h.2.2.2.2.len]; exact hc
  generalize opErr x o = E at *
  generalize x.place o = PL at *
  generalize Op.oth o = TH at *
  have hcb : v.cn * 24 <= 140737488355328 := h.2.2.2.2.bound
  have d0 : o.text.size = 0 := by omega
  have d1 := isEmpty_yes d0
  clear d0
  have e0 : ((o.other : Int) != 0) = true := by simpa using h0
  have e1 : ((o.other : Int) == -1) = false := by simpa using h1
  clear h0 h1
  clear h hm hE ho hx hv ha
  obtain ⟨sec, sa, sn, sc, ta, tn, tc, ca, cn, cc⟩ := v
  obtain ⟨ok, og, ot, oo, ox⟩ := o
  dsimp only at hk hcb e0 e1 d1
  subst hk
  change Calls _ _ #[.agg #[.string sec, .slice sa sn sc, .slice ta tn tc, .slice ca cn cc], .agg #[.int .i64 3, .string og, .int .i64 ot, .int .i64 oo, .string ox]] _ _
  change Hid (∀ W, _ -> Calls _ _ #[.slice sa sn sc, .string og] W _) at HX
  change Hid (∀ W (s : Nat), _ -> _ -> Calls _ _ #[.agg #[.string sec, .slice sa sn sc, .slice ta tn tc, .slice ca cn cc], .int .i64 (s : Int), .int .i64 ot] W _) at HD
  change Hid (∀ W (s c : Nat), _ -> _ -> _ -> _ -> _ -> Calls _ _ #[.agg #[.string sec, .slice sa sn sc, .slice ta tn tc, .slice ca cn cc], .agg #[.int .i64 3, .string og, .int .i64 ot, .int .i64 oo, .string ox], _] W _) at HC
  change Hid (∀ W, _ -> Calls _ _ #[.agg #[.string sec, .slice sa sn sc, .slice ta tn tc, .slice ca cn cc]] W _) at HCK
  change Hid (∀ c : Nat, _ -> c < cn) at HCN
  obtain ⟨hb0, hsz, hC, hO, hP⟩ := box3 w #[.string sec, .slice sa sn sc, .slice ta tn tc, .slice ca cn cc] #[.int .i64 3, .string og, .int .i64 ot, .int .i64 oo, .string ox] #[.int .i64 0, .int .i64 0, .int .i64 0] 26 28 66
  have HF := hiq (HCK.out _ hb0)
  have hbx : (((w.alloc (.cells #[.string sec, .slice sa sn sc, .slice ta tn tc, .slice ca cn cc] 26)).alloc (.cells #[.int .i64 3, .string og, .int .i64 ot, .int .i64 oo, .string ox] 28)).alloc (.cells #[.int .i64 0, .int .i64 0, .int .i64 0] 66)).heap[w.heap.size + 1 + 1]? = some (.cells #[.int .i64 0, .int .i64 0, .int .i64 0] 66 (0, 0)) := by
    have := World.alloc_heap_new ((w.alloc (.cells #[.string sec, .slice sa sn sc, .slice ta tn tc, .slice ca cn cc] 26)).alloc (.cells #[.int .i64 3, .string og, .int .i64 ot, .int .i64 oo, .string ox] 28)) (.cells #[.int .i64 0, .int .i64 0, .int .i64 0] 66)
    simpa using this
  have hsb : w.heap.size + 1 + 1 < (((w.alloc (.cells #[.string sec, .slice sa sn sc, .slice ta tn tc, .slice ca cn cc] 26)).alloc (.cells #[.int .i64 3, .string og, .int .i64 ot, .int .i64 oo, .string ox] 28)).alloc (.cells #[.int .i64 0, .int .i64 0, .int .i64 0] 66)).heap.size := by simp
  have c0 := hC 0 _ rfl
  have c1 := hC 1 _ rfl
  have c2 := hC 2 _ rfl
  have c3 := hC 3 _ rfl
  have o0 := hO 0 _ rfl
  have o1 := hO 1 _ rfl
  have o2 := hO 2 _ rfl
  have o3 := hO 3 _ rfl
  have o4 := hO 4 _ rfl
  clear hC hO hP HCK
  go_enter Tryz.func40, Tryz.ntmps40
  go_wp2_with fail
  generalize ((w.alloc (.cells #[.string sec, .slice sa sn sc, .slice ta tn tc, .slice ca cn cc] 26)).alloc (.cells #[.int .i64 3, .string og, .int .i64 ot, .int .i64 oo, .string ox] 28)).alloc (.cells #[.int .i64 0, .int .i64 0, .int .i64 0] 66) = W1 at *
  refine HF.out.mono ?_
  rintro e W2 ⟨rfl, hb2⟩
  have hb3 := hb0.trans (hb2.mono hb0.size)
  replace c0 := clq hb2 c0; replace c1 := clq hb2 c1; replace c2 := clq hb2 c2; replace c3 := clq hb2 c3; replace o0 := clq hb2 o0; replace o1 := clq hb2 o1; replace o2 := clq hb2 o2; replace o3 := clq hb2 o3; replace o4 := clq hb2 o4
  have hz2 := (hb2.block _ hsb).trans hbx
  obtain ⟨z0, z1, z2, zf⟩ := box_cells3 hz2
  have zf0 := zf 0
  have zf1 := zf 1
  have zf2 := zf 2
  clear HF hb2 hb0 hsz hbx hsb zf W1
  obtain ⟨r0, r1, r2, -⟩ := box_cells3 (put3_at hz2 (.int .i64 0) (.int .i64 0) (.int .i64 0))
  have HRR := hiq (And.intro r0 (And.intro r1 r2))
  have HB : Hid (Below w.heap.size w (put3 W2 (w.heap.size + 1 + 1) (.int .i64 0) (.int .i64 0) (.int .i64 0))) := put3_below hb3 (by omega) _ _ _
  clear r0 r1 r2
  have HXX := hiq (HX.out W2 hb3)
  clear HX
  rcases HW.out with ⟨hs, hr⟩ | ⟨s, hs, s1, hf, hr⟩ | ⟨s, c, hs, s1, ht0, ht1, hc, hf, hn, hpl, hr⟩
  · change x.src og = none at hs
    rw [hs] at HXX
    change Hid (Calls _ _ _ _ fun e w' => e = .returned (.int .i64 (-1)) /\ _) at HXX
    subst hr
    clear hs HW HD HC HO HCN hb3 hz2
    go_wp2_with (go_at_call 69; refine HXX.out.mono ?_; rintro e w' ⟨rfl, rfl⟩)
    exact bodyPost_ret (v := .tuple #[.agg #[.int .i64 0, .int .i64 0, .int .i64 0], .int .i64 6]) (by obtain ⟨r0, r1, r2⟩ := HRR.out; simp [results, Tryz.results40, go_sem, r0, r1, r2]) rfl ⟨0, 0, 0, rfl, fun h0 => absurd h0 (by decide), HB.out⟩
  · change x.src og = some s at hs
    change findE x s ot = 2 at hf
    rw [hs] at HXX
    change Hid (Calls _ _ _ _ fun e w' => e = .returned (.int .i64 (s : Int)) /\ _) at HXX
    subst hr
    have HDD := hiq (HD.out W2 s hb3 s1)
    rw [hf] at HDD
    generalize findN x s ot = FN at *
    have hs0 : decide ((s : Int) < 0) = false := decide_eq_false (by omega)
    have HZ2 := hiq hz2
    have HSB := hiq hb3
    clear hs HW HD HC HO HCN hf HB HRR z0 z1 z2 zf0 zf1 zf2 hz2 hb3
    go_wp2_with (first | (go_at_call 69; refine HXX.out.mono ?_; rintro e w' ⟨rfl, rfl⟩) | fail)
    refine HDD.out.mono ?_
    rintro e W3 ⟨rfl, hb4⟩
    have hb5 := HSB.out.trans (hb4.mono HSB.out.size)
    have hz3 := (hb4.block _ (Array.getElem?_eq_some_iff.1 HZ2.out).1).trans HZ2.out
    obtain ⟨z0, z1, z2, zf⟩ := box_cells3 hz3
    have zf0 := zf 0
    have zf1 := zf 1
    have zf2 := zf 2
    obtain ⟨r0, r1, r2, -⟩ := box_cells3 (put3_at hz3 (.int .i64 0) (.int .i64 0) (.int .i64 0))
    have HRR := hiq (And.intro r0 (And.intro r1 r2))
    have HB : Hid (Below w.heap.size w (put3 W3 (w.heap.size + 1 + 1) (.int .i64 0) (.int .i64 0) (.int .i64 0))) := put3_below hb5 (by omega) _ _ _
    clear r0 r1 r2 zf hz3 hb5 hb4 HZ2 HSB HDD HXX
    go_wp2
    exact bodyPost_ret (v := .tuple #[.agg #[.int .i64 0, .int .i64 0, .int .i64 0], .int .i64 6]) (by obtain ⟨r0, r1, r2⟩ := HRR.out; simp [results, Tryz.results40, go_sem, r0, r1, r2]) rfl ⟨0, 0, 0, rfl, fun h0 => absurd h0 (by decide), HB.out⟩
  · change x.src og = some s at hs
    change findE x s ot = 0 at hf
    change findN x s ot = (c : Int) at hn
    rw [hs] at HXX
    change Hid (Calls _ _ _ _ fun e w' => e = .returned (.int .i64 (s : Int)) /\ _) at HXX
    have HDD := hiq (HD.out W2 s hb3 s1)
    rw [hf, hn] at HDD
    have hs0 : decide ((s : Int) < 0) = false := decide_eq_false (by omega)
    have HZ2 := hiq hz2
    have HSB := hiq hb3
    have hccn := HCN.out c hc
    have HCC : Hid (∀ W, Below w.heap.size w W -> Calls _ _ _ W _) := fun W hb => HC.out W s c hb s1 hc ht0 ht1
    rw [<- hr] at HCC
    have HPL := hiq hpl
    have HOT := hiq (HO.out c)
    clear hs HW HD HC HO HCN hf hn HB HRR z0 z1 z2 zf0 zf1 zf2 hz2 hb3 hpl ht0 ht1 hr s1 hc
    go_wp2_with (first | (go_at_call 69; refine HXX.out.mono ?_; rintro e w' ⟨rfl, rfl⟩) | fail)
    refine HDD.out.mono ?_
    rintro e W3 ⟨rfl, hb4⟩
    have hb5 := HSB.out.trans (hb4.mono HSB.out.size)
    have HZ3 := hiq ((hb4.block _ (Array.getElem?_eq_some_iff.1 HZ2.out).1).trans HZ2.out)
    replace c0 := clq hb4 c0; replace c1 := clq hb4 c1; replace c2 := clq hb4 c2; replace c3 := clq hb4 c3; replace o0 := clq hb4 o0; replace o1 := clq hb4 o1; replace o2 := clq hb4 o2; replace o3 := clq hb4 o3; replace o4 := clq hb4 o4
    have hba : Below W3.heap.size W3 (W3.alloc (.cells #[.int .i64 (s : Int), .int .i64 (c : Int), .int .i64 ((c : Int) + 1)] 66)) := (Below.refl _ _).alloc (Nat.le_refl _) _
    have hp4 := World.alloc_heap_new W3 (.cells #[.int .i64 (s : Int), .int .i64 (c : Int), .int .i64 ((c : Int) + 1)] 66)
    replace c0 := clq hba c0; replace c1 := clq hba c1; replace c2 := clq hba c2; replace c3 := clq hba c3; replace o0 := clq hba o0; replace o1 := clq hba o1; replace o2 := clq hba o2; replace o3 := clq hba o3; replace o4 := clq hba o4
    have HB6 := hiq (hb5.trans (hba.mono hb5.size))
    have HZ4 := hiq ((hba.block _ (Array.getElem?_eq_some_iff.1 HZ3.out).1).trans HZ3.out)
    clear hb5 hb4 HZ2 HSB HDD HXX hba HZ3
    obtain ⟨p0, p1, p2, -⟩ := box_cells3 hp4
    go_wp2_with fail
    generalize W3.alloc (.cells #[.int .i64 (s : Int), .int .i64 (c : Int), .int .i64 ((c : Int) + 1)] 66) = W4 at *
    obtain ⟨X, Wf, hX, hS1, hS2⟩ := family (fun W => Below W4.heap.size W4 W) W4 (Below.refl _ _)
    have HS2 := hiq hS2
    have q0 := fun x => clq (hS1 x) c0
    have q1 := fun x => clq (hS1 x) c1
    have q2 := fun x => clq (hS1 x) c2
    have q3 := fun x => clq (hS1 x) c3
    have q4 := fun x => clq (hS1 x) o0
    have q5 := fun x => clq (hS1 x) o1
    have q6 := fun x => clq (hS1 x) o2
    have q7 := fun x => clq (hS1 x) o3
    have q8 := fun x => clq (hS1 x) o4
    have q9 := fun x => clq (hS1 x) p0
    have qa := fun x => clq (hS1 x) p1
    have qb := fun x => clq (hS1 x) p2
    clear hS1 hS2
    have hd0 : Below W4.heap.size W4 W4.drew := (Below.refl _ _).drew
    refine wp_region_reads (Wf := Wf) 10 [0, 2, 3, 6, 7, 8] [1, 4, 5, 9] (by kernel_rfl) (by kernel_rfl) (fun _ _ d _ _ h => by cases d <;> exact h) (HS2.out _ hd0) ?_
    simp only [pickOps, List.filterMap_cons, List.filterMap_nil, List.getElem?_cons_zero, List.getElem?_cons_succ]
    repeat (refine wpReads_step (fun K hK => ?_); unfold rOp; go_simp; (refine hK _ ?_; clear hK K))
    clear q0 q1 q2 q3 q4 q5 q6 q7 q8 q9 qa qb
    refine wpReads_nil (wpActs_cons ?_)
    have HK := hiq (kinds_any W4.drew)
    go_wp2_with fail
    refine HK.out.mono ?_
    rintro e W5 ⟨rfl, hb5⟩
    have hd1 := hd0.trans (hb5.mono hd0.size)
    go_wp2_with fail
    refine ⟨HS2.out _ hd1, wpActs_cons ?_⟩
    have hix := kind_3 W5
    go_wp2_with fail
    clear hix
    refine ⟨HS2.out _ hd1, wpActs_cons ?_⟩
    have hif := kindC_3 W5
    go_wp2_with fail
    clear hif
    refine ⟨HS2.out _ hd1, wpActs_cons ?_⟩
    have HCL := hiq (HCC.out W5 (HB6.out.trans (hd1.mono HB6.out.size)))
    clear HK HCC
    go_wp2_with fail
    refine HCL.out.mono ?_
    rintro e W6 ⟨rfl, hb6⟩
    have hd2 := hd1.trans (hb6.mono hd1.size)
    go_wp2_with fail
    refine ⟨HS2.out _ hd2, wpActs_nil ?_⟩
    have hz6 := (hd2.block _ (Array.getElem?_eq_some_iff.1 HZ4.out).1).trans HZ4.out
    obtain ⟨z0, z1, z2, zf⟩ := box_cells3 hz6
    have zf0 := zf 0
    have zf1 := zf 1
    have zf2 := zf 2
    obtain ⟨r0, r1, r2, -⟩ := box_cells3 (put3_at hz6 (.int .i64 (s : Int)) (.int .i64 (c : Int)) (.int .i64 ((c : Int) + 1)))
    have HRR := hiq (And.intro r0 (And.intro r1 r2))
    have HB : Hid (Below w.heap.size w (put3 W6 (w.heap.size + 1 + 1) (.int .i64 (s : Int)) (.int .i64 (c : Int)) (.int .i64 ((c : Int) + 1)))) := put3_below (HB6.out.trans (hd2.mono HB6.out.size)) (by omega) _ _ _
    clear r0 r1 r2 zf hz6 HS2 hd0 hd1 hd2 hb5 hb6 HCL HZ4 HB6 c0 c1 c2 c3 o0 o1 o2 o3 o4 p0 p1 p2 hp4
    simp only [List.drop_succ_cons, List.drop_zero]
    go_wp2
    exact bodyPost_ret (v := .tuple #[.agg #[.int .i64 (s : Int), .int .i64 (c : Int), .int .i64 ((c : Int) + 1)], .int .i64 E]) (by obtain ⟨r0, r1, r2⟩ := HRR.out; simp [results, Tryz.results40, go_sem, r0, r1, r2]) rfl ⟨_, _, _, rfl, fun _ => ⟨s, c, HPL.out, rfl, rfl, HOT.out.symm⟩, HB.out⟩

theorem find_4a (S : Nat -> Prop) (v : CV) (x : Col) (o : Op) (w : World) (h : RdC S w v x) (hm : Sml x) (hE : Env w) (ho : o.ok) (hx : o.text.size <= 1000000) (hv : x.err = 0) (hk : o.kind = 4) (h0 : o.text.size = 0)
    (ha : ¬ ((o.other ≠ 0 /\ o.kind ≠ 3) \/ (o.text.size ≠ 0 /\ o.kind ≠ 4))) :
    Calls Tryz.prog 40 #[v.val, o.val] w (FindPost x o w) := by
  unfold FindPost
  have HW := hiq (find_ways hv (by omega) ha)
  have HX : Hid (∀ W, Below w.heap.size w W -> Calls Tryz.prog 69 #[.slice v.sa v.sn v.sc, .string o.sig] W fun e w' => e = .returned (.int .i64 (numO (x.src o.sig))) /\ W = w') :=
    fun W hb => index_any S v.sa v.sn v.sc x o.sig W (h.below hb).2.2.1
  have HD : Hid (∀ W s, Below w.heap.size w W -> s < x.sigla.length -> Calls Tryz.prog 25 #[v.val, .int .i64 (s : Int), .int .i64 o.tok] W fun e w' => e = .returned (.tuple #[.int .i64 (findN x s o.tok), .int .i64 (findE x s o.tok)]) /\ Below W.heap.size W w') :=
    fun W s hb hs => find_any S v x s o.tok W (h.below hb) hm (hE.below hb) hv hs ho.2.2.1
  have HC : Hid (∀ W s c, Below w.heap.size w W -> s < x.sigla.length -> c < x.cols.length -> 0 <= o.tok -> o.tok < ((x.tks s).length : Int) -> Calls Tryz.prog 79 #[v.val, o.val, .agg #[.int .i64 (s : Int), .int .i64 (c : Int), .int .i64 ((c : Int) + 1)]] W fun e w' => e = .returned (.int .i64 (kindErr x o s c)) /\ Below W.heap.size W w') := by
    intro W s c hb hs hc ht0 ht1
    have hz : kindErr x o s c = (if Tok.err { x.tk s o.tok with norm := o.text } ≠ 0 then 11 else 0) := by
      unfold kindErr; rw [if_neg (by omega), if_neg (by omega), if_neg (by omega)]
    rw [hz]
    exact ckReg_any S v x o s c _ W (h.below hb) (hE.below hb) hm hx (by rw [(err_iff.1 hv).1.len]; exact hs) ht0 ht1
  have HO : Hid (∀ c : Nat, o.oth c = (c : Int) + 1) := by intro c; unfold Op.oth; rw [if_neg (by omega)]
  have HCK : Hid (∀ W, Below w.heap.size w W -> Calls Tryz.prog 26 #[v.val] W fun e w' => e = .returned (.int .i64 0) /\ Below W.heap.size W w') := fun W hb => by
    have := check_any S v x W (h.below hb) hm (hE.below hb)
    rw [hv] at this; exact this
  have HCN : Hid (∀ c, c < x.cols.length -> c < v.cn) := fun c hc => by rw [h.2.2.2.2.len]; exact hc
  generalize opErr x o = E at *
  generalize x.place o = PL at *
  generalize Op.oth o = TH at *
  have hcb : v.cn * 24 <= 140737488355328 := h.2.2.2.2.bound
  have e0 : ((o.other : Int) != 0) = false := by simp; omega
  have d1 := isEmpty_yes h0
  clear h0
  clear h hm hE ho hx hv ha
  obtain ⟨sec, sa, sn, sc, ta, tn, tc, ca, cn, cc⟩ := v
  obtain ⟨ok, og, ot, oo, ox⟩ := o
  dsimp only at hk hcb e0 d1
  subst hk
  change Calls _ _ #[.agg #[.string sec, .slice sa sn sc, .slice ta tn tc, .slice ca cn cc], .agg #[.int .i64 4, .string og, .int .i64 ot, .int .i64 oo, .string ox]] _ _
  change Hid (∀ W, _ -> Calls _ _ #[.slice sa sn sc, .string og] W _) at HX
  change Hid (∀ W (s : Nat), _ -> _ -> Calls _ _ #[.agg #[.string sec, .slice sa sn sc, .slice ta tn tc, .slice ca cn cc], .int .i64 (s : Int), .int .i64 ot] W _) at HD
  change Hid (∀ W (s c : Nat), _ -> _ -> _ -> _ -> _ -> Calls _ _ #[.agg #[.string sec, .slice sa sn sc, .slice ta tn tc, .slice ca cn cc], .agg #[.int .i64 4, .string og, .int .i64 ot, .int .i64 oo, .string ox], _] W _) at HC
  change Hid (∀ W, _ -> Calls _ _ #[.agg #[.string sec, .slice sa sn sc, .slice ta tn tc, .slice ca cn cc]] W _) at HCK
  change Hid (∀ c : Nat, _ -> c < cn) at HCN
  obtain ⟨hb0, hsz, hC, hO, hP⟩ := box3 w #[.string sec, .slice sa sn sc, .slice ta tn tc, .slice ca cn cc] #[.int .i64 4, .string og, .int .i64 ot, .int .i64 oo, .string ox] #[.int .i64 0, .int .i64 0, .int .i64 0] 26 28 66
  have HF := hiq (HCK.out _ hb0)
  have hbx : (((w.alloc (.cells #[.string sec, .slice sa sn sc, .slice ta tn tc, .slice ca cn cc] 26)).alloc (.cells #[.int .i64 4, .string og, .int .i64 ot, .int .i64 oo, .string ox] 28)).alloc (.cells #[.int .i64 0, .int .i64 0, .int .i64 0] 66)).heap[w.heap.size + 1 + 1]? = some (.cells #[.int .i64 0, .int .i64 0, .int .i64 0] 66 (0, 0)) := by
    have := World.alloc_heap_new ((w.alloc (.cells #[.string sec, .slice sa sn sc, .slice ta tn tc, .slice ca cn cc] 26)).alloc (.cells #[.int .i64 4, .string og, .int .i64 ot, .int .i64 oo, .string ox] 28)) (.cells #[.int .i64 0, .int .i64 0, .int .i64 0] 66)
    simpa using this
  have hsb : w.heap.size + 1 + 1 < (((w.alloc (.cells #[.string sec, .slice sa sn sc, .slice ta tn tc, .slice ca cn cc] 26)).alloc (.cells #[.int .i64 4, .string og, .int .i64 ot, .int .i64 oo, .string ox] 28)).alloc (.cells #[.int .i64 0, .int .i64 0, .int .i64 0] 66)).heap.size := by simp
  have c0 := hC 0 _ rfl
  have c1 := hC 1 _ rfl
  have c2 := hC 2 _ rfl
  have c3 := hC 3 _ rfl
  have o0 := hO 0 _ rfl
  have o1 := hO 1 _ rfl
  have o2 := hO 2 _ rfl
  have o3 := hO 3 _ rfl
  have o4 := hO 4 _ rfl
  clear hC hO hP HCK
  go_enter Tryz.func40, Tryz.ntmps40
  go_wp2_with fail
  generalize ((w.alloc (.cells #[.string sec, .slice sa sn sc, .slice ta tn tc, .slice ca cn cc] 26)).alloc (.cells #[.int .i64 4, .string og, .int .i64 ot, .int .i64 oo, .string ox] 28)).alloc (.cells #[.int .i64 0, .int .i64 0, .int .i64 0] 66) = W1 at *
  refine HF.out.mono ?_
  rintro e W2 ⟨rfl, hb2⟩
  have hb3 := hb0.trans (hb2.mono hb0.size)
  replace c0 := clq hb2 c0; replace c1 := clq hb2 c1; replace c2 := clq hb2 c2; replace c3 := clq hb2 c3; replace o0 := clq hb2 o0; replace o1 := clq hb2 o1; replace o2 := clq hb2 o2; replace o3 := clq hb2 o3; replace o4 := clq hb2 o4
  have hz2 := (hb2.block _ hsb).trans hbx
  obtain ⟨z0, z1, z2, zf⟩ := box_cells3 hz2
  have zf0 := zf 0
  have zf1 := zf 1
  have zf2 := zf 2
  clear HF hb2 hb0 hsz hbx hsb zf W1
  obtain ⟨r0, r1, r2, -⟩ := box_cells3 (put3_at hz2 (.int .i64 0) (.int .i64 0) (.int .i64 0))
  have HRR := hiq (And.intro r0 (And.intro r1 r2))
  have HB : Hid (Below w.heap.size w (put3 W2 (w.heap.size + 1 + 1) (.int .i64 0) (.int .i64 0) (.int .i64 0))) := put3_below hb3 (by omega) _ _ _
  clear r0 r1 r2
  have HXX := hiq (HX.out W2 hb3)
  clear HX
  rcases HW.out with ⟨hs, hr⟩ | ⟨s, hs, s1, hf, hr⟩ | ⟨s, c, hs, s1, ht0, ht1, hc, hf, hn, hpl, hr⟩
  · change x.src og = none at hs
    rw [hs] at HXX
    change Hid (Calls _ _ _ _ fun e w' => e = .returned (.int .i64 (-1)) /\ _) at HXX
    subst hr
    clear hs HW HD HC HO HCN hb3 hz2
    go_wp2_with (go_at_call 69; refine HXX.out.mono ?_; rintro e w' ⟨rfl, rfl⟩)
    exact bodyPost_ret (v := .tuple #[.agg #[.int .i64 0, .int .i64 0, .int .i64 0], .int .i64 6]) (by obtain ⟨r0, r1, r2⟩ := HRR.out; simp [results, Tryz.results40, go_sem, r0, r1, r2]) rfl ⟨0, 0, 0, rfl, fun h0 => absurd h0 (by decide), HB.out⟩
  · change x.src og = some s at hs
    change findE x s ot = 2 at hf
    rw [hs] at HXX
    change Hid (Calls _ _ _ _ fun e w' => e = .returned (.int .i64 (s : Int)) /\ _) at HXX
    subst hr
    have HDD := hiq (HD.out W2 s hb3 s1)
    rw [hf] at HDD
    generalize findN x s ot = FN at *
    have hs0 : decide ((s : Int) < 0) = false := decide_eq_false (by omega)
    have HZ2 := hiq hz2
    have HSB := hiq hb3
    clear hs HW HD HC HO HCN hf HB HRR z0 z1 z2 zf0 zf1 zf2 hz2 hb3
    go_wp2_with (first | (go_at_call 69; refine HXX.out.mono ?_; rintro e w' ⟨rfl, rfl⟩) | fail)
    refine HDD.out.mono ?_
    rintro e W3 ⟨rfl, hb4⟩
    have hb5 := HSB.out.trans (hb4.mono HSB.out.size)
    have hz3 := (hb4.block _ (Array.getElem?_eq_some_iff.1 HZ2.out).1).trans HZ2.out
    obtain ⟨z0, z1, z2, zf⟩ := box_cells3 hz3
    have zf0 := zf 0
    have zf1 := zf 1
    have zf2 := zf 2
    obtain ⟨r0, r1, r2, -⟩ := box_cells3 (put3_at hz3 (.int .i64 0) (.int .i64 0) (.int .i64 0))
    have HRR := hiq (And.intro r0 (And.intro r1 r2))
    have HB : Hid (Below w.heap.size w (put3 W3 (w.heap.size + 1 + 1) (.int .i64 0) (.int .i64 0) (.int .i64 0))) := put3_below hb5 (by omega) _ _ _
    clear r0 r1 r2 zf hz3 hb5 hb4 HZ2 HSB HDD HXX
    go_wp2
    exact bodyPost_ret (v := .tuple #[.agg #[.int .i64 0, .int .i64 0, .int .i64 0], .int .i64 6]) (by obtain ⟨r0, r1, r2⟩ := HRR.out; simp [results, Tryz.results40, go_sem, r0, r1, r2]) rfl ⟨0, 0, 0, rfl, fun h0 => absurd h0 (by decide), HB.out⟩
  · change x.src og = some s at hs
    change findE x s ot = 0 at hf
    change findN x s ot = (c : Int) at hn
    rw [hs] at HXX
    change Hid (Calls _ _ _ _ fun e w' => e = .returned (.int .i64 (s : Int)) /\ _) at HXX
    have HDD := hiq (HD.out W2 s hb3 s1)
    rw [hf, hn] at HDD
    have hs0 : decide ((s : Int) < 0) = false := decide_eq_false (by omega)
    have HZ2 := hiq hz2
    have HSB := hiq hb3
    have hccn := HCN.out c hc
    have HCC : Hid (∀ W, Below w.heap.size w W -> Calls _ _ _ W _) := fun W hb => HC.out W s c hb s1 hc ht0 ht1
    rw [<- hr] at HCC
    have HPL := hiq hpl
    have HOT := hiq (HO.out c)
    clear hs HW HD HC HO HCN hf hn HB HRR z0 z1 z2 zf0 zf1 zf2 hz2 hb3 hpl ht0 ht1 hr s1 hc
    go_wp2_with (first | (go_at_call 69; refine HXX.out.mono ?_; rintro e w' ⟨rfl, rfl⟩) | fail)
    refine HDD.out.mono ?_
    rintro e W3 ⟨rfl, hb4⟩
    have hb5 := HSB.out.trans (hb4.mono HSB.out.size)
    have HZ3 := hiq ((hb4.block _ (Array.getElem?_eq_some_iff.1 HZ2.out).1).trans HZ2.out)
    replace c0 := clq hb4 c0; replace c1 := clq hb4 c1; replace c2 := clq hb4 c2; replace c3 := clq hb4 c3; replace o0 := clq hb4 o0; replace o1 := clq hb4 o1; replace o2 := clq hb4 o2; replace o3 := clq hb4 o3; replace o4 := clq hb4 o4
    have hba : Below W3.heap.size W3 (W3.alloc (.cells #[.int .i64 (s : Int), .int .i64 (c : Int), .int .i64 ((c : Int) + 1)] 66)) := (Below.refl _ _).alloc (Nat.le_refl _) _
    have hp4 := World.alloc_heap_new W3 (.cells #[.int .i64 (s : Int), .int .i64 (c : Int), .int .i64 ((c : Int) + 1)] 66)
    replace c0 := clq hba c0; replace c1 := clq hba c1; replace c2 := clq hba c2; replace c3 := clq hba c3; replace o0 := clq hba o0; replace o1 := clq hba o1; replace o2 := clq hba o2; replace o3 := clq hba o3; replace o4 := clq hba o4
    have HB6 := hiq (hb5.trans (hba.mono hb5.size))
    have HZ4 := hiq ((hba.block _ (Array.getElem?_eq_some_iff.1 HZ3.out).1).trans HZ3.out)
    clear hb5 hb4 HZ2 HSB HDD HXX hba HZ3
    obtain ⟨p0, p1, p2, -⟩ := box_cells3 hp4
    go_wp2_with fail
    generalize W3.alloc (.cells #[.int .i64 (s : Int), .int .i64 (c : Int), .int .i64 ((c : Int) + 1)] 66) = W4 at *
    obtain ⟨X, Wf, hX, hS1, hS2⟩ := family (fun W => Below W4.heap.size W4 W) W4 (Below.refl _ _)
    have HS2 := hiq hS2
    have q0 := fun x => clq (hS1 x) c0
    have q1 := fun x => clq (hS1 x) c1
    have q2 := fun x => clq (hS1 x) c2
    have q3 := fun x => clq (hS1 x) c3
    have q4 := fun x => clq (hS1 x) o0
    have q5 := fun x => clq (hS1 x) o1
    have q6 := fun x => clq (hS1 x) o2
    have q7 := fun x => clq (hS1 x) o3
    have q8 := fun x => clq (hS1 x) o4
    have q9 := fun x => clq (hS1 x) p0
    have qa := fun x => clq (hS1 x) p1
    have qb := fun x => clq (hS1 x) p2
    clear hS1 hS2
    have hd0 : Below W4.heap.size W4 W4.drew := (Below.refl _ _).drew
    refine wp_region_reads (Wf := Wf) 10 [0, 2, 3, 6, 7, 8] [1, 4, 5, 9] (by kernel_rfl) (by kernel_rfl) (fun _ _ d _ _ h => by cases d <;> exact h) (HS2.out _ hd0) ?_
    simp only [pickOps, List.filterMap_cons, List.filterMap_nil, List.getElem?_cons_zero, List.getElem?_cons_succ]
    repeat (refine wpReads_step (fun K hK => ?_); unfold rOp; go_simp; (refine hK _ ?_; clear hK K))
    clear q0 q1 q2 q3 q4 q5 q6 q7 q8 q9 qa qb
    refine wpReads_nil (wpActs_cons ?_)
    have HK := hiq (kinds_any W4.drew)
    go_wp2_with fail
    refine HK.out.mono ?_
    rintro e W5 ⟨rfl, hb5⟩
    have hd1 := hd0.trans (hb5.mono hd0.size)
    go_wp2_with fail
    refine ⟨HS2.out _ hd1, wpActs_cons ?_⟩
    have hix := kind_4 W5
    go_wp2_with fail
    clear hix
    refine ⟨HS2.out _ hd1, wpActs_cons ?_⟩
    have hif := kindC_4 W5
    go_wp2_with fail
    clear hif
    refine ⟨HS2.out _ hd1, wpActs_cons ?_⟩
    have HCL := hiq (HCC.out W5 (HB6.out.trans (hd1.mono HB6.out.size)))
    clear HK HCC
    go_wp2_with fail
    refine HCL.out.mono ?_
    rintro e W6 ⟨rfl, hb6⟩
    have hd2 := hd1.trans (hb6.mono hd1.size)
    go_wp2_with fail
    refine ⟨HS2.out _ hd2, wpActs_nil ?_⟩
    have hz6 := (hd2.block _ (Array.getElem?_eq_some_iff.1 HZ4.out).1).trans HZ4.out
    obtain ⟨z0, z1, z2, zf⟩ := box_cells3 hz6
    have zf0 := zf 0
    have zf1 := zf 1
    have zf2 := zf 2
    obtain ⟨r0, r1, r2, -⟩ := box_cells3 (put3_at hz6 (.int .i64 (s : Int)) (.int .i64 (c : Int)) (.int .i64 ((c : Int) + 1)))
    have HRR := hiq (And.intro r0 (And.intro r1 r2))
    have HB : Hid (Below w.heap.size w (put3 W6 (w.heap.size + 1 + 1) (.int .i64 (s : Int)) (.int .i64 (c : Int)) (.int .i64 ((c : Int) + 1)))) := put3_below (HB6.out.trans (hd2.mono HB6.out.size)) (by omega) _ _ _
    clear r0 r1 r2 zf hz6 HS2 hd0 hd1 hd2 hb5 hb6 HCL HZ4 HB6 c0 c1 c2 c3 o0 o1 o2 o3 o4 p0 p1 p2 hp4
    simp only [List.drop_succ_cons, List.drop_zero]
    go_wp2
    exact bodyPost_ret (v := .tuple #[.agg #[.int .i64 (s : Int), .int .i64 (c : Int), .int .i64 ((c : Int) + 1)], .int .i64 E]) (by obtain ⟨r0, r1, r2⟩ := HRR.out; simp [results, Tryz.results40, go_sem, r0, r1, r2]) rfl ⟨_, _, _, rfl, fun _ => ⟨s, c, HPL.out, rfl, rfl, HOT.out.symm⟩, HB.out⟩

theorem find_4b (S : Nat -> Prop) (v : CV) (x : Col) (o : Op) (w : World) (h : RdC S w v x) (hm : Sml x) (hE : Env w) (ho : o.ok) (hx : o.text.size <= 1000000) (hv : x.err = 0) (hk : o.kind = 4) (h0 : o.text.size ≠ 0)
    (ha : ¬ ((o.other ≠ 0 /\ o.kind ≠ 3) \/ (o.text.size ≠ 0 /\ o.kind ≠ 4))) :
    Calls Tryz.prog 40 #[v.val, o.val] w (FindPost x o w) := by
  unfold FindPost
  have HW := hiq (find_ways hv (by omega) ha)
  have HX : Hid (∀ W, Below w.heap.size w W -> Calls Tryz.prog 69 #[.slice v.sa v.sn v.sc, .string o.sig] W fun e w' => e = .returned (.int .i64 (numO (x.src o.sig))) /\ W = w') :=
    fun W hb => index_any S v.sa v.sn v.sc x o.sig W (h.below hb).2.2.1
  have HD : Hid (∀ W s, Below w.heap.size w W -> s < x.sigla.length -> Calls Tryz.prog 25 #[v.val, .int .i64 (s : Int), .int .i64 o.tok] W fun e w' => e = .returned (.tuple #[.int .i64 (findN x s o.tok), .int .i64 (findE x s o.tok)]) /\ Below W.heap.size W w') :=
    fun W s hb hs => find_any S v x s o.tok W (h.below hb) hm (hE.below hb) hv hs ho.2.2.1
  have HC : Hid (∀ W s c, Below w.heap.size w W -> s < x.sigla.length -> c < x.cols.length -> 0 <= o.tok -> o.tok < ((x.tks s).length : Int) -> Calls Tryz.prog 79 #[v.val, o.val, .agg #[.int .i64 (s : Int), .int .i64 (c : Int), .int .i64 ((c : Int) + 1)]] W fun e w' => e = .returned (.int .i64 (kindErr x o s c)) /\ Below W.heap.size W w') := by
    intro W s c hb hs hc ht0 ht1
    have hz : kindErr x o s c = (if Tok.err { x.tk s o.tok with norm := o.text } ≠ 0 then 11 else 0) := by
      unfold kindErr; rw [if_neg (by omega), if_neg (by omega), if_neg (by omega)]
    rw [hz]
    exact ckReg_any S v x o s c _ W (h.below hb) (hE.below hb) hm hx (by rw [(err_iff.1 hv).1.len]; exact hs) ht0 ht1
  have HO : Hid (∀ c : Nat, o.oth c = (c : Int) + 1) := by intro c; unfold Op.oth; rw [if_neg (by omega)]
  have HCK : Hid (∀ W, Below w.heap.size w W -> Calls Tryz.prog 26 #[v.val] W fun e w' => e = .returned (.int .i64 0) /\ Below W.heap.size W w') := fun W hb => by
    have := check_any S v x W (h.below hb) hm (hE.below hb)
    rw [hv] at this; exact this
  have HCN : Hid (∀ c, c < x.cols.length -> c < v.cn) := fun c hc => by rw [h.2.2.2.2.len]; exact hc
  generalize opErr x o = E at *
  generalize x.place o = PL at *
  generalize Op.oth o = TH at *
  have hcb : v.cn * 24 <= 140737488355328 := h.2.2.2.2.bound
  have e0 : ((o.other : Int) != 0) = false := by simp; omega
  have d1 := isEmpty_no h0
  clear h0
  clear h hm hE ho hx hv ha
  obtain ⟨sec, sa, sn, sc, ta, tn, tc, ca, cn, cc⟩ := v
  obtain ⟨ok, og, ot, oo, ox⟩ := o
  dsimp only at hk hcb e0 d1
  subst hk
  change Calls _ _ #[.agg #[.string sec, .slice sa sn sc, .slice ta tn tc, .slice ca cn cc], .agg #[.int .i64 4, .string og, .int .i64 ot, .int .i64 oo, .string ox]] _ _
  change Hid (∀ W, _ -> Calls _ _ #[.slice sa sn sc, .string og] W _) at HX
  change Hid (∀ W (s : Nat), _ -> _ -> Calls _ _ #[.agg #[.string sec, .slice sa sn sc, .slice ta tn tc, .slice ca cn cc], .int .i64 (s : Int), .int .i64 ot] W _) at HD
  change Hid (∀ W (s c : Nat), _ -> _ -> _ -> _ -> _ -> Calls _ _ #[.agg #[.string sec, .slice sa sn sc, .slice ta tn tc, .slice ca cn cc], .agg #[.int .i64 4, .string og, .int .i64 ot, .int .i64 oo, .string ox], _] W _) at HC
  change Hid (∀ W, _ -> Calls _ _ #[.agg #[.string sec, .slice sa sn sc, .slice ta tn tc, .slice ca cn cc]] W _) at HCK
  change Hid (∀ c : Nat, _ -> c < cn) at HCN
  obtain ⟨hb0, hsz, hC, hO, hP⟩ := box3 w #[.string sec, .slice sa sn sc, .slice ta tn tc, .slice ca cn cc] #[.int .i64 4, .string og, .int .i64 ot, .int .i64 oo, .string ox] #[.int .i64 0, .int .i64 0, .int .i64 0] 26 28 66
  have HF := hiq (HCK.out _ hb0)
  have hbx : (((w.alloc (.cells #[.string sec, .slice sa sn sc, .slice ta tn tc, .slice ca cn cc] 26)).alloc (.cells #[.int .i64 4, .string og, .int .i64 ot, .int .i64 oo, .string ox] 28)).alloc (.cells #[.int .i64 0, .int .i64 0, .int .i64 0] 66)).heap[w.heap.size + 1 + 1]? = some (.cells #[.int .i64 0, .int .i64 0, .int .i64 0] 66 (0, 0)) := by
    have := World.alloc_heap_new ((w.alloc (.cells #[.string sec, .slice sa sn sc, .slice ta tn tc, .slice ca cn cc] 26)).alloc (.cells #[.int .i64 4, .string og, .int .i64 ot, .int .i64 oo, .string ox] 28)) (.cells #[.int .i64 0, .int .i64 0, .int .i64 0] 66)
    simpa using this
  have hsb : w.heap.size + 1 + 1 < (((w.alloc (.cells #[.string sec, .slice sa sn sc, .slice ta tn tc, .slice ca cn cc] 26)).alloc (.cells #[.int .i64 4, .string og, .int .i64 ot, .int .i64 oo, .string ox] 28)).alloc (.cells #[.int .i64 0, .int .i64 0, .int .i64 0] 66)).heap.size := by simp
  have c0 := hC 0 _ rfl
  have c1 := hC 1 _ rfl
  have c2 := hC 2 _ rfl
  have c3 := hC 3 _ rfl
  have o0 := hO 0 _ rfl
  have o1 := hO 1 _ rfl
  have o2 := hO 2 _ rfl
  have o3 := hO 3 _ rfl
  have o4 := hO 4 _ rfl
  clear hC hO hP HCK
  go_enter Tryz.func40, Tryz.ntmps40
  go_wp2_with fail
  generalize ((w.alloc (.cells #[.string sec, .slice sa sn sc, .slice ta tn tc, .slice ca cn cc] 26)).alloc (.cells #[.int .i64 4, .string og, .int .i64 ot, .int .i64 oo, .string ox] 28)).alloc (.cells #[.int .i64 0, .int .i64 0, .int .i64 0] 66) = W1 at *
  refine HF.out.mono ?_
  rintro e W2 ⟨rfl, hb2⟩
  have hb3 := hb0.trans (hb2.mono hb0.size)
  replace c0 := clq hb2 c0; replace c1 := clq hb2 c1; replace c2 := clq hb2 c2; replace c3 := clq hb2 c3; replace o0 := clq hb2 o0; replace o1 := clq hb2 o1; replace o2 := clq hb2 o2; replace o3 := clq hb2 o3; replace o4 := clq hb2 o4
  have hz2 := (hb2.block _ hsb).trans hbx
  obtain ⟨z0, z1, z2, zf⟩ := box_cells3 hz2
  have zf0 := zf 0
  have zf1 := zf 1
  have zf2 := zf 2
  clear HF hb2 hb0 hsz hbx hsb zf W1
  obtain ⟨r0, r1, r2, -⟩ := box_cells3 (put3_at hz2 (.int .i64 0) (.int .i64 0) (.int .i64 0))
  have HRR := hiq (And.intro r0 (And.intro r1 r2))
  have HB : Hid (Below w.heap.size w (put3 W2 (w.heap.size + 1 + 1) (.int .i64 0) (.int .i64 0) (.int .i64 0))) := put3_below hb3 (by omega) _ _ _
  clear r0 r1 r2
  have HXX := hiq (HX.out W2 hb3)
  clear HX
  rcases HW.out with ⟨hs, hr⟩ | ⟨s, hs, s1, hf, hr⟩ | ⟨s, c, hs, s1, ht0, ht1, hc, hf, hn, hpl, hr⟩
  · change x.src og = none at hs
    rw [hs] at HXX
    change Hid (Calls _ _ _ _ fun e w' => e = .returned (.int .i64 (-1)) /\ _) at HXX
    subst hr
    clear hs HW HD HC HO HCN hb3 hz2
    go_wp2_with (go_at_call 69; refine HXX.out.mono ?_; rintro e w' ⟨rfl, rfl⟩)
    exact bodyPost_ret (v := .tuple #[.agg #[.int .i64 0, .int .i64 0, .int .i64 0], .int .i64 6]) (by obtain ⟨r0, r1, r2⟩ := HRR.out; simp [results, Tryz.results40, go_sem, r0, r1, r2]) rfl ⟨0, 0, 0, rfl, fun h0 => absurd h0 (by decide), HB.out⟩
  · change x.src og = some s at hs
    change findE x s ot = 2 at hf
    rw [hs] at HXX
    change Hid (Calls _ _ _ _ fun e w' => e = .returned (.int .i64 (s : Int)) /\ _) at HXX
    subst hr
    have HDD := hiq (HD.out W2 s hb3 s1)
    rw [hf] at HDD
    generalize findN x s ot = FN at *
    have hs0 : decide ((s : Int) < 0) = false := decide_eq_false (by omega)
    have HZ2 := hiq hz2
    have HSB := hiq hb3
    clear hs HW HD HC HO HCN hf HB HRR z0 z1 z2 zf0 zf1 zf2 hz2 hb3
    go_wp2_with (first | (go_at_call 69; refine HXX.out.mono ?_; rintro e w' ⟨rfl, rfl⟩) | fail)
    refine HDD.out.mono ?_
    rintro e W3 ⟨rfl, hb4⟩
    have hb5 := HSB.out.trans (hb4.mono HSB.out.size)
    have hz3 := (hb4.block _ (Array.getElem?_eq_some_iff.1 HZ2.out).1).trans HZ2.out
    obtain ⟨z0, z1, z2, zf⟩ := box_cells3 hz3
    have zf0 := zf 0
    have zf1 := zf 1
    have zf2 := zf 2
    obtain ⟨r0, r1, r2, -⟩ := box_cells3 (put3_at hz3 (.int .i64 0) (.int .i64 0) (.int .i64 0))
    have HRR := hiq (And.intro r0 (And.intro r1 r2))
    have HB : Hid (Below w.heap.size w (put3 W3 (w.heap.size + 1 + 1) (.int .i64 0) (.int .i64 0) (.int .i64 0))) := put3_below hb5 (by omega) _ _ _
    clear r0 r1 r2 zf hz3 hb5 hb4 HZ2 HSB HDD HXX
    go_wp2
    exact bodyPost_ret (v := .tuple #[.agg #[.int .i64 0, .int .i64 0, .int .i64 0], .int .i64 6]) (by obtain ⟨r0, r1, r2⟩ := HRR.out; simp [results, Tryz.results40, go_sem, r0, r1, r2]) rfl ⟨0, 0, 0, rfl, fun h0 => absurd h0 (by decide), HB.out⟩
  · change x.src og = some s at hs
    change findE x s ot = 0 at hf
    change findN x s ot = (c : Int) at hn
    rw [hs] at HXX
    change Hid (Calls _ _ _ _ fun e w' => e = .returned (.int .i64 (s : Int)) /\ _) at HXX
    have HDD := hiq (HD.out W2 s hb3 s1)
    rw [hf, hn] at HDD
    have hs0 : decide ((s : Int) < 0) = false := decide_eq_false (by omega)
    have HZ2 := hiq hz2
    have HSB := hiq hb3
    have hccn := HCN.out c hc
    have HCC : Hid (∀ W, Below w.heap.size w W -> Calls _ _ _ W _) := fun W hb => HC.out W s c hb s1 hc ht0 ht1
    rw [<- hr] at HCC
    have HPL := hiq hpl
    have HOT := hiq (HO.out c)
    clear hs HW HD HC HO HCN hf hn HB HRR z0 z1 z2 zf0 zf1 zf2 hz2 hb3 hpl ht0 ht1 hr s1 hc
    go_wp2_with (first | (go_at_call 69; refine HXX.out.mono ?_; rintro e w' ⟨rfl, rfl⟩) | fail)
    refine HDD.out.mono ?_
    rintro e W3 ⟨rfl, hb4⟩
    have hb5 := HSB.out.trans (hb4.mono HSB.out.size)
    have HZ3 := hiq ((hb4.block _ (Array.getElem?_eq_some_iff.1 HZ2.out).1).trans HZ2.out)
    replace c0 := clq hb4 c0; replace c1 := clq hb4 c1; replace c2 := clq hb4 c2; replace c3 := clq hb4 c3; replace o0 := clq hb4 o0; replace o1 := clq hb4 o1; replace o2 := clq hb4 o2; replace o3 := clq hb4 o3; replace o4 := clq hb4 o4
    have hba : Below W3.heap.size W3 (W3.alloc (.cells #[.int .i64 (s : Int), .int .i64 (c : Int), .int .i64 ((c : Int) + 1)] 66)) := (Below.refl _ _).alloc (Nat.le_refl _) _
    have hp4 := World.alloc_heap_new W3 (.cells #[.int .i64 (s : Int), .int .i64 (c : Int), .int .i64 ((c : Int) + 1)] 66)
    replace c0 := clq hba c0; replace c1 := clq hba c1; replace c2 := clq hba c2; replace c3 := clq hba c3; replace o0 := clq hba o0; replace o1 := clq hba o1; replace o2 := clq hba o2; replace o3 := clq hba o3; replace o4 := clq hba o4
    have HB6 := hiq (hb5.trans (hba.mono hb5.size))
    have HZ4 := hiq ((hba.block _ (Array.getElem?_eq_some_iff.1 HZ3.out).1).trans HZ3.out)
    clear hb5 hb4 HZ2 HSB HDD HXX hba HZ3
    obtain ⟨p0, p1, p2, -⟩ := box_cells3 hp4
    go_wp2_with fail
    generalize W3.alloc (.cells #[.int .i64 (s : Int), .int .i64 (c : Int), .int .i64 ((c : Int) + 1)] 66) = W4 at *
    obtain ⟨X, Wf, hX, hS1, hS2⟩ := family (fun W => Below W4.heap.size W4 W) W4 (Below.refl _ _)
    have HS2 := hiq hS2
    have q0 := fun x => clq (hS1 x) c0
    have q1 := fun x => clq (hS1 x) c1
    have q2 := fun x => clq (hS1 x) c2
    have q3 := fun x => clq (hS1 x) c3
    have q4 := fun x => clq (hS1 x) o0
    have q5 := fun x => clq (hS1 x) o1
    have q6 := fun x => clq (hS1 x) o2
    have q7 := fun x => clq (hS1 x) o3
    have q8 := fun x => clq (hS1 x) o4
    have q9 := fun x => clq (hS1 x) p0
    have qa := fun x => clq (hS1 x) p1
    have qb := fun x => clq (hS1 x) p2
    clear hS1 hS2
    have hd0 : Below W4.heap.size W4 W4.drew := (Below.refl _ _).drew
    refine wp_region_reads (Wf := Wf) 10 [0, 2, 3, 6, 7, 8] [1, 4, 5, 9] (by kernel_rfl) (by kernel_rfl) (fun _ _ d _ _ h => by cases d <;> exact h) (HS2.out _ hd0) ?_
    simp only [pickOps, List.filterMap_cons, List.filterMap_nil, List.getElem?_cons_zero, List.getElem?_cons_succ]
    repeat (refine wpReads_step (fun K hK => ?_); unfold rOp; go_simp; (refine hK _ ?_; clear hK K))
    clear q0 q1 q2 q3 q4 q5 q6 q7 q8 q9 qa qb
    refine wpReads_nil (wpActs_cons ?_)
    have HK := hiq (kinds_any W4.drew)
    go_wp2_with fail
    refine HK.out.mono ?_
    rintro e W5 ⟨rfl, hb5⟩
    have hd1 := hd0.trans (hb5.mono hd0.size)
    go_wp2_with fail
    refine ⟨HS2.out _ hd1, wpActs_cons ?_⟩
    have hix := kind_4 W5
    go_wp2_with fail
    clear hix
    refine ⟨HS2.out _ hd1, wpActs_cons ?_⟩
    have hif := kindC_4 W5
    go_wp2_with fail
    clear hif
    refine ⟨HS2.out _ hd1, wpActs_cons ?_⟩
    have HCL := hiq (HCC.out W5 (HB6.out.trans (hd1.mono HB6.out.size)))
    clear HK HCC
    go_wp2_with fail
    refine HCL.out.mono ?_
    rintro e W6 ⟨rfl, hb6⟩
    have hd2 := hd1.trans (hb6.mono hd1.size)
    go_wp2_with fail
    refine ⟨HS2.out _ hd2, wpActs_nil ?_⟩
    have hz6 := (hd2.block _ (Array.getElem?_eq_some_iff.1 HZ4.out).1).trans HZ4.out
    obtain ⟨z0, z1, z2, zf⟩ := box_cells3 hz6
    have zf0 := zf 0
    have zf1 := zf 1
    have zf2 := zf 2
    obtain ⟨r0, r1, r2, -⟩ := box_cells3 (put3_at hz6 (.int .i64 (s : Int)) (.int .i64 (c : Int)) (.int .i64 ((c : Int) + 1)))
    have HRR := hiq (And.intro r0 (And.intro r1 r2))
    have HB : Hid (Below w.heap.size w (put3 W6 (w.heap.size + 1 + 1) (.int .i64 (s : Int)) (.int .i64 (c : Int)) (.int .i64 ((c : Int) + 1)))) := put3_below (HB6.out.trans (hd2.mono HB6.out.size)) (by omega) _ _ _
    clear r0 r1 r2 zf hz6 HS2 hd0 hd1 hd2 hb5 hb6 HCL HZ4 HB6 c0 c1 c2 c3 o0 o1 o2 o3 o4 p0 p1 p2 hp4
    simp only [List.drop_succ_cons, List.drop_zero]
    go_wp2
    exact bodyPost_ret (v := .tuple #[.agg #[.int .i64 (s : Int), .int .i64 (c : Int), .int .i64 ((c : Int) + 1)], .int .i64 E]) (by obtain ⟨r0, r1, r2⟩ := HRR.out; simp [results, Tryz.results40, go_sem, r0, r1, r2]) rfl ⟨_, _, _, rfl, fun _ => ⟨s, c, HPL.out, rfl, rfl, HOT.out.symm⟩, HB.out⟩

theorem efind_any (S : Nat -> Prop) (v : CV) (x : Col) (o : Op) (w : World) (h : RdC S w v x) (hm : Sml x) (hE : Env w) (ho : o.ok) (hx : o.text.size <= 1000000) :
    Calls Tryz.prog 40 #[v.val, o.val] w (FindPost x o w) := by
  by_cases hq : x.err ≠ 0 \/ (o.kind < 1 \/ 4 < o.kind) \/ ((o.other ≠ 0 /\ o.kind ≠ 3) \/ (o.text.size ≠ 0 /\ o.kind ≠ 4))
  · exact find_early S v x o w h hm hE hq
  · have hv : x.err = 0 := by
      by_cases e : x.err = 0
      · exact e
      · exact absurd (.inl e) hq
    have ha : ¬ ((o.other ≠ 0 /\ o.kind ≠ 3) \/ (o.text.size ≠ 0 /\ o.kind ≠ 4)) := fun e => hq (.inr (.inr e))
    have hk : ¬ (o.kind < 1 \/ 4 < o.kind) := fun e => hq (.inr (.inl e))
    have h4 : o.kind = 1 \/ o.kind = 2 \/ o.kind = 3 \/ o.kind = 4 := by omega
    rcases h4 with k | k | k | k
    · exact find_1 S v x o w h hm hE ho hx hv k ha
    · exact find_2 S v x o w h hm hE ho hx hv k ha
    · by_cases q : o.other = -1
      · exact find_3a S v x o w h hm hE ho hx hv k q ha
      · by_cases q2 : o.other = 0
        · exact find_3b S v x o w h hm hE ho hx hv k q2 ha
        · exact find_3c S v x o w h hm hE ho hx hv k q2 q ha
    · by_cases q : o.text.size = 0
      · exact find_4a S v x o w h hm hE ho hx hv k q ha
      · exact find_4b S v x o w h hm hE ho hx hv k q ha
end Go.Proofs.YtbdgmgddliploaaGreatDoor
