/- Joined: EDsd, ERDp, ERCm, EInv. -/
import Derived.Test.YtbdgmgddliploaaGreatDoorG34
import Derived.Test.YtbdgmgddliploaaGreatDoorG24
import Derived.Test.YtbdgmgddliploaaGreatDoorG21
import Derived.Test.YtbdgmgddliploaaGreatDoorG33
import Derived.Test.YtbdgmgddliploaaGreatDoorG22
import Derived.Test.YtbdgmgddliploaaGreatDoorG25
set_option linter.unusedVariables false
set_option linter.unusedSimpArgs false
set_option maxRecDepth 100000
set_option maxHeartbeats 16000000
namespace Go.Proofs.YtbdgmgddliploaaGreatDoor
open Go.RowKit

theorem all_any (S : Nat -> Prop) (v : CV) (x : Col) (w : World) (h : RdC S w v x) (hm : Sml x) (hE : Env w) (hln : (allOps x).length <= 4096) : Calls Tryz.prog 22 #[v.val] w (AllPost x w) := by
  by_cases hv : x.err = 0
  · exact all_ok S v x w h hm hE hv hln
  · exact all_err S v x w h hm hE hv
theorem descr_err (S : Nat -> Prop) (v : CV) (x : Col) (o : Op) (w : World) (h : RdC S w v x) (hm : Sml x) (hE : Env w) (ho : o.ok) (hx : o.text.size <= 1000000) (he : opErr x o ≠ 0) :
    Calls Tryz.prog 16 #[v.val, o.val] w fun e w' => e = .returned (.tuple #[.string (descr x o), .int .i64 (opErr x o)]) /\ Below w.heap.size w w' := by
  have HF : Hid (∀ W, Below w.heap.size w W -> Calls Tryz.prog 40 #[v.val, o.val] W (FindPost x o W)) := fun W hb => efind_any S v x o W (h.below hb) hm (hE.below hb) ho hx
  have hD : descr x o = ⟨#[]⟩ := by unfold descr; rw [if_neg he]
  rw [hD]
  unfold FindPost at HF
  generalize opErr x o = E at *
  generalize x.place o = PL at *
  generalize Op.oth o = TH at *
  clear h hm hE ho hx hD
  obtain ⟨sec, sa, sn, sc, ta, tn, tc, ca, cn, cc⟩ := v
  obtain ⟨ok, og, ot, oo, ox⟩ := o
  change Calls _ _ #[.agg #[.string sec, .slice sa sn sc, .slice ta tn tc, .slice ca cn cc], .agg #[.int .i64 ok, .string og, .int .i64 ot, .int .i64 oo, .string ox]] _ _
  change Hid (∀ W, _ -> Calls _ _ #[.agg #[.string sec, .slice sa sn sc, .slice ta tn tc, .slice ca cn cc], .agg #[.int .i64 ok, .string og, .int .i64 ot, .int .i64 oo, .string ox]] _ _) at HF
  have hb0 : Below w.heap.size w ((w.alloc (.cells #[.string sec, .slice sa sn sc, .slice ta tn tc, .slice ca cn cc] 26)).alloc (.cells #[.int .i64 ok, .string og, .int .i64 ot, .int .i64 oo, .string ox] 28)) := ((Below.refl _ _).alloc (Nat.le_refl _) _).alloc (by simp) _
  have HFF := hiq (HF.out _ hb0)
  have t0 : ((E : Int) != 0) = true := by simpa using he
  clear HF he
  go_enter Tryz.func16, Tryz.ntmps16
  go_wp2_with fail
  generalize (w.alloc (.cells #[.string sec, .slice sa sn sc, .slice ta tn tc, .slice ca cn cc] 26)).alloc (.cells #[.int .i64 ok, .string og, .int .i64 ot, .int .i64 oo, .string ox] 28) = W1 at *
  refine HFF.out.mono ?_
  rintro e W2 ⟨p, q, r, rfl, -, hb2⟩
  have hb3 := hb0.trans (hb2.mono hb0.size)
  have hb4 : Below w.heap.size w (W2.alloc (.cells #[.int .i64 p, .int .i64 q, .int .i64 r] 66)) := hb3.alloc hb3.size _
  go_wp2
  exact bodyPost_ret (v := .tuple #[.string ⟨#[]⟩, .int .i64 E]) (by simp [results, Tryz.results16, go_sem]) rfl ⟨rfl, hb4⟩
theorem descr_any (S : Nat -> Prop) (v : CV) (x : Col) (o : Op) (w : World) (h : RdC S w v x) (hm : Sml x) (hE : Env w) (ho : o.ok) (hx : o.text.size <= 1000000) (hg : o.sig.size <= 1000000) :
    Calls Tryz.prog 16 #[v.val, o.val] w fun e w' => e = .returned (.tuple #[.string (descr x o), .int .i64 (opErr x o)]) /\ Below w.heap.size w w' := by
  by_cases he : opErr x o = 0
  · obtain ⟨s, c, F⟩ := fits_of he
    rw [he]
    have h4 : o.kind = 1 \/ o.kind = 2 \/ o.kind = 3 \/ o.kind = 4 := by have := F.kind; omega
    rcases h4 with k | k | k | k
    · exact descr_1 S v x o s c w h hm hE ho hx hg F k
    · exact descr_2 S v x o s c w h hm hE ho hx hg F k
    · exact descr_3 S v x o s c w h hm hE ho hx hg F k
    · exact descr_4 S v x o s c w h hm hE ho hx hg F k
  · exact descr_err S v x o w h hm hE ho hx he
end Go.Proofs.YtbdgmgddliploaaGreatDoor
namespace Go.Proofs.YtbdgmgddliploaaGreatDoor
open Go.RowKit

/-- A collation and an error, wherever it lies. -/
def ColQ (x : Col) (er : Int) (w : World) (e : Ending) (w' : World) : Prop := ∃ v : CV, e = .returned (.tuple #[v.val, .int .i64 er]) /\ RdC (fun _ => True) w' v x /\ Below w.heap.size w w'
theorem EditPost.q {S : Nat -> Prop} {x : Col} {o : Op} {w w' : World} {e : Ending} (h : EditPost S x o w e w') : ColQ (opApply x o) (opErr x o) w e w' := by
  obtain ⟨v, h1, h2, h3⟩ := h; exact ⟨v, h1, h2.mono (fun _ _ _ => trivial), h3⟩
end Go.Proofs.YtbdgmgddliploaaGreatDoor
namespace Go.Proofs.YtbdgmgddliploaaGreatDoor
open Go.RowKit

theorem rapply_q {u : CV} {y : Col} {o : Op} {W : World} (h : RdC (fun _ => True) W u y) (hm : Sml y) (ho : o.ok) : Calls Tryz.prog 15 #[u.val, o.val] W (ColQ (opApply y o) (opErr y o) W) := (rapply_ref _ u y o W h hm ho).mono (fun e w' k => k.q)
theorem rcommute_ref (S : Nat -> Prop) (v : CV) (x : Col) (a b : Op) (w : World) (h : RdC S w v x) (hm : Sml x) (ha : a.ok) (hb : b.ok) (hta : a.text.size <= 1000000) (htb : b.text.size <= 1000000) :
    Calls Tryz.prog 35 #[v.val, a.val, b.val] w fun e w' => e = .returned (.tuple #[.bool (commute x a b).1, .int .i64 (commute x a b).2]) /\ Below w.heap.size w w' := by
  have HKX : Hid (∀ W, Below w.heap.size w W -> Calls Tryz.prog 15 #[v.val, a.val] W (ColQ (opApply x a) (opErr x a) W)) := fun W q => rapply_q ((h.below q).mono (fun _ _ _ => trivial)) hm ha
  have HKY : Hid (∀ W, Below w.heap.size w W -> Calls Tryz.prog 15 #[v.val, b.val] W (ColQ (opApply x b) (opErr x b) W)) := fun W q => rapply_q ((h.below q).mono (fun _ _ _ => trivial)) hm hb
  have HKU : Hid (∀ (u : CV) W, RdC (fun _ => True) W u (opApply x a) -> Calls Tryz.prog 15 #[u.val, b.val] W (ColQ (opApply (opApply x a) b) (opErr (opApply x a) b) W)) := fun u W q => rapply_q q (sml_op hm hta) hb
  have HKV : Hid (∀ (u : CV) W, RdC (fun _ => True) W u (opApply x b) -> Calls Tryz.prog 15 #[u.val, a.val] W (ColQ (opApply (opApply x b) a) (opErr (opApply x b) a) W)) := fun u W q => rapply_q q (sml_op hm htb) ha
  have HSM : Hid (∀ (u u' : CV) (y y' : Col) W, RdC (fun _ => True) W u y -> RdC (fun _ => True) W u' y' -> Calls Tryz.prog 20 #[u.val, u'.val] W fun e w' => e = .returned (.bool (decide (y = y'))) /\ Below W.heap.size W w') := fun u u' y y' W p q => sameC_ref _ _ u u' y y' W p q
  have HC1 : Hid (opErr x a ≠ 0 -> commute x a b = (false, opErr x a)) := fun q => by unfold commute; rw [if_pos q]
  have HC2 : Hid (opErr x a = 0 -> opErr x b ≠ 0 -> commute x a b = (false, opErr x b)) := fun p q => by unfold commute; rw [if_neg (by simp [p]), if_pos q]
  have HC3 : Hid (opErr x a = 0 -> opErr x b = 0 -> commute x a b = (decide (opErr (opApply x a) b = 0) && decide (opErr (opApply x b) a = 0) && decide (opApply (opApply x a) b = opApply (opApply x b) a), 0)) := fun p q => by unfold commute; rw [if_neg (by simp [p]), if_neg (by simp [q])]
  clear h hm ha hb hta htb
  generalize commute x a b = CM at *
  generalize opErr (opApply x a) b = EU at *
  generalize opErr (opApply x b) a = EV at *
  generalize opApply (opApply x a) b = YU at *
  generalize opApply (opApply x b) a = YV at *
  generalize opErr x a = EA at *
  generalize opErr x b = EB at *
  generalize opApply x a = YA at *
  generalize opApply x b = YB at *
  obtain ⟨cm1, cm2⟩ := CM
  dsimp only
  obtain ⟨sec, sa, sn, sc, ta, tn, tc, ca, cn, cc⟩ := v
  obtain ⟨ak, ag, at_, ao, ax⟩ := a
  obtain ⟨bk, bg, bt, bo, bx⟩ := b
  change Calls _ _ #[.agg #[.string sec, .slice sa sn sc, .slice ta tn tc, .slice ca cn cc], .agg #[.int .i64 ak, .string ag, .int .i64 at_, .int .i64 ao, .string ax], .agg #[.int .i64 bk, .string bg, .int .i64 bt, .int .i64 bo, .string bx]] _ _
  obtain ⟨hb, hsz, hC, hO, hP⟩ := box3 w #[.string sec, .slice sa sn sc, .slice ta tn tc, .slice ca cn cc] #[.int .i64 ak, .string ag, .int .i64 at_, .int .i64 ao, .string ax] #[.int .i64 bk, .string bg, .int .i64 bt, .int .i64 bo, .string bx] 26 28 28
  have c0 := hC 0 _ rfl
  have c1 := hC 1 _ rfl
  have c2 := hC 2 _ rfl
  have c3 := hC 3 _ rfl
  have o0 := hO 0 _ rfl
  have o1 := hO 1 _ rfl
  have o2 := hO 2 _ rfl
  have o3 := hO 3 _ rfl
  have o4 := hO 4 _ rfl
  have p0 := hP 0 _ rfl
  have p1 := hP 1 _ rfl
  have p2 := hP 2 _ rfl
  have p3 := hP 3 _ rfl
  have p4 := hP 4 _ rfl
  clear hC hO hP hsz
  go_enter Tryz.func35, Tryz.ntmps35
  have HQ := hiq (HKX.out _ hb)
  change Hid (Calls _ _ #[.agg #[.string sec, .slice sa sn sc, .slice ta tn tc, .slice ca cn cc], .agg #[.int .i64 ak, .string ag, .int .i64 at_, .int .i64 ao, .string ax]] _ _) at HQ
  go_wp2_with fail
  generalize ((w.alloc (.cells #[.string sec, .slice sa sn sc, .slice ta tn tc, .slice ca cn cc] 26)).alloc (.cells #[.int .i64 ak, .string ag, .int .i64 at_, .int .i64 ao, .string ax] 28)).alloc (.cells #[.int .i64 bk, .string bg, .int .i64 bt, .int .i64 bo, .string bx] 28) = W1 at *
  refine HQ.out.mono ?_
  rintro e W2 ⟨v, he, hR, hbk⟩
  obtain ⟨secA, saA, snA, scA, taA, tnA, tcA, caA, cnA, ccA⟩ := v
  change e = .returned (.tuple #[.agg #[.string secA, .slice saA snA scA, .slice taA tnA tcA, .slice caA cnA ccA], .int .i64 EA]) at he
  subst he
  have hal : Below W2.heap.size W2 (W2.alloc (.cells #[.string secA, .slice saA snA scA, .slice taA tnA tcA, .slice caA cnA ccA] 26)) := (Below.refl _ _).alloc (Nat.le_refl _) _
  have hst := hbk.trans (hal.mono hbk.size)
  obtain ⟨a0, a1, a2, a3, -⟩ := box_cells4 (World.alloc_heap_new W2 (.cells #[.string secA, .slice saA snA scA, .slice taA tnA tcA, .slice caA cnA ccA] 26))
  replace c0 := clq hst c0; replace c1 := clq hst c1; replace c2 := clq hst c2; replace c3 := clq hst c3; replace o0 := clq hst o0; replace o1 := clq hst o1; replace o2 := clq hst o2; replace o3 := clq hst o3; replace o4 := clq hst o4; replace p0 := clq hst p0; replace p1 := clq hst p1; replace p2 := clq hst p2; replace p3 := clq hst p3; replace p4 := clq hst p4
  have HRA := hiq (hR.below hal)
  replace hb := hb.trans (hst.mono hb.size)
  clear hR hbk hal hst HQ
  by_cases h1 : EA = 0
  · subst h1
    have HQ := hiq (HKY.out _ hb)
    change Hid (Calls _ _ #[.agg #[.string sec, .slice sa sn sc, .slice ta tn tc, .slice ca cn cc], .agg #[.int .i64 bk, .string bg, .int .i64 bt, .int .i64 bo, .string bx]] _ _) at HQ
    go_wp2_with fail
    generalize W2.alloc (.cells #[.string secA, .slice saA snA scA, .slice taA tnA tcA, .slice caA cnA ccA] 26) = W3 at *
    refine HQ.out.mono ?_
    rintro e W4 ⟨v, he, hR, hbk⟩
    obtain ⟨secB, saB, snB, scB, taB, tnB, tcB, caB, cnB, ccB⟩ := v
    change e = .returned (.tuple #[.agg #[.string secB, .slice saB snB scB, .slice taB tnB tcB, .slice caB cnB ccB], .int .i64 EB]) at he
    subst he
    have hal : Below W4.heap.size W4 (W4.alloc (.cells #[.string secB, .slice saB snB scB, .slice taB tnB tcB, .slice caB cnB ccB] 26)) := (Below.refl _ _).alloc (Nat.le_refl _) _
    have hst := hbk.trans (hal.mono hbk.size)
    obtain ⟨b0, b1, b2, b3, -⟩ := box_cells4 (World.alloc_heap_new W4 (.cells #[.string secB, .slice saB snB scB, .slice taB tnB tcB, .slice caB cnB ccB] 26))
    replace c0 := clq hst c0; replace c1 := clq hst c1; replace c2 := clq hst c2; replace c3 := clq hst c3; replace o0 := clq hst o0; replace o1 := clq hst o1; replace o2 := clq hst o2; replace o3 := clq hst o3; replace o4 := clq hst o4; replace p0 := clq hst p0; replace p1 := clq hst p1; replace p2 := clq hst p2; replace p3 := clq hst p3; replace p4 := clq hst p4; replace a0 := clq hst a0; replace a1 := clq hst a1
    replace a2 := clq hst a2; replace a3 := clq hst a3
    replace HRA := hiq (HRA.out.below hst)
    have HRB := hiq (hR.below hal)
    replace hb := hb.trans (hst.mono hb.size)
    clear hR hbk hal hst HQ
    by_cases h2 : EB = 0
    · subst h2
      have HCC := hiq (HC3.out (by trivial) (by trivial))
      clear HC1 HC2 HC3
      have HQ := hiq (HKU.out ⟨secA, saA, snA, scA, taA, tnA, tcA, caA, cnA, ccA⟩ _ HRA.out)
      change Hid (Calls _ _ #[.agg #[.string secA, .slice saA snA scA, .slice taA tnA tcA, .slice caA cnA ccA], .agg #[.int .i64 bk, .string bg, .int .i64 bt, .int .i64 bo, .string bx]] _ _) at HQ
      go_wp2_with fail
      generalize W4.alloc (.cells #[.string secB, .slice saB snB scB, .slice taB tnB tcB, .slice caB cnB ccB] 26) = W5 at *
      refine HQ.out.mono ?_
      rintro e W6 ⟨v, he, hR, hbk⟩
      obtain ⟨secU, saU, snU, scU, taU, tnU, tcU, caU, cnU, ccU⟩ := v
      change e = .returned (.tuple #[.agg #[.string secU, .slice saU snU scU, .slice taU tnU tcU, .slice caU cnU ccU], .int .i64 EU]) at he
      subst he
      have hal : Below W6.heap.size W6 (W6.alloc (.cells #[.string secU, .slice saU snU scU, .slice taU tnU tcU, .slice caU cnU ccU] 26)) := (Below.refl _ _).alloc (Nat.le_refl _) _
      have hst := hbk.trans (hal.mono hbk.size)
      obtain ⟨u0, u1, u2, u3, -⟩ := box_cells4 (World.alloc_heap_new W6 (.cells #[.string secU, .slice saU snU scU, .slice taU tnU tcU, .slice caU cnU ccU] 26))
      replace c0 := clq hst c0; replace c1 := clq hst c1; replace c2 := clq hst c2; replace c3 := clq hst c3; replace o0 := clq hst o0; replace o1 := clq hst o1; replace o2 := clq hst o2; replace o3 := clq hst o3; replace o4 := clq hst o4; replace p0 := clq hst p0; replace p1 := clq hst p1; replace p2 := clq hst p2; replace p3 := clq hst p3; replace p4 := clq hst p4; replace a0 := clq hst a0; replace a1 := clq hst a1
      replace a2 := clq hst a2; replace a3 := clq hst a3; replace b0 := clq hst b0; replace b1 := clq hst b1; replace b2 := clq hst b2; replace b3 := clq hst b3
      replace HRA := hiq (HRA.out.below hst)
      replace HRB := hiq (HRB.out.below hst)
      have HRU := hiq (hR.below hal)
      replace hb := hb.trans (hst.mono hb.size)
      clear hR hbk hal hst HQ
      have HQ := hiq (HKV.out ⟨secB, saB, snB, scB, taB, tnB, tcB, caB, cnB, ccB⟩ _ HRB.out)
      change Hid (Calls _ _ #[.agg #[.string secB, .slice saB snB scB, .slice taB tnB tcB, .slice caB cnB ccB], .agg #[.int .i64 ak, .string ag, .int .i64 at_, .int .i64 ao, .string ax]] _ _) at HQ
      go_wp2_with fail
      generalize W6.alloc (.cells #[.string secU, .slice saU snU scU, .slice taU tnU tcU, .slice caU cnU ccU] 26) = W7 at *
      refine HQ.out.mono ?_
      rintro e W8 ⟨v, he, hR, hbk⟩
      obtain ⟨secV, saV, snV, scV, taV, tnV, tcV, caV, cnV, ccV⟩ := v
      change e = .returned (.tuple #[.agg #[.string secV, .slice saV snV scV, .slice taV tnV tcV, .slice caV cnV ccV], .int .i64 EV]) at he
      subst he
      have hal : Below W8.heap.size W8 (W8.alloc (.cells #[.string secV, .slice saV snV scV, .slice taV tnV tcV, .slice caV cnV ccV] 26)) := (Below.refl _ _).alloc (Nat.le_refl _) _
      have hst := hbk.trans (hal.mono hbk.size)
      obtain ⟨v0, v1, v2, v3, -⟩ := box_cells4 (World.alloc_heap_new W8 (.cells #[.string secV, .slice saV snV scV, .slice taV tnV tcV, .slice caV cnV ccV] 26))
      replace c0 := clq hst c0; replace c1 := clq hst c1; replace c2 := clq hst c2; replace c3 := clq hst c3; replace o0 := clq hst o0; replace o1 := clq hst o1; replace o2 := clq hst o2; replace o3 := clq hst o3; replace o4 := clq hst o4; replace p0 := clq hst p0; replace p1 := clq hst p1; replace p2 := clq hst p2; replace p3 := clq hst p3; replace p4 := clq hst p4; replace a0 := clq hst a0; replace a1 := clq hst a1
      replace a2 := clq hst a2; replace a3 := clq hst a3; replace b0 := clq hst b0; replace b1 := clq hst b1; replace b2 := clq hst b2; replace b3 := clq hst b3; replace u0 := clq hst u0; replace u1 := clq hst u1; replace u2 := clq hst u2; replace u3 := clq hst u3
      replace HRA := hiq (HRA.out.below hst)
      replace HRB := hiq (HRB.out.below hst)
      replace HRU := hiq (HRU.out.below hst)
      have HRV := hiq (hR.below hal)
      replace hb := hb.trans (hst.mono hb.size)
      clear hR hbk hal hst HQ
      by_cases h3 : EU = 0
      · subst h3
        by_cases h4 : EV = 0
        · subst h4
          have HQ := hiq (HSM.out ⟨secU, saU, snU, scU, taU, tnU, tcU, caU, cnU, ccU⟩ ⟨secV, saV, snV, scV, taV, tnV, tcV, caV, cnV, ccV⟩ _ _ _ HRU.out HRV.out)
          change Hid (Calls _ _ #[.agg #[.string secU, .slice saU snU scU, .slice taU tnU tcU, .slice caU cnU ccU], .agg #[.string secV, .slice saV snV scV, .slice taV tnV tcV, .slice caV cnV ccV]] _ _) at HQ
          go_wp2_with fail
          generalize W8.alloc (.cells #[.string secV, .slice saV snV scV, .slice taV tnV tcV, .slice caV cnV ccV] 26) = W9 at *
          refine HQ.out.mono ?_
          rintro e W10 ⟨rfl, hbk⟩
          replace c0 := clq hbk c0; replace c1 := clq hbk c1; replace c2 := clq hbk c2; replace c3 := clq hbk c3; replace o0 := clq hbk o0; replace o1 := clq hbk o1; replace o2 := clq hbk o2; replace o3 := clq hbk o3; replace o4 := clq hbk o4; replace p0 := clq hbk p0; replace p1 := clq hbk p1; replace p2 := clq hbk p2; replace p3 := clq hbk p3; replace p4 := clq hbk p4; replace a0 := clq hbk a0; replace a1 := clq hbk a1
          replace a2 := clq hbk a2; replace a3 := clq hbk a3; replace b0 := clq hbk b0; replace b1 := clq hbk b1; replace b2 := clq hbk b2; replace b3 := clq hbk b3; replace u0 := clq hbk u0; replace u1 := clq hbk u1; replace u2 := clq hbk u2; replace u3 := clq hbk u3; replace v0 := clq hbk v0; replace v1 := clq hbk v1; replace v2 := clq hbk v2; replace v3 := clq hbk v3
          replace HRA := hiq (HRA.out.below hbk)
          replace HRB := hiq (HRB.out.below hbk)
          replace HRU := hiq (HRU.out.below hbk)
          replace HRV := hiq (HRV.out.below hbk)
          replace hb := hb.trans (hbk.mono hb.size)
          clear hbk HQ
          have e := HCC.out
          simp only [decide_true, Bool.true_and, Prod.mk.injEq] at e
          obtain ⟨rfl, rfl⟩ := e
          go_wp2
          exact bodyPost_ret (results_tmp2 rfl _ _ _) rfl ⟨rfl, hb⟩
        · have t1 : ((EV : Int) == 0) = false := by simpa using h4
          have e := HCC.out
          simp only [decide_true, Bool.true_and, decide_eq_false h4, Bool.false_and, Prod.mk.injEq] at e
          obtain ⟨rfl, rfl⟩ := e
          clear HCC
          go_wp2
          exact bodyPost_ret (results_tmp2 rfl _ _ _) rfl ⟨rfl, hb⟩
      · have t1 : ((EU : Int) == 0) = false := by simpa using h3
        have e := HCC.out
        simp only [decide_eq_false h3, Bool.false_and, Prod.mk.injEq] at e
        obtain ⟨rfl, rfl⟩ := e
        clear HCC
        go_wp2
        exact bodyPost_ret (results_tmp2 rfl _ _ _) rfl ⟨rfl, hb⟩
    · have t1 : ((EB : Int) != 0) = true := by simpa using h2
      have e := HC2.out (by trivial) h2
      simp only [Prod.mk.injEq] at e
      obtain ⟨rfl, rfl⟩ := e
      clear HC1 HC2 HC3 h2
      go_wp2
      exact bodyPost_ret (results_tmp2 rfl _ _ _) rfl ⟨rfl, hb⟩
  · have t1 : ((EA : Int) != 0) = true := by simpa using h1
    have e := HC1.out h1
    simp only [Prod.mk.injEq] at e
    obtain ⟨rfl, rfl⟩ := e
    clear HC1 HC2 HC3 h1
    go_wp2
    exact bodyPost_ret (results_tmp2 rfl _ _ _) rfl ⟨rfl, hb⟩
end Go.Proofs.YtbdgmgddliploaaGreatDoor
namespace Go.Proofs.YtbdgmgddliploaaGreatDoor
open Go.RowKit Go.Shelf
attribute [local go_sem] Oper.semAt_some

def InvPost (x : Col) (o : Op) (w : World) (e : Ending) (w' : World) : Prop := e = .returned (.tuple #[(inverse x o).1.val, .int .i64 (inverse x o).2]) /\ Below w.heap.size w w'
theorem inv_err (S : Nat -> Prop) (v : CV) (x : Col) (o : Op) (w : World) (h : RdC S w v x) (hm : Sml x) (hE : Env w) (ho : o.ok) (hx : o.text.size <= 1000000) (he : opErr x o ≠ 0) : Calls Tryz.prog 29 #[v.val, o.val] w (InvPost x o w) := by
  have HF : Hid (∀ W, Below w.heap.size w W -> CallsIn Fence.wide 9 Tryz.prog 40 #[v.val, o.val] W (FindPost x o W)) := fun W hb => callsIn_wide.2 (efind_any S v x o W (h.below hb) hm (hE.below hb) ho hx)
  have HI : Hid (inverse x o = (Op.zero, opErr x o)) := by show _ = _; unfold inverse; rw [if_pos he]
  have t0 : ((opErr x o : Int) != 0) = true := by simpa using he
  unfold InvPost
  unfold FindPost at HF
  rw [HI.out]
  clear HI h hm hE ho hx
  generalize opErr x o = E at *
  generalize x.place o = PL at *
  generalize Op.oth o = TH at *
  obtain ⟨sec, sa, sn, sc, ta, tn, tc, ca, cn, cc⟩ := v
  obtain ⟨ok, og, ot, oo, ox⟩ := o
  change Calls _ _ #[.agg #[.string sec, .slice sa sn sc, .slice ta tn tc, .slice ca cn cc], .agg #[.int .i64 ok, .string og, .int .i64 ot, .int .i64 oo, .string ox]] _ _
  change Hid (∀ W, _ -> CallsIn _ _ _ _ #[.agg #[.string sec, .slice sa sn sc, .slice ta tn tc, .slice ca cn cc], .agg #[.int .i64 ok, .string og, .int .i64 ot, .int .i64 oo, .string ox]] _ _) at HF
  obtain ⟨W1, hW1, hb0, hs1, gX, gO, gR, gE⟩ := box4b w #[.string sec, .slice sa sn sc, .slice ta tn tc, .slice ca cn cc] #[.int .i64 ok, .string og, .int .i64 ot, .int .i64 oo, .string ox] #[.int .i64 0, .string ⟨#[]⟩, .int .i64 0, .int .i64 0, .string ⟨#[]⟩] #[.int .i64 0] 26 28 28 32
  have HFF := hiq (HF.out _ hb0)
  obtain ⟨c0, c1, c2, c3, -⟩ := box_cells4 gX
  obtain ⟨o0, o1, o2, o3, o4⟩ := box_cells5 gO
  rw [hW1] at c0 c1 c2 c3 o0 o1 o2 o3 o4
  refine (callsIn_wide (n := 10)).1 ?_
  refine callsIn_of_wp_marks Tryz.func29 rfl trivial ?_ rfl
  simp only [Tryz.ntmps29, List.size_toArray, List.length_cons, List.length_nil, Nat.reduceAdd, Nat.reduceSub, Array.replicate_succ, Array.replicate_zero, List.push_toArray, List.append_toArray, List.nil_append, List.cons_append]
  gi_wp2_with (fail)
  rw [<- hW1] at *
  clear hW1
  refine ⟨trivial, ?_⟩
  refine HFF.out.mono ?_
  rintro e W2 ⟨p, q, r, rfl, -, hb2⟩
  have hal : Below W2.heap.size W2 (W2.alloc (.cells #[.int .i64 p, .int .i64 q, .int .i64 r] 66)) := (Below.refl _ _).alloc (Nat.le_refl _) _
  have hb3 := hb2.trans (hal.mono hb2.size)
  have gR3 := (hb3.block _ (by omega)).trans gR
  have gE3 := (hb3.block _ (by omega)).trans gE
  have hb4 := hb0.trans (hb3.mono hb0.size)
  have hX : Hid (Below w.heap.size w ((put5 (W2.alloc (.cells #[.int .i64 p, .int .i64 q, .int .i64 r] 66)) (w.heap.size + 1 + 1) (.int .i64 0) (.string ⟨#[]⟩) (.int .i64 0) (.int .i64 0) (.string ⟨#[]⟩)).setCell ⟨(w.heap.size + 1 + 1 + 1), 0, none⟩ (.int .i64 E)) /\
      ((put5 (W2.alloc (.cells #[.int .i64 p, .int .i64 q, .int .i64 r] 66)) (w.heap.size + 1 + 1) (.int .i64 0) (.string ⟨#[]⟩) (.int .i64 0) (.int .i64 0) (.string ⟨#[]⟩)).setCell ⟨(w.heap.size + 1 + 1 + 1), 0, none⟩ (.int .i64 E)).heap[(w.heap.size + 1 + 1)]? = some (.cells #[.int .i64 0, .string ⟨#[]⟩, .int .i64 0, .int .i64 0, .string ⟨#[]⟩] 28 (0, 0)) /\
      ((put5 (W2.alloc (.cells #[.int .i64 p, .int .i64 q, .int .i64 r] 66)) (w.heap.size + 1 + 1) (.int .i64 0) (.string ⟨#[]⟩) (.int .i64 0) (.int .i64 0) (.string ⟨#[]⟩)).setCell ⟨(w.heap.size + 1 + 1 + 1), 0, none⟩ (.int .i64 E)).heap[(w.heap.size + 1 + 1 + 1)]? = some (.cells #[.int .i64 E] 32 (0, 0))) := by
    refine ⟨below_setc (put5_below hb4 (by omega) _ _ _ _ _) (by omega) _ _, ?_, ?_⟩
    · rw [heap_setCell_other (by omega)]; exact put5_at gR3 _ _ _ _ _
    · rw [heap_setCell_self (by rw [put5_other (by omega)]; exact gE3)]; simp
  obtain ⟨r0, r1, r2, r3, r4⟩ := box_cells5 gR3
  have f0 := frozen5 gR3 0
  have f1 := frozen5 gR3 1
  have f2 := frozen5 gR3 2
  have f3 := frozen5 gR3 3
  have f4 := frozen5 gR3 4
  have e0 := cell_of_one gE3
  have fe := frozen5 gE3 0
  clear gR3 gE3 hb4 hb3 hal hb2 gX gO gR gE
  gi_wp2
  obtain ⟨x1, x2, x3⟩ := hX.out
  refine leaves_marks (hi := w.heap.size) (by simp) (Φ := fun W => Below w.heap.size w W /\ W.heap[(w.heap.size + 1 + 1)]? = some (.cells #[.int .i64 0, .string ⟨#[]⟩, .int .i64 0, .int .i64 0, .string ⟨#[]⟩] 28 (0, 0)) /\ W.heap[(w.heap.size + 1 + 1 + 1)]? = some (.cells #[.int .i64 E] 32 (0, 0))) ?_ ?_ [] _ trivial ⟨x1, x2, x3⟩
  · rintro W D ⟨h1, h2, h3⟩ hD hd
    exact ⟨below_putObj h1 hD hd _, cells_putObj h2 hd rfl _, cells_putObj h3 hd rfl _⟩
  · rintro W ⟨hb3, gr3, ge3⟩
    obtain ⟨s0, s1, s2, s3, s4⟩ := box_cells5 gr3
    have e2 := cell_of_one ge3
    refine ⟨_, by simp [results, Tryz.results29, go_sem, s0, s1, s2, s3, s4, e2]; rfl, ?_⟩
    exact ⟨rfl, hb3⟩
theorem inv_reg (S : Nat -> Prop) (v : CV) (x : Col) (o : Op) (w : World) (h : RdC S w v x) (hm : Sml x) (hE : Env w) (ho : o.ok) (hx : o.text.size <= 1000000) (he : opErr x o = 0) (hk : o.kind = 4) : Calls Tryz.prog 29 #[v.val, o.val] w (InvPost x o w) := by
  have HF : Hid (∀ W, Below w.heap.size w W -> Calls Tryz.prog 40 #[v.val, o.val] W (FindPost x o W)) := fun W hb => (efind_any S v x o W (h.below hb) hm (hE.below hb) ho hx)
  obtain ⟨s, c, F⟩ := fits_of he
  have HI : Hid (inverse x o = ({ o with text := (x.tk s o.tok).norm }, 0)) := by show _ = _; unfold inverse; rw [if_neg (by simp [he]), if_pos hk, F.place]
  have hpl : x.place o = some (s, c) := F.place
  have hks : s < x.toks.length := by rw [F.heads.len]; exact F.ks
  have ht0 := F.t0
  have ht1 := F.t1
  unfold InvPost
  unfold FindPost at HF
  rw [HI.out]
  rw [hpl, he] at HF
  generalize Op.oth o = TH at *
  clear HI hm hE ho hx F hpl he
  obtain ⟨sec, sa, sn, sc, ta, tn, tc, ca, cn, cc⟩ := v
  obtain ⟨ok, og, ot, oo, ox⟩ := o
  dsimp only at hk ht0 ht1 ⊢
  subst hk
  obtain ⟨tk, rfl⟩ : ∃ tk : Nat, ot = (tk : Int) := ⟨ot.toNat, by omega⟩
  obtain ⟨-, -, h2, h3, h4⟩ := h
  dsimp only at h2 h3 h4
  obtain ⟨r, bo, off, a1, n1, k1, hu, hmem, rfl, -, hbl, hr, d1⟩ := h3.row (j := s) (by rw [h3.len]; exact hks)
  have htr : x.tks s = r := by unfold Col.tks; rw [hu]; rfl
  rw [htr] at ht1
  obtain ⟨t, b2, off2, hu2, hmem2, rfl, -, hbl2, -, ⟨-, e1, -, -, -, -⟩⟩ := hr.tok (j := tk) (by rw [hr.len]; omega)
  have htk : x.tk s (tk : Int) = t := by unfold Col.tk; rw [htr, Int.toNat_natCast, hu2]; rfl
  rw [htk]
  have hsn : s < tn := by rw [h3.len]; exact hks
  have htn : tk < n1 := by rw [hr.len]; omega
  have htb := h3.bound
  have hrb := hr.bound
  generalize t.norm = nm at *
  clear hu hmem hu2 hmem2 htr htk h2 h3 h4 hr ht0 ht1 hks
  change Calls _ _ #[.agg #[.string sec, .slice sa sn sc, .slice (some ⟨bo, off, none⟩) tn tc, .slice ca cn cc], .agg #[.int .i64 4, .string og, .int .i64 (tk : Int), .int .i64 oo, .string ox]] _ _
  change Hid (∀ W, _ -> Calls _ _ #[.agg #[.string sec, .slice sa sn sc, .slice (some ⟨bo, off, none⟩) tn tc, .slice ca cn cc], .agg #[.int .i64 4, .string og, .int .i64 (tk : Int), .int .i64 oo, .string ox]] _ _) at HF
  obtain ⟨W1, hW1, hb0, hs1, gX, gO, gR, gE⟩ := box4b w #[.string sec, .slice sa sn sc, .slice (some ⟨bo, off, none⟩) tn tc, .slice ca cn cc] #[.int .i64 4, .string og, .int .i64 (tk : Int), .int .i64 oo, .string ox] #[.int .i64 0, .string ⟨#[]⟩, .int .i64 0, .int .i64 0, .string ⟨#[]⟩] #[.int .i64 0] 26 28 28 32
  have HFF := hiq (HF.out _ hb0)
  have d1' := clq hb0 d1
  have e1' := clq hb0 e1
  clear d1 e1 HF
  obtain ⟨c0, c1, c2, c3, -⟩ := box_cells4 gX
  obtain ⟨o0, o1, o2, o3, o4⟩ := box_cells5 gO
  rw [hW1] at c0 c1 c2 c3 o0 o1 o2 o3 o4
  refine (callsIn_wide (n := 10)).1 ?_
  refine callsIn_of_wp_marks Tryz.func29 rfl trivial ?_ rfl
  simp only [Tryz.ntmps29, List.size_toArray, List.length_cons, List.length_nil, Nat.reduceAdd, Nat.reduceSub, Array.replicate_succ, Array.replicate_zero, List.push_toArray, List.append_toArray, List.nil_append, List.cons_append]
  refine wpIn_wide.2 ?_
  go_wp2_with fail
  rw [<- hW1] at *
  clear hW1
  refine HFF.out.mono ?_
  rintro e W2 ⟨p, q, r, rfl, hF, hb2⟩
  obtain ⟨s', c', he, rfl, rfl, rfl⟩ := hF trivial
  obtain ⟨rfl, rfl⟩ : s = s' /\ c = c' := by simpa using he
  clear hF he
  generalize TH c = po at *
  have hal : Below W2.heap.size W2 (W2.alloc (.cells #[.int .i64 (s : Int), .int .i64 (c : Int), .int .i64 po] 66)) := (Below.refl _ _).alloc (Nat.le_refl _) _
  obtain ⟨p0, p1, p2, -⟩ := box_cells3 (World.alloc_heap_new W2 (.cells #[.int .i64 (s : Int), .int .i64 (c : Int), .int .i64 po] 66))
  have hb3 := hb2.trans (hal.mono hb2.size)
  have gO3 := (hb3.block _ (by omega)).trans gO
  have gR3 := (hb3.block _ (by omega)).trans gR
  have gE3 := (hb3.block _ (by omega)).trans gE
  have hb4 := hb0.trans (hb3.mono hb0.size)
  obtain ⟨c0, c1, c2, c3, -⟩ := box_cells4 ((hb3.block _ (by omega)).trans gX)
  obtain ⟨o0, o1, o2, o3, o4⟩ := box_cells5 gO3
  replace d1' := clq hb3 d1'
  replace e1' := clq hb3 e1'
  clear gX gO gR gE hb0 hb2 hb3 hal HFF
  go_wp2
  generalize W2.alloc (.cells #[.int .i64 (s : Int), .int .i64 (c : Int), .int .i64 po] 66) = W3 at *
  obtain ⟨X, Wf, hX, hS1, hS2⟩ := family (fun V => Below W3.heap.size W3 V) W3 (Below.refl _ _)
  have HS2 := hiq hS2
  have q_c2 := fun x => clq (hS1 x) c2
  have q_o2 := fun x => clq (hS1 x) o2
  have q_p0 := fun x => clq (hS1 x) p0
  have q_d1' := fun x => clq (hS1 x) d1'
  have q_e1' := fun x => clq (hS1 x) e1'
  clear hS1 hS2
  have hd0 : Below W3.heap.size W3 W3.drew := (Below.refl _ _).drew
  refine wp_region_treeN (Wf := Wf) 12 (.read 0 (.read 1 (.read 2 (.read 3 (.read 4 (.read 5 (.read 6 (.read 7 (.read 8 (.read 9 (.read 10 (.read 11 .fin)))))))))))) (by kernel_rfl) (by kernel_rfl) (HS2.out _ hd0) ?_
  refine wpTree_read _ rfl (fun K hK => ?_); unfold rOp; go_simp; (refine hK _ ?_; clear hK K)
  refine wpTree_read _ rfl (fun K hK => ?_); unfold rOp; go_simp; (refine hK _ ?_; clear hK K)
  refine wpTree_read _ rfl (fun K hK => ?_); unfold rOp; go_simp; (refine hK _ ?_; clear hK K)
  refine wpTree_read _ rfl (fun K hK => ?_); unfold rOp; go_simp; (refine hK _ ?_; clear hK K)
  refine wpTree_read _ rfl (fun K hK => ?_); unfold rOp; go_simp; (refine hK _ ?_; clear hK K)
  refine wpTree_read _ rfl (fun K hK => ?_); unfold rOp; go_simp; (refine hK _ ?_; clear hK K)
  refine wpTree_read _ rfl (fun K hK => ?_); unfold rOp; go_simp; (refine hK _ ?_; clear hK K)
  refine wpTree_read _ rfl (fun K hK => ?_); unfold rOp; go_simp; (refine hK _ ?_; clear hK K)
  refine wpTree_read _ rfl (fun K hK => ?_); unfold rOp; go_simp; (refine hK _ ?_; clear hK K)
  refine wpTree_read _ rfl (fun K hK => ?_); unfold rOp; go_simp; (refine hK _ ?_; clear hK K)
  refine wpTree_read _ rfl (fun K hK => ?_); unfold rOp; go_simp; (refine hK _ ?_; clear hK K)
  refine wpTree_read _ rfl (fun K hK => ?_); unfold rOp; go_simp; (refine hK _ ?_; clear hK K)
  refine wpTree_fin ?_
  clear q_c2 q_o2 q_p0 q_d1' q_e1' HS2 hX
  have f4 := frozen5 gO3 4
  go_wp2
  rw [noPanic_normal]
  have gO4 : (W3.setCell ⟨w.heap.size + 1, 4, none⟩ (.string nm)).drew.heap[w.heap.size + 1]? = some (.cells #[.int .i64 4, .string og, .int .i64 (tk : Int), .int .i64 oo, .string nm] 28 (0, 0)) := heap_set_at (j := 4) gO3 (.string nm)
  have gR4 : (W3.setCell ⟨w.heap.size + 1, 4, none⟩ (.string nm)).drew.heap[(w.heap.size + 1 + 1)]? = some (.cells #[.int .i64 0, .string ⟨#[]⟩, .int .i64 0, .int .i64 0, .string ⟨#[]⟩] 28 (0, 0)) := (heap_setCell_other (by omega) _).trans gR3
  have gE4 : (W3.setCell ⟨w.heap.size + 1, 4, none⟩ (.string nm)).drew.heap[(w.heap.size + 1 + 1 + 1)]? = some (.cells #[.int .i64 0] 32 (0, 0)) := (heap_setCell_other (by omega) _).trans gE3
  have hb5 : Below w.heap.size w (W3.setCell ⟨w.heap.size + 1, 4, none⟩ (.string nm)).drew := (below_setc hb4 (by omega) _ _).drew
  generalize (W3.setCell ⟨w.heap.size + 1, 4, none⟩ (.string nm)).drew = W4 at *
  have hX : Hid (Below w.heap.size w ((put5 W4 (w.heap.size + 1 + 1) (.int .i64 4) (.string og) (.int .i64 (tk : Int)) (.int .i64 oo) (.string nm)).setCell ⟨(w.heap.size + 1 + 1 + 1), 0, none⟩ (.int .i64 0)) /\
      ((put5 W4 (w.heap.size + 1 + 1) (.int .i64 4) (.string og) (.int .i64 (tk : Int)) (.int .i64 oo) (.string nm)).setCell ⟨(w.heap.size + 1 + 1 + 1), 0, none⟩ (.int .i64 0)).heap[(w.heap.size + 1 + 1)]? = some (.cells #[.int .i64 4, .string og, .int .i64 (tk : Int), .int .i64 oo, .string nm] 28 (0, 0)) /\
      ((put5 W4 (w.heap.size + 1 + 1) (.int .i64 4) (.string og) (.int .i64 (tk : Int)) (.int .i64 oo) (.string nm)).setCell ⟨(w.heap.size + 1 + 1 + 1), 0, none⟩ (.int .i64 0)).heap[(w.heap.size + 1 + 1 + 1)]? = some (.cells #[.int .i64 0] 32 (0, 0))) := by
    refine ⟨below_setc (put5_below hb5 (by omega) _ _ _ _ _) (by omega) _ _, ?_, ?_⟩
    · rw [heap_setCell_other (by omega)]; exact put5_at gR4 _ _ _ _ _
    · rw [heap_setCell_self (by rw [put5_other (by omega)]; exact gE4)]; simp
  clear o0 o1 o2 o3 o4 c0 c1 c2 c3 p0 p1 p2 d1' e1'
  obtain ⟨o0, o1, o2, o3, o4⟩ := box_cells5 gO4
  obtain ⟨r0, r1, r2, r3, r4⟩ := box_cells5 gR4
  have f0 := frozen5 gR4 0
  have f1 := frozen5 gR4 1
  have f2 := frozen5 gR4 2
  have f3 := frozen5 gR4 3
  have f5 := frozen5 gR4 4
  have e0 := cell_of_one gE4
  have fe := frozen5 gE4 0
  clear gR4 gE4 gO4 gO3 gR3 gE3 hb4 hd0 f4 hb5
  go_wp2
  obtain ⟨x1, x2, x3⟩ := hX.out
  refine leaves_marks (hi := w.heap.size) (by simp) (Φ := fun W => Below w.heap.size w W /\ W.heap[(w.heap.size + 1 + 1)]? = some (.cells #[.int .i64 4, .string og, .int .i64 (tk : Int), .int .i64 oo, .string nm] 28 (0, 0)) /\ W.heap[(w.heap.size + 1 + 1 + 1)]? = some (.cells #[.int .i64 0] 32 (0, 0))) ?_ ?_ [] _ trivial ⟨x1, x2, x3⟩
  · rintro W D ⟨h1, h2, h3⟩ hD hd
    exact ⟨below_putObj h1 hD hd _, cells_putObj h2 hd rfl _, cells_putObj h3 hd rfl _⟩
  · rintro W ⟨hb3, gr3, ge3⟩
    obtain ⟨s0, s1, s2, s3, s4⟩ := box_cells5 gr3
    have e2 := cell_of_one ge3
    refine ⟨_, by simp [results, Tryz.results29, go_sem, s0, s1, s2, s3, s4, e2]; rfl, ?_⟩
    exact ⟨rfl, hb3⟩
end Go.Proofs.YtbdgmgddliploaaGreatDoor
