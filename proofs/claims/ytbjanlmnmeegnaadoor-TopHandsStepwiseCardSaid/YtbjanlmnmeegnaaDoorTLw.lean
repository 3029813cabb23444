/- TopHandsStepwise. -/
import Derived.Test.YtbjanlmnmeegnaaDoorTAwk
set_option linter.unusedVariables false
set_option linter.unusedSimpArgs false
namespace Go.Proofs.YtbjanlmnmeegnaaDoor
open Go.RowKit Go.Shelf

abbrev Cw (t : ByteArray) : Prop := wordGo false t.data.toList = true
theorem ck_cw {t : ByteArray} (h : t.size ≤ 65536) : Ck t ↔ Cw t := by
  unfold Ck Cw chkS
  rw [if_neg (by omega)]
  cases wordGo false t.data.toList <;> simp
mutual
theorem fit_convN : ∀ (x : Nd) (dp : Bool), bytN x ≤ 65536 → (fitN Ck Wk Nk dp x ↔ fitN Cw Wk Nk dp x)
  | .mk k t n ps, dp, h => by
    rw [bytN] at h
    have ih := fit_convL ps true (by omega)
    have hc := ck_cw (t := t) (by omega)
    simp only [fitN, fitF, ih, hc]
theorem fit_convL : ∀ (l : List Nd) (dp : Bool), bytL l ≤ 65536 → (fitL Ck Wk Nk dp l ↔ fitL Cw Wk Nk dp l)
  | [], dp, h => Iff.rfl
  | x :: r, dp, h => by
    rw [bytL] at h
    have h1 := fit_convN x dp (by omega)
    have h2 := fit_convL r dp (by omega)
    simp only [fitL, h1, h2]
end
mutual
theorem txt_bytN : ∀ x : Nd, txtN x → bytN x ≤ 8 * cntN x
  | .mk k t n ps, h => by have := txt_bytL ps h.2; have := h.1; simp only [bytN, cntN]; omega
theorem txt_bytL : ∀ l : List Nd, txtL l → bytL l ≤ 8 * cntL l
  | [], _ => Nat.le_refl _
  | x :: r, h => by have h1 := txt_bytN x h.1; have h2 := txt_bytL r h.2; simp only [bytL, cntL]; omega
end
theorem sml_of {l : List Nd} (h : SmT l) : Sml l := ⟨h.1, by have := h.2.1; omega, by have := txt_bytL l h.2.2; have := h.1; omega⟩
theorem adv_vld {l : List Nd} (hv : Vld l) (hs : Sml l) (h : Int) : Vld (mergeL (advL h l)) ∧ Sml (mergeL (advL h l)) := by
  have o := fit_okL _ _ hv.1
  have oa := ok_advL h l o
  have b1 := byt_advL h l o
  have b2 := byt_mergeL (advL h l)
  have b3 := hs.2.2
  have f1 := (fit_convL l false (by omega)).1 hv.1
  have f2 := fit_mergeL (fun a b ha hb => by show wordGo false (a ++ b).data.toList = true; rw [ByteArray.data_append, Array.toList_append]; exact wordGo_append _ _ _ ha hb) _ _ (fit_advL h l _ f1)
  refine ⟨⟨(fit_convL _ false (by omega)).2 f2, ord_mergeL _ oa⟩, ?_, ?_, by omega⟩
  · have := cnt_mergeL _ oa
    have := cnt_advL h l o
    have := hs.1
    omega
  · have := dpt_mergeL _ oa
    have := dpt_advL h l o
    have := hs.2.1
    omega
/-- What is kept from step to step. -/
def InvH (l : List Nd) (h : Nat) (N : List Nd) : Prop := Vld N ∧ Sml N ∧ (∀ k : Int, (h : Int) ≤ k + 1 → mergeL (resL k N) = mergeL (resL k l)) ∧ (h = 9 → N = mergeL (resL 8 l))
theorem inv_step {l N : List Nd} {h : Nat} (i : InvH l h N) : InvH l (h + 1) (mergeL (advL (h : Int) N)) := by
  obtain ⟨h1, h2, h3, -⟩ := i
  have o := fit_okL _ _ h1.1
  obtain ⟨q1, q2⟩ := adv_vld h1 h2 (h : Int)
  refine ⟨q1, q2, fun k hk => ?_, fun e => ?_⟩
  · rw [merge_res k (ok_advL _ N o), res_advL (by omega) N o, h3 k (by omega)]
  · obtain rfl : h = 8 := by omega
    rw [show ((8 : Nat) : Int) = 8 from rfl, adv_resL N (fit_numL _ _ h1.1), h3 8 (by decide)]
def GreP (P : Prop) (w : World) (e : Ending) (w' : World) : Prop := ∃ g, e = .returned (.bool g) ∧ Below w.heap.size w w' ∧ (g = false → P)
/-- Nodes in blocks that are there. -/
def VB (w : World) (a : Option Addr) (n c : Nat) (vs : List Vl) : Prop := Vals (fun b => b < w.heap.size) w a n c vs
theorem VB.below {w w' : World} {a : Option Addr} {n c : Nat} {vs : List Vl} (h : VB w a n c vs) (hb : Below w.heap.size w w') : VB w' a n c vs := (Vals.below h hb).mono (fun b h _ => Nat.lt_of_lt_of_le h hb.size)
def TupB (r : List Nd) (w : World) (e : Ending) (w' : World) : Prop := ∃ a n c us, e = .returned (.tuple #[.slice a n c, .int .i64 0]) ∧ VB w' a n c us ∧ us.map Vl.er = r ∧ Below w.heap.size w w'
theorem TupP.b {S : Nat → Prop} {r : List Nd} {w w' : World} {e : Ending} (hS : ∀ b, S b → b < w.heap.size) (h : TupP S r w e w') : TupB r w e w' := by
  obtain ⟨a, n, c, us, h1, h2, h3, h4⟩ := h
  exact ⟨a, n, c, us, h1, h2.mono (fun b _ hb => hb), h3, h4⟩
theorem State_b {a : Option Addr} {n c : Nat} {vs : List Vl} {w : World} (h : Int) (hh : 0 ≤ h ∧ h ≤ 8) (hsm : Sml (vs.map Vl.er)) (hvd : Vld (vs.map Vl.er)) (hv : VB w a n c vs) (hE : TEnv w) : Calls Tryd.prog 8 #[.slice a n c, .int .i64 h] w (TupB (mergeL (resL h (vs.map Vl.er))) w) :=
  (State_any _ a n c vs h w hh hsm hvd (fun _ h => h) hv hE).mono (fun e w' q => q.b (fun _ h => h))
theorem Advance_b {a : Option Addr} {n c : Nat} {vs : List Vl} {w : World} (h : Int) (hh : 0 ≤ h ∧ h ≤ 8) (hsm : Sml (vs.map Vl.er)) (hvd : Vld (vs.map Vl.er)) (hv : VB w a n c vs) (hE : TEnv w) : Calls Tryd.prog 7 #[.slice a n c, .int .i64 h] w (TupB (mergeL (advL h (vs.map Vl.er))) w) :=
  (Advance_any _ a n c vs h w hh hsm hvd (fun _ h => h) hv hE).mono (fun e w' q => q.b (fun _ h => h))
theorem Check_b {a : Option Addr} {n c : Nat} {vs : List Vl} {w : World} (hsm : Sml (vs.map Vl.er)) (hv : VB w a n c vs) (hE : TEnv w) : Calls Tryd.prog 5 #[.slice a n c] w (RgtP (Vld (vs.map Vl.er)) w) :=
  Check_any _ a n c vs w hsm.1 hsm.2.1 hsm.2.2 (fun _ h => h) hv hE
theorem Check_yes {a : Option Addr} {n c : Nat} {vs : List Vl} {w : World} (hsm : Sml (vs.map Vl.er)) (hvd : Vld (vs.map Vl.er)) (hv : VB w a n c vs) (hE : TEnv w) : Calls Tryd.prog 5 #[.slice a n c] w fun e w' => e = .returned (.int .i64 0) ∧ Below w.heap.size w w' :=
  (Check_b hsm hv hE).mono (fun e w' ⟨c0, h1, h2, h3⟩ => ⟨by rw [h1, h2.2 hvd], h3⟩)
theorem Same_b {a b : Option Addr} {n c m d : Nat} {vs us : List Vl} {w : World} (hv : VB w a n c vs) (hu : VB w b m d us) (he : vs.map Vl.er = us.map Vl.er) : Calls Tryd.prog 9 #[.slice a n c, .slice b m d] w fun e w' => e = .returned (.bool true) ∧ Below w.heap.size w w' :=
  same_yes _ _ _ a b n c m d vs us w (Nat.le_refl _) hv hu he
set_option maxRecDepth 100000 in
set_option maxHeartbeats 8000000 in
theorem steps_ok (a : Option Addr) (n c : Nat) (vs : List Vl) (w : World) (hv : VB w a n c vs) (hE : TEnv w) : Calls Tryd.prog 3 #[.slice a n c] w fun e w' => e = .returned (.bool true) ∧ Below w.heap.size w w' := by
  have HG : Hid (Calls Tryd.prog 4 #[.slice a n c, .int .i64 24] w (GreP (SmT (vs.map Vl.er)) w)) := great_any _ a n c vs w hv
  have HAW := Lib.hid (fun W (hb : Below w.heap.size w W) => awake_any W (hE.below hb))
  have HV := Lib.hid hv
  have HE := Lib.hid hE
  clear hv hE
  go_enter Tryd.func3, Tryd.ntmps3
  go_wp2_with fail
  refine HG.out.mono ?_
  rintro e w2 ⟨g, rfl, hb2, hg⟩
  cases g with
  | true =>
    have HA := Lib.hid (HAW.out w2 hb2)
    clear HG HAW
    go_wp2_with fail
    refine HA.out.mono ?_
    rintro e w3 ⟨rfl, hb3⟩
    have HB := Lib.hid (hb2.trans (hb3.mono hb2.size))
    clear hb3 hb2 HA
    go_wp2
    go_ret
    exact ⟨rfl, HB.out⟩
  | false =>
    have HSM := Lib.hid (sml_of (hg rfl))
    have HB2 := Lib.hid hb2
    have HC := Lib.hid (Check_b HSM.out (HV.out.below hb2) (HE.out.below hb2))
    clear hg hb2 HG
    go_wp2_with fail
    refine HC.out.mono ?_
    rintro e w3 ⟨c0, rfl, hc0, hb3⟩
    have HB3 := Lib.hid (HB2.out.trans (hb3.mono HB2.out.size))
    clear hb3 HC HB2
    by_cases hz : c0 = 0
    · have HVD := Lib.hid (hc0.1 hz)
      subst hz
      clear hc0
      go_wp2
      go_loopw [4, 3] (fun i x wr => ∃ (h : Nat) (a1 : Option Addr) (n1 c1 : Nat) (us : List Vl), i = .int .i64 h ∧ x = .slice a1 n1 c1 ∧ h ≤ 9 ∧ Hid (VB wr a1 n1 c1 us) ∧ Hid (InvH (vs.map Vl.er) h (us.map Vl.er)) ∧ Below w.heap.size w wr) (fun i _ _ => 9 - (intOf i).toNat)
      case atStart => exact ⟨0, a, n, c, vs, rfl, rfl, by omega, HV.out.below HB3.out, ⟨HVD.out, HSM.out, fun _ _ => rfl, fun h => by cases h⟩, HB3.out⟩
      case round =>
        obtain ⟨h, a1, n1, c1, us, rfl, rfl, hh9, hV, hI, hB⟩ := hrel
        by_cases hh : h ≤ 8
        · have t1 : decide ((h : Int) ≤ 8) = true := by simp; omega
          have HA := Lib.hid (Advance_b (h : Int) (by omega) hI.out.2.1 hI.out.1 hV.out (HE.out.below hB))
          have HI2 := Lib.hid (inv_step hI.out)
          have HB := Lib.hid hB
          clear hB
          go_wp2_with fail
          refine HA.out.mono ?_
          rintro e w4 ⟨a2, n2, c2, us2, rfl, hv2, he2, hb4⟩
          rw [← he2] at HI2
          have HB4 := Lib.hid (HB.out.trans (hb4.mono HB.out.size))
          have HV2 := Lib.hid hv2
          have HC := Lib.hid (Check_yes HI2.out.2.1 HI2.out.1 hv2 (HE.out.below HB4.out))
          clear hb4 hv2 he2 HA
          go_wp2_with fail
          refine HC.out.mono ?_
          rintro e w5 ⟨rfl, hb5⟩
          have HB5 := Lib.hid (HB4.out.trans (hb5.mono HB4.out.size))
          have HV5 := Lib.hid (HV2.out.below hb5)
          clear hb5 HC HV2
          obtain ⟨wo, rfl⟩ : ∃ wo : World, wo = w5 := ⟨_, rfl⟩
          go_wp2
          go_loopw [7] (fun i wr => ∃ (k : Nat), i = .int .i64 k ∧ h ≤ k ∧ k ≤ 9 ∧ Below wo.heap.size wo wr) (fun i _ => 9 - (intOf i).toNat)
          case atStart => exact ⟨h, rfl, Nat.le_refl _, hh9, Below.refl _ _⟩
          case round =>
            obtain ⟨k, rfl, hhk, hk9, hBk⟩ := hrel
            by_cases hk : k ≤ 8
            · have t2 : decide ((k : Int) ≤ 8) = true := by simp; omega
              have HBK := Lib.hid hBk
              have HBW := Lib.hid (HB5.out.trans (hBk.mono HB5.out.size))
              have HS1 := Lib.hid (State_b (k : Int) (by omega) HI2.out.2.1 HI2.out.1 (HV5.out.below hBk) (HE.out.below HBW.out))
              clear hBk
              go_wp2_with fail
              refine HS1.out.mono ?_
              rintro e w6 ⟨a3, n3, c3, us3, rfl, hv3, he3, hb6⟩
              have HB6 := Lib.hid (HBK.out.trans (hb6.mono HBK.out.size))
              have HBW6 := Lib.hid (HBW.out.trans (hb6.mono HBW.out.size))
              have HS2 := Lib.hid (State_b (k : Int) (by omega) HSM.out HVD.out (HV.out.below HBW6.out) (HE.out.below HBW6.out))
              have HV3 := Lib.hid hv3
              have HE3 := Lib.hid he3
              clear hv3 he3 hb6 HS1
              go_wp2_with fail
              refine HS2.out.mono ?_
              rintro e w7 ⟨a4, n4, c4, us4, rfl, hv4, he4, hb7⟩
              have HB7 := Lib.hid (HB6.out.trans (hb7.mono HB6.out.size))
              have HSA := Lib.hid (Same_b (HV3.out.below hb7) hv4 (by rw [HE3.out, he4]; exact HI2.out.2.2.1 (k : Int) (by omega)))
              clear hv4 he4 hb7 HS2
              go_wp2_with fail
              refine HSA.out.mono ?_
              rintro e w8 ⟨rfl, hb8⟩
              have HB8 := Lib.hid (HB7.out.trans (hb8.mono HB7.out.size))
              clear hb8 HSA
              go_wp2
              go_roundw
              case rel => exact ⟨k + 1, by go_num, by omega, by omega, HB8.out⟩
              case measure => simp [intOf]; omega
            · have t2 : decide ((k : Int) ≤ 8) = false := by simp; omega
              have HBK := Lib.hid hBk
              clear hBk
              go_wp2
              go_roundw
              case rel => exact ⟨h + 1, a2, n2, c2, us2, by go_num, rfl, by omega, HV5.out.below HBK.out, HI2, HB5.out.trans (HBK.out.mono HB5.out.size)⟩
              case measure => simp [intOf]; omega
        · obtain rfl : h = 9 := by omega
          have HS2 := Lib.hid (State_b 8 (by decide) HSM.out HVD.out (HV.out.below hB) (HE.out.below hB))
          have HB := Lib.hid hB
          clear hB
          go_wp2_with fail
          refine HS2.out.mono ?_
          rintro e w7 ⟨a4, n4, c4, us4, rfl, hv4, he4, hb7⟩
          have HB7 := Lib.hid (HB.out.trans (hb7.mono HB.out.size))
          have HSA := Lib.hid (Same_b (hV.out.below hb7) hv4 (by rw [he4]; exact hI.out.2.2.2 rfl))
          clear hv4 he4 hb7 HS2
          go_wp2_with fail
          refine HSA.out.mono ?_
          rintro e w8 ⟨rfl, hb8⟩
          have HB8 := Lib.hid (HB7.out.trans (hb8.mono HB7.out.size))
          have HA := Lib.hid (HAW.out w8 HB8.out)
          clear hb8 HSA
          go_wp2_with fail
          refine HA.out.mono ?_
          rintro e w9 ⟨rfl, hb9⟩
          have HB9 := Lib.hid (HB8.out.trans (hb9.mono HB8.out.size))
          clear hb9 HA
          go_wp2
          go_ret
          exact ⟨rfl, HB9.out⟩
    · have t1 : ((c0 : Int) == 0) = false := by simp [hz]
      have HA := Lib.hid (HAW.out w3 HB3.out)
      clear hz hc0 HAW
      go_wp2_with fail
      refine HA.out.mono ?_
      rintro e w4 ⟨rfl, hb4⟩
      have HB := Lib.hid (HB3.out.trans (hb4.mono HB3.out.size))
      clear hb4 HA
      go_wp2
      go_ret
      exact ⟨rfl, HB.out⟩
end Go.Proofs.YtbjanlmnmeegnaaDoor
