/- The laws InterchangeKeys and InterchangeSame. -/
import Derived.Test.YtlbcmeebcfalpaaGreatDoorQLa
set_option linter.unusedVariables false
set_option linter.unusedSimpArgs false
set_option maxRecDepth 100000
set_option maxHeartbeats 16000000
namespace Go.Proofs.YtlbcmeebcfalpaaGreatDoor
open Go.RowKit

theorem enc_key {S S' : Nat -> Prop} {w : World} {d d2 : Dv} (hr : RdD S w d) (hr2 : RdD S' w d2) : prtE d.toV = 0 -> prtE d2.toV = 0 -> ((⟨(encB d.toV).toArray⟩ : ByteArray).toList == (⟨(encB d2.toV).toArray⟩ : ByteArray).toList) = sameV d.toV d2.toV := fun h1 h2 => by
  rw [strs_eq]
  by_cases e : d.toV = d2.toV
  · rw [sameV_true e, e]; simp
  · rw [sameV_false e]
    exact decide_eq_false fun h => e ((encB_inj (prtE_zero h1) (prtE_zero h2) (numOk_d d hr) (numOk_d d2 hr2)).1 h)
theorem keys_law (d d2 : Dv) (w : World) (hT : Has tyInput d) (hr : RdD (fun b => b < w.heap.size) w d) (hT2 : Has tyInput d2) (hr2 : RdD (fun b => b < w.heap.size) w d2) (hE : Env w) : Calls Tryz.prog 8 #[d.val, d2.val] w fun e w' => e = .returned (.bool true) /\ Below w.heap.size w w' := by
  have hl1 := (LT.len .inp hT).1
  have hl2 := (LT.len .inp hT2).1
  have hv1 := (LT.len .inp hT).2.2.2 rfl
  have hv2 := (LT.len .inp hT2).2.2.2 rfl
  have HK := hiq (keepB_new w (LT.tid .inp) d.cells.toArray d2.cells.toArray)
  have HL1 : Hid (∀ V, KeepB w (LT.tid .inp) d.cells.toArray d2.cells.toArray V -> LdV w.heap.size (LT.tid .inp) (.agg d.cells.toArray) V) := fun V h => LT.ld .inp rfl hl1 h.fst
  have HL2 : Hid (∀ V, KeepB w (LT.tid .inp) d.cells.toArray d2.cells.toArray V -> LdV (w.heap.size + 1) (LT.tid .inp) (.agg d2.cells.toArray) V) := fun V h => LT.ld .inp rfl hl2 h.snd
  have hlt : ∀ V, KeepB w (LT.tid .inp) d.cells.toArray d2.cells.toArray V -> ∀ b, b < w.heap.size -> b < V.heap.size := fun V h b hb => Nat.lt_of_lt_of_le hb h.below.size
  have HA : Hid (∀ V, KeepB w (LT.tid .inp) d.cells.toArray d2.cells.toArray V -> Calls Tryz.prog 10 #[] V fun e V' => e = .returned (.bool true) /\ Below V.heap.size V V') := fun V h => awake_any (hE.below h.below)
  have HG1 : Hid (∀ V, KeepB w (LT.tid .inp) d.cells.toArray d2.cells.toArray V -> Calls Tryz.prog 23 #[.agg d.cells.toArray] V fun e V' => ∃ g : Bool, e = .returned (.bool g) /\ (g = false -> Sm d) /\ Below V.heap.size V V') := fun V h => by
    have := GreatInput_any hT (hr.below h.below) (hlt V h)
    rw [hv1] at this; exact this
  have HG2 : Hid (∀ V, KeepB w (LT.tid .inp) d.cells.toArray d2.cells.toArray V -> Calls Tryz.prog 23 #[.agg d2.cells.toArray] V fun e V' => ∃ g : Bool, e = .returned (.bool g) /\ (g = false -> Sm d2) /\ Below V.heap.size V V') := fun V h => by
    have := GreatInput_any hT2 (hr2.below h.below) (hlt V h)
    rw [hv2] at this; exact this
  have HP1 : Hid (Sm d -> ∀ V, KeepB w (LT.tid .inp) d.cells.toArray d2.cells.toArray V -> Calls Tryz.prog 24 #[.agg d.cells.toArray] V (PrtP d.toV V)) := fun hm V h => by
    have := part_any hT hm (hr.below h.below) (hlt V h) (hE.below h.below)
    rw [hv1] at this; exact this
  have HP2 : Hid (Sm d2 -> ∀ V, KeepB w (LT.tid .inp) d.cells.toArray d2.cells.toArray V -> Calls Tryz.prog 24 #[.agg d2.cells.toArray] V (PrtP d2.toV V)) := fun hm V h => by
    have := part_any hT2 hm (hr2.below h.below) (hlt V h) (hE.below h.below)
    rw [hv2] at this; exact this
  have HE1 : Hid (prtE d.toV = 0 \/ prtE d.toV = 4) := prtE_two _
  have HE2 : Hid (prtE d2.toV = 0 \/ prtE d2.toV = 4) := prtE_two _
  have HQ : Hid (prtE d.toV = 0 -> prtE d2.toV = 0 -> ((⟨(encB d.toV).toArray⟩ : ByteArray).toList == (⟨(encB d2.toV).toArray⟩ : ByteArray).toList) = sameV d.toV d2.toV) := enc_key hr hr2
  have HSI : Hid (∀ V, KeepB w (LT.tid .inp) d.cells.toArray d2.cells.toArray V -> Calls Tryz.prog 26 #[.agg d.cells.toArray, .agg d2.cells.toArray] V (SmeP d.toV d2.toV V)) := fun V h => by
    have := SameInput_ref hT hT2 (hr.below h.below) (hr2.below h.below)
    rw [hv1, hv2] at this; exact this
  dsimp only [LT.tid] at HSI
  unfold SmeP at HSI
  dsimp only [LT.tid] at HK HL1 HL2 HA HG1 HG2 HP1 HP2
  rw [hv1, hv2]
  unfold PrtP at HP1 HP2
  clear hl1 hl2 hv1 hv2 hlt hT hT2 hr hr2 hE
  generalize sameV d.toV d2.toV = R at *
  generalize (⟨(encB d.toV).toArray⟩ : ByteArray) = X1 at *
  generalize (⟨(encB d2.toV).toArray⟩ : ByteArray) = X2 at *
  generalize prtE d.toV = E1 at *
  generalize prtE d2.toV = E2 at *
  generalize d.cells.toArray = A1 at *
  generalize d2.cells.toArray = A2 at *
  go_enter Tryz.func8, Tryz.ntmps8
  go_wp2_with (first | ((with_reducible refine wpList_ldL (HL1.out _ HK.out) rfl _ rfl ?_ ?_); rfl) | ((with_reducible refine wpList_ldL (HL2.out _ HK.out) rfl _ rfl ?_ ?_); rfl) | ((with_reducible refine wpList_ldG (HL1.out _ HK.out) _ rfl ?_ ?_ ?_); (first | rfl | (simp [Region.wanted, yielded]; done)); rfl) | ((with_reducible refine wpList_ldG (HL2.out _ HK.out) _ rfl ?_ ?_ ?_); (first | rfl | (simp [Region.wanted, yielded]; done)); rfl) | fail)
  refine (HG1.out _ HK.out).mono ?_
  rintro e V1 ⟨g, rfl, hm, hb⟩
  replace HK := hiq (HK.out.next hb)
  clear hb
  cases g
  case true =>
    clear hm
    go_wp2_with fail
    refine (HA.out _ HK.out).mono ?_
    rintro e V9 ⟨rfl, hb⟩
    replace HK := hiq (HK.out.next hb)
    clear hb
    go_wp2
    go_ret
    exact ⟨rfl, HK.out.below⟩
  replace HP1 := hiq (HP1.out (hm rfl))
  have HS1 := hiq (hm rfl)
  clear hm HG1
  go_wp2_with (first | ((with_reducible refine wpList_ldL (HL1.out _ HK.out) rfl _ rfl ?_ ?_); rfl) | ((with_reducible refine wpList_ldL (HL2.out _ HK.out) rfl _ rfl ?_ ?_); rfl) | ((with_reducible refine wpList_ldG (HL1.out _ HK.out) _ rfl ?_ ?_ ?_); (first | rfl | (simp [Region.wanted, yielded]; done)); rfl) | ((with_reducible refine wpList_ldG (HL2.out _ HK.out) _ rfl ?_ ?_ ?_); (first | rfl | (simp [Region.wanted, yielded]; done)); rfl) | fail)
  refine (HG2.out _ HK.out).mono ?_
  rintro e V1 ⟨g, rfl, hm, hb⟩
  replace HK := hiq (HK.out.next hb)
  clear hb
  cases g
  case true =>
    clear hm
    go_wp2_with fail
    refine (HA.out _ HK.out).mono ?_
    rintro e V9 ⟨rfl, hb⟩
    replace HK := hiq (HK.out.next hb)
    clear hb
    go_wp2
    go_ret
    exact ⟨rfl, HK.out.below⟩
  replace HP2 := hiq (HP2.out (hm rfl))
  have HS2 := hiq (hm rfl)
  clear hm HG2
  go_wp2_with (first | ((with_reducible refine wpList_ldL (HL1.out _ HK.out) rfl _ rfl ?_ ?_); rfl) | ((with_reducible refine wpList_ldL (HL2.out _ HK.out) rfl _ rfl ?_ ?_); rfl) | ((with_reducible refine wpList_ldG (HL1.out _ HK.out) _ rfl ?_ ?_ ?_); (first | rfl | (simp [Region.wanted, yielded]; done)); rfl) | ((with_reducible refine wpList_ldG (HL2.out _ HK.out) _ rfl ?_ ?_ ?_); (first | rfl | (simp [Region.wanted, yielded]; done)); rfl) | fail)
  refine (HP1.out _ HK.out).mono ?_
  rintro e V2 ⟨rfl, hb⟩
  replace HK := hiq (HK.out.next hb)
  clear hb
  go_wp2_with (first | ((with_reducible refine wpList_ldL (HL1.out _ HK.out) rfl _ rfl ?_ ?_); rfl) | ((with_reducible refine wpList_ldL (HL2.out _ HK.out) rfl _ rfl ?_ ?_); rfl) | ((with_reducible refine wpList_ldG (HL1.out _ HK.out) _ rfl ?_ ?_ ?_); (first | rfl | (simp [Region.wanted, yielded]; done)); rfl) | ((with_reducible refine wpList_ldG (HL2.out _ HK.out) _ rfl ?_ ?_ ?_); (first | rfl | (simp [Region.wanted, yielded]; done)); rfl) | fail)
  refine (HP2.out _ HK.out).mono ?_
  rintro e V3 ⟨rfl, hb⟩
  replace HK := hiq (HK.out.next hb)
  clear hb
  rcases HE1.out with rfl | rfl
  case inr =>
    go_wp2_with fail
    refine (HA.out _ HK.out).mono ?_
    rintro e V9 ⟨rfl, hb⟩
    replace HK := hiq (HK.out.next hb)
    clear hb
    go_wp2
    go_ret
    exact ⟨rfl, HK.out.below⟩
  rcases HE2.out with rfl | rfl
  case inr =>
    go_wp2_with fail
    refine (HA.out _ HK.out).mono ?_
    rintro e V9 ⟨rfl, hb⟩
    replace HK := hiq (HK.out.next hb)
    clear hb
    go_wp2
    go_ret
    exact ⟨rfl, HK.out.below⟩
  have hq := HQ.out rfl rfl
  clear HQ HE1 HE2 HP1 HP2
  cases R
  all_goals
    go_wp2_with (first | ((with_reducible refine wpList_ldL (HL1.out _ HK.out) rfl _ rfl ?_ ?_); rfl) | ((with_reducible refine wpList_ldL (HL2.out _ HK.out) rfl _ rfl ?_ ?_); rfl) | ((with_reducible refine wpList_ldG (HL1.out _ HK.out) _ rfl ?_ ?_ ?_); (first | rfl | (simp [Region.wanted, yielded]; done)); rfl) | ((with_reducible refine wpList_ldG (HL2.out _ HK.out) _ rfl ?_ ?_ ?_); (first | rfl | (simp [Region.wanted, yielded]; done)); rfl) | fail)
    refine (HSI.out _ HK.out).mono ?_
    rintro e V4 ⟨rfl, hb⟩
    replace HK := hiq (HK.out.next hb)
    clear hb
    go_wp2_with fail
    refine (HA.out _ HK.out).mono ?_
    rintro e V9 ⟨rfl, hb⟩
    replace HK := hiq (HK.out.next hb)
    clear hb
    go_wp2
    go_ret
    exact ⟨rfl, HK.out.below⟩
theorem same_law (d d2 : Dv) (w : World) (hT : Has tyEdition d) (hr : RdD (fun b => b < w.heap.size) w d) (hT2 : Has tyEdition d2) (hr2 : RdD (fun b => b < w.heap.size) w d2) (hE : Env w) : Calls Tryz.prog 5 #[d.val, d2.val] w fun e w' => e = .returned (.bool true) /\ Below w.heap.size w w' := by
  have hl1 := (LT.len .edi hT).1
  have hl2 := (LT.len .edi hT2).1
  have hv1 := (LT.len .edi hT).2.2.2 rfl
  have hv2 := (LT.len .edi hT2).2.2.2 rfl
  have HK := hiq (keepB_new w (LT.tid .edi) d.cells.toArray d2.cells.toArray)
  have HL1 : Hid (∀ V, KeepB w (LT.tid .edi) d.cells.toArray d2.cells.toArray V -> LdV w.heap.size (LT.tid .edi) (.agg d.cells.toArray) V) := fun V h => LT.ld .edi rfl hl1 h.fst
  have HL2 : Hid (∀ V, KeepB w (LT.tid .edi) d.cells.toArray d2.cells.toArray V -> LdV (w.heap.size + 1) (LT.tid .edi) (.agg d2.cells.toArray) V) := fun V h => LT.ld .edi rfl hl2 h.snd
  have hlt : ∀ V, KeepB w (LT.tid .edi) d.cells.toArray d2.cells.toArray V -> ∀ b, b < w.heap.size -> b < V.heap.size := fun V h b hb => Nat.lt_of_lt_of_le hb h.below.size
  have HA : Hid (∀ V, KeepB w (LT.tid .edi) d.cells.toArray d2.cells.toArray V -> Calls Tryz.prog 10 #[] V fun e V' => e = .returned (.bool true) /\ Below V.heap.size V V') := fun V h => awake_any (hE.below h.below)
  have HG1 : Hid (∀ V, KeepB w (LT.tid .edi) d.cells.toArray d2.cells.toArray V -> Calls Tryz.prog 17 #[.agg d.cells.toArray] V fun e V' => ∃ g : Bool, e = .returned (.bool g) /\ (g = false -> Sm d) /\ Below V.heap.size V V') := fun V h => by
    have := Great_any hT (hr.below h.below) (hlt V h)
    rw [hv1] at this; exact this
  have HG2 : Hid (∀ V, KeepB w (LT.tid .edi) d.cells.toArray d2.cells.toArray V -> Calls Tryz.prog 17 #[.agg d2.cells.toArray] V fun e V' => ∃ g : Bool, e = .returned (.bool g) /\ (g = false -> Sm d2) /\ Below V.heap.size V V') := fun V h => by
    have := Great_any hT2 (hr2.below h.below) (hlt V h)
    rw [hv2] at this; exact this
  have HP1 : Hid (Sm d -> ∀ V, KeepB w (LT.tid .edi) d.cells.toArray d2.cells.toArray V -> Calls Tryz.prog 16 #[.agg d.cells.toArray] V (PrtP d.toV V)) := fun hm V h => by
    have := print_any hT hm (hr.below h.below) (hlt V h) (hE.below h.below)
    rw [hv1] at this; exact this
  have HP2 : Hid (Sm d2 -> ∀ V, KeepB w (LT.tid .edi) d.cells.toArray d2.cells.toArray V -> Calls Tryz.prog 16 #[.agg d2.cells.toArray] V (PrtP d2.toV V)) := fun hm V h => by
    have := print_any hT2 hm (hr2.below h.below) (hlt V h) (hE.below h.below)
    rw [hv2] at this; exact this
  have HE1 : Hid (prtE d.toV = 0 \/ prtE d.toV = 4) := prtE_two _
  have HE2 : Hid (prtE d2.toV = 0 \/ prtE d2.toV = 4) := prtE_two _
  have HQ : Hid (prtE d.toV = 0 -> prtE d2.toV = 0 -> ((⟨(encB d.toV).toArray⟩ : ByteArray).toList == (⟨(encB d2.toV).toArray⟩ : ByteArray).toList) = sameV d.toV d2.toV) := enc_key hr hr2
  have HS12 : Hid (Sm d -> Sm d2 -> ∀ V, KeepB w (LT.tid .edi) d.cells.toArray d2.cells.toArray V -> Calls Tryz.prog 18 #[.agg d.cells.toArray, .agg d2.cells.toArray] V fun e V' => e = .returned (.bool (sameV d.toV d2.toV)) /\ Below V.heap.size V V') := fun m1 m2 V h => by
    have := sameE_any hT hT2 m1 m2 (hr.below h.below) (hr2.below h.below) (hlt V h) (hlt V h)
    rw [hv1, hv2] at this; exact this
  have HS21 : Hid (Sm d -> Sm d2 -> ∀ V, KeepB w (LT.tid .edi) d.cells.toArray d2.cells.toArray V -> Calls Tryz.prog 18 #[.agg d2.cells.toArray, .agg d.cells.toArray] V fun e V' => e = .returned (.bool (sameV d.toV d2.toV)) /\ Below V.heap.size V V') := fun m1 m2 V h => by
    have := sameE_any hT2 hT m2 m1 (hr2.below h.below) (hr.below h.below) (hlt V h) (hlt V h)
    have e : sameV d2.toV d.toV = sameV d.toV d2.toV := by
      by_cases e : d.toV = d2.toV
      · rw [sameV_true e, sameV_true e.symm]
      · rw [sameV_false e, sameV_false (fun h => e h.symm)]
    rw [hv1, hv2, e] at this; exact this
  have HS11 : Hid (Sm d -> Sm d2 -> ∀ V, KeepB w (LT.tid .edi) d.cells.toArray d2.cells.toArray V -> Calls Tryz.prog 18 #[.agg d.cells.toArray, .agg d.cells.toArray] V fun e V' => e = .returned (.bool true) /\ Below V.heap.size V V') := fun m1 m2 V h => by
    have := sameE_any hT hT m1 m1 (hr.below h.below) (hr.below h.below) (hlt V h) (hlt V h)
    rw [hv1, sameV_true rfl] at this; exact this
  dsimp only [LT.tid] at HS12 HS21 HS11
  dsimp only [LT.tid] at HK HL1 HL2 HA HG1 HG2 HP1 HP2
  rw [hv1, hv2]
  unfold PrtP at HP1 HP2
  clear hl1 hl2 hv1 hv2 hlt hT hT2 hr hr2 hE
  generalize sameV d.toV d2.toV = R at *
  generalize (⟨(encB d.toV).toArray⟩ : ByteArray) = X1 at *
  generalize (⟨(encB d2.toV).toArray⟩ : ByteArray) = X2 at *
  generalize prtE d.toV = E1 at *
  generalize prtE d2.toV = E2 at *
  generalize d.cells.toArray = A1 at *
  generalize d2.cells.toArray = A2 at *
  go_enter Tryz.func5, Tryz.ntmps5
  go_wp2_with (first | ((with_reducible refine wpList_ldL (HL1.out _ HK.out) rfl _ rfl ?_ ?_); rfl) | ((with_reducible refine wpList_ldL (HL2.out _ HK.out) rfl _ rfl ?_ ?_); rfl) | ((with_reducible refine wpList_ldG (HL1.out _ HK.out) _ rfl ?_ ?_ ?_); (first | rfl | (simp [Region.wanted, yielded]; done)); rfl) | ((with_reducible refine wpList_ldG (HL2.out _ HK.out) _ rfl ?_ ?_ ?_); (first | rfl | (simp [Region.wanted, yielded]; done)); rfl) | fail)
  refine (HG1.out _ HK.out).mono ?_
  rintro e V1 ⟨g, rfl, hm, hb⟩
  replace HK := hiq (HK.out.next hb)
  clear hb
  cases g
  case true =>
    clear hm
    go_wp2_with fail
    refine (HA.out _ HK.out).mono ?_
    rintro e V9 ⟨rfl, hb⟩
    replace HK := hiq (HK.out.next hb)
    clear hb
    go_wp2
    go_ret
    exact ⟨rfl, HK.out.below⟩
  replace HP1 := hiq (HP1.out (hm rfl))
  have HS1 := hiq (hm rfl)
  clear hm HG1
  go_wp2_with (first | ((with_reducible refine wpList_ldL (HL1.out _ HK.out) rfl _ rfl ?_ ?_); rfl) | ((with_reducible refine wpList_ldL (HL2.out _ HK.out) rfl _ rfl ?_ ?_); rfl) | ((with_reducible refine wpList_ldG (HL1.out _ HK.out) _ rfl ?_ ?_ ?_); (first | rfl | (simp [Region.wanted, yielded]; done)); rfl) | ((with_reducible refine wpList_ldG (HL2.out _ HK.out) _ rfl ?_ ?_ ?_); (first | rfl | (simp [Region.wanted, yielded]; done)); rfl) | fail)
  refine (HG2.out _ HK.out).mono ?_
  rintro e V1 ⟨g, rfl, hm, hb⟩
  replace HK := hiq (HK.out.next hb)
  clear hb
  cases g
  case true =>
    clear hm
    go_wp2_with fail
    refine (HA.out _ HK.out).mono ?_
    rintro e V9 ⟨rfl, hb⟩
    replace HK := hiq (HK.out.next hb)
    clear hb
    go_wp2
    go_ret
    exact ⟨rfl, HK.out.below⟩
  replace HP2 := hiq (HP2.out (hm rfl))
  have HS2 := hiq (hm rfl)
  clear hm HG2
  go_wp2_with (first | ((with_reducible refine wpList_ldL (HL1.out _ HK.out) rfl _ rfl ?_ ?_); rfl) | ((with_reducible refine wpList_ldL (HL2.out _ HK.out) rfl _ rfl ?_ ?_); rfl) | ((with_reducible refine wpList_ldG (HL1.out _ HK.out) _ rfl ?_ ?_ ?_); (first | rfl | (simp [Region.wanted, yielded]; done)); rfl) | ((with_reducible refine wpList_ldG (HL2.out _ HK.out) _ rfl ?_ ?_ ?_); (first | rfl | (simp [Region.wanted, yielded]; done)); rfl) | fail)
  refine (HP1.out _ HK.out).mono ?_
  rintro e V2 ⟨rfl, hb⟩
  replace HK := hiq (HK.out.next hb)
  clear hb
  go_wp2_with (first | ((with_reducible refine wpList_ldL (HL1.out _ HK.out) rfl _ rfl ?_ ?_); rfl) | ((with_reducible refine wpList_ldL (HL2.out _ HK.out) rfl _ rfl ?_ ?_); rfl) | ((with_reducible refine wpList_ldG (HL1.out _ HK.out) _ rfl ?_ ?_ ?_); (first | rfl | (simp [Region.wanted, yielded]; done)); rfl) | ((with_reducible refine wpList_ldG (HL2.out _ HK.out) _ rfl ?_ ?_ ?_); (first | rfl | (simp [Region.wanted, yielded]; done)); rfl) | fail)
  refine (HP2.out _ HK.out).mono ?_
  rintro e V3 ⟨rfl, hb⟩
  replace HK := hiq (HK.out.next hb)
  clear hb
  rcases HE1.out with rfl | rfl
  case inr =>
    go_wp2_with fail
    refine (HA.out _ HK.out).mono ?_
    rintro e V9 ⟨rfl, hb⟩
    replace HK := hiq (HK.out.next hb)
    clear hb
    go_wp2
    go_ret
    exact ⟨rfl, HK.out.below⟩
  rcases HE2.out with rfl | rfl
  case inr =>
    go_wp2_with fail
    refine (HA.out _ HK.out).mono ?_
    rintro e V9 ⟨rfl, hb⟩
    replace HK := hiq (HK.out.next hb)
    clear hb
    go_wp2
    go_ret
    exact ⟨rfl, HK.out.below⟩
  have hq := HQ.out rfl rfl
  clear HQ HE1 HE2 HP1 HP2
  replace HS12 := hiq (HS12.out HS1.out HS2.out)
  replace HS21 := hiq (HS21.out HS1.out HS2.out)
  replace HS11 := hiq (HS11.out HS1.out HS2.out)
  cases R
  all_goals
    go_wp2_with (first | ((with_reducible refine wpList_ldL (HL1.out _ HK.out) rfl _ rfl ?_ ?_); rfl) | ((with_reducible refine wpList_ldL (HL2.out _ HK.out) rfl _ rfl ?_ ?_); rfl) | ((with_reducible refine wpList_ldG (HL1.out _ HK.out) _ rfl ?_ ?_ ?_); (first | rfl | (simp [Region.wanted, yielded]; done)); rfl) | ((with_reducible refine wpList_ldG (HL2.out _ HK.out) _ rfl ?_ ?_ ?_); (first | rfl | (simp [Region.wanted, yielded]; done)); rfl) | fail)
    refine (HS12.out _ HK.out).mono ?_
    rintro e V4 ⟨rfl, hb⟩
    replace HK := hiq (HK.out.next hb)
    clear hb
    go_wp2_with (first | ((with_reducible refine wpList_ldL (HL1.out _ HK.out) rfl _ rfl ?_ ?_); rfl) | ((with_reducible refine wpList_ldL (HL2.out _ HK.out) rfl _ rfl ?_ ?_); rfl) | ((with_reducible refine wpList_ldG (HL1.out _ HK.out) _ rfl ?_ ?_ ?_); (first | rfl | (simp [Region.wanted, yielded]; done)); rfl) | ((with_reducible refine wpList_ldG (HL2.out _ HK.out) _ rfl ?_ ?_ ?_); (first | rfl | (simp [Region.wanted, yielded]; done)); rfl) | fail)
    refine (HS21.out _ HK.out).mono ?_
    rintro e V5 ⟨rfl, hb⟩
    replace HK := hiq (HK.out.next hb)
    clear hb
    go_wp2_with (first | ((with_reducible refine wpList_ldL (HL1.out _ HK.out) rfl _ rfl ?_ ?_); rfl) | ((with_reducible refine wpList_ldL (HL2.out _ HK.out) rfl _ rfl ?_ ?_); rfl) | ((with_reducible refine wpList_ldG (HL1.out _ HK.out) _ rfl ?_ ?_ ?_); (first | rfl | (simp [Region.wanted, yielded]; done)); rfl) | ((with_reducible refine wpList_ldG (HL2.out _ HK.out) _ rfl ?_ ?_ ?_); (first | rfl | (simp [Region.wanted, yielded]; done)); rfl) | fail)
    refine (HS11.out _ HK.out).mono ?_
    rintro e V6 ⟨rfl, hb⟩
    replace HK := hiq (HK.out.next hb)
    clear hb
    go_wp2_with fail
    refine (HA.out _ HK.out).mono ?_
    rintro e V9 ⟨rfl, hb⟩
    replace HK := hiq (HK.out.next hb)
    clear hb
    go_wp2
    go_ret
    exact ⟨rfl, HK.out.below⟩
end Go.Proofs.YtlbcmeebcfalpaaGreatDoor
