/- The law InterchangeCanonical. -/
import Derived.Test.YtlbcmeebcfalpaaGreatDoorQLa
set_option linter.unusedVariables false
set_option linter.unusedSimpArgs false
set_option maxRecDepth 100000
set_option maxHeartbeats 16000000
namespace Go.Proofs.YtlbcmeebcfalpaaGreatDoor
open Go.RowKit

theorem parse_can (s : ByteArray) (hs : s.size <= 140737488355328) (w : World) (hE : Env w) : Calls Tryz.prog 11 #[.string s] w fun e W => ∃ (d : Dv) (err : Int), e = .returned (.tuple #[.agg d.cells.toArray, .int .i64 err]) /\ Has tyEdition d /\ RdD (NewB w W) W d /\ Below w.heap.size w W /\ (err ≠ 0 -> d = zeroEd) /\ (err = 0 -> chkV d.toV = 0 /\ encB d.toV = s.data.toList /\ encE d.toV = 0) := by
  refine (parse_any s hs w hE).mono ?_
  rintro e W ⟨d, err, he, hT, hrd, hb, hor⟩
  refine ⟨d, err, he, hT, hrd, hb, ?_⟩
  rcases hor with ⟨h0, rfl, rfl⟩ | ⟨h0, ⟨rfl, h1, h2, h3⟩ | ⟨rfl, h1, rfl⟩⟩
  · exact ⟨fun _ => rfl, fun h => absurd h h0⟩
  · refine ⟨fun h => absurd rfl h, fun _ => ?_⟩
    have hd : decode s.data.toList = ((decode s.data.toList).1, 0) := by rw [<- h0]
    obtain ⟨g1, g2⟩ := decode_sound hd
    rw [h3]
    exact ⟨h1, g1, g2⟩
  · refine ⟨fun _ => rfl, fun h => ?_⟩
    split at h <;> cases h
theorem canon_law (s : ByteArray) (w : World) (hE : Env w) : Calls Tryz.prog 4 #[.string s] w fun e w' => e = .returned (.bool true) /\ Below w.heap.size w w' := by
  have HA : Hid (∀ V, Below w.heap.size w V -> Calls Tryz.prog 10 #[] V fun e V' => e = .returned (.bool true) /\ Below V.heap.size V V') := fun V h => awake_any (hE.below h)
  by_cases hs : s.size <= 20000
  case neg =>
    have HB : Hid (Below w.heap.size w w) := Below.refl _ _
    clear hE
    go_enter Tryz.func4, Tryz.ntmps4
    go_wp2_with fail
    refine (HA.out _ HB.out).mono ?_
    rintro e V9 ⟨rfl, hb⟩
    have HZ := hiq (HB.out.trans (hb.mono HB.out.size))
    clear hb
    go_wp2
    go_ret
    exact ⟨rfl, HZ.out⟩
  have HP := hiq (parse_can s (by omega) w hE)
  have HEV : Hid (∀ V, Below w.heap.size w V -> Env V) := fun V h => hE.below h
  clear hE
  go_enter Tryz.func4, Tryz.ntmps4
  go_wp2_with fail
  refine HP.out.mono ?_
  rintro e V1 ⟨d, err, rfl, hT, hrd, hb, h0, h1⟩
  obtain ⟨WG, hst2, hbG, hboxG, hrG⟩ := back_new hT hrd
  have hbw := hb.trans (hbG.mono hb.size)
  have HST := hiq hst2
  have HLD : Hid (∀ W, Below WG.heap.size WG W -> LdV V1.heap.size 40 (.agg d.cells.toArray) W) := fun W hW => LT.ld .edi rfl (LT.len .edi hT).1 ((hW.block _ (Array.getElem?_eq_some_iff.1 hboxG).1).trans hboxG)
  have hv := (LT.len .edi hT).2.2.2 rfl
  have HSA : Hid (err ≠ 0 -> ∀ W, Below WG.heap.size WG W -> Calls Tryz.prog 15 #[.agg d.cells.toArray, .agg (LT.zero .edi).toArray] W fun e W' => e = .returned (.bool true) /\ Below W.heap.size W W') := fun he W hW => by
    have := Same_ref hT zeroEd_has (hrG.below hW) (zeroEd_rd (fun _ => False) W)
    unfold SmeP at this
    rw [zero_val, sameV_true (by rw [h0 he]), hv] at this
    exact this
  have HPR : Hid (err = 0 -> ∀ W, Below WG.heap.size WG W -> Calls Tryz.prog 16 #[.agg d.cells.toArray] W fun e W' => e = .returned (.tuple #[.string s, .int .i64 0]) /\ Below W.heap.size W W') := fun he W hW => by
    obtain ⟨g1, g2, g3⟩ := h1 he
    have := print_any hT (sm_chk g1) (hrG.below hW) (fun b (hb : b < V1.heap.size) => by have := hbG.size; have := hW.size; omega) (HEV.out W (hbw.trans (hW.mono hbw.size)))
    unfold PrtP prtE at this
    rw [g2, g3, if_pos rfl, hv, toArray_bytes] at this
    exact this
  have HZZ : Hid ((Tryz.prog.info? 40).map (·.size) = some d.cells.length) := by
    obtain ⟨i0, ei, ez0, ez1, ez2⟩ := info_parts (LT.info .edi)
    show _ = _
    rw [show 40 = LT.tid .edi from rfl, ei]; simp [ez1, (LT.len .edi hT).1]
  have HBW := hiq hbw
  dsimp only [LT.zero] at HST HSA
  clear hst2 hbG hboxG hrG hT hrd hb h0 h1 hv hbw HP HEV
  generalize d.cells = DC at *
  by_cases he : err = 0
  · subst he
    have HPP := hiq (HPR.out rfl)
    clear HPR HSA
    go_wp2_with (first | ((with_reducible refine wpList_stL HST.out rfl _ _ _ rfl ?_ ?_ ?_ ?_); rfl; rfl; exact HZZ.out) | ((with_reducible refine wpList_ldL (HLD.out WG (Below.refl _ _)) rfl _ rfl ?_ ?_); rfl) | fail)
    refine (HPP.out _ (Below.refl _ _)).mono ?_
    rintro e V2 ⟨rfl, hb2⟩
    have HB := hiq (HBW.out.trans (hb2.mono HBW.out.size))
    clear hb2
    go_wp2_with fail
    refine (HA.out _ HB.out).mono ?_
    rintro e V9 ⟨rfl, hb⟩
    have HZ := hiq (HB.out.trans (hb.mono HB.out.size))
    clear hb
    go_wp2
    go_ret
    exact ⟨rfl, HZ.out⟩
  · have HPP := hiq (HSA.out he)
    have hne : (err != 0) = true := by simp [he]
    clear HPR HSA he
    go_wp2_with (first | ((with_reducible refine wpList_stL HST.out rfl _ _ _ rfl ?_ ?_ ?_ ?_); rfl; rfl; exact HZZ.out) | ((with_reducible refine wpList_ldL (HLD.out WG (Below.refl _ _)) rfl _ rfl ?_ ?_); rfl) | fail)
    refine (HPP.out _ (Below.refl _ _)).mono ?_
    rintro e V2 ⟨rfl, hb2⟩
    have HB := hiq (HBW.out.trans (hb2.mono HBW.out.size))
    clear hb2
    go_wp2_with fail
    refine (HA.out _ HB.out).mono ?_
    rintro e V9 ⟨rfl, hb⟩
    have HZ := hiq (HB.out.trans (hb.mono HB.out.size))
    clear hb
    go_wp2
    go_ret
    exact ⟨rfl, HZ.out⟩
end Go.Proofs.YtlbcmeebcfalpaaGreatDoor
