/- The law InterchangeReads. -/
import Derived.Test.YtlbcmeebcfalpaaGreatDoorR31
set_option linter.unusedVariables false
set_option linter.unusedSimpArgs false
set_option maxRecDepth 100000
set_option maxHeartbeats 16000000
namespace Go.Proofs.YtlbcmeebcfalpaaGreatDoor
open Go.RowKit

theorem par_det {d1 d2 : Dv} {e1 e2 : Int} {x : V} {er : Int}
    (h1 : (er ≠ 0 /\ e1 = er /\ d1 = zeroEd) \/ (er = 0 /\ ((e1 = 0 /\ chkV x = 0 /\ Fit tyEdition x /\ d1.toV = x) \/ (e1 = (if chkV x = 4 then 4 else 9) /\ ¬ (chkV x = 0 /\ Fit tyEdition x) /\ d1 = zeroEd))))
    (h2 : (er ≠ 0 /\ e2 = er /\ d2 = zeroEd) \/ (er = 0 /\ ((e2 = 0 /\ chkV x = 0 /\ Fit tyEdition x /\ d2.toV = x) \/ (e2 = (if chkV x = 4 then 4 else 9) /\ ¬ (chkV x = 0 /\ Fit tyEdition x) /\ d2 = zeroEd)))) : e1 = e2 /\ d1.toV = d2.toV := by
  rcases h1 with ⟨a0, a1, a2⟩ | ⟨a0, ⟨a1, a2, a3, a4⟩ | ⟨a1, a2, a3⟩⟩ <;> rcases h2 with ⟨b0, b1, b2⟩ | ⟨b0, ⟨b1, b2, b3, b4⟩ | ⟨b1, b2, b3⟩⟩
  · exact ⟨by rw [a1, b1], by rw [a2, b2]⟩
  · exact absurd b0 a0
  · exact absurd b0 a0
  · exact absurd a0 b0
  · exact ⟨by rw [a1, b1], by rw [a4, b4]⟩
  · exact absurd ⟨a2, a3⟩ b2
  · exact absurd a0 b0
  · exact absurd ⟨b2, b3⟩ a2
  · exact ⟨by rw [a1, b1], by rw [a3, b3]⟩
theorem ed_det {d1 d2 : Dv} {e1 e2 : Int} {x : V}
    (h1 : (e1 = 0 /\ chkV x = 0 /\ Fit tyEdition x /\ d1.toV = x) \/ (e1 = (if chkV x = 4 then 4 else 9) /\ ¬ (chkV x = 0 /\ Fit tyEdition x) /\ d1 = zeroEd))
    (h2 : (e2 = 0 /\ chkV x = 0 /\ Fit tyEdition x /\ d2.toV = x) \/ (e2 = (if chkV x = 4 then 4 else 9) /\ ¬ (chkV x = 0 /\ Fit tyEdition x) /\ d2 = zeroEd)) : e1 = e2 /\ d1.toV = d2.toV := by
  rcases h1 with ⟨a1, a2, a3, a4⟩ | ⟨a1, a2, a3⟩ <;> rcases h2 with ⟨b1, b2, b3, b4⟩ | ⟨b1, b2, b3⟩
  · exact ⟨by rw [a1, b1], by rw [a4, b4]⟩
  · exact absurd ⟨a2, a3⟩ b2
  · exact absurd ⟨b2, b3⟩ a2
  · exact ⟨by rw [a1, b1], by rw [a3, b3]⟩
/-- An edition in a box of its own. -/
structure EBx (V : World) (b : Nat) (d : Dv) : Prop where
  has : Has tyEdition d
  box : V.heap[b]? = some (.cells d.cells.toArray 40 (0, 0))
  rd : RdD (fun x => x < V.heap.size) V d
theorem EBx.next {V V' : World} {b : Nat} {d : Dv} (h : EBx V b d) (hb : Below V.heap.size V V') : EBx V' b d :=
  ⟨h.has, (hb.block _ (Array.getElem?_eq_some_iff.1 h.box).1).trans h.box, (h.rd.below hb).mono fun x hx => Nat.lt_of_lt_of_le hx hb.size⟩
theorem EBx.ld {V : World} {b : Nat} {d : Dv} (h : EBx V b d) : LdV b 40 (.agg d.cells.toArray) V := LT.ld .edi rfl (LT.len .edi h.has).1 h.box
theorem ebx_new {V2 V : World} {d : Dv} (hT : Has tyEdition d) (hrd : RdD (NewB V2 V) V d) : ∃ WF, StL V.heap.size d.cells (V.alloc (.cells (LT.zero .edi).toArray 40)) WF /\ Below V.heap.size V WF /\ EBx WF V.heap.size d := by
  obtain ⟨WF, h1, h2, h3, h4⟩ := back_new hT hrd
  exact ⟨WF, h1, h2, hT, h3, h4.mono fun x hx => Nat.lt_of_lt_of_le hx h2.size⟩
theorem ebx_same {V : World} {b b' : Nat} {d d' : Dv} (h : EBx V b d) (h' : EBx V b' d') (e : d.toV = d'.toV) : Calls Tryz.prog 15 #[.agg d.cells.toArray, .agg d'.cells.toArray] V fun e V' => e = .returned (.bool true) /\ Below V.heap.size V V' := by
  have := Same_ref h.has h'.has h.rd h'.rd
  unfold SmeP at this
  rw [sameV_true e, (LT.len .edi h.has).2.2.2 rfl, (LT.len .edi h'.has).2.2.2 rfl] at this
  exact this
theorem ed_size {d : Dv} (hT : Has tyEdition d) : Hid ((Tryz.prog.info? 40).map (·.size) = some d.cells.length) := by
  obtain ⟨i0, ei, ez0, ez1, ez2⟩ := info_parts (LT.info .edi)
  show _ = _
  rw [show 40 = LT.tid .edi from rfl, ei]; simp [ez1, (LT.len .edi hT).1]
theorem reads_law (s : ByteArray) (v : Vl) (w : World) (hr : Rd (fun b => b < w.heap.size) w v) (hE : Env w) : Calls Tryz.prog 3 #[.string s, v.val] w fun e w' => e = .returned (.bool true) /\ Below w.heap.size w w' := by
  obtain ⟨k, nn, t, a, c, l⟩ := v
  have hk0 := keepO_new w 24 #[.int .i64 k, .int .i64 nn, .string t, .slice a l.length c]
  obtain ⟨y0, y1, y2, y3, -⟩ := box_cells hk0.fst
  have hlt : ∀ V, KeepO w 24 #[.int .i64 k, .int .i64 nn, .string t, .slice a l.length c] V -> ∀ b, b < w.heap.size -> b < V.heap.size := fun V h b hb => Nat.lt_of_lt_of_le hb h.below.size
  have HA : Hid (∀ V, KeepO w 24 #[.int .i64 k, .int .i64 nn, .string t, .slice a l.length c] V -> Calls Tryz.prog 10 #[] V fun e V' => e = .returned (.bool true) /\ Below V.heap.size V V') := fun V h => awake_any (hE.below h.below)
  have HG : Hid (∀ V, KeepO w 24 #[.int .i64 k, .int .i64 nn, .string t, .slice a l.length c] V -> Calls Tryz.prog 9 #[.agg #[.int .i64 k, .int .i64 nn, .string t, .slice a l.length c]] V fun e V' => ∃ g : Bool, e = .returned (.bool g) /\ (g = false -> SmV (Vl.mk k nn t a c l).er) /\ Below V.heap.size V V') := fun V h => GreatValue_sm _ (.mk k nn t a c l) V (hr.below h.below)
  have HPa : Hid (s.size <= 1048580 -> ∀ V, KeepO w 24 #[.int .i64 k, .int .i64 nn, .string t, .slice a l.length c] V -> Calls Tryz.prog 11 #[.string s] V (ParP s V)) := fun h1 V h => parse_any s (by omega) V (hE.below h.below)
  have HPr : Hid (s.size <= 1048580 -> ∀ V, KeepO w 24 #[.int .i64 k, .int .i64 nn, .string t, .slice a l.length c] V -> Calls Tryz.prog 12 #[.string s] V (ParP s V)) := fun h1 V h => parse_ref s (by omega) V (hE.below h.below)
  have HEa : Hid (∀ V, KeepO w 24 #[.int .i64 k, .int .i64 nn, .string t, .slice a l.length c] V -> Calls Tryz.prog 13 #[.agg #[.int .i64 k, .int .i64 nn, .string t, .slice a l.length c]] V (EdP (Vl.mk k nn t a c l).er V)) := fun V h => edition_any _ (.mk k nn t a c l) V (hr.below h.below) (hlt V h)
  have HEr : Hid (SmV (Vl.mk k nn t a c l).er -> ∀ V, KeepO w 24 #[.int .i64 k, .int .i64 nn, .string t, .slice a l.length c] V -> Calls Tryz.prog 14 #[.agg #[.int .i64 k, .int .i64 nn, .string t, .slice a l.length c]] V (EdP (Vl.mk k nn t a c l).er V)) := fun hm V h => edition_ref _ (.mk k nn t a c l) V (hr.below h.below) (hlt V h) hm
  have HK := hiq hk0
  clear hk0 hr hE hlt
  change Calls _ _ #[.string s, .agg #[.int .i64 k, .int .i64 nn, .string t, .slice a l.length c]] _ _
  generalize (Vl.mk k nn t a c l).er = x at *
  go_enter Tryz.func3, Tryz.ntmps3
  rcases (show (20000 < s.size /\ s.size <= 1048576) \/ 1048580 < s.size \/ s.size <= 20000 \/ (1048576 < s.size /\ s.size <= 1048580) by omega) with ⟨h1, h2⟩ | h1 | h1 | ⟨h1, h2⟩
  · clear HG HPa HPr HEa HEr
    go_wp2_with fail
    refine (HA.out _ HK.out).mono ?_
    rintro e V9 ⟨rfl, hb⟩
    replace HK := hiq (HK.out.next hb)
    clear hb
    go_wp2
    go_ret
    exact ⟨rfl, HK.out.below⟩
  · have q1 : decide ((s.size : Int) <= 1048576) = false := decide_eq_false (by omega)
    clear HG HPa HPr HEa HEr
    go_wp2_with fail
    refine (HA.out _ HK.out).mono ?_
    rintro e V9 ⟨rfl, hb⟩
    replace HK := hiq (HK.out.next hb)
    clear hb
    go_wp2
    go_ret
    exact ⟨rfl, HK.out.below⟩
  all_goals
    have hs80 : s.size <= 1048580 := by omega
    have q2 : decide ((1048580 : Int) < (s.size : Int)) = false := decide_eq_false (by omega)
    go_wp2_with fail
    refine (HG.out _ HK.out).mono ?_
    rintro e V1 ⟨g, rfl, hm, hb⟩
    replace HK := hiq (HK.out.next hb)
    clear hb
    clear y0 y1 y2 y3
    cases g
    case true =>
      clear hm HG HPa HPr HEa HEr
      go_wp2_with fail
      refine (HA.out _ HK.out).mono ?_
      rintro e V9 ⟨rfl, hb⟩
      replace HK := hiq (HK.out.next hb)
      clear hb
      go_wp2
      go_ret
      exact ⟨rfl, HK.out.below⟩
    replace HPa := hiq (HPa.out hs80)
    replace HPr := hiq (HPr.out hs80)
    replace HEr := hiq (HEr.out (hm rfl))
    clear hm HG
    go_wp2_with fail
    refine (HPa.out _ HK.out).mono ?_
    rintro e U1 ⟨d1, e1, rfl, hT, hrd, hb, hor⟩
    obtain ⟨G1, hst, hbG, hX⟩ := ebx_new hT hrd
    have HZ := ed_size hT
    have HST := hiq hst
    have HX1 := hiq hX
    have HO1 := hiq hor
    replace HK := hiq ((HK.out.next hb).next hbG)
    dsimp only [LT.zero] at HST
    clear hst hbG hX hor hT hrd hb
    go_wp2_with (first | ((with_reducible refine wpList_stL HST.out rfl _ _ _ rfl ?_ ?_ ?_ ?_); rfl; rfl; exact HZ.out) | fail)
    refine (HPr.out _ HK.out).mono ?_
    rintro e U2 ⟨d2, e2, rfl, hT, hrd, hb, hor⟩
    clear HST HZ
    obtain ⟨G2, hst, hbG, hX⟩ := ebx_new hT hrd
    have HZ := ed_size hT
    have HST := hiq hst
    have HX2 := hiq hX
    have HO2 := hiq hor
    replace HX1 := hiq ((HX1.out.next hb).next hbG)
    replace HK := hiq ((HK.out.next hb).next hbG)
    dsimp only [LT.zero] at HST
    clear hst hbG hX hor hT hrd hb
    obtain ⟨y0, y1, y2, y3, -⟩ := box_cells HK.out.fst
    go_wp2_with (first | ((with_reducible refine wpList_stL HST.out rfl _ _ _ rfl ?_ ?_ ?_ ?_); rfl; rfl; exact HZ.out) | fail)
    clear y0 y1 y2 y3
    refine (HEa.out _ HK.out).mono ?_
    rintro e U3 ⟨d3, e3, rfl, hT, hrd, hb, hor⟩
    clear HST HZ
    obtain ⟨G3, hst, hbG, hX⟩ := ebx_new hT hrd
    have HZ := ed_size hT
    have HST := hiq hst
    have HX3 := hiq hX
    have HO3 := hiq hor
    replace HX1 := hiq ((HX1.out.next hb).next hbG)
    replace HX2 := hiq ((HX2.out.next hb).next hbG)
    replace HK := hiq ((HK.out.next hb).next hbG)
    dsimp only [LT.zero] at HST
    clear hst hbG hX hor hT hrd hb
    obtain ⟨y0, y1, y2, y3, -⟩ := box_cells HK.out.fst
    go_wp2_with (first | ((with_reducible refine wpList_stL HST.out rfl _ _ _ rfl ?_ ?_ ?_ ?_); rfl; rfl; exact HZ.out) | fail)
    clear y0 y1 y2 y3
    refine (HEr.out _ HK.out).mono ?_
    rintro e U4 ⟨d4, e4, rfl, hT, hrd, hb, hor⟩
    clear HST HZ
    obtain ⟨G4, hst, hbG, hX⟩ := ebx_new hT hrd
    have HZ := ed_size hT
    have HST := hiq hst
    have HX4 := hiq hX
    have HO4 := hiq hor
    replace HX1 := hiq ((HX1.out.next hb).next hbG)
    replace HX2 := hiq ((HX2.out.next hb).next hbG)
    replace HX3 := hiq ((HX3.out.next hb).next hbG)
    replace HK := hiq ((HK.out.next hb).next hbG)
    dsimp only [LT.zero] at HST
    clear hst hbG hX hor hT hrd hb
    obtain ⟨he12, hv12⟩ := par_det HO1.out HO2.out
    obtain ⟨he34, hv34⟩ := ed_det HO3.out HO4.out
    subst he12
    subst he34
    have HV12 := hiq hv12
    have HV34 := hiq hv34
    clear hv12 hv34 HO1 HO2 HO3 HO4 HPa HPr HEa HEr
    go_wp2_with (first | ((with_reducible refine wpList_stL HST.out rfl _ _ _ rfl ?_ ?_ ?_ ?_); rfl; rfl; exact HZ.out) | ((with_reducible refine wpList_ldL HX1.out.ld rfl _ rfl ?_ ?_); rfl) | ((with_reducible refine wpList_ldL HX2.out.ld rfl _ rfl ?_ ?_); rfl) | fail)
    refine (ebx_same HX1.out HX2.out HV12.out).mono ?_
    rintro e U5 ⟨rfl, hb⟩
    replace HX3 := hiq (HX3.out.next hb)
    replace HX4 := hiq (HX4.out.next hb)
    replace HK := hiq (HK.out.next hb)
    clear hb
    clear HST HZ HX1 HX2
    go_wp2_with (first | ((with_reducible refine wpList_ldG HX3.out.ld _ rfl ?_ ?_ ?_); (first | rfl | (simp [Region.wanted, yielded]; done)); rfl) | ((with_reducible refine wpList_ldG HX4.out.ld _ rfl ?_ ?_ ?_); (first | rfl | (simp [Region.wanted, yielded]; done)); rfl) | fail)
    refine (ebx_same HX3.out HX4.out HV34.out).mono ?_
    rintro e U6 ⟨rfl, hb⟩
    replace HK := hiq (HK.out.next hb)
    clear hb
    go_wp2_with fail
    refine (HA.out _ HK.out).mono ?_
    rintro e V9 ⟨rfl, hb⟩
    replace HK := hiq (HK.out.next hb)
    clear hb
    go_wp2
    go_ret
    exact ⟨rfl, HK.out.below⟩
end Go.Proofs.YtlbcmeebcfalpaaGreatDoor
