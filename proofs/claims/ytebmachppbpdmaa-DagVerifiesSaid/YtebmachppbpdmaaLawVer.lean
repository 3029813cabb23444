/- DagVerifies. -/
import Derived.Test.YtebmachppbpdmaaDVerP
import Derived.Test.YtebmachppbpdmaaLawPth
namespace Go.Proofs.Ytebmachppbpdmaa
open Go.RowKit

theorem Ints.struck {w : World} {b off n cap : Nat} {l : List Int} (h : Ints w (some ⟨b, off, none⟩) n cap l) : Ints w (some ⟨b, off, none⟩) (n - 1) cap l.dropLast := by
  have hl := h.len
  have hle := h.2.1
  have hb := h.bound
  refine ⟨by rw [List.length_dropLast]; omega, by omega, by omega, fun x hx => h.2.2.2.1 x (List.dropLast_subset _ hx), fun j hj => ?_⟩
  obtain ⟨b', off', e, hc⟩ := h.2.2.2.2 j (by omega)
  refine ⟨b', off', e, ?_⟩
  rw [hc, List.getElem?_dropLast, if_pos (by omega)]
set_option maxHeartbeats 1000000 in
theorem law_ver_no (n : Int) (a : Option Addr) (m cap : Nat) (ll : List Lk) (s t : Int) (ap : Option Addr) (np cp : Nat) (aq : Option Addr) (nq cq : Nat) (w : World) (hl : ll.length = m) (h8 : m ≤ 9223372036854775807) (h : m * 24 ≤ 140737488355328 → Links w a m cap ll) (hf : fineB n ll = false) :
    Calls Try.prog 9 #[.int .i64 n, .slice a m cap, .int .u8 s, .int .u8 t, .slice ap np cp, .slice aq nq cq] w fun e w' => e = .returned (.bool true) ∧ Below w.heap.size w w' := by
  have F := Lib.hid (fine_no n a m cap ll s t w hl h8 h hf)
  clear hf hl h8 h
  go_enter Try.func9, Try.ntmps9
  go_wp2_with (first | (go_at_call 11; refine F.out.mono ?_; rintro e w1 ⟨rfl, b1⟩) | (go_at_call 12; refine (awake_any _).mono ?_; rintro e w2 ⟨rfl, b2⟩))
  go_ret
  exact ⟨rfl, b1.trans (b2.mono b1.size)⟩
set_option maxRecDepth 10000 in
set_option maxHeartbeats 4000000 in
theorem law_ver (k : Nat) (a : Option Addr) (m cap : Nat) (ll : List Lk) (s t : Nat) (ap : Option Addr) (np cp : Nat) (path : List Int) (aq : Option Addr) (nq cq : Nat) (ps : List Int) (w : World) (h : Links w a m cap ll) (hf : fineB k ll = true) (hs : s < 256) (ht : t < 256)
    (hp : Ints w ap np cp path) (hq : Ints w aq nq cq ps) (hnp : np ≤ 20) (hnq : nq ≤ 20) :
    Calls Try.prog 9 #[.int .i64 k, .slice a m cap, .int .u8 s, .int .u8 t, .slice ap np cp, .slice aq nq cq] w fun e w' => e = .returned (.bool true) ∧ Below w.heap.size w w' := by
  have F := Lib.hid (fine_yes k a m cap ll s t w h hf hs ht)
  obtain ⟨k', e, hk1, hk2, hll, hv, hc⟩ := fineB_ok hf
  obtain rfl : k = k' := by omega
  have ha : s % k < k := Nat.mod_lt _ (by omega)
  have hb : t % k < k := Nat.mod_lt _ (by omega)
  generalize s % k = u at *
  generalize t % k = b at *
  clear e hs ht
  have hui : I64 (u : Int) := I64.small (by omega) (by omega)
  have hbi : I64 (b : Int) := I64.small (by omega) (by omega)
  have hcb := chk2_of hc hb hb
  have hP : Hid ((pots ll k b).length = k) := (pots_ok hv hb).len
  have hW : Hid (Within (pots ll k b) 4398046511105) := pots_within hv (by omega) hb
  have HV : Hid (Valid k ll) := hv
  clear hv hc
  go_enter Try.func9, Try.ntmps9
  go_wp2_with (go_at_call 11; refine F.out.mono ?_; rintro e w1 ⟨rfl, b1⟩)
  refine (shortest_any k a m cap u b ll w1 (h.below b1) hui hbi).mono ?_
  rintro e w2 ⟨a2, q2, c2, r, rfl, i2, sp, b2⟩
  have hb2 := b1.trans (b2.mono b1.size)
  go_wp2_with fail
  refine (potentials_any k a m cap b ll w2 (h.below hb2) hbi).mono ?_
  rintro e w3 ⟨a3, q3, c3, rfl, i3, b3⟩
  rw [hcb] at i3 ⊢
  rw [if_pos rfl] at i3
  replace i3 : Ints w3 a3 q3 c3 (pots ll k b) := i3
  have hq3 : q3 = k := by rw [i3.len]; exact hP.out
  subst hq3
  have hb3 := hb2.trans (b3.mono hb2.size)
  have j2 := i2.below b3
  clear b1 b2 b3 hb2 i2 F hcb
  have VOK : Hid (verD q3 ll u b path ps = 0 → shErr q3 ll u b = 0 ∧ costP ll path = shCost q3 ll u b ∧ ∀ x ∈ path, 0 ≤ x ∧ x < ll.length) := fun hz => ver_ok hf ha hb sp hz
  rcases sh_cases hf ha hb sp with ⟨e1, e2, rfl, -⟩ | ⟨e1, e2, e3, hg⟩
  · rw [e1, e2]
    have V : Hid (∀ w', Below w3.heap.size w3 w' → _) := fun w' hb' => verify_any q3 a ap aq m cap np cp nq cq u b ll path ps w' ((h.below hb3).below hb') ((hp.below hb3).below hb') ((hq.below hb3).below hb') (by omega) hui hbi
    have hz : Hid (verD q3 ll u b path ps ≠ 0) := fun hz => by have := (VOK.out hz).1; omega
    generalize verD q3 ll u b path ps = Z at *
    have dz : (Z != 0) = true := by simpa using hz.out
    go_wp2_with (go_at_call 28; refine (V.out _ (Below.refl _ _)).mono ?_; rintro e w4 ⟨rfl, b4⟩)
    refine (awake_any w4).mono ?_
    rintro e w5 ⟨rfl, b5⟩
    go_wp2
    go_ret
    exact ⟨rfl, hb3.trans ((b4.trans (b5.mono b4.size)).mono hb3.size)⟩
  · rw [e1, e2]
    rw [e1, e2] at VOK
    have hq2 : q2 ≤ 1000 := by have := hg.length_le HV.out hb ha; rw [j2.len]; omega
    have V1 := Lib.hid (verify_any q3 a a2 a3 m cap q2 c2 q3 c3 u b ll r (pots ll q3 b) w3 (h.below hb3) j2 i3 hq2 hui hbi)
    rw [ver_least hf ha hb hg] at V1
    have VS : Hid (r ≠ [] → verD q3 ll u b r.dropLast (pots ll q3 b) = 18) := fun hr => ver_struck hf ha hb hg hr
    have VM : Hid (verD q3 ll u b r ((pots ll q3 b).set u ((pots ll q3 b)[u]?.getD 0 + 1)) = 18) := ver_more hf ha hb hg
    have HQ2 := Lib.hid hq2
    clear e1 e2 e3 hg sp hq2
    generalize hpe : pots ll q3 b = p at *
    clear hpe
    go_wp2_with fail
    refine V1.out.mono ?_
    rintro e w4 ⟨rfl, b4⟩
    clear V1
    have CLO : Hid (∀ w', Below w3.heap.size w3 w' → Calls Try.prog 36 #[.slice a3 q3 c3] w' fun e w'' => ∃ (g c' : Nat), e = .returned (.slice (some ⟨g, 0, none⟩) q3 c') ∧ OwnI w'' w'.heap.size (some ⟨g, 0, none⟩) q3 c' p ∧ Below w'.heap.size w' w'') := fun w' hb' => by
      obtain ⟨g3, o3, rfl, -, hc3⟩ := (i3.below hb').at_ (by omega)
      refine (Try.slices_Clone_int g3 o3 q3 c3 p w' (by rw [hP.out]; exact Nat.le_refl _) (by omega) (fun j hj => by rw [hc3.out j (by rw [← hP.out]; exact hj), List.getD_eq_getElem?_getD])).mono ?_
      rintro e w'' ⟨v', rfl, ho, hne, hb''⟩
      rw [List.take_of_length_le (by rw [hP.out]; exact Nat.le_refl _)] at ho
      rcases ho.2 with ⟨e, _⟩ | ⟨g, cap', cur, rfl, _⟩
      · exact absurd e hne
      · exact ⟨g, cap', rfl, ⟨hP.out.symm, ho⟩, hb''⟩
    by_cases hz : q2 = 0
    case' pos =>
      subst hz
      obtain ⟨w5, rfl⟩ : ∃ w5, w5 = w4 := ⟨_, rfl⟩
      have hb5 : Below w3.heap.size w3 w5 := b4
      go_wp2_with fail
    case' neg =>
      have hq1000 := HQ2.out
      have hcap := j2.2.1
      obtain ⟨q, rfl⟩ : ∃ q, q2 = q + 1 := ⟨q2 - 1, by omega⟩
      have ew : wrap64 (q : Int) = (q : Int) := by unfold wrap64; omega
      have hqc : q ≤ c2 := by omega
      obtain ⟨g2, o2, rfl, -, -⟩ := j2.at_ (by omega)
      have hst := j2.struck
      rw [Nat.add_sub_cancel] at hst
      have hrne : r ≠ [] := fun e => by have := j2.len; rw [e] at this; simp at this
      have V2 := Lib.hid (verify_any q3 a _ a3 m cap q c2 q3 c3 u b ll r.dropLast p w4 ((h.below hb3).below b4) (hst.below b4) (i3.below b4) (by omega) hui hbi)
      rw [VS.out hrne] at V2
      clear hst hrne hcap hq1000
      go_wp2_with fail
      refine V2.out.mono ?_
      rintro e w5 ⟨rfl, b5⟩
      clear V2
      have hb5 : Below w3.heap.size w3 w5 := b4.trans (b5.mono b4.size)
      go_wp2_with fail
    all_goals
      refine (CLO.out w5 hb5).mono ?_
      rintro e w6 ⟨g, c6, rfl, o6, b6⟩
      have cu := o6.cell u ha
      have fu := o6.free u
      have hwu : -1 ≤ p[u]?.getD 0 ∧ p[u]?.getD 0 ≤ 4398046511105 := hW.out u
      have sw : IntKind.i64.wrap (p[u]?.getD 0 + 1) = p[u]?.getD 0 + 1 := IntWalk.i64_in _ (by omega)
      go_wp2_with fail
      have o7 := o6.stored u (p[u]?.getD 0 + 1)
      have b67 : Below w3.heap.size w3 (w6.setCell ⟨g, u, none⟩ (.int .i64 (p[u]?.getD 0 + 1))) := (hb5.trans (b6.mono hb5.size)).setCell (by show w3.heap.size ≤ g; have := (o6.2.lt g rfl).1; have := hb5.size; omega) _
      generalize w6.setCell ⟨g, u, none⟩ (.int .i64 (p[u]?.getD 0 + 1)) = w7 at *
      have hmi : ∀ x ∈ p.set u (p[u]?.getD 0 + 1), I64 x := fun x hx => by
        rcases List.mem_or_eq_of_mem_set hx with e | e
        · exact within_i64 hW.out (by decide) x e
        · rw [e]; exact ⟨by omega, by omega⟩
      have i7 := o7.ints (by omega) hmi
      have V3 := Lib.hid (verify_any q3 a _ _ m cap _ c2 q3 c6 u b ll r _ w7 ((h.below hb3).below b67) (j2.below b67) i7 HQ2.out hui hbi)
      rw [VM.out] at V3
      have V4 : Hid (∀ w', Below w3.heap.size w3 w' → _) := fun w' hb' => verify_any q3 a ap aq m cap np cp nq cq u b ll path ps w' ((h.below hb3).below hb') ((hp.below hb3).below hb') ((hq.below hb3).below hb') (by omega) hui hbi
      clear hmi i7 o7 cu fu o6 b6
      refine V3.out.mono ?_
      rintro e w8 ⟨rfl, b8⟩
      have hb8 := b67.trans (b8.mono b67.size)
      clear V3
      by_cases hzz : verD q3 ll u b path ps = 0
      · obtain ⟨-, y2, y3⟩ := VOK.out hzz
        rw [hzz] at V4
        have C5 : Hid (∀ w', Below w3.heap.size w3 w' → _) := fun w' hb' => cost_any q3 a ap m cap np cp ll path w' ((h.below hb3).below hb') ((hp.below hb3).below hb') HV.out (by omega) y3
        rw [y2] at C5
        have dc : (p[u]?.getD 0 == p[u]?.getD 0) = true := by simp
        clear y2 y3 hzz
        go_wp2_with fail
        refine (V4.out w8 hb8).mono ?_
        rintro e w9 ⟨rfl, b9⟩
        have hb9 := hb8.trans (b9.mono hb8.size)
        go_wp2_with fail
        refine (C5.out w9 hb9).mono ?_
        rintro e wa ⟨rfl, qa⟩
        have hba := hb9.trans ((qa.below _).mono hb9.size)
        go_wp2_with fail
        refine (awake_any wa).mono ?_
        rintro e wb ⟨rfl, bb⟩
        go_wp2
        go_ret
        exact ⟨rfl, hb3.trans ((hba.trans (bb.mono hba.size)).mono hb3.size)⟩
      · have dz : (verD q3 ll u b path ps != 0) = true := by simpa using hzz
        generalize verD q3 ll u b path ps = Z at *
        go_wp2_with fail
        refine (V4.out w8 hb8).mono ?_
        rintro e w9 ⟨rfl, b9⟩
        have hb9 := hb8.trans (b9.mono hb8.size)
        go_wp2_with fail
        refine (awake_any w9).mono ?_
        rintro e wb ⟨rfl, bb⟩
        go_wp2
        go_ret
        exact ⟨rfl, hb3.trans ((hb9.trans (bb.mono hb9.size)).mono hb3.size)⟩
set_option maxHeartbeats 1000000 in
theorem law_ver_big (k : Nat) (a : Option Addr) (m cap : Nat) (ll : List Lk) (s t : Nat) (ap : Option Addr) (np cp : Nat) (aq : Option Addr) (nq cq : Nat) (w : World) (h : Links w a m cap ll) (hf : fineB k ll = true) (hs : s < 256) (ht : t < 256) (hbig : 20 < np ∨ 20 < nq) :
    Calls Try.prog 9 #[.int .i64 k, .slice a m cap, .int .u8 s, .int .u8 t, .slice ap np cp, .slice aq nq cq] w fun e w' => e = .returned (.bool true) ∧ Below w.heap.size w w' := by
  have F := Lib.hid (fine_yes k a m cap ll s t w h hf hs ht)
  clear hf h
  rcases (show 20 < np ∨ (np ≤ 20 ∧ 20 < nq) by omega) with h1 | ⟨h1, h2⟩
  all_goals
    clear hbig
    go_enter Try.func9, Try.ntmps9
    go_wp2_with (first | (go_at_call 11; refine F.out.mono ?_; rintro e w1 ⟨rfl, b1⟩) | (go_at_call 12; refine (awake_any _).mono ?_; rintro e w2 ⟨rfl, b2⟩))
    go_ret
    exact ⟨rfl, b1.trans (b2.mono b1.size)⟩
theorem law_ver_all (n : Int) (a : Option Addr) (m cap : Nat) (ll : List Lk) (s t : Int) (ap : Option Addr) (np cp : Nat) (path : List Int) (aq : Option Addr) (nq cq : Nat) (ps : List Int) (w : World) (h : LRow w a m cap ll) (hs : 0 ≤ s ∧ s ≤ 255) (ht : 0 ≤ t ∧ t ≤ 255)
    (hp : np * 8 ≤ 140737488355328 → Ints w ap np cp path) (hq : nq * 8 ≤ 140737488355328 → Ints w aq nq cq ps) :
    Calls Try.prog 9 #[.int .i64 n, .slice a m cap, .int .u8 s, .int .u8 t, .slice ap np cp, .slice aq nq cq] w fun e w' => e = .returned (.bool true) ∧ Below w.heap.size w w' := by
  obtain ⟨t', rfl⟩ : ∃ t' : Nat, t = (t' : Int) := ⟨t.toNat, by omega⟩
  obtain ⟨s', rfl⟩ : ∃ t' : Nat, s = (t' : Int) := ⟨s.toNat, by omega⟩
  by_cases hf : fineB n ll = true
  · obtain ⟨k, rfl, _, _, hll, _⟩ := fineB_ok hf
    have hL := h.2.2 (by have := h.2.1; omega)
    by_cases hbig : 20 < np ∨ 20 < nq
    · exact law_ver_big k a m cap ll s' t' ap np cp aq nq cq w hL hf (by omega) (by omega) hbig
    · exact law_ver k a m cap ll s' t' ap np cp path aq nq cq ps w hL hf (by omega) (by omega) (hp (by omega)) (hq (by omega)) (by omega) (by omega)
  · exact law_ver_no n a m cap ll s' t' ap np cp aq nq cq w h.2.1 h.1 h.2.2 (by simpa using hf)
end Go.Proofs.Ytebmachppbpdmaa
