/- dag.Verify. -/
import Derived.Test.YtebmachppbpdmaaDLen
import Derived.Test.YtebmachppbpdmaaDRVer
import Derived.Test.YtebmachppbpdmaaDTop
namespace Go.Proofs.Ytebmachppbpdmaa
open Go.RowKit

theorem foldl_min_le : ∀ (l : List Int) (b : Int), l.foldl min b ≤ b ∧ ∀ x ∈ l, l.foldl min b ≤ x
  | [], b => ⟨Int.le_refl _, by simp⟩
  | y :: l, b => by
    obtain ⟨h1, h2⟩ := foldl_min_le l (min b y)
    rw [List.foldl_cons]
    refine ⟨by omega, fun x hx => ?_⟩
    rcases List.mem_cons.1 hx with e | e
    · subst e; omega
    · exact h2 x e
theorem le_foldl_min {M : Int} : ∀ (l : List Int) (b : Int), M ≤ b → (∀ x ∈ l, M ≤ x) → M ≤ l.foldl min b
  | [], _, h, _ => h
  | y :: l, b, h, hl => by
    rw [List.foldl_cons]
    exact le_foldl_min l _ (by have := hl y (by simp); omega) (fun x hx => hl x (by simp [hx]))
theorem minOf_lt {l : List Int} (h : Go.Lib.minOf l < -1) : ∃ j, j < l.length ∧ l[j]?.getD 0 < -1 := by
  by_cases hall : ∀ x ∈ l, -1 ≤ x
  · have : -1 ≤ Go.Lib.minOf l := by
      unfold Go.Lib.minOf
      refine le_foldl_min _ _ ?_ hall
      cases l with
      | nil => simp
      | cons y l => exact hall y (by simp)
    omega
  · have : ∃ x ∈ l, x < -1 := by
      refine Classical.byContradiction fun hn => hall fun x hx => ?_
      have : ¬ x < -1 := fun e => hn ⟨x, hx, e⟩
      omega
    obtain ⟨x, hx, hlt⟩ := this
    obtain ⟨j, hj⟩ := List.mem_iff_getElem?.1 hx
    exact ⟨j, (List.getElem?_eq_some_iff.1 hj).1, by rw [hj]; exact hlt⟩
theorem minOf_ge {l : List Int} (h : ¬ Go.Lib.minOf l < -1) (j : Nat) : -1 ≤ l[j]?.getD 0 := by
  cases e : l[j]? with
  | none => simp
  | some x =>
    have := (foldl_min_le l (l.headD 0)).2 x (List.mem_of_getElem? e)
    unfold Go.Lib.minOf at h
    simp
    omega

set_option maxRecDepth 10000 in
set_option maxHeartbeats 4000000 in
theorem verify_any (n : Int) (a ap aq : Option Addr) (m cap np cp nq0 cq : Nat) (s t : Int) (ll : List Lk) (path ps : List Int) (w : World) (h : Links w a m cap ll) (hp : Ints w ap np cp path) (hq : Ints w aq nq0 cq ps) (hnp : np ≤ 1000) (hs : I64 s) (ht : I64 t) :
    Calls Try.prog 28 #[.int .i64 n, .slice a m cap, .int .i64 s, .int .i64 t, .slice ap np cp, .slice aq nq0 cq] w fun e w' => e = .returned (.int .i64 (verD n ll s t path ps)) ∧ Below w.heap.size w w' := by
  have H := Lib.hid h.len
  have HQ := Lib.hid hq.len
  have F := Lib.hid (check2_lit n a m cap s t ll w h hs ht)
  by_cases h0 : chk2 n ll s t = 0
  · obtain ⟨k, u, b, rfl, rfl, rfl, hu, hb, hk, hm, hv⟩ := chk2_ok h0
    rw [h0] at F
    have HV : Hid (Valid k ll) := hv
    have hmm : m ≤ 65536 := by rw [h.len]; exact hm
    have NO : Hid (¬ VerOk ll k u b path ps → verD k ll u b path ps = 18) := fun hn => by rw [verD, if_neg (by omega), Int.toNat_natCast, Int.toNat_natCast, Int.toNat_natCast, if_neg hn]
    have YES : Hid (VerOk ll k u b path ps → verD k ll u b path ps = 0) := fun hn => by rw [verD, if_neg (by omega), Int.toNat_natCast, Int.toNat_natCast, Int.toNat_natCast, if_pos hn]
    clear h0 hv hm hs ht
    have LEN : Hid (∀ w', Below w.heap.size w w' → _) := fun w' hb' => length_any k a ap m cap np cp u b ll path w' (h.below hb') (hp.below hb') HV.out hnp
    have hwk : ∀ c, walkP ll u 0 path = some ((b : Int), c) → lenB ll u b path = true ∧ lenV ll u path = c := fun c e => by
      rw [lenB, lenV, e]; exact ⟨by simp, rfl⟩
    have hwk2 : lenB ll u b path = true → walkP ll u 0 path = some ((b : Int), lenV ll u path) := fun e => by
      rw [lenB] at e
      rw [lenV]
      cases hw : walkP ll u 0 path with
      | none => rw [hw] at e; cases e
      | some x => rw [hw] at e; obtain ⟨x1, x2⟩ := x; simp at e; rw [e]
    have HWK := Lib.hid hwk
    have HWK2 := Lib.hid hwk2
    clear hwk hwk2
    generalize lenV ll u path = cost at *
    generalize lenB ll u b path = ok at *
    cases ok with
    | false =>
      have E : Hid (verD k ll u b path ps = 18) := NO.out fun hv => by have := (HWK.out _ hv.2).1; cases this
      go_enter Try.func28, Try.ntmps28
      go_wp2_with (first | (go_at_call 39; refine F.out.mono ?_; rintro e w1 ⟨rfl, b1⟩) | (go_at_call 49; refine (LEN.out _ b1).mono ?_; rintro e w2 ⟨rfl, q2⟩))
      go_ret
      exact ⟨by rw [E.out]; rfl, b1.trans ((q2.below _).mono b1.size)⟩
    | true =>
    have hwt := HWK2.out rfl
    clear HWK2
    by_cases hlen : nq0 = k
    · have d0 : ((nq0 : Int) != (k : Int)) = false := by simp [hlen]
      subst hlen
      have MIN : Hid (∀ w', Below w.heap.size w w' → Calls Try.prog 50 #[.slice aq nq0 cq] w' fun e w'' => e = .returned (.int .i64 (Go.Lib.minOf ps)) ∧ w'' = w') := fun w' hb' => by
        obtain ⟨gq, oq, rfl, -, hcq⟩ := (hq.below hb').at_ (by omega)
        have := Try.slices_Min_int gq oq nq0 cq ps w' (by omega) (by rw [HQ.out]; exact Nat.le_refl _) (by omega) (fun j hj => by rw [hcq.out j (by rw [HQ.out]; exact hj), List.getD_eq_getElem?_getD])
        rw [HQ.out, List.take_length] at this
        rw [HQ.out]; exact this
      by_cases hmn : Go.Lib.minOf ps < -1
      · have E : Hid (verD nq0 ll u b path ps = 18) := NO.out fun hv => by
          obtain ⟨j, hj, hlt⟩ := minOf_lt hmn
          have := hv.1.2.2.1 j (by rw [HQ.out]; exact hj)
          omega
        generalize Go.Lib.minOf ps = mn at *
        go_enter Try.func28, Try.ntmps28
        go_wp2_with (first | (go_at_call 39; refine F.out.mono ?_; rintro e w1 ⟨rfl, b1⟩) | (go_at_call 49; refine (LEN.out _ b1).mono ?_; rintro e w2 ⟨rfl, q2⟩; have b2 := b1.trans ((q2.below _).mono b1.size)) | (go_at_call 50; refine (MIN.out _ b2).mono ?_; rintro e w3 ⟨rfl, hw3⟩; obtain rfl := hw3.symm))
        go_ret
        exact ⟨by rw [E.out]; rfl, b2⟩
      · have hge0 : Hid (∀ j : Nat, -1 ≤ ps[j]?.getD 0) := minOf_ge hmn
        have dm : decide (Go.Lib.minOf ps < -1) = false := by simpa using hmn
        generalize Go.Lib.minOf ps = mn at *
        clear hmn
        go_enter Try.func28, Try.ntmps28
        go_wp2_with (go_at_call 39; refine F.out.mono ?_; rintro e w1 ⟨rfl, b1⟩)
        refine (LEN.out _ b1).mono ?_
        rintro e w2 ⟨rfl, q2⟩
        have b2 := b1.trans ((q2.below _).mono b1.size)
        have hsz2 := b2.size
        have h3 := h.below b2
        have q3 := hq.below b2
        obtain ⟨gq, oq, rfl, -, hcq⟩ := q3.at_ (by omega)
        have cb := hcq.out b hb
        have cu := hcq.out u hu
        clear b1 q2 F LEN hcq
        by_cases htz : ps[b]?.getD 0 = 0
        · rw [htz] at cb
          by_cases hsc : ps[u]?.getD 0 = cost
          · rw [hsc] at cu
            have dc : (cost != cost) = false := by simp
            have HTZ := Lib.hid htz
            have HSC := Lib.hid hsc
            clear htz hsc
            go_wp2_with (go_at_call 50; refine (MIN.out _ b2).mono ?_; rintro e w3 ⟨rfl, hw3⟩; obtain rfl := hw3.symm)
            obtain ⟨wo, rfl⟩ : ∃ wo : World, wo = w2 := ⟨_, rfl⟩
            go_loopw [66] (fun i wr => ∃ j : Nat, j ≤ m ∧ i = .int .i64 j ∧ Hid (∀ y, y < j → PotLink ps (lkAt ll y)) ∧ Below wo.heap.size wo wr) (fun i _ => m - (intOf i).toNat)
            case atStart => exact ⟨0, Nat.zero_le _, rfl, (fun y hy => by omega), Below.refl _ _⟩
            case round =>
              obtain ⟨j, hj, rfl, hpl, hB⟩ := hrel
              have hsB := hB.size
              by_cases hjm : j < m
              · obtain ⟨f, tt0, c, hx, -, -, -, bb, off, rfl, hbl2, k1, k2, k3⟩ := (h3.below hB).get hjm
                dsimp only at k1 k2 k3
                have hxl : lkAt ll j = (f, tt0, c) := by rw [lkAt, hx]; rfl
                obtain ⟨f', tt, e1, e2, e3, e4, e5, e6⟩ := HV.out j (by rw [← H.out]; exact hjm)
                rw [hxl] at e1 e2 e5 e6
                dsimp only at e1 e2 e5 e6
                subst e1 e2
                have HX := Lib.hid hxl
                clear hx hxl
                have hB' := hB.alloc hsB (.cells #[.int .i64 (f' : Int), .int .i64 (tt : Int), .int .i64 c] 36)
                obtain ⟨gq, oq, eq, -, hcq⟩ := (q3.below hB').at_ (by omega)
                cases eq
                have u1 := hcq.out tt e4
                have u2 := hcq.out f' (by omega)
                have i1 := (q3.i64 f')
                have g1 := hge0.out f'
                have i2 := i1.2
                have sw : IntKind.i64.wrap (ps[f']?.getD 0 - c) = ps[f']?.getD 0 - c := IntWalk.i64_in _ (by omega)
                have PL : Hid (PotLink ps (lkAt ll j) ↔ (0 ≤ ps[tt]?.getD 0 → 0 ≤ ps[f']?.getD 0 ∧ ps[f']?.getD 0 - c ≤ ps[tt]?.getD 0)) := by rw [HX.out]; exact Iff.rfl
                clear i1
                generalize ps[tt]?.getD 0 = pt at *
                generalize ps[f']?.getD 0 = pf at *
                rcases (show pt < 0 ∨ (0 ≤ pt ∧ pf < 0) ∨ (0 ≤ pt ∧ 0 ≤ pf ∧ pt < pf - c) ∨ (0 ≤ pt ∧ 0 ≤ pf ∧ pf - c ≤ pt) by omega) with r1 | ⟨r1, r2⟩ | ⟨r1, r2, r3⟩ | ⟨r1, r2, r3⟩
                · have d1 : decide (0 ≤ pt) = false := decide_eq_false (by omega)
                  have hn : Hid (∀ y, y < j + 1 → PotLink ps (lkAt ll y)) := fun y hy => by
                    by_cases e : y = j
                    · subst e; rw [PL.out]; intro h; omega
                    · exact hpl.out y (by omega)
                  go_wp2
                  go_quiet (fail)
                  go_wp2
                  go_roundw
                  case rel => exact ⟨j + 1, by omega, by go_num, hn.out, below_drewN hB' nq⟩
                  case measure => simp [intOf]; omega
                · have E : Hid (verD nq0 ll u b path ps = 18) := NO.out fun hv => by
                    have := hv.1.2.2.2 j (by rw [← H.out]; exact hjm)
                    rw [PL.out] at this; omega
                  go_wp2
                  go_quiet (fail)
                  go_wp2
                  go_ret
                  exact ⟨by rw [E.out]; rfl, b2.trans ((below_drewN hB' nq).mono hsz2)⟩
                · have E : Hid (verD nq0 ll u b path ps = 18) := NO.out fun hv => by
                    have := hv.1.2.2.2 j (by rw [← H.out]; exact hjm)
                    rw [PL.out] at this; omega
                  have d2 : decide (pf < 0) = false := decide_eq_false (by omega)
                  go_wp2
                  go_quiet (fail)
                  go_wp2
                  go_ret
                  exact ⟨by rw [E.out]; rfl, b2.trans ((below_drewN hB' nq).mono hsz2)⟩
                · have d2 : decide (pf < 0) = false := decide_eq_false (by omega)
                  have d3 : decide (pt < pf - c) = false := decide_eq_false (by omega)
                  have hn : Hid (∀ y, y < j + 1 → PotLink ps (lkAt ll y)) := fun y hy => by
                    by_cases e : y = j
                    · subst e; rw [PL.out]; intro h; exact ⟨r2, r3⟩
                    · exact hpl.out y (by omega)
                  go_wp2
                  go_quiet (fail)
                  go_wp2
                  go_roundw
                  case rel => exact ⟨j + 1, by omega, by go_num, hn.out, below_drewN hB' nq⟩
                  case measure => simp [intOf]; omega
              · obtain rfl : m = j := by omega
                have E : Hid (verD nq0 ll u b path ps = 0) := YES.out ⟨⟨HQ.out.symm, HTZ.out, fun i _ => hge0.out i, fun i hi => hpl.out i (by rw [H.out]; exact hi)⟩, by rw [hwt, HSC.out]⟩
                go_wp2
                go_ret
                exact ⟨by rw [E.out]; rfl, b2.trans (hB.mono hsz2)⟩
          · have E : Hid (verD nq0 ll u b path ps = 18) := NO.out fun hv => hsc ((HWK.out _ hv.2).2.symm)
            have dc : (ps[u]?.getD 0 != cost) = true := by simpa using hsc
            go_wp2_with (go_at_call 50; refine (MIN.out _ b2).mono ?_; rintro e w3 ⟨rfl, hw3⟩; obtain rfl := hw3.symm)
            go_ret
            exact ⟨by rw [E.out]; rfl, b2⟩
        · have E : Hid (verD nq0 ll u b path ps = 18) := NO.out fun hv => htz hv.1.2.1
          have dc : (ps[b]?.getD 0 != 0) = true := by simpa using htz
          go_wp2_with (go_at_call 50; refine (MIN.out _ b2).mono ?_; rintro e w3 ⟨rfl, hw3⟩; obtain rfl := hw3.symm)
          go_ret
          exact ⟨by rw [E.out]; rfl, b2⟩
    · have d0 : ((nq0 : Int) != (k : Int)) = true := by simp; omega
      have E : Hid (verD k ll u b path ps = 18) := NO.out fun hv => hlen (by rw [HQ.out]; exact hv.1.1)
      clear hlen
      go_enter Try.func28, Try.ntmps28
      go_wp2_with (first | (go_at_call 39; refine F.out.mono ?_; rintro e w1 ⟨rfl, b1⟩) | (go_at_call 49; refine (LEN.out _ b1).mono ?_; rintro e w2 ⟨rfl, q2⟩))
      go_ret
      exact ⟨by rw [E.out]; rfl, b1.trans ((q2.below _).mono b1.size)⟩
  · have z : (chk2 n ll s t != 0) = true := by simpa using h0
    have E3 : Hid (verD n ll s t path ps = chk2 n ll s t) := by show verD n ll s t path ps = _; rw [verD, if_pos h0]
    clear h0
    generalize chk2 n ll s t = C at *
    go_enter Try.func28, Try.ntmps28
    go_wp2_with (go_at_call 39; refine F.out.mono ?_; rintro e w1 ⟨rfl, b1⟩)
    go_ret
    exact ⟨by rw [E3.out]; rfl, b1⟩
end Go.Proofs.Ytebmachppbpdmaa
