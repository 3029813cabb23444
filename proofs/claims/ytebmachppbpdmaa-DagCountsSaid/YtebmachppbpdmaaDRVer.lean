/- The reference's Verify. -/
import Derived.Test.YtebmachppbpdmaaDPure4
import Derived.Test.YtebmachppbpdmaaDRSh
namespace Go.Proofs.Ytebmachppbpdmaa
open Go.RowKit

set_option maxRecDepth 100000 in
set_option maxHeartbeats 8000000 in
theorem ref_verify_any (n : Int) (a ap aq : Option Addr) (m cap np cp nq0 cq : Nat) (s t : Int) (ll : List Lk) (path ps : List Int) (w : World) (h : Links w a m cap ll) (hp : Ints w ap np cp path) (hq : Ints w aq nq0 cq ps) (hnp : np ≤ 1000) :
    Calls Try.prog 29 #[.int .i64 n, .slice a m cap, .int .i64 s, .int .i64 t, .slice ap np cp, .slice aq nq0 cq] w fun e w' => e = .returned (.int .i64 (verD n ll s t path ps)) ∧ Below w.heap.size w w' := by
  have H := Lib.hid h.len
  have HP := Lib.hid hp.len
  have HQ := Lib.hid hq.len
  by_cases h0 : chk2 n ll s t = 0
  · obtain ⟨k, u, b, rfl, rfl, rfl, hu, hb, hk, hm, hv⟩ := chk2_ok h0
    have F : Hid (Calls Try.prog 46 #[.int .i64 (k : Int), .slice a m cap, .int .i64 (u : Int), .int .i64 (b : Int)] w fun e w' => e = .returned (.int .i64 0) ∧ Below w.heap.size w w') := by
      have := ref_check2_any (k : Int) a m cap ll u b w h
      rw [h0] at this; exact this
    have HV : Hid (Valid k ll) := hv
    have hmm : m ≤ 65536 := by rw [h.len]; exact hm
    have NO : Hid (¬ VerOk ll k u b path ps → verD k ll u b path ps = 18) := fun hn => by rw [verD, if_neg (by omega), Int.toNat_natCast, Int.toNat_natCast, Int.toNat_natCast, if_neg hn]
    have YES : Hid (VerOk ll k u b path ps → verD k ll u b path ps = 0) := fun hn => by rw [verD, if_neg (by omega), Int.toNat_natCast, Int.toNat_natCast, Int.toNat_natCast, if_pos hn]
    clear h0 hv
    by_cases hlen : nq0 = k
    · have d0 : ((nq0 : Int) != (k : Int)) = false := by simp [hlen]
      subst hlen
      obtain ⟨gq, oq, rfl, -, hcq⟩ := hq.at_ (by omega)
      by_cases htz : ps[b]?.getD 0 = 0
      · have cb := hcq.out b hb
        rw [htz] at cb
        have HTZ := Lib.hid htz
        clear htz
        go_enter Try.func29, Try.ntmps29
        go_wp2_with fail
        refine F.out.mono ?_
        rintro e w1 ⟨rfl, b1⟩
        have h1 := h.below b1
        have p1 := hp.below b1
        have q1 := hq.below b1
        have cb1 := cell_later b1 cb
        have hsz1 := b1.size
        clear F cb hcq
        go_wp2
        obtain ⟨wo, rfl⟩ : ∃ wo : World, wo = w1 := ⟨_, rfl⟩
        go_loopw [14] (fun i wr => ∃ q : Nat, q ≤ nq0 ∧ i = .int .i64 q ∧ Hid (∀ j, j < q → -1 ≤ ps[j]?.getD 0) ∧ wr = wo) (fun i _ => nq0 - (intOf i).toNat)
        case atStart => exact ⟨0, Nat.zero_le _, rfl, fun j hj => by omega, rfl⟩
        case round =>
          obtain ⟨q, hqn, rfl, hge, rfl⟩ := hrel
          by_cases hqk : q < nq0
          · obtain ⟨gq, oq, eq, -, hcq⟩ := q1.at_ (by omega)
            cases eq
            have c1 := hcq.out q hqk
            by_cases hneg : ps[q]?.getD 0 < -1
            · have E : Hid (verD nq0 ll u b path ps = 18) := NO.out fun hv => by have := hv.1.2.2.1 q hqk; omega
              go_wp2
              go_ret
              exact ⟨by rw [E.out]; rfl, b1⟩
            · have hge' : Hid (∀ j, j < q + 1 → -1 ≤ ps[j]?.getD 0) := fun j hj => by
                by_cases e : j = q
                · subst e; omega
                · exact hge.out j (by omega)
              go_wp2
              go_roundw
              case rel => exact ⟨q + 1, by omega, by go_num, hge'.out, trivial⟩
              case measure => simp [intOf]; omega
          · obtain rfl : q = nq0 := by omega
            have hge0 : Hid (∀ j : Nat, -1 ≤ ps[j]?.getD 0) := fun j => by
              by_cases hj : j < q
              · exact hge.out j hj
              · rw [List.getElem?_eq_none (by have := HQ.out; omega)]; simp
            clear hge
            go_wp2
            obtain ⟨wo, rfl⟩ : ∃ wo : World, wo = wr := ⟨_, rfl⟩
            go_loopw [15] (fun i wr => ∃ j : Nat, j ≤ m ∧ i = .int .i64 j ∧ Hid (∀ y, y < j → PotLink ps (lkAt ll y)) ∧ Below wo.heap.size wo wr) (fun i _ => m - (intOf i).toNat)
            case atStart => exact ⟨0, Nat.zero_le _, rfl, (fun y hy => by omega), Below.refl _ _⟩
            case round =>
              obtain ⟨j, hj, rfl, hpl, hB⟩ := hrel
              have hsB := hB.size
              by_cases hjm : j < m
              · obtain ⟨f, tt0, c, hx, -, -, -, bb, off, rfl, hbl2, k1, k2, k3⟩ := (h1.below hB).get hjm
                dsimp only at k1 k2 k3
                have hxl : lkAt ll j = (f, tt0, c) := by rw [lkAt, hx]; rfl
                obtain ⟨f', tt, e1, e2, e3, e4, e5, e6⟩ := HV.out j (by rw [← H.out]; exact hjm)
                rw [hxl] at e1 e2 e5 e6
                dsimp only at e1 e2 e5 e6
                subst e1 e2
                have HX := Lib.hid hxl
                clear hx hxl
                have hB' := hB.alloc hsB (.cells #[.int .i64 (f' : Int), .int .i64 (tt : Int), .int .i64 c] 36)
                obtain ⟨gq, oq, eq, -, hcq⟩ := (q1.below hB').at_ (by omega)
                cases eq
                have u1 := hcq.out tt e4
                have u2 := hcq.out f' (by omega)
                have i1 := (q1.i64 f')
                have g1 := hge0.out f'
                have i2 := i1.2
                have sw : IntKind.i64.wrap (ps[f']?.getD 0 - c) = ps[f']?.getD 0 - c := IntWalk.i64_in _ (by omega)
                have PL : Hid (PotLink ps (lkAt ll j) ↔ (0 ≤ ps[tt]?.getD 0 → 0 ≤ ps[f']?.getD 0 ∧ ps[f']?.getD 0 - c ≤ ps[tt]?.getD 0)) := by rw [HX.out]; exact Iff.rfl
                clear i1
                generalize ps[tt]?.getD 0 = pt at *
                generalize ps[f']?.getD 0 = pf at *
                rcases (show pt < 0 ∨ (0 ≤ pt ∧ pf < 0) ∨ (0 ≤ pt ∧ 0 ≤ pf ∧ pt < pf - c) ∨ (0 ≤ pt ∧ 0 ≤ pf ∧ pf - c ≤ pt) by omega) with r1 | ⟨r1, r2⟩ | ⟨r1, r2, r3⟩ | ⟨r1, r2, r3⟩
                · have d1 : decide (0 ≤ pt) = false := decide_eq_false (by omega)
                  have hn : Hid (∀ y, y < j + 1 → PotLink ps (lkAt ll y)) := fun y hy => by
                    by_cases e : y = j
                    · subst e; rw [PL.out]; intro h; omega
                    · exact hpl.out y (by omega)
                  go_wp2
                  go_quiet (fail)
                  go_wp2
                  go_roundw
                  case rel => exact ⟨j + 1, by omega, by go_num, hn.out, below_drewN hB' nq⟩
                  case measure => simp [intOf]; omega
                · have E : Hid (verD q ll u b path ps = 18) := NO.out fun hv => by
                    have := hv.1.2.2.2 j (by rw [← H.out]; exact hjm)
                    rw [PL.out] at this; omega
                  go_wp2
                  go_quiet (fail)
                  go_wp2
                  go_ret
                  exact ⟨by rw [E.out]; rfl, b1.trans ((below_drewN hB' nq).mono hsz1)⟩
                · have E : Hid (verD q ll u b path ps = 18) := NO.out fun hv => by
                    have := hv.1.2.2.2 j (by rw [← H.out]; exact hjm)
                    rw [PL.out] at this; omega
                  have d2 : decide (pf < 0) = false := decide_eq_false (by omega)
                  go_wp2
                  go_quiet (fail)
                  go_wp2
                  go_ret
                  exact ⟨by rw [E.out]; rfl, b1.trans ((below_drewN hB' nq).mono hsz1)⟩
                · have d2 : decide (pf < 0) = false := decide_eq_false (by omega)
                  have d3 : decide (pt < pf - c) = false := decide_eq_false (by omega)
                  have hn : Hid (∀ y, y < j + 1 → PotLink ps (lkAt ll y)) := fun y hy => by
                    by_cases e : y = j
                    · subst e; rw [PL.out]; intro h; exact ⟨r2, r3⟩
                    · exact hpl.out y (by omega)
                  go_wp2
                  go_quiet (fail)
                  go_wp2
                  go_roundw
                  case rel => exact ⟨j + 1, by omega, by go_num, hn.out, below_drewN hB' nq⟩
                  case measure => simp [intOf]; omega
              · obtain rfl : m = j := by omega
                have POK : Hid (PotOk ll q b ps) := ⟨HQ.out.symm, HTZ.out, fun i _ => hge0.out i, fun i hi => hpl.out i (by rw [H.out]; exact hi)⟩
                have b2 := b1.trans (hB.mono hsz1)
                have h2 := h1.below hB
                have p2 := p1.below hB
                have q2 := q1.below hB
                have hsz2 := b2.size
                clear hpl hB h1 p1 q1 hge0 b1 hsz1 cb1
                go_wp2
                obtain ⟨wo2, rfl⟩ : ∃ wo2 : World, wo2 = wr := ⟨_, rfl⟩
                go_loopw [18, 19, 20] (fun av cv i wr => ∃ (y : Nat) (at_ cost : Int), y ≤ np ∧ i = .int .i64 y ∧ av = .int .i64 at_ ∧ cv = .int .i64 cost ∧ 0 ≤ cost ∧ cost ≤ (y : Int) * 1073741824 ∧ Hid (walkP ll u 0 path = walkP ll at_ cost (path.drop y)) ∧ Drew wo2 wr) (fun _ _ i _ => np - (intOf i).toNat)
                case atStart => exact ⟨0, (u : Int), 0, Nat.zero_le _, rfl, rfl, rfl, by omega, by omega, rfl, Drew.refl _⟩
                case round =>
                  obtain ⟨y, at_, cost, hy, rfl, rfl, rfl, hc0, hc1, hwk, hd⟩ := hrel
                  by_cases hyn : y < np
                  · obtain ⟨gp, op, rfl, -, hcp⟩ := (p2.drews hd).at_ (by omega)
                    have c1 := hcp.out y hyn
                    have hyl : y < path.length := by rw [← HP.out]; exact hyn
                    obtain ⟨i, hi⟩ : ∃ i, i = path[y]?.getD 0 := ⟨_, rfl⟩
                    have hpy : Hid (path[y]? = some i) := by show path[y]? = some i; rw [hi, List.getElem?_eq_getElem hyl]; rfl
                    rw [← hi] at c1
                    clear hi hyl
                    by_cases hir : 0 ≤ i ∧ i < m
                    · obtain ⟨ii, rfl⟩ := Int.eq_ofNat_of_zero_le hir.1
                      have him : ii < m := by omega
                      obtain ⟨f, tt0, c, hx, -, -, -, bb, off, rfl, hbl2, k1, k2, k3⟩ := (h2.drews hd).get him
                      dsimp only at k1 k2 k3
                      have hxl : lkAt ll ii = (f, tt0, c) := by rw [lkAt, hx]; rfl
                      obtain ⟨f', tt, e1, e2, e3, e4, e5, e6⟩ := HV.out ii (by rw [← H.out]; exact him)
                      rw [hxl] at e1 e2 e5 e6
                      dsimp only at e1 e2 e5 e6
                      subst e1 e2
                      have HX := Lib.hid hxl
                      have i0 : 0 ≤ (ii : Int) := by omega
                      clear hx hxl hir
                      by_cases hat : (f' : Int) = at_
                      · subst hat
                        have d1 : ((f' : Int) != (f' : Int)) = false := by simp
                        have sw : IntKind.i64.wrap (cost + c) = cost + c := IntWalk.i64_in _ (by omega)
                        have hnext : Hid (walkP ll u 0 path = walkP ll (tt : Int) (cost + c) (path.drop (y + 1))) := by
                          show _ = _
                          rw [hwk.out, walkP_drop hpy.out, if_pos ⟨by omega, by have := H.out; omega, by rw [Int.toNat_natCast, HX.out]⟩]
                          rw [Int.toNat_natCast, HX.out]
                        go_wp2
                        go_quiet (fail)
                        go_wp2
                        go_roundw
                        case rel => exact ⟨y + 1, tt, cost + c, by omega, by go_num, rfl, rfl, by omega, by omega, hnext.out, hd.drewN _⟩
                        case measure => simp [intOf]; omega
                      · have d1 : ((f' : Int) != at_) = true := by simpa using hat
                        have E : Hid (verD q ll u b path ps = 18) := NO.out fun hv => by
                          have h2 := hv.2
                          rw [hwk.out, walkP_drop hpy.out, if_neg (by rintro ⟨_, _, h3⟩; rw [Int.toNat_natCast, HX.out] at h3; exact hat h3)] at h2
                          cases h2
                        clear hat
                        go_wp2
                        go_ret
                        exact ⟨by rw [E.out]; rfl, b2.trans (hd.below _)⟩
                    · have E : Hid (verD q ll u b path ps = 18) := NO.out fun hv => by
                        have h2 := hv.2
                        rw [hwk.out, walkP_drop hpy.out, if_neg (by rintro ⟨h3, h4, _⟩; exact hir ⟨h3, by have := H.out; omega⟩)] at h2
                        cases h2
                      rcases (show i < 0 ∨ (0 ≤ i ∧ (m : Int) ≤ i) by omega) with r1 | ⟨r1, r2⟩
                      · clear hir
                        go_wp2
                        go_ret
                        exact ⟨by rw [E.out]; rfl, b2.trans (hd.below _)⟩
                      · clear hir
                        go_wp2
                        go_ret
                        exact ⟨by rw [E.out]; rfl, b2.trans (hd.below _)⟩
                  · obtain rfl : y = np := by omega
                    have hend : Hid (walkP ll u 0 path = some (at_, cost)) := by
                      show _ = _
                      rw [hwk.out, List.drop_eq_nil_of_le (by have := HP.out; omega)]; rfl
                    obtain ⟨gq, oq, eq, -, hcq⟩ := (q2.drews hd).at_ (by omega)
                    cases eq
                    have c1 := hcq.out u hu
                    have b4 := b2.trans (hd.below w.heap.size)
                    by_cases hat : at_ = (b : Int)
                    · subst hat
                      have d1 : ((b : Int) != (b : Int)) = false := by simp
                      by_cases hcs : cost = ps[u]?.getD 0
                      · have d2 : (cost != ps[u]?.getD 0) = false := by simpa using hcs
                        have E : Hid (verD q ll u b path ps = 0) := YES.out ⟨POK.out, by rw [hend.out, hcs]⟩
                        clear hcs
                        go_wp2
                        go_ret
                        exact ⟨by rw [E.out]; rfl, b4⟩
                      · have d2 : (cost != ps[u]?.getD 0) = true := by simpa using hcs
                        have E : Hid (verD q ll u b path ps = 18) := NO.out fun hv => by
                          have h2 := hv.2
                          rw [hend.out] at h2
                          simp only [Option.some.injEq, Prod.mk.injEq] at h2
                          exact hcs h2.2
                        clear hcs
                        go_wp2
                        go_ret
                        exact ⟨by rw [E.out]; rfl, b4⟩
                    · have d1 : (at_ != (b : Int)) = true := by simpa using hat
                      have E : Hid (verD q ll u b path ps = 18) := NO.out fun hv => by
                        have h2 := hv.2
                        rw [hend.out] at h2
                        simp only [Option.some.injEq, Prod.mk.injEq] at h2
                        exact hat h2.1
                      clear hat
                      go_wp2
                      go_ret
                      exact ⟨by rw [E.out]; rfl, b4⟩
      · have cb := hcq.out b hb
        have d1 : (ps[b]?.getD 0 != 0) = true := by simpa using htz
        have E : Hid (verD nq0 ll u b path ps = 18) := NO.out fun hv => htz hv.1.2.1
        clear htz
        go_enter Try.func29, Try.ntmps29
        go_wp2_with fail
        refine F.out.mono ?_
        rintro e w1 ⟨rfl, b1⟩
        have cb1 := cell_later b1 cb
        go_wp2
        go_ret
        exact ⟨by rw [E.out]; rfl, b1⟩
    · have d0 : ((nq0 : Int) != (k : Int)) = true := by simp; omega
      have E : Hid (verD k ll u b path ps = 18) := NO.out fun hv => hlen (by rw [HQ.out]; exact hv.1.1)
      clear hlen
      go_enter Try.func29, Try.ntmps29
      go_wp2_with (go_at_call 46; refine F.out.mono ?_; rintro e w1 ⟨rfl, b1⟩)
      go_ret
      exact ⟨by rw [E.out]; rfl, b1⟩
  · have F := Lib.hid (ref_check2_any n a m cap ll s t w h)
    have z : (chk2 n ll s t != 0) = true := by simpa using h0
    have E3 : Hid (verD n ll s t path ps = chk2 n ll s t) := by show verD n ll s t path ps = _; rw [verD, if_pos h0]
    clear h0
    generalize chk2 n ll s t = C at *
    go_enter Try.func29, Try.ntmps29
    go_wp2_with (go_at_call 46; refine F.out.mono ?_; rintro e w1 ⟨rfl, b1⟩)
    go_ret
    exact ⟨by rw [E3.out]; rfl, b1⟩
end Go.Proofs.Ytebmachppbpdmaa
