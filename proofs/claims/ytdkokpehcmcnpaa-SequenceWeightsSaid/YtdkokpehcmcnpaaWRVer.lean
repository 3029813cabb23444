/- The reference's Verify. -/
import Derived.Test.YtdkokpehcmcnpaaWOrd
import Derived.Test.YtdkokpehcmcnpaaPureA
namespace Go.Proofs.Ytdkokpehcmcnpaa
open Go.RowKit

set_option maxRecDepth 100000 in
set_option maxHeartbeats 8000000 in
theorem ref_verify_any (a ai ac : Option Addr) (n cap ni ci nc cc : Nat) (l ind : List Int) (cov : List (List Int)) (w : World) (h : Ints w a n cap l) (hi : Ints w ai ni ci ind) (hv : Intss w ac nc cc cov)
    (hM : ∀ s ∈ cov, s.length ≤ 2000) (hnc : nc ≤ 2000) :
    Calls Try.prog 38 #[.slice a n cap, .slice ai ni ci, .slice ac nc cc] w fun e w' => e = .returned (.int .i64 (verE l ind cov)) ∧ Below w.heap.size w w' := by
  have H := Lib.hid h.len
  have HI := Lib.hid hi.len
  have HV := Lib.hid hv.len
  have HM := Lib.hid hM
  clear hM
  have h8 := h.bound
  have h9 := hi.bound
  have h10 := hv.bound
  by_cases hlong : 1024 < n
  · have E : Hid (verE l ind cov = 4) := verE_long (by rw [← H.out]; exact hlong)
    go_enter Try.func38, Try.ntmps38
    go_wp2
    go_ret
    exact ⟨by rw [E.out]; rfl, Below.refl _ _⟩
  · have HL : Hid (¬ 1024 < l.length) := by show ¬ 1024 < l.length; rw [← H.out]; exact hlong
    have hno : ¬ verOk l ind cov → verE l ind cov = 18 := verE_no HL.out
    have HNO := Lib.hid hno
    clear hno
    cases hord : ordB l true ind with
    | false =>
      have F : Hid (Calls Try.prog 62 #[.slice a n cap, .slice ai ni ci] w fun e w' => e = .returned (.bool false) ∧ Drew w w') := by
        have := ref_increasing_ok a ai n cap ni ci l ind w h hi
        rw [hord] at this; exact this
      have E : Hid (verE l ind cov = 18) := HNO.out (fun hh => by have := hh.2.1; rw [hord] at this; cases this)
      clear hord
      go_enter Try.func38, Try.ntmps38
      go_wp2_with (go_at_call 62; refine F.out.mono ?_; rintro e w2 ⟨rfl, hd⟩)
      go_ret
      exact ⟨by rw [E.out]; rfl, hd.below _⟩
    | true =>
      have F : Hid (Calls Try.prog 62 #[.slice a n cap, .slice ai ni ci] w fun e w' => e = .returned (.bool true) ∧ Drew w w') := by
        have := ref_increasing_ok a ai n cap ni ci l ind w h hi
        rw [hord] at this; exact this
      have HORD := Lib.hid hord
      clear hord
      by_cases hne : ni = nc
      · subst hne
        have enm : ((ni : Int) != (ni : Int)) = false := by simp
        obtain ⟨i0, ji, jz0, jz1, jz2⟩ := info_parts Try.infoInt
        go_enter Try.func38, Try.ntmps38
        go_wp2_with (first | (go_at_call 62; refine F.out.mono ?_; rintro e w2 ⟨rfl, hd⟩; obtain ⟨nq, rfl⟩ := hd) | (at_make; refine wpList_make_full _ rfl _ _ 22 rfl w.heap.size 3 i0 (.int .i64 0) 1 Try.underlying22 ji jz0 jz1 .i64 .i64 n n n rfl rfl rfl rfl (by rw [jz2]; omega) (by unfold maxLen; omega) (by simp) ?_; intro w1 hrow hg))
        have hb : Below w.heap.size w w1 := (below_drewN (Below.refl _ w) nq).grown hg (by simp) (by simp)
        have ho : OwnI w1 w.heap.size (some ⟨w.heap.size, 0, none⟩) n n (List.replicate n 0) := OwnI.made (by simpa using hrow)
        clear hrow hg
        go_loopw [8] (fun i wr => ∃ (k : Nat) (ct : List Int), k ≤ ni ∧ i = .int .i64 (k : Int) ∧ OwnI wr w.heap.size (some ⟨w.heap.size, 0, none⟩) n n ct ∧ Hid (CountF n (cov.take k).flatten ct) ∧
            Hid (∀ j, j < k → ordB l false (cov[j]?.getD []) = true ∧ cov[j]?.getD [] ≠ []) ∧ Below w.heap.size w wr) (fun i _ => ni - (intOf i).toNat)
        case atStart => exact ⟨0, _, Nat.zero_le _, rfl, ho, CountF.start n, (fun j hj => by omega), hb⟩
        case round =>
          clear ho hb w1
          obtain ⟨k, ct, hk, rfl, ho, hct, hos, hB⟩ := hrel
          by_cases hlt : k < ni
          · obtain ⟨b, off, rfl, hbs, hc⟩ := hv.at_ (by omega)
            obtain ⟨sa, ns, cs, c1, i1⟩ := hc.out k hlt
            have c1' := cell_later hB c1
            have hns := i1.len
            have HNS := Lib.hid hns
            have hb8 := i1.bound
            clear hns c1
            by_cases hns0 : ns = 0
            · have E : Hid (verE l ind cov = 18) := HNO.out (fun hh => by
                have hkc : k < cov.length := by rw [← HV.out]; exact hlt
                have := (hh.2.2.1 _ (List.getElem_mem hkc)).1
                apply this
                have h2 := HNS.out
                rw [List.getElem?_eq_getElem hkc, Option.getD_some] at h2
                exact List.eq_nil_of_length_eq_zero (by omega))
              subst hns0
              go_wp2
              go_ret
              exact ⟨by rw [E.out]; rfl, hB⟩
            · have ens : ((ns : Int) == 0) = false := by simp; omega
              have hnemp : Hid (cov[k]?.getD [] ≠ []) := fun e => hns0 (by rw [HNS.out, e]; rfl)
              clear hns0
              go_wp2
              obtain ⟨wo, rfl⟩ : ∃ wo : World, wo = wr := ⟨_, rfl⟩
              obtain ⟨F0, hF0⟩ : ∃ F0, F0 = (cov.take k).flatten := ⟨_, rfl⟩
              have HF0 := Lib.hid hF0
              rw [← hF0] at hct
              have hFl : F0.length ≤ k * 2000 := by rw [hF0]; exact take_len HM.out k
              clear hF0
              obtain ⟨s, hs0⟩ : ∃ s, s = cov[k]?.getD [] := ⟨_, rfl⟩
              have HS0 := Lib.hid hs0
              rw [← hs0] at i1 HNS hnemp
              have hns2 : ns ≤ 2000 := by
                rw [HNS.out, hs0, List.getElem?_eq_getElem (by rw [← HV.out]; exact hlt)]
                exact HM.out _ (List.getElem_mem _)
              clear hs0
              go_loopw [10] (fun i wr => ∃ (j : Nat) (ct : List Int), j ≤ ns ∧ i = .int .i64 (j : Int) ∧ OwnI wr w.heap.size (some ⟨w.heap.size, 0, none⟩) n n ct ∧ Hid (CountF n (F0 ++ s.take j) ct) ∧ Hid (Ord l false s j) ∧ Below w.heap.size w wr) (fun i _ => ns - (intOf i).toNat)
              case atStart => exact ⟨0, ct, Nat.zero_le _, rfl, ho, (by have := hct.out; show CountF _ _ _; simpa using this), (fun t ht => by omega), hB⟩
              case round =>
                clear ho hct hB c1' ct
                obtain ⟨j, ct, hj, rfl, ho, hct, hoj, hB⟩ := hrel
                by_cases hjl : j < ns
                · obtain ⟨b3, off3, rfl, -, hc3⟩ := (i1.below hB).at_ (by omega)
                  have c1 := hc3.out j hjl
                  by_cases hx0 : s[j]?.getD 0 < 0
                  · have E : Hid (verE l ind cov = 18) := HNO.out (not_ord (by rw [← HV.out]; exact hlt) (by rw [← HS0.out]; exact ordB_no (k := j) (by rw [← HNS.out]; exact hjl) (fun hh => by omega)))
                    go_wp2
                    go_quiet (fail)
                    go_wp2
                    go_ret
                    exact ⟨by rw [E.out]; rfl, below_drewN hB _⟩
                  · by_cases hxn : (n : Int) ≤ s[j]?.getD 0
                    · have d0 : decide (s[j]?.getD 0 < 0) = false := decide_eq_false hx0
                      have E : Hid (verE l ind cov = 18) := HNO.out (not_ord (by rw [← HV.out]; exact hlt) (by rw [← HS0.out]; exact ordB_no (k := j) (by rw [← HNS.out]; exact hjl) (fun hh => by have := H.out; omega)))
                      clear hx0
                      go_wp2
                      go_quiet (fail)
                      go_wp2
                      go_ret
                      exact ⟨by rw [E.out]; rfl, below_drewN hB _⟩
                    · obtain ⟨x, hx⟩ := Int.eq_ofNat_of_zero_le (show 0 ≤ s[j]?.getD 0 by omega)
                      have hxl : x < n := by omega
                      rw [hx] at c1
                      have d0 : decide ((x : Int) < 0) = false := decide_eq_false (by omega)
                      have d1 : decide ((n : Int) ≤ (x : Int)) = false := decide_eq_false (by omega)
                      have d2 : decide (n ≤ x) = false := decide_eq_false (by omega)
                      have HX := Lib.hid hx
                      clear hx hx0 hxn
                      have c5 := ho.cell x hxl
                      have f5 := ho.free x
                      have hcv := hct.out.2 x hxl
                      have hcle : ((F0 ++ s.take j).count (x : Int)) ≤ 4100000 := by
                        refine Nat.le_trans List.count_le_length ?_
                        rw [List.length_append, List.length_take]
                        have : k * 2000 ≤ 2000 * 2000 := Nat.mul_le_mul (by omega) (Nat.le_refl _)
                        omega
                      have v0 : 0 ≤ ct[x]?.getD 0 := by rw [hcv]; omega
                      have v1 : ct[x]?.getD 0 ≤ 4100000 := by rw [hcv]; omega
                      have ET := Lib.hid (take_step F0 (show j < s.length by rw [← HNS.out]; exact hjl))
                      have HN : Hid (CountF n (F0 ++ s.take (j + 1)) (ct.set x (ct[x]?.getD 0 + 1))) := by
                        show CountF _ _ _
                        rw [ET.out, HX.out]; exact hct.out.step hxl
                      clear hcv hcle
                      by_cases hj0 : 0 < j
                      · have hprev := hoj.out (j - 1) (by omega)
                        obtain ⟨y, hy⟩ := Int.eq_ofNat_of_zero_le hprev.1
                        have hyl : y < n := by have := hprev.2.1; have := H.out; omega
                        have c2 := hc3.out (j - 1) (by omega)
                        rw [hy] at c2
                        have HY := Lib.hid hy
                        clear hy hprev
                        obtain ⟨bl, offl, rfl, -, hcl⟩ := (h.below hB).at_ (by omega)
                        have c3 := hcl.out x hxl
                        have c4 := hcl.out y hyl
                        have i0k : (0 : Int) < (j : Int) := by omega
                        by_cases hxy : x ≤ y
                        · have E : Hid (verE l ind cov = 18) := HNO.out (not_ord (by rw [← HV.out]; exact hlt) (by rw [← HS0.out]; exact ordB_no (k := j) (by rw [← HNS.out]; exact hjl) (fun hh => by have := (hh.2.2 hj0).1; rw [HX.out, HY.out] at this; omega)))
                          have i1' : (x : Int) ≤ (y : Int) := by omega
                          go_wp2
                          go_quiet (fail)
                          go_wp2
                          go_ret
                          exact ⟨by rw [E.out]; rfl, below_drewN hB _⟩
                        · have d3 : decide (x ≤ y) = false := decide_eq_false hxy
                          have hyx : y < x := by omega
                          have e1 : fitR false (elemAt l (s[j - 1]?.getD 0)) (elemAt l (s[j]?.getD 0)) = fitR false (l[y]?.getD 0) (l[x]?.getD 0) := by rw [HX.out, HY.out]; rfl
                          clear hxy
                          by_cases hf : l[y]?.getD 0 < l[x]?.getD 0
                          · have hfb : fitR false (l[y]?.getD 0) (l[x]?.getD 0) = false := by simp [fitR]; omega
                            rw [hfb] at e1
                            have E : Hid (verE l ind cov = 18) := HNO.out (not_ord (by rw [← HV.out]; exact hlt) (by rw [← HS0.out]; exact ordB_no (k := j) (by rw [← HNS.out]; exact hjl) (fun hh => by have := (hh.2.2 hj0).2; rw [e1] at this; cases this)))
                            clear e1 hfb
                            go_wp2
                            go_quiet (fail)
                            go_wp2
                            go_ret
                            exact ⟨by rw [E.out]; rfl, below_drewN hB _⟩
                          · have hfb : fitR false (l[y]?.getD 0) (l[x]?.getD 0) = true := by simp [fitR]; omega
                            rw [hfb] at e1
                            have HST : Hid (Ord l false s (j + 1)) := hoj.out.step (by rw [HX.out]; omega) (by rw [HX.out, ← H.out]; omega) (fun _ => ⟨by rw [HX.out, HY.out]; omega, e1⟩)
                            have d6 : decide (l[y]?.getD 0 < l[x]?.getD 0) = false := decide_eq_false hf
                            clear e1 hfb hf
                            go_wp2
                            go_quiet (fail)
                            go_wp2
                            go_roundw
                            case rel => exact ⟨j + 1, _, by omega, by go_num, (ho.drewN nq).stored x _, HN.out, HST.out, (below_drewN hB nq).setCell (Nat.le_refl _) _⟩
                            case measure => simp [intOf]; omega
                      · have d4 : decide ((0 : Int) < (j : Int)) = false := decide_eq_false (by omega)
                        have HST : Hid (Ord l false s (j + 1)) := hoj.out.step (by rw [HX.out]; omega) (by rw [HX.out, ← H.out]; omega) (fun hh => absurd hh hj0)
                        go_wp2
                        go_quiet (fail)
                        go_wp2
                        go_roundw
                        case rel => exact ⟨j + 1, _, by omega, by go_num, (ho.drewN nq).stored x _, HN.out, HST.out, (below_drewN hB nq).setCell (Nat.le_refl _) _⟩
                        case measure => simp [intOf]; omega
                · have e1 : Hid ((cov.take (k + 1)).flatten = F0 ++ s.take j) := by
                    show (cov.take (k + 1)).flatten = F0 ++ s.take j
                    rw [take_flat (by rw [← HV.out]; exact hlt), ← HF0.out, ← HS0.out, List.take_of_length_le (by rw [← HNS.out]; omega)]
                  have HOK : Hid (ordB l false s = true) := ordB_yes (k := j) (by rw [← HNS.out]; omega) hoj.out
                  go_wp2
                  go_roundw
                  case rel =>
                    exact ⟨k + 1, ct, by omega, by go_num, ho, by rw [e1.out]; exact hct.out, (fun t ht => by
                      by_cases e : t = k
                      · rw [e, ← HS0.out]; exact ⟨HOK.out, hnemp.out⟩
                      · exact hos.out t (by omega)), hB⟩
                  case measure => simp [intOf]; omega
          · obtain rfl : k = ni := by omega
            have hall : (cov.take k).flatten = cov.flatten := by rw [HV.out, List.take_length]
            rw [hall] at hct
            have HIFF : Hid (verOk l ind cov ↔ noEmpty cov = true ∧ Once l.length cov.flatten) := verOk_iff (by rw [← HI.out, HV.out]) HORD.out (fun j hj => (hos.out j (by rw [HV.out]; exact hj)).1)
            have HNE : Hid (noEmpty cov = true) := decide_eq_true (fun j hj => (hos.out j (by rw [HV.out]; exact hj)).2)
            have HC := Lib.hid ho.cell
            clear hall
            go_wp2
            obtain ⟨wo, rfl⟩ : ∃ wo : World, wo = wr := ⟨_, rfl⟩
            go_loopw [11] (fun i wr => ∃ t : Nat, t ≤ n ∧ i = .int .i64 (t : Int) ∧ Hid (∀ v : Nat, v < t → cov.flatten.count (v : Int) = 1) ∧ wr = wo) (fun i _ => n - (intOf i).toNat)
            case atStart => exact ⟨0, Nat.zero_le _, rfl, (fun v hv => by omega), rfl⟩
            case round =>
              obtain ⟨t, ht, rfl, hall, rfl⟩ := hrel
              by_cases htl : t < n
              · have c1 := HC.out t htl
                have hcv := hct.out.2 t htl
                by_cases h1 : ct[t]?.getD 0 = 1
                · have e1 : (ct[t]?.getD 0 != 1) = false := by simp [h1]
                  have HT : Hid (cov.flatten.count (t : Int) = 1) := by show _ = 1; rw [h1] at hcv; omega
                  clear h1 hcv
                  go_wp2
                  go_roundw
                  case rel => exact ⟨t + 1, by omega, by go_num, (fun v hv => by
                    by_cases e : v = t
                    · rw [e]; exact HT.out
                    · exact hall.out v (by omega)), trivial⟩
                  case measure => simp [intOf]; omega
                · have e1 : (ct[t]?.getD 0 != 1) = true := by simp [h1]
                  have E : Hid (verE l ind cov = 18) := HNO.out (fun hh => by
                    have := hh.2.2.2 t (by rw [← H.out]; exact htl)
                    exact h1 (by rw [hcv, this]; rfl))
                  clear h1 hcv
                  go_wp2
                  go_ret
                  exact ⟨by rw [E.out]; rfl, hB⟩
              · have E : Hid (verE l ind cov = 0) := verE_yes HL.out (HIFF.out.2 ⟨HNE.out, fun v hv => hall.out v (by have := H.out; omega)⟩)
                go_wp2
                go_ret
                exact ⟨by rw [E.out]; rfl, hB⟩
      · have enm : ((ni : Int) != (nc : Int)) = true := by simp; omega
        have E : Hid (verE l ind cov = 18) := HNO.out (fun hh => hne (by rw [HI.out, HV.out]; exact hh.1))
        clear hne
        go_enter Try.func38, Try.ntmps38
        go_wp2_with (go_at_call 62; refine F.out.mono ?_; rintro e w2 ⟨rfl, hd⟩)
        go_ret
        exact ⟨by rw [E.out]; rfl, hd.below _⟩
end Go.Proofs.Ytdkokpehcmcnpaa
