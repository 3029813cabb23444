/- The reference's heaviest and first: the first heaviest increasing subsequence. -/
import Derived.Test.YtdkokpehcmcnpaaPure6
namespace Go.Proofs.Ytdkokpehcmcnpaa
open Go.RowKit

theorem OwnI.lit0 (w : World) (B : Nat) (hB : B ≤ w.heap.size) : OwnI (w.alloc (.cells #[] 3)) B (some ⟨w.heap.size, 0, none⟩) 0 0 [] :=
  ⟨rfl, World.ownsRow_made w #[] 0 hB (Nat.zero_le _) rfl⟩

set_option maxHeartbeats 1000000 in
theorem heaviest_any (a av : Option Addr) (n cap capw : Nat) (l wt : List Int) (w : World) (h : Ints w a n cap l) (hv : Ints w av n capw wt) (hm : n ≤ 1024) (hw : Light wt n) :
    Calls Try.prog 67 #[.slice a n cap, .slice av n capw] w fun e w' => ∃ (S : List Int) (g : Nat), e = .returned (.slice (some ⟨g, 0, none⟩) n n) ∧
      SumsFrom l wt S 0 ∧ OwnI w' w.heap.size (some ⟨g, 0, none⟩) n n S ∧ Below w.heap.size w w' := by
  have H := Lib.hid h.len
  have h8 := h.bound
  have h9 := hv.bound
  obtain ⟨i0, hi, hz0, hz1, hz2⟩ := info_parts Try.infoInt
  go_enter Try.func67, Try.ntmps67
  go_wp2_with (at_make; refine wpList_make_full _ rfl _ _ 22 rfl w.heap.size 3 i0 (.int .i64 0) 1 Try.underlying22 hi hz0 hz1 .i64 .i64 n n n rfl rfl rfl rfl (by rw [hz2]; omega) (by unfold maxLen; omega) (Nat.le_refl _) ?_; intro w1 hrow hg)
  have h1 : Below w.heap.size w w1 := (Below.refl _ w).grown hg (Nat.le_refl _) (by simp)
  have hr1 : OwnI w1 w.heap.size (some ⟨w.heap.size, 0, none⟩) n n (List.replicate n 0) := OwnI.made (by simpa using hrow)
  clear hrow hg
  have hS0 : Hid (SumsFrom l wt (List.replicate n 0) n) := ⟨by simp [H.out], fun j h1 h2 => by have := H.out; omega⟩
  have hl1 : Hid (l.length ≤ 1024) := by have := H.out; show l.length ≤ 1024; omega
  go_loopw [6] (fun i wr => ∃ (m : Nat) (S : List Int), m ≤ n ∧ i = .int .i64 ((m : Int) - 1) ∧ Hid (SumsFrom l wt S m) ∧ OwnI wr w.heap.size (some ⟨w.heap.size, 0, none⟩) n n S ∧ Below w.heap.size w wr) (fun i _ => (intOf i + 1).toNat)
  case atStart => exact ⟨n, List.replicate n 0, Nat.le_refl _, rfl, hS0, hr1, h1⟩
  case round =>
    clear hr1 h1 hS0 w1
    obtain ⟨m, S, hmn, rfl, hS, ho, hB⟩ := hrel
    have hI := h.below hB
    have hV := hv.below hB
    by_cases hpos : 0 < m
    · obtain ⟨j, rfl⟩ : ∃ j, m = j + 1 := ⟨m - 1, by omega⟩
      rw [show ((j + 1 : Nat) : Int) - 1 = (j : Int) from by omega]
      have HC := Lib.hid ho.cell
      have hf := ho.free j
      have j0 : (0 : Int) ≤ (j : Int) := by omega
      have j1 : (j : Int) < (n : Int) := by omega
      have w0 := (hw.2 j).1
      have w1 := (hw.2 j).2
      go_wp2
      obtain ⟨wo, rfl⟩ : ∃ wo : World, wo = wr := ⟨_, rfl⟩
      go_loopw [7, 8] (fun b k wr => ∃ t : Nat, j + 1 + t ≤ n ∧ k = .int .i64 (j + 1 + t : Nat) ∧ b = .int .i64 (aft l S j t) ∧ Drew wo wr) (fun _ k _ => n - (intOf k).toNat)
      case atStart => exact ⟨0, by omega, by go_num, rfl, Drew.refl _⟩
      case round =>
        obtain ⟨t, ht, rfl, rfl, hq⟩ := hrel
        obtain ⟨k, hk⟩ : ∃ k, k = j + 1 + t := ⟨_, rfl⟩
        rw [← hk]
        have HK := Lib.hid hk
        have hjk : j < k := by omega
        have hkn : k ≤ n := by omega
        clear hk ht
        by_cases hlt : k < n
        · obtain ⟨b, off, rfl, -, hcl⟩ := (hI.drews hq).at_ (by omega)
          have c1 := hcl.out j (by omega)
          have c2 := hcl.out k (by omega)
          have c3 := cell_later (hq.below wo.heap.size) (HC.out k (by omega))
          by_cases hx : l[j]?.getD 0 < l[k]?.getD 0
          · have e1 : Hid (aft l S j (t + 1) = max (aft l S j t) (S[k]?.getD 0)) := by have := HK.out; subst this; exact aft_yes hx
            by_cases hb : aft l S j t < S[k]?.getD 0
            · go_wp2
              go_quiet (fail)
              go_wp2
              go_roundw
              case rel => exact ⟨t + 1, by have := HK.out; omega, by have := HK.out; go_num, by rw [e1.out, Int.max_eq_right (by omega)], hq.drewN _⟩
              case measure => simp [intOf]; omega
            · have hb2 : decide (aft l S j t < S[k]?.getD 0) = false := by simpa using hb
              go_wp2
              go_quiet (fail)
              go_wp2
              go_roundw
              case rel => exact ⟨t + 1, by have := HK.out; omega, by have := HK.out; go_num, by rw [e1.out, Int.max_eq_left (by omega)], hq.drewN _⟩
              case measure => simp [intOf]; omega
          · have e1 : Hid (aft l S j (t + 1) = aft l S j t) := by have := HK.out; subst this; exact aft_no hx
            have hx2 : decide (l[j]?.getD 0 < l[k]?.getD 0) = false := by simpa using hx
            go_wp2
            go_quiet (fail)
            go_wp2
            go_roundw
            case rel => exact ⟨t + 1, by have := HK.out; omega, by have := HK.out; go_num, by rw [e1.out], hq.drewN _⟩
            case measure => simp [intOf]; omega
        · have et : t = l.length - 1 - j := by have := HK.out; have := H.out; omega
          have ET := Lib.hid et
          have a0 := aft_nonneg (l := l) (S := S) (i := j) t
          have a1 : aft l S j t ≤ 1073741824 := by rw [et]; exact hS.out.aft_le hw hl1.out
          clear et
          have aw : IntKind.i64.wrap (wt[j]?.getD 0 + aft l S j t) = wt[j]?.getD 0 + aft l S j t := IntWalk.i64_in _ (by omega)
          obtain ⟨bv, offv, rfl, -, hcv⟩ := (hV.drews hq).at_ (by omega)
          have c4 := hcv.out j (by omega)
          obtain ⟨nq, rfl⟩ := hq
          have c5 := HC.out j (by omega)
          go_wp2
          go_roundw
          case rel =>
            obtain ⟨s1, -⟩ := sums_step (wt := wt) hS.out (by have := H.out; omega)
            rw [← ET.out] at s1
            exact ⟨j, _, by omega, rfl, s1, (ho.drewN nq).stored j _, (below_drewN hB nq).setCell (Nat.le_refl _) _⟩
          case measure => simp [intOf]
    · obtain rfl : m = 0 := by omega
      rw [show ((0 : Nat) : Int) - 1 = -1 from rfl]
      go_wp2
      go_ret
      exact ⟨S, _, rfl, hS.out, ho, hB⟩

set_option maxHeartbeats 1000000 in
theorem first_any (a av : Option Addr) (n cap capw : Nat) (l wt : List Int) (w : World) (h : Ints w a n cap l) (hv : Ints w av n capw wt) (hm : n ≤ 1024) (hw : Light wt n) :
    Calls Try.prog 47 #[.slice a n cap, .slice av n capw] w fun e w' => ∃ (S : List Int) (a' : Option Addr) (q cap' : Nat), e = .returned (.tuple #[.slice a' q cap', .int .i64 (top S 0)]) ∧
      SumsFrom l wt S 0 ∧ OwnI w' w.heap.size a' q cap' (picks l wt S (top S 0) n).1 ∧ Below w.heap.size w w' := by
  have H := Lib.hid h.len
  have h8 := h.bound
  have h9 := hv.bound
  obtain ⟨i0, hi, hz0, hz1, hz2⟩ := info_parts Try.infoInt
  go_enter Try.func47, Try.ntmps47
  go_wp2_with (go_at_call 67; refine (heaviest_any a av n cap capw l wt w h hv hm hw).mono ?_; rintro e w1 ⟨S, g, rfl, hS, ho, hB⟩)
  have HS : Hid (SumsFrom l wt S 0) := hS
  have HSL : Hid (n = S.length) := by show n = S.length; rw [hS.1]; exact H.out
  have hlight : Hid (l.length ≤ 1024) := by have := H.out; show l.length ≤ 1024; omega
  clear hS
  have HC := Lib.hid ho.cell
  have hw1 := hB.size
  go_loopw [7, 8] (fun t i wr => ∃ k : Nat, k ≤ n ∧ i = .int .i64 k ∧ t = .int .i64 (topTo S k) ∧ wr = w1) (fun _ i _ => n - (intOf i).toNat)
  case atStart => exact ⟨0, Nat.zero_le _, rfl, rfl, rfl⟩
  case round =>
    obtain ⟨k, hk, rfl, rfl, rfl⟩ := hrel
    by_cases hlt : k < n
    · have c1 := HC.out k hlt
      by_cases hx : topTo S k < S[k]?.getD 0
      · have e1 := Lib.hid (topTo_yes (by rw [← HSL.out]; exact hlt) hx)
        go_wp2
        go_roundw
        case rel => exact ⟨k + 1, by omega, by go_num, by rw [e1.out], trivial⟩
        case measure => simp [intOf]; omega
      · have e1 := Lib.hid (topTo_no (by rw [← HSL.out]; exact hlt) hx)
        go_wp2
        go_roundw
        case rel => exact ⟨k + 1, by omega, by go_num, by rw [e1.out], trivial⟩
        case measure => simp [intOf]; omega
    · obtain rfl : k = n := by omega
      have et : topTo S k = top S 0 := by rw [HSL.out]; exact topTo_all S
      rw [et]
      clear et
      have ht : top S 0 ≤ 1073741824 := HS.out.top_le hw hlight.out
      have ht0 := top_nonneg S 0
      go_wp2
      obtain ⟨wo, rfl⟩ : ∃ wo : World, wo = wr := ⟨_, rfl⟩
      have L0 := OwnI.lit0 wo wo.heap.size (Nat.le_refl _)
      have BL := (Below.refl wo.heap.size wo).alloc (Nat.le_refl _) (.cells #[] 3)
      go_loopw [9, 10, 11] (fun o t i wr => ∃ (m : Nat) (a' : Option Addr) (q cap' : Nat), m ≤ k ∧ i = .int .i64 m ∧ t = .int .i64 (picks l wt S (top S 0) m).2 ∧ o = .slice a' q cap' ∧
          OwnI wr wo.heap.size a' q cap' (picks l wt S (top S 0) m).1 ∧ Below wo.heap.size wo wr) (fun _ _ i _ => k - (intOf i).toNat)
      case atStart => exact ⟨0, _, 0, 0, Nat.zero_le _, rfl, rfl, rfl, L0, BL⟩
      case round =>
        clear L0 BL
        obtain ⟨m, a', q, cap', hm', rfl, rfl, rfl, hO, hb⟩ := hrel
        have hI2 : Ints _ a k cap l := (h.below hB).below hb
        have hV2 : Ints _ av k capw wt := (hv.below hB).below hb
        have hql := hO.len
        have HQ := Lib.hid hql
        clear hql
        have hqk : q ≤ m := by rw [HQ.out]; exact picks_length _
        have hpl : (picks l wt S (top S 0) m).2 ≤ 1073741824 := Int.le_trans (picks_le (fun j => (hw.2 j).1) m) ht
        by_cases hmk : m < k
        · by_cases hleft : 0 < (picks l wt S (top S 0) m).2
          · have c3 := cell_later hb (HC.out m hmk)
            obtain ⟨bb, off, rfl, -, hcl⟩ := hI2.at_ (by omega)
            obtain ⟨bv, offv, rfl, -, hcv⟩ := hV2.at_ (by omega)
            have c4 := hcl.out m hmk
            have w0 := (hw.2 m).1
            have w1 := (hw.2 m).2
            by_cases hS1 : S[m]?.getD 0 = (picks l wt S (top S 0) m).2
            · have e1 : (S[m]?.getD 0 == (picks l wt S (top S 0) m).2) = true := by simp [hS1]
              have HS1 := Lib.hid hS1
              clear hS1
              by_cases hq0 : q = 0
              · subst hq0
                have hp : Hid (picks l wt S (top S 0) (m + 1) = ((picks l wt S (top S 0) m).1 ++ [(m : Int)], (picks l wt S (top S 0) m).2 - wt[m]?.getD 0)) :=
                  picks_yes hleft HS1.out (.inl (List.eq_nil_of_length_eq_zero HQ.out.symm))
                go_wp2
                go_quiet (fail)
                have hsz2 := hb.size
                have hlt2 := hO.2.lt
                have HLT := Lib.hid hlt2
                clear hlt2
                go_wp2_with (at_builtin; refine wpList_append_own _ rfl _ _ 22 rfl wo.heap.size 3 i0 (.int .i64 0) 1 8 Try.underlying22 hi hz0 hz1 hz2 rfl (by decide) _ _ _ rfl ((hO.drewN nq).2.alloc _) ⟨(wr.drewN nq).heap.size, 0, none⟩ 1 1 [.int .i64 (m : Int)] rfl rfl (cell_one_new _ _ _) (by simp [Value.oneCell']) (by unfold maxLen; omega) (by omega) (by simp; omega) ?_; intro v' w3 hown' hgrow _; obtain ⟨a3, cap3, rfl, hO3⟩ := OwnI.appended (m := [(m : Int)]) hown' HQ.out; have hb3 : Below wo.heap.size wo w3 := ((below_drewN hb nq).alloc (by simp; omega) _).grown hgrow (by simp; omega) (fun j hj => (HLT.out j hj).1); obtain ⟨bv', offv', ev, -, hcv3⟩ := (((hv.below hB).below hb3)).at_ (by omega); cases ev; have c7 := hcv3.out m hmk)
                go_roundw
                case rel => exact ⟨m + 1, a3, _, cap3, by omega, by go_num, by rw [hp.out], rfl, by rw [hp.out]; exact hO3, hb3⟩
                case measure => simp [intOf]; omega
              · obtain ⟨x, hx1, hx2, hx3⟩ := picks_last (l := l) (wt := wt) (S := S) (tot := top S 0) (i := m) (fun e => hq0 (by rw [HQ.out, e]; rfl))
                obtain ⟨g2, rfl, hgB, hgs, -, -, hgc⟩ := hO.at_ (by omega)
                have c5 := hgc.out (q - 1) (by omega)
                rw [HQ.out] at c5
                rw [hx2] at c5
                rw [← HQ.out] at c5
                simp only [Option.getD_some] at c5
                have c6 := hcl.out x (by omega)
                have X3 := Lib.hid hx3
                clear hx3 hx2
                have e2 : ((q : Int) == 0) = false := by simp; omega
                by_cases hlt : l[x]?.getD 0 < l[m]?.getD 0
                · have hp : Hid (picks l wt S (top S 0) (m + 1) = ((picks l wt S (top S 0) m).1 ++ [(m : Int)], (picks l wt S (top S 0) m).2 - wt[m]?.getD 0)) :=
                    picks_yes hleft HS1.out (.inr ⟨x, X3.out, hlt⟩)
                  go_wp2
                  go_quiet (fail)
                  have hsz2 := hb.size
                  have hlt2 := hO.2.lt
                  have HLT := Lib.hid hlt2
                  clear hlt2
                  go_wp2_with (at_builtin; refine wpList_append_own _ rfl _ _ 22 rfl wo.heap.size 3 i0 (.int .i64 0) 1 8 Try.underlying22 hi hz0 hz1 hz2 rfl (by decide) _ _ _ rfl ((hO.drewN nq).2.alloc _) ⟨(wr.drewN nq).heap.size, 0, none⟩ 1 1 [.int .i64 (m : Int)] rfl rfl (cell_one_new _ _ _) (by simp [Value.oneCell']) (by unfold maxLen; omega) (by omega) (by simp; omega) ?_; intro v' w3 hown' hgrow _; obtain ⟨a3, cap3, rfl, hO3⟩ := OwnI.appended (m := [(m : Int)]) hown' HQ.out; have hb3 : Below wo.heap.size wo w3 := ((below_drewN hb nq).alloc (by simp; omega) _).grown hgrow (by simp; omega) (fun j hj => (HLT.out j hj).1); obtain ⟨bv', offv', ev, -, hcv3⟩ := (((hv.below hB).below hb3)).at_ (by omega); cases ev; have c7 := hcv3.out m hmk)
                  go_roundw
                  case rel => exact ⟨m + 1, a3, _, cap3, by omega, by go_num, by rw [hp.out], rfl, by rw [hp.out]; exact hO3, hb3⟩
                  case measure => simp [intOf]; omega
                · have hp : Hid (picks l wt S (top S 0) (m + 1) = picks l wt S (top S 0) m) := picks_no2 X3.out hlt
                  have hlt2 : decide (l[x]?.getD 0 < l[m]?.getD 0) = false := by simpa using hlt
                  go_wp2
                  go_quiet (fail)
                  go_wp2
                  go_roundw
                  case rel => exact ⟨m + 1, some ⟨g2, 0, none⟩, q, cap', by omega, by go_num, by rw [hp.out], rfl, by rw [hp.out]; exact hO.drewN _, below_drewN hb _⟩
                  case measure => simp [intOf]; omega
            · have e1 : (S[m]?.getD 0 == (picks l wt S (top S 0) m).2) = false := by simp [hS1]
              have hp : Hid (picks l wt S (top S 0) (m + 1) = picks l wt S (top S 0) m) := picks_no1 hS1
              clear hS1
              by_cases hq0 : q = 0
              · subst hq0
                go_wp2
                go_quiet (fail)
                go_wp2
                go_roundw
                case rel => exact ⟨m + 1, a', 0, cap', by omega, by go_num, by rw [hp.out], rfl, by rw [hp.out]; exact hO.drewN _, below_drewN hb _⟩
                case measure => simp [intOf]; omega
              · obtain ⟨x, hx1, hx2, hx3⟩ := picks_last (l := l) (wt := wt) (S := S) (tot := top S 0) (i := m) (fun e => hq0 (by rw [HQ.out, e]; rfl))
                obtain ⟨g2, rfl, hgB, hgs, -, -, hgc⟩ := hO.at_ (by omega)
                have c5 := hgc.out (q - 1) (by omega)
                rw [HQ.out] at c5
                rw [hx2] at c5
                rw [← HQ.out] at c5
                simp only [Option.getD_some] at c5
                have c6 := hcl.out x (by omega)
                clear hx3 hx2
                have e2 : ((q : Int) == 0) = false := by simp; omega
                by_cases hlt : l[x]?.getD 0 < l[m]?.getD 0
                · go_wp2
                  go_quiet (fail)
                  go_wp2
                  go_roundw
                  case rel => exact ⟨m + 1, some ⟨g2, 0, none⟩, q, cap', by omega, by go_num, by rw [hp.out], rfl, by rw [hp.out]; exact hO.drewN _, below_drewN hb _⟩
                  case measure => simp [intOf]; omega
                · have hlt2 : decide (l[x]?.getD 0 < l[m]?.getD 0) = false := by simpa using hlt
                  go_wp2
                  go_quiet (fail)
                  go_wp2
                  go_roundw
                  case rel => exact ⟨m + 1, some ⟨g2, 0, none⟩, q, cap', by omega, by go_num, by rw [hp.out], rfl, by rw [hp.out]; exact hO.drewN _, below_drewN hb _⟩
                  case measure => simp [intOf]; omega
          · have hst := picks_stop (l := l) (wt := wt) (S := S) (tot := top S 0) (i := m) (by omega) (k - m)
            rw [show m + (k - m) = k by omega] at hst
            have HST := Lib.hid hst
            clear hst
            go_wp2
            go_ret2
            refine ⟨S, a', q, cap', rfl, HS.out, ?_, hB.trans (hb.mono (by omega))⟩
            rw [HST.out]; exact hO.mono (by omega)
        · obtain rfl : m = k := by omega
          go_wp2
          go_ret2
          exact ⟨S, a', q, cap', rfl, HS.out, hO.mono (by omega), hB.trans (hb.mono (by omega))⟩
end Go.Proofs.Ytdkokpehcmcnpaa
