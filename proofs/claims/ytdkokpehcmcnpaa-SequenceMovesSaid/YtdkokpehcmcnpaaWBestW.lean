/- sequence.best: what it returns, with each of the two closures that give the weights. Written by gen_best.py. -/
import Derived.Test.YtdkokpehcmcnpaaWAfter
import Derived.Test.YtdkokpehcmcnpaaTail
import Derived.Test.YtdkokpehcmcnpaaWBest
namespace Go.Proofs.Ytdkokpehcmcnpaa
open Go.RowKit

set_option maxHeartbeats 2000000 in
theorem best_weights (a : Option Addr) (n cap : Nat) (l wt : List Int) (w : World) (h : Ints w a n cap l) (hm : n ≤ 1024) (hw : Light wt n) (bw : Nat) (wa : Option Addr) (cw : Nat) (hbw : w.cell? ⟨bw, 0, none⟩ = some (.slice wa n cw)) (hwI : Ints w wa n cw wt) :
    Calls Try.prog 45 #[.slice a n cap, .func (.func 56) #[] #[.pointer (some ⟨bw, 0, none⟩)]] w fun e w' => ∃ (S : List Int) (a' : Option Addr) (q cap' : Nat), e = .returned (.tuple #[.slice a' q cap', .int .i64 (top S 0)]) ∧
      SumsFrom l wt S 0 ∧ OwnI w' w.heap.size a' q cap' (picks l wt S (top S 0) n).1 ∧ Below w.heap.size w w' := by
  have H := Lib.hid h.len
  obtain ⟨i0, hi, hz0, hz1, hz2⟩ := info_parts Try.infoInt
  go_enter Try.func45, Try.ntmps45
  go_wp2_with (at_make; refine wpList_make_full _ rfl _ _ 22 rfl (w.heap.size + 1) 3 i0 (.int .i64 0) 1 Try.underlying22 hi hz0 hz1 .i64 .i64 n n n rfl rfl rfl rfl (by rw [hz2]; omega) (by unfold maxLen; omega) (by simp) ?_; intro w1 hrow hg; have hbx : w1.cell? ⟨w.heap.size, 0, none⟩ = some (.slice a n cap) := hg.cell (World.cell?_alloc_at (w := w) _ _ _ _ rfl) (by simp); have hsz : w.heap.size + 1 < w1.heap.size := (hrow.lt (w.heap.size + 1) (by simp [Value.ownBlock])).2; have hsz0 : w.heap.size < w1.heap.size := by omega)
  have h1 : Below w.heap.size w w1 := ((Below.refl _ w).alloc (Nat.le_refl _) _).grown hg (by simp) (by simp)
  have hr1 : OwnI w1 (w.heap.size + 1) (some ⟨w.heap.size + 1, 0, none⟩) n n (List.replicate n 0) := OwnI.made (by simpa using hrow)
  clear hrow hg
  have f1 : (w1.alloc (Obj.cells #[Value.slice (some { block := w.heap.size + 1, off := 0 }) n n] 22)).cell? ⟨w.heap.size, 0, none⟩ = some (.slice a n cap) := by rw [World.cell?_alloc_past _ _ _ hsz0]; exact hbx
  have f2 : (w1.alloc (Obj.cells #[Value.slice (some { block := w.heap.size + 1, off := 0 }) n n] 22)).cell? ⟨w1.heap.size, 0, none⟩ = some (.slice (some ⟨w.heap.size + 1, 0, none⟩) n n) := by rw [World.cell?_alloc_at _ _ _ _ rfl]; rfl
  have f3 := hr1.alloc (Obj.cells #[Value.slice (some { block := w.heap.size + 1, off := 0 }) n n] 22)
  have f4 := h1.alloc (by omega) (Obj.cells #[Value.slice (some { block := w.heap.size + 1, off := 0 }) n n] 22)
  have f5 : w1.heap.size < (w1.alloc (Obj.cells #[Value.slice (some { block := w.heap.size + 1, off := 0 }) n n] 22)).heap.size := by simp
  have f6 : w.heap.size + 1 < w1.heap.size := hsz
  generalize w1.alloc (Obj.cells #[Value.slice (some { block := w.heap.size + 1, off := 0 }) n n] 22) = W at *
  generalize w1.heap.size = bv at *
  clear hbx hr1 h1 w1
  have hS0 : Hid (SumsFrom l wt (List.replicate n 0) n) := ⟨by simp [H.out], fun j h1 h2 => by have := H.out; omega⟩
  have h8 := h.bound
  go_loopw [8, 9] (fun t i wr => ∃ (m : Nat) (S : List Int), m ≤ n ∧ i = .int .i64 ((m : Int) - 1) ∧ t = .int .i64 (top S m) ∧ Hid (SumsFrom l wt S m) ∧
      wr.cell? ⟨w.heap.size, 0, none⟩ = some (.slice a n cap) ∧ wr.cell? ⟨bv, 0, none⟩ = some (.slice (some ⟨w.heap.size + 1, 0, none⟩) n n) ∧ OwnI wr (w.heap.size + 1) (some ⟨w.heap.size + 1, 0, none⟩) n n S ∧
      Below w.heap.size w wr ∧ bv < wr.heap.size) (fun _ i _ => (intOf i + 1).toNat)
  case atStart => exact ⟨n, List.replicate n 0, Nat.le_refl _, rfl, by rw [top_end (by simp)], hS0, f1, f2, f3, f4, f5⟩
  case round =>
    obtain ⟨m, S, hmn, rfl, rfl, hS, g1, g2, g3, g4, g5⟩ := hrel
    have hI : Ints wr a n cap l := h.below g4
    have hbw' := cell_later g4 hbw
    have hwI' := hwI.below g4
    by_cases hpos : 0 < m
    · obtain ⟨j, rfl⟩ : ∃ j, m = j + 1 := ⟨m - 1, by omega⟩
      rw [show ((j + 1 : Nat) : Int) - 1 = (j : Int) from by omega]
      have hc := g3.cell
      have hf := g3.free j
      have HC := Lib.hid hc
      have hcj := HC.out j (by omega)
      clear hc
      have j0 : (0 : Int) ≤ (j : Int) := by omega
      have j1 : (j : Int) < (n : Int) := by omega
      have hl1 : Hid (l.length ≤ 1024) := by have := H.out; show l.length ≤ 1024; omega
      have w0 := (hw.2 j).1
      have w1 := (hw.2 j).2
      have a0 := aft_nonneg (l := l) (S := S) (i := j) (l.length - 1 - j)
      have a1 : aft l S j (l.length - 1 - j) ≤ 1073741824 := hS.out.aft_le hw hl1.out
      have aw : IntKind.i64.wrap (wt[j]?.getD 0 + aft l S j (l.length - 1 - j)) = wt[j]?.getD 0 + aft l S j (l.length - 1 - j) := IntWalk.i64_in _ (by omega)
      go_wp2
      refine wp_region_head_drew 9 (by kernel_rfl) (by kernel_rfl) ?_
      simp only [List.take_succ_cons, List.take_zero, List.drop_succ_cons, List.drop_zero]
      repeat (quiet_step ((first
          | (go_at_call 56; exact Calls.quiet_of_same (weight_any bw wa n cw j wt _ (hwI'.drewN _) (by omega) hbw'))
          | (go_at_call 66; exact Drew.quiet (after_any w.heap.size bv (w.heap.size + 1) a n cap j l S _ (hI.drewN _) (by omega) g1 g2 HC.out)))))
      refine wpQuiet_nil ?_
      intro _ hw'
      obtain ⟨nq, rfl⟩ := hw'
      go_wp2
      go_roundw
      case rel =>
        obtain ⟨s1, s2⟩ := sums_step (wt := wt) hS.out (by have := H.out; omega)
        have hne : (⟨w.heap.size + 1, j, none⟩ : Addr) ≠ ⟨w.heap.size, 0, none⟩ := by simp
        have hne2 : (⟨w.heap.size + 1, j, none⟩ : Addr) ≠ ⟨bv, 0, none⟩ := by intro e; cases e; omega
        exact ⟨j, S.set j (wt[j]?.getD 0 + aft l S j (l.length - 1 - j)), by omega, rfl, by rw [s2, go_max], s1, (World.cell?_setCell_other _ _ _ _ hne).trans g1, (World.cell?_setCell_other _ _ _ _ hne2).trans g2,
          (g3.drewN nq).stored j _, (below_drewN g4 nq).setCell (by show w.heap.size ≤ w.heap.size + 1; omega) _, by simpa [World.setCell] using g5⟩
      case measure => simp [intOf]
    · obtain rfl : m = 0 := by omega
      rw [show ((0 : Nat) : Int) - 1 = -1 from rfl]
      go_wp2
      clear f1 f2 f3 f4 f5 hS0 W
      have HC := Lib.hid g3.cell
      obtain ⟨wo, rfl⟩ : ∃ wo : World, wo = wr := ⟨_, rfl⟩
      have ht : top S 0 ≤ 1073741824 := hS.out.top_le hw (by have := H.out; omega)
      go_loopw [10, 11, 12] (fun o t i wr => ∃ (k : Nat) (a' : Option Addr) (q cap' : Nat), k ≤ n ∧ i = .int .i64 k ∧ t = .int .i64 (picks l wt S (top S 0) k).2 ∧ o = .slice a' q cap' ∧
          OwnI wr wo.heap.size a' q cap' (picks l wt S (top S 0) k).1 ∧ Below wo.heap.size wo wr) (fun _ _ i _ => n - (intOf i).toNat)
      case atStart => exact ⟨0, none, 0, 0, Nat.zero_le _, rfl, rfl, rfl, OwnI.nil _ _, Below.refl _ _⟩
      case round =>
        obtain ⟨k, a', q, cap', hk, rfl, rfl, rfl, ho, hb⟩ := hrel
        have hb1 : w.heap.size + 1 < wo.heap.size := Nat.lt_trans f6 g5
        have hI2 : Ints wr a n cap l := hI.below hb
        have c1 := cell_later hb g1
        have c2 := cell_later hb g2
        have hql := ho.len
        have HQ := Lib.hid hql
        clear hql
        have hqk : q ≤ k := by rw [HQ.out]; exact picks_length _
        have hpl : (picks l wt S (top S 0) k).2 ≤ 1073741824 := Int.le_trans (picks_le (fun j => (hw.2 j).1) k) ht
        skip
        by_cases hk' : k < n
        · by_cases hleft : 0 < (picks l wt S (top S 0) k).2
          · have c3 := cell_later hb (HC.out k hk')
            obtain ⟨bb, off, rfl, -, hcl⟩ := hI2.at_ (by omega)
            have c4 := hcl.out k hk'
            have w0 := (hw.2 k).1
            have w1 := (hw.2 k).2
            by_cases hS1 : S[k]?.getD 0 = (picks l wt S (top S 0) k).2
            · have e1 : (S[k]?.getD 0 == (picks l wt S (top S 0) k).2) = true := by simp [hS1]
              have HS1 := Lib.hid hS1
              clear hS1
              by_cases hq0 : q = 0
              · subst hq0
                have hp : Hid (picks l wt S (top S 0) (k + 1) = ((picks l wt S (top S 0) k).1 ++ [(k : Int)], (picks l wt S (top S 0) k).2 - wt[k]?.getD 0)) :=
                  picks_yes hleft HS1.out (.inl (List.eq_nil_of_length_eq_zero HQ.out.symm))
                go_wp2
                go_quiet (fail)
                have hsz2 := hb.size
                have hlt2 := ho.2.lt
                have HLT := Lib.hid hlt2
                clear hlt2
                go_wp2_with (first | (at_builtin; refine wpList_append_own _ rfl _ _ 22 rfl wo.heap.size 3 i0 (.int .i64 0) 1 8 Try.underlying22 hi hz0 hz1 hz2 rfl (by decide) _ _ _ rfl ((ho.drewN nq).2.alloc _) ⟨(wr.drewN nq).heap.size, 0, none⟩ 1 1 [.int .i64 (k : Int)] rfl rfl (cell_one_new _ _ _) (by simp [Value.oneCell']) (by unfold maxLen; omega) (by omega) (by simp; omega) ?_; intro v' w3 hown' hgrow _; obtain ⟨a3, cap3, rfl, hO3⟩ := OwnI.appended (m := [(k : Int)]) hown' HQ.out; have hb3 : Below wo.heap.size wo w3 := ((below_drewN hb nq).alloc (by simp; omega) _).grown hgrow (by simp; omega) (fun j hj => (HLT.out j hj).1)) | (go_at_call 56; refine (weight_any bw wa n cw k wt _ (hwI'.below hb3) hk' (cell_later hb3 hbw')).mono ?_; rintro e w' ⟨rfl, rfl⟩))
                go_roundw
                case rel => exact ⟨k + 1, a3, _, cap3, by omega, by go_num, by rw [hp.out], rfl, by rw [hp.out]; exact hO3, hb3⟩
                case measure => simp [intOf]; omega
              · obtain ⟨x, hx1, hx2, hx3⟩ := picks_last (l := l) (wt := wt) (S := S) (tot := top S 0) (i := k) (fun e => hq0 (by rw [HQ.out, e]; rfl))
                obtain ⟨g, rfl, hgB, hgs, -, -, hgc⟩ := ho.at_ (by omega)
                have c5 := hgc.out (q - 1) (by omega)
                rw [HQ.out] at c5
                rw [hx2] at c5
                rw [← HQ.out] at c5
                simp only [Option.getD_some] at c5
                have c6 := hcl.out x (by omega)
                have X3 := Lib.hid hx3
                clear hx3 hx2
                have e2 : ((q : Int) == 0) = false := by simp; omega
                by_cases hlt : l[x]?.getD 0 < l[k]?.getD 0
                · have hp : Hid (picks l wt S (top S 0) (k + 1) = ((picks l wt S (top S 0) k).1 ++ [(k : Int)], (picks l wt S (top S 0) k).2 - wt[k]?.getD 0)) :=
                    picks_yes hleft HS1.out (.inr ⟨x, X3.out, hlt⟩)
                  go_wp2
                  go_quiet (fail)
                  have hsz2 := hb.size
                  have hlt2 := ho.2.lt
                  have HLT := Lib.hid hlt2
                  clear hlt2
                  go_wp2_with (first | (at_builtin; refine wpList_append_own _ rfl _ _ 22 rfl wo.heap.size 3 i0 (.int .i64 0) 1 8 Try.underlying22 hi hz0 hz1 hz2 rfl (by decide) _ _ _ rfl ((ho.drewN nq).2.alloc _) ⟨(wr.drewN nq).heap.size, 0, none⟩ 1 1 [.int .i64 (k : Int)] rfl rfl (cell_one_new _ _ _) (by simp [Value.oneCell']) (by unfold maxLen; omega) (by omega) (by simp; omega) ?_; intro v' w3 hown' hgrow _; obtain ⟨a3, cap3, rfl, hO3⟩ := OwnI.appended (m := [(k : Int)]) hown' HQ.out; have hb3 : Below wo.heap.size wo w3 := ((below_drewN hb nq).alloc (by simp; omega) _).grown hgrow (by simp; omega) (fun j hj => (HLT.out j hj).1)) | (go_at_call 56; refine (weight_any bw wa n cw k wt _ (hwI'.below hb3) hk' (cell_later hb3 hbw')).mono ?_; rintro e w' ⟨rfl, rfl⟩))
                  go_roundw
                  case rel => exact ⟨k + 1, a3, _, cap3, by omega, by go_num, by rw [hp.out], rfl, by rw [hp.out]; exact hO3, hb3⟩
                  case measure => simp [intOf]; omega
                · have hp : Hid (picks l wt S (top S 0) (k + 1) = picks l wt S (top S 0) k) := picks_no2 X3.out hlt
                  go_wp2
                  go_quiet (fail)
                  go_wp2
                  go_roundw
                  case rel => exact ⟨k + 1, some ⟨g, 0, none⟩, q, cap', by omega, by go_num, by rw [hp.out], rfl, by rw [hp.out]; exact ho.drewN _, below_drewN hb _⟩
                  case measure => simp [intOf]; omega
            · have e1 : (S[k]?.getD 0 == (picks l wt S (top S 0) k).2) = false := by simp [hS1]
              have hp : Hid (picks l wt S (top S 0) (k + 1) = picks l wt S (top S 0) k) := picks_no1 hS1
              clear hS1
              go_wp2
              go_quiet (fail)
              go_wp2
              go_roundw
              case rel => exact ⟨k + 1, a', q, cap', by omega, by go_num, by rw [hp.out], rfl, by rw [hp.out]; exact ho.drewN _, below_drewN hb _⟩
              case measure => simp [intOf]; omega
          · have hst := picks_stop (l := l) (wt := wt) (S := S) (tot := top S 0) (i := k) (by omega) (n - k)
            rw [show k + (n - k) = n by omega] at hst
            have HST := Lib.hid hst
            clear hst
            go_wp2
            go_ret2
            refine ⟨S, a', q, cap', rfl, hS.out, ?_, g4.trans (hb.mono (by omega))⟩
            rw [HST.out]; exact ho.mono (by omega)
        · obtain rfl : k = n := by omega
          go_wp2
          go_ret2
          exact ⟨S, a', q, cap', rfl, hS.out, ho.mono (by omega), g4.trans (hb.mono (by omega))⟩
end Go.Proofs.Ytdkokpehcmcnpaa
