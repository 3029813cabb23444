/- editdistance.distances. -/
import Derived.Test.YtaelfjlmkgimhaaGreatDoorPRow
import Derived.Test.YtaelfjlmkgimhaaGreatDoorETree
set_option linter.unusedVariables false
set_option linter.unusedSimpArgs false
namespace Go.Proofs.YtaelfjlmkgimhaaGreatDoor
open Go.RowKit

set_option maxRecDepth 100000 in
set_option maxHeartbeats 1000000 in
theorem distances_any (eq : Nat → Nat → Bool) (n m p1 p2 : Nat) (w : World) (hn : n ≤ 256) (hm : m ≤ 256)
    (HC : ∀ W (i k : Nat), Below w.heap.size w W → i < n → k < m → Calls Tryz.prog 143 #[.int .i64 (i : Int), .int .i64 (k : Int), .pointer (some ⟨p1, 0, none⟩), .pointer (some ⟨p2, 0, none⟩)] W fun e w' => e = .returned (.bool (eq i k)) ∧ Drew W w') :
    Calls Tryz.prog 139 #[.int .i64 (n : Int), .int .i64 (m : Int), .func (.func 143) #[] #[.pointer (some ⟨p1, 0, none⟩), .pointer (some ⟨p2, 0, none⟩)]] w fun e w' => e = .returned (.int .i64 (rowF eq n m : Nat)) ∧ Below w.heap.size w w' := by
  have HCC := Lib.hid HC
  clear HC
  obtain ⟨i0, hi, hz0, hz1, hz2⟩ := info_parts Tryz.infoInt
  obtain ⟨M, hM⟩ : ∃ M, M = m + 1 := ⟨_, rfl⟩
  have hM' : (m : Int) + 1 = (M : Int) := by omega
  have hMs : M ≤ 257 := by omega
  have hMw : IntKind.i64.wrap (M : Int) = M := by rw [IntKind.wrap_i64]; omega
  have HM := Lib.hid hM
  clear hM
  go_enter Tryz.func139, Tryz.ntmps139
  go_wp2_with fail
  obtain ⟨X, Wf, hX, hS1, hS2⟩ := family (fun V => Below w.heap.size w V) w (Below.refl _ _)
  have HS2 := Lib.hid hS2
  clear hS1 hS2
  have hd0 : Below w.heap.size w w.drew := (Below.refl _ _).drew
  refine wp_region_tree (Wf := Wf) 7 (.read 0 (.read 1 (.read 3 (.read 4 (.two 2 (.two 5 (.act 6 .fin) 6 (.act 5 .fin)) 5 (.act 2 (.act 6 .fin))))))) (by kernel_rfl) (by kernel_rfl) (fun _ _ d _ _ h => by cases d <;> exact h) (HS2.out _ hd0) ?_
  refine wpTree_read _ rfl (fun K hK => ?_); unfold rOp; go_simp; (refine hK _ ?_; clear hK K)
  refine wpTree_read _ rfl (fun K hK => ?_); unfold rOp; go_simp; (refine hK _ ?_; clear hK K)
  refine wpTree_read _ rfl (fun K hK => ?_); unfold rOp; go_simp; (refine hK _ ?_; clear hK K)
  refine wpTree_read _ rfl (fun K hK => ?_); unfold rOp; go_simp; (refine hK _ ?_; clear hK K)
  refine wpTree_two (wpTree_act _ rfl ?_) (wpTree_act _ rfl ?_)
  · skip
    refine wpList_make_full _ rfl _ _ 27 rfl w.heap.size 3 i0 (.int .i64 0) 1 Tryz.underlying27 hi hz0 hz1 .i64 .i64 M M M rfl rfl rfl rfl (by rw [hz2]; omega) (by unfold maxLen; omega) hd0.size ?_
    intro w1 hrow hg
    have hd1 : Below w.heap.size w w1 := hd0.grown hg hd0.size (by simp)
    have hr1 : OwnI w1 w.heap.size (some ⟨w.heap.size, 0, none⟩) M M (List.replicate M 0) := OwnI.made (by simpa using hrow)
    have hlt1 : w.heap.size < w1.heap.size := by obtain ⟨g, e, -, h, -⟩ := hr1.at_ (by have := HM.out; omega); cases e; exact h
    clear hrow hg
    go_wp2_with fail
    refine ⟨HS2.out _ hd1, ?_⟩
    refine wpTree_two (wpTree_act _ rfl ?_) (wpTree_act _ rfl ?_)
    · skip
      refine wpList_make_full _ rfl _ _ 27 rfl w.heap.size 3 i0 (.int .i64 0) 1 Tryz.underlying27 hi hz0 hz1 .i64 .i64 M M M rfl rfl rfl rfl (by rw [hz2]; omega) (by unfold maxLen; omega) hd1.size ?_
      intro w2 hrow hg
      have hd2 : Below w.heap.size w w2 := hd1.grown hg hd1.size (by simp)
      have hr2 : OwnI w2 w.heap.size (some ⟨w1.heap.size, 0, none⟩) M M (List.replicate M 0) := OwnI.made (by simpa using hrow)
      replace hr1 : OwnI w2 w.heap.size (some ⟨w.heap.size, 0, none⟩) M M (List.replicate M 0) := hr1.kept hg (by simp)
      clear hrow hg
      go_wp2_with fail
      refine ⟨HS2.out _ hd2, ?_⟩
      refine wpTree_act _ rfl ?_
      go_wp2_with fail
      refine ⟨HS2.out _ hd2, ?_⟩
      refine wpTree_fin ?_
      have hne : (w.heap.size) ≠ (w1.heap.size) := by omega
      have HR1 : OwnI w2 w.heap.size (some ⟨(w.heap.size), 0, none⟩) M M (rowL (fun _ => 0) m) := by rw [← rowL_zero, ← HM.out]; first | exact hr1 | exact hr2
      have HR2 : OwnI w2 w.heap.size (some ⟨(w1.heap.size), 0, none⟩) M M (rowL (fun _ => 0) m) := by rw [← rowL_zero, ← HM.out]; first | exact hr1 | exact hr2
      go_wp2_with fail
      go_loopw [21] (fun i wr => ∃ k : Nat, i = .int .i64 k ∧ k ≤ M ∧ OwnI wr w.heap.size (some ⟨(w.heap.size), 0, none⟩) M M (rowL (fun j => if j < k then j else 0) m) ∧ OwnI wr w.heap.size (some ⟨(w1.heap.size), 0, none⟩) M M (rowL (fun _ => 0) m) ∧ Below w.heap.size w wr) (fun i _ => M - (intOf i).toNat)
      case atStart => exact ⟨0, rfl, Nat.zero_le _, (by simpa using HR1), HR2, hd2⟩
      case round =>
        clear HR1 HR2 hd2
        obtain ⟨k, rfl, hk, h1, h2, hbr⟩ := hrel
        obtain ⟨gp, ep, hgp, -⟩ := h1.at_ (by have := HM.out; omega)
        cases ep
        by_cases hkl : k < M
        · have hkm : k ≤ m := by have := HM.out; omega
          have hst := h1.stored k (k : Int)
          rw [rowL_set] at hst
          have hso := h2.other (j := k) (fun e => hne e.symm) (.int .i64 (k : Int))
          have hb' := below_setc hbr hgp k (.int .i64 (k : Int))
          have fz := h1.free k
          have cz := h1.cell k hkl
          have HST := Lib.hid (And.intro hst (And.intro hso hb'))
          clear hst hso hb' h1 h2 hbr
          go_wp2_with fail
          go_roundw
          case rel => exact ⟨k + 1, by go_num, by omega, (by rw [rowL_congr (s := fun j => if j = k then k else if j < k then j else 0) (fun j hj => by split <;> split <;> (try split) <;> omega)]; exact HST.out.1), HST.out.2.1, HST.out.2.2⟩
          case measure => simp [intOf]; omega
        · have hkM : k = M := by omega
          have h1' : OwnI wr w.heap.size (some ⟨(w.heap.size), 0, none⟩) M M (rowL (rowF eq 0) m) := by
            rw [rowL_congr (s := fun j => if j < k then j else 0) (fun j hj => by have := HM.out; rw [if_pos (by omega)]; rfl)]; exact h1
          clear h1 hk
          go_wp2_with fail
          go_loopw [7, 8, 30] (fun u v i wt => ∃ (j p q : Nat) (r : Nat → Nat), i = .int .i64 j ∧ u = .slice (some ⟨p, 0, none⟩) M M ∧ v = .slice (some ⟨q, 0, none⟩) M M ∧ j ≤ n ∧ p ≠ q ∧ OwnI wt w.heap.size (some ⟨p, 0, none⟩) M M (rowL (rowF eq j) m) ∧ OwnI wt w.heap.size (some ⟨q, 0, none⟩) M M (rowL r m) ∧ Below w.heap.size w wt) (fun _ _ i _ => n - (intOf i).toNat)
          case atStart => exact ⟨0, _, _, _, rfl, rfl, rfl, Nat.zero_le _, hne, h1', h2, hbr⟩
          case round =>
            clear h1' h2 hbr hr1 hr2
            obtain ⟨j, p, q, r, rfl, rfl, rfl, hj, hpq, h1, h2, hbr⟩ := hrel
            obtain ⟨gp, ep, hgp, -⟩ := h1.at_ (by have := HM.out; omega)
            obtain ⟨gq, eq', hgq, -⟩ := h2.at_ (by have := HM.out; omega)
            cases ep
            cases eq'
            by_cases hjn : j < n
            · have hM1 : 0 < M := by have := HM.out; omega
              have hst := h2.stored 0 ((j + 1 : Nat) : Int)
              rw [rowL_set] at hst
              have hso := h1.other (j := 0) hpq (.int .i64 ((j + 1 : Nat) : Int))
              have hb' := below_setc hbr hgq 0 (.int .i64 ((j + 1 : Nat) : Int))
              have fz := h2.free 0
              have cz := h2.cell 0 hM1
              have HST := Lib.hid (And.intro hst (And.intro hso hb'))
              rw [show ((j + 1 : Nat) : Int) = (j : Int) + 1 by omega] at HST
              clear hst hso hb' h1 h2 hbr
              go_wp2_with fail
              go_loopw [38] (fun z wu => ∃ (k : Nat) (r2 : Nat → Nat), z = .int .i64 k ∧ k ≤ m ∧ OwnI wu w.heap.size (some ⟨q, 0, none⟩) M M (rowL r2 m) ∧ Hid (∀ l, l ≤ k → r2 l = nrow eq (rowF eq j) j l) ∧ OwnI wu w.heap.size (some ⟨p, 0, none⟩) M M (rowL (rowF eq j) m) ∧ Below w.heap.size w wu) (fun z _ => m - (intOf z).toNat)
              case atStart => exact ⟨0, _, rfl, Nat.zero_le _, HST.out.1, (fun l hl => by rw [if_pos (by omega)]; rw [show l = 0 by omega]; rfl), HST.out.2.1, HST.out.2.2⟩
              case round =>
                clear HST fz cz
                obtain ⟨k, r2, rfl, hk, h2, hr, h1, hbr⟩ := hrel
                by_cases hkm : k < m
                · have HQ := Lib.hid (HCC.out _ j k hbr hjn hkm)
                  obtain ⟨be, hbe⟩ : ∃ b, b = eq j k := ⟨_, rfl⟩
                  have HN : Hid (nrow eq (rowF eq j) j (k + 1) = min (rowF eq j k + (if eq j k then 0 else 1)) (min (rowF eq j (k + 1) + 1) (nrow eq (rowF eq j) j k + 1))) := rfl
                  rw [← hbe] at HQ HN
                  clear hbe
                  have b1 := rowF_le eq j k
                  have b2 := rowF_le eq j (k + 1)
                  have b3 := nrow_le eq (rowF eq j) j k
                  obtain ⟨K1, hK1⟩ : ∃ K1, K1 = k + 1 := ⟨_, rfl⟩
                  have hk1 : K1 < M := by have := HM.out; omega
                  have hkw : IntKind.i64.wrap ((k : Int) + 1) = (K1 : Int) := by rw [IntKind.wrap_i64]; omega
                  have hk0 : k < M := by omega
                  have hw1 : w.heap.size ≤ q := hgq
                  have hA9 : rowF eq j k ≤ 1000 := by omega
                  have hB9 : rowF eq j (k + 1) ≤ 1000 := by omega
                  have hC9 : nrow eq (rowF eq j) j k ≤ 1000 := by omega
                  clear b1 b2 b3
                  go_wp2_with fail
                  refine HQ.out.mono ?_
                  rintro e w3 ⟨rfl, hq⟩
                  replace h1 := h1.below (hq.below _)
                  replace h2 := h2.below (hq.below _)
                  replace hbr := hbr.trans ((hq.below _).mono hbr.size)
                  clear HQ hq
                  have c1 := h1.cell k (by omega)
                  have c2 := h1.cell (k + 1) (by omega)
                  have c3 := h2.cell k (by omega)
                  rw [rowL_at (by omega)] at c1 c2 c3
                  have HKM := Lib.hid hkm
                  rw [hr.out k (Nat.le_refl k)] at c3
                  have HH := Lib.hid (And.intro h1 (And.intro h2 (And.intro hbr hr)))
                  clear h1 h2 hbr hr
                  rw [← hK1] at c2 HN hB9
                  generalize hA : rowF eq j k = A at *
                  generalize hB : rowF eq j K1 = B at *
                  generalize hC : nrow eq (rowF eq j) j k = C at *
                  clear hA hB hC
                  have hAw : IntKind.i64.wrap ((A : Int) + 1) = (A : Int) + 1 := by rw [IntKind.wrap_i64]; omega
                  have hAw0 : IntKind.i64.wrap (A : Int) = (A : Int) := by rw [IntKind.wrap_i64]; omega
                  have hBw : IntKind.i64.wrap ((B : Int) + 1) = (B : Int) + 1 := by rw [IntKind.wrap_i64]; omega
                  have hCw : IntKind.i64.wrap ((C : Int) + 1) = (C : Int) + 1 := by rw [IntKind.wrap_i64]; omega
                  have HK1 := Lib.hid hK1
                  clear hK1
                  cases be with
                  | true =>
                    go_wp2_with fail
                    obtain ⟨X, Wf, hX, hS1, hS2⟩ := family (fun V => Below w3.heap.size w3 V) w3 (Below.refl _ _)
                    have HS2 := Lib.hid hS2
                    have q_c1 := fun x => cell_later (hS1 x) c1
                    have q_c2 := fun x => cell_later (hS1 x) c2
                    have q_c3 := fun x => cell_later (hS1 x) c3
                    clear hS1 hS2
                    have hd0 : Below w3.heap.size w3 w3.drew := (Below.refl _ _).drew
                    refine wp_region_tree (Wf := Wf) 22 (.read 0 (.read 1 (.read 2 (.read 3 (.read 4 (.read 5 (.read 6 (.read 7 (.read 8 (.read 9 (.read 10 (.read 11 (.read 12 (.read 13 (.read 14 (.read 15 (.read 16 (.read 17 (.read 18 (.read 19 (.read 20 (.read 21 .fin)))))))))))))))))))))) (by kernel_rfl) (by kernel_rfl) (fun _ _ d _ _ h => by cases d <;> exact h) (HS2.out _ hd0) ?_
                    refine wpTree_read _ rfl (fun K hK => ?_); unfold rOp; go_simp; (refine hK _ ?_; clear hK K)
                    refine wpTree_read _ rfl (fun K hK => ?_); unfold rOp; go_simp; (refine hK _ ?_; clear hK K)
                    refine wpTree_read _ rfl (fun K hK => ?_); unfold rOp; go_simp; (refine hK _ ?_; clear hK K)
                    refine wpTree_read _ rfl (fun K hK => ?_); unfold rOp; go_simp; (refine hK _ ?_; clear hK K)
                    refine wpTree_read _ rfl (fun K hK => ?_); unfold rOp; go_simp; (refine hK _ ?_; clear hK K)
                    refine wpTree_read _ rfl (fun K hK => ?_); unfold rOp; go_simp; (refine hK _ ?_; clear hK K)
                    refine wpTree_read _ rfl (fun K hK => ?_); unfold rOp; go_simp; (refine hK _ ?_; clear hK K)
                    refine wpTree_read _ rfl (fun K hK => ?_); unfold rOp; go_simp; (refine hK _ ?_; clear hK K)
                    refine wpTree_read _ rfl (fun K hK => ?_); unfold rOp; go_simp; (refine hK _ ?_; clear hK K)
                    refine wpTree_read _ rfl (fun K hK => ?_); unfold rOp; go_simp; (refine hK _ ?_; clear hK K)
                    refine wpTree_read _ rfl (fun K hK => ?_); unfold rOp; go_simp; (refine hK _ ?_; clear hK K)
                    refine wpTree_read _ rfl (fun K hK => ?_); unfold rOp; go_simp; (refine hK _ ?_; clear hK K)
                    refine wpTree_read _ rfl (fun K hK => ?_); unfold rOp; go_simp; (refine hK _ ?_; clear hK K)
                    refine wpTree_read _ rfl (fun K hK => ?_); unfold rOp; go_simp; (refine hK _ ?_; clear hK K)
                    refine wpTree_read _ rfl (fun K hK => ?_); unfold rOp; go_simp; (refine hK _ ?_; clear hK K)
                    refine wpTree_read _ rfl (fun K hK => ?_); unfold rOp; go_simp; (refine hK _ ?_; clear hK K)
                    refine wpTree_read _ rfl (fun K hK => ?_); unfold rOp; go_simp; (refine hK _ ?_; clear hK K)
                    refine wpTree_read _ rfl (fun K hK => ?_); unfold rOp; go_simp; (refine hK _ ?_; clear hK K)
                    refine wpTree_read _ rfl (fun K hK => ?_); unfold rOp; go_simp; (refine hK _ ?_; clear hK K)
                    refine wpTree_read _ rfl (fun K hK => ?_); unfold rOp; go_simp; (refine hK _ ?_; clear hK K)
                    refine wpTree_read _ rfl (fun K hK => ?_); unfold rOp; go_simp; (refine hK _ ?_; clear hK K)
                    refine wpTree_read _ rfl (fun K hK => ?_); unfold rOp; go_simp; (refine hK _ ?_; clear hK K)
                    refine wpTree_fin ?_
                    have fz := HH.out.2.1.drew.free K1
                    have cz := HH.out.2.1.drew.cell K1 hk1
                    clear q_c1 q_c2 q_c3 c1 c2 c3 HS2 hX hd0
                    have KEY : Hid (∀ (V : Nat) (x : Int), x = (V : Int) → V = nrow eq (rowF eq j) j K1 → OwnI (w3.setCell ⟨q, K1, none⟩ (.int .i64 x)).drew w.heap.size (some ⟨q, 0, none⟩) M M (rowL (fun l => if l = K1 then V else r2 l) m) ∧ Hid (∀ l, l ≤ K1 → (fun l => if l = K1 then V else r2 l) l = nrow eq (rowF eq j) j l) ∧
                        OwnI (w3.setCell ⟨q, K1, none⟩ (.int .i64 x)).drew w.heap.size (some ⟨p, 0, none⟩) M M (rowL (rowF eq j) m) ∧ Below w.heap.size w (w3.setCell ⟨q, K1, none⟩ (.int .i64 x)).drew) := fun V x hx hV => by
                      subst hx
                      have h2 := HH.out.2.1.stored K1 (V : Int)
                      rw [rowL_set] at h2
                      refine ⟨h2.drew, fun l hl => ?_, (HH.out.1.other hpq (.int .i64 (V : Int))).drew, (below_setc HH.out.2.2.1 hw1 _ _).drew⟩
                      have e := HK1.out
                      dsimp only
                      split
                      · rename_i e2; rw [hV, e2]
                      · exact HH.out.2.2.2.out l (by omega)
                    have HN2 := HN.out
                    have HKm : K1 ≤ m := by have := HK1.out; omega
                    have HKE : Hid (m - (intOf (Value.int IntKind.i64 (K1 : Int))).toNat < m - (intOf (Value.int IntKind.i64 (k : Int))).toNat) := by have := HK1.out; show _ < _; simp [intOf]; omega
                    go_wp2_with fail
                    all_goals
                      simp only [if_true, Bool.false_eq_true, if_false] at HN2
                      first
                      | exact ⟨⟨_, _, _, ⟨K1, rfl, HKm, _, KEY.out (C + 1) _ rfl (by rw [HN2]; omega)⟩, rfl, rfl, rfl⟩, HKE.out⟩
                      | exact ⟨⟨_, _, _, ⟨K1, rfl, HKm, _, KEY.out (B + 1) _ rfl (by rw [HN2]; omega)⟩, rfl, rfl, rfl⟩, HKE.out⟩
                      | exact ⟨⟨_, _, _, ⟨K1, rfl, HKm, _, KEY.out (A + 1) _ rfl (by rw [HN2]; omega)⟩, rfl, rfl, rfl⟩, HKE.out⟩
                      | exact ⟨⟨_, _, _, ⟨K1, rfl, HKm, _, KEY.out A _ rfl (by rw [HN2]; omega)⟩, rfl, rfl, rfl⟩, HKE.out⟩
                  | false =>
                    go_wp2_with fail
                    obtain ⟨X, Wf, hX, hS1, hS2⟩ := family (fun V => Below w3.heap.size w3 V) w3 (Below.refl _ _)
                    have HS2 := Lib.hid hS2
                    have q_c1 := fun x => cell_later (hS1 x) c1
                    have q_c2 := fun x => cell_later (hS1 x) c2
                    have q_c3 := fun x => cell_later (hS1 x) c3
                    clear hS1 hS2
                    have hd0 : Below w3.heap.size w3 w3.drew := (Below.refl _ _).drew
                    refine wp_region_tree (Wf := Wf) 22 (.read 0 (.read 1 (.read 2 (.read 3 (.read 4 (.read 5 (.read 6 (.read 7 (.read 8 (.read 9 (.read 10 (.read 11 (.read 12 (.read 13 (.read 14 (.read 15 (.read 16 (.read 17 (.read 18 (.read 19 (.read 20 (.read 21 .fin)))))))))))))))))))))) (by kernel_rfl) (by kernel_rfl) (fun _ _ d _ _ h => by cases d <;> exact h) (HS2.out _ hd0) ?_
                    refine wpTree_read _ rfl (fun K hK => ?_); unfold rOp; go_simp; (refine hK _ ?_; clear hK K)
                    refine wpTree_read _ rfl (fun K hK => ?_); unfold rOp; go_simp; (refine hK _ ?_; clear hK K)
                    refine wpTree_read _ rfl (fun K hK => ?_); unfold rOp; go_simp; (refine hK _ ?_; clear hK K)
                    refine wpTree_read _ rfl (fun K hK => ?_); unfold rOp; go_simp; (refine hK _ ?_; clear hK K)
                    refine wpTree_read _ rfl (fun K hK => ?_); unfold rOp; go_simp; (refine hK _ ?_; clear hK K)
                    refine wpTree_read _ rfl (fun K hK => ?_); unfold rOp; go_simp; (refine hK _ ?_; clear hK K)
                    refine wpTree_read _ rfl (fun K hK => ?_); unfold rOp; go_simp; (refine hK _ ?_; clear hK K)
                    refine wpTree_read _ rfl (fun K hK => ?_); unfold rOp; go_simp; (refine hK _ ?_; clear hK K)
                    refine wpTree_read _ rfl (fun K hK => ?_); unfold rOp; go_simp; (refine hK _ ?_; clear hK K)
                    refine wpTree_read _ rfl (fun K hK => ?_); unfold rOp; go_simp; (refine hK _ ?_; clear hK K)
                    refine wpTree_read _ rfl (fun K hK => ?_); unfold rOp; go_simp; (refine hK _ ?_; clear hK K)
                    refine wpTree_read _ rfl (fun K hK => ?_); unfold rOp; go_simp; (refine hK _ ?_; clear hK K)
                    refine wpTree_read _ rfl (fun K hK => ?_); unfold rOp; go_simp; (refine hK _ ?_; clear hK K)
                    refine wpTree_read _ rfl (fun K hK => ?_); unfold rOp; go_simp; (refine hK _ ?_; clear hK K)
                    refine wpTree_read _ rfl (fun K hK => ?_); unfold rOp; go_simp; (refine hK _ ?_; clear hK K)
                    refine wpTree_read _ rfl (fun K hK => ?_); unfold rOp; go_simp; (refine hK _ ?_; clear hK K)
                    refine wpTree_read _ rfl (fun K hK => ?_); unfold rOp; go_simp; (refine hK _ ?_; clear hK K)
                    refine wpTree_read _ rfl (fun K hK => ?_); unfold rOp; go_simp; (refine hK _ ?_; clear hK K)
                    refine wpTree_read _ rfl (fun K hK => ?_); unfold rOp; go_simp; (refine hK _ ?_; clear hK K)
                    refine wpTree_read _ rfl (fun K hK => ?_); unfold rOp; go_simp; (refine hK _ ?_; clear hK K)
                    refine wpTree_read _ rfl (fun K hK => ?_); unfold rOp; go_simp; (refine hK _ ?_; clear hK K)
                    refine wpTree_read _ rfl (fun K hK => ?_); unfold rOp; go_simp; (refine hK _ ?_; clear hK K)
                    refine wpTree_fin ?_
                    have fz := HH.out.2.1.drew.free K1
                    have cz := HH.out.2.1.drew.cell K1 hk1
                    clear q_c1 q_c2 q_c3 c1 c2 c3 HS2 hX hd0
                    have KEY : Hid (∀ (V : Nat) (x : Int), x = (V : Int) → V = nrow eq (rowF eq j) j K1 → OwnI (w3.setCell ⟨q, K1, none⟩ (.int .i64 x)).drew w.heap.size (some ⟨q, 0, none⟩) M M (rowL (fun l => if l = K1 then V else r2 l) m) ∧ Hid (∀ l, l ≤ K1 → (fun l => if l = K1 then V else r2 l) l = nrow eq (rowF eq j) j l) ∧
                        OwnI (w3.setCell ⟨q, K1, none⟩ (.int .i64 x)).drew w.heap.size (some ⟨p, 0, none⟩) M M (rowL (rowF eq j) m) ∧ Below w.heap.size w (w3.setCell ⟨q, K1, none⟩ (.int .i64 x)).drew) := fun V x hx hV => by
                      subst hx
                      have h2 := HH.out.2.1.stored K1 (V : Int)
                      rw [rowL_set] at h2
                      refine ⟨h2.drew, fun l hl => ?_, (HH.out.1.other hpq (.int .i64 (V : Int))).drew, (below_setc HH.out.2.2.1 hw1 _ _).drew⟩
                      have e := HK1.out
                      dsimp only
                      split
                      · rename_i e2; rw [hV, e2]
                      · exact HH.out.2.2.2.out l (by omega)
                    have HN2 := HN.out
                    have HKm : K1 ≤ m := by have := HK1.out; omega
                    have HKE : Hid (m - (intOf (Value.int IntKind.i64 (K1 : Int))).toNat < m - (intOf (Value.int IntKind.i64 (k : Int))).toNat) := by have := HK1.out; show _ < _; simp [intOf]; omega
                    go_wp2_with fail
                    all_goals
                      simp only [if_true, Bool.false_eq_true, if_false] at HN2
                      first
                      | exact ⟨⟨_, _, _, ⟨K1, rfl, HKm, _, KEY.out (C + 1) _ rfl (by rw [HN2]; omega)⟩, rfl, rfl, rfl⟩, HKE.out⟩
                      | exact ⟨⟨_, _, _, ⟨K1, rfl, HKm, _, KEY.out (B + 1) _ rfl (by rw [HN2]; omega)⟩, rfl, rfl, rfl⟩, HKE.out⟩
                      | exact ⟨⟨_, _, _, ⟨K1, rfl, HKm, _, KEY.out (A + 1) _ rfl (by rw [HN2]; omega)⟩, rfl, rfl, rfl⟩, HKE.out⟩
                      | exact ⟨⟨_, _, _, ⟨K1, rfl, HKm, _, KEY.out A _ rfl (by rw [HN2]; omega)⟩, rfl, rfl, rfl⟩, HKE.out⟩
                · have hkm' : k = m := by omega
                  subst hkm'
                  have hr' : OwnI wr w.heap.size (some ⟨q, 0, none⟩) M M (rowL (rowF eq (j + 1)) k) := by
                    rw [← rowL_congr (r := r2) (s := rowF eq (j + 1)) (fun l hl => hr.out l hl)]; exact h2
                  have HE := Lib.hid (And.intro hr' (And.intro h1 hbr))
                  clear h1 h2 hr hbr hr'
                  go_wp2_with fail
                  go_roundw
                  case rel => exact ⟨j + 1, q, p, _, by go_num, rfl, rfl, by omega, hpq.symm, HE.out.1, HE.out.2.1, HE.out.2.2⟩
                  case measure => simp [intOf]; omega
            · have hjn' : j = n := by omega
              subst hjn'
              have hmM : m < M := by have := HM.out; omega
              have cz := h1.cell m hmM
              rw [rowL_at (Nat.le_refl m)] at cz
              clear h1 h2
              go_wp2_with fail
              go_ret
              exact ⟨rfl, hbr⟩
    · go_wp2_with fail
      refine ⟨HS2.out _ hd1, ?_⟩
      refine wpTree_act _ rfl ?_
      refine wpList_make_full _ rfl _ _ 27 rfl w.heap.size 3 i0 (.int .i64 0) 1 Tryz.underlying27 hi hz0 hz1 .i64 .i64 M M M rfl rfl rfl rfl (by rw [hz2]; omega) (by unfold maxLen; omega) hd1.size ?_
      intro w2 hrow hg
      have hd2 : Below w.heap.size w w2 := hd1.grown hg hd1.size (by simp)
      have hr2 : OwnI w2 w.heap.size (some ⟨w1.heap.size, 0, none⟩) M M (List.replicate M 0) := OwnI.made (by simpa using hrow)
      replace hr1 : OwnI w2 w.heap.size (some ⟨w.heap.size, 0, none⟩) M M (List.replicate M 0) := hr1.kept hg (by simp)
      clear hrow hg
      go_wp2_with fail
      refine ⟨HS2.out _ hd2, ?_⟩
      refine wpTree_fin ?_
      have hne : (w.heap.size) ≠ (w1.heap.size) := by omega
      have HR1 : OwnI w2 w.heap.size (some ⟨(w.heap.size), 0, none⟩) M M (rowL (fun _ => 0) m) := by rw [← rowL_zero, ← HM.out]; first | exact hr1 | exact hr2
      have HR2 : OwnI w2 w.heap.size (some ⟨(w1.heap.size), 0, none⟩) M M (rowL (fun _ => 0) m) := by rw [← rowL_zero, ← HM.out]; first | exact hr1 | exact hr2
      go_wp2_with fail
      go_loopw [21] (fun i wr => ∃ k : Nat, i = .int .i64 k ∧ k ≤ M ∧ OwnI wr w.heap.size (some ⟨(w.heap.size), 0, none⟩) M M (rowL (fun j => if j < k then j else 0) m) ∧ OwnI wr w.heap.size (some ⟨(w1.heap.size), 0, none⟩) M M (rowL (fun _ => 0) m) ∧ Below w.heap.size w wr) (fun i _ => M - (intOf i).toNat)
      case atStart => exact ⟨0, rfl, Nat.zero_le _, (by simpa using HR1), HR2, hd2⟩
      case round =>
        clear HR1 HR2 hd2
        obtain ⟨k, rfl, hk, h1, h2, hbr⟩ := hrel
        obtain ⟨gp, ep, hgp, -⟩ := h1.at_ (by have := HM.out; omega)
        cases ep
        by_cases hkl : k < M
        · have hkm : k ≤ m := by have := HM.out; omega
          have hst := h1.stored k (k : Int)
          rw [rowL_set] at hst
          have hso := h2.other (j := k) (fun e => hne e.symm) (.int .i64 (k : Int))
          have hb' := below_setc hbr hgp k (.int .i64 (k : Int))
          have fz := h1.free k
          have cz := h1.cell k hkl
          have HST := Lib.hid (And.intro hst (And.intro hso hb'))
          clear hst hso hb' h1 h2 hbr
          go_wp2_with fail
          go_roundw
          case rel => exact ⟨k + 1, by go_num, by omega, (by rw [rowL_congr (s := fun j => if j = k then k else if j < k then j else 0) (fun j hj => by split <;> split <;> (try split) <;> omega)]; exact HST.out.1), HST.out.2.1, HST.out.2.2⟩
          case measure => simp [intOf]; omega
        · have hkM : k = M := by omega
          have h1' : OwnI wr w.heap.size (some ⟨(w.heap.size), 0, none⟩) M M (rowL (rowF eq 0) m) := by
            rw [rowL_congr (s := fun j => if j < k then j else 0) (fun j hj => by have := HM.out; rw [if_pos (by omega)]; rfl)]; exact h1
          clear h1 hk
          go_wp2_with fail
          go_loopw [7, 8, 30] (fun u v i wt => ∃ (j p q : Nat) (r : Nat → Nat), i = .int .i64 j ∧ u = .slice (some ⟨p, 0, none⟩) M M ∧ v = .slice (some ⟨q, 0, none⟩) M M ∧ j ≤ n ∧ p ≠ q ∧ OwnI wt w.heap.size (some ⟨p, 0, none⟩) M M (rowL (rowF eq j) m) ∧ OwnI wt w.heap.size (some ⟨q, 0, none⟩) M M (rowL r m) ∧ Below w.heap.size w wt) (fun _ _ i _ => n - (intOf i).toNat)
          case atStart => exact ⟨0, _, _, _, rfl, rfl, rfl, Nat.zero_le _, hne, h1', h2, hbr⟩
          case round =>
            clear h1' h2 hbr hr1 hr2
            obtain ⟨j, p, q, r, rfl, rfl, rfl, hj, hpq, h1, h2, hbr⟩ := hrel
            obtain ⟨gp, ep, hgp, -⟩ := h1.at_ (by have := HM.out; omega)
            obtain ⟨gq, eq', hgq, -⟩ := h2.at_ (by have := HM.out; omega)
            cases ep
            cases eq'
            by_cases hjn : j < n
            · have hM1 : 0 < M := by have := HM.out; omega
              have hst := h2.stored 0 ((j + 1 : Nat) : Int)
              rw [rowL_set] at hst
              have hso := h1.other (j := 0) hpq (.int .i64 ((j + 1 : Nat) : Int))
              have hb' := below_setc hbr hgq 0 (.int .i64 ((j + 1 : Nat) : Int))
              have fz := h2.free 0
              have cz := h2.cell 0 hM1
              have HST := Lib.hid (And.intro hst (And.intro hso hb'))
              rw [show ((j + 1 : Nat) : Int) = (j : Int) + 1 by omega] at HST
              clear hst hso hb' h1 h2 hbr
              go_wp2_with fail
              go_loopw [38] (fun z wu => ∃ (k : Nat) (r2 : Nat → Nat), z = .int .i64 k ∧ k ≤ m ∧ OwnI wu w.heap.size (some ⟨q, 0, none⟩) M M (rowL r2 m) ∧ Hid (∀ l, l ≤ k → r2 l = nrow eq (rowF eq j) j l) ∧ OwnI wu w.heap.size (some ⟨p, 0, none⟩) M M (rowL (rowF eq j) m) ∧ Below w.heap.size w wu) (fun z _ => m - (intOf z).toNat)
              case atStart => exact ⟨0, _, rfl, Nat.zero_le _, HST.out.1, (fun l hl => by rw [if_pos (by omega)]; rw [show l = 0 by omega]; rfl), HST.out.2.1, HST.out.2.2⟩
              case round =>
                clear HST fz cz
                obtain ⟨k, r2, rfl, hk, h2, hr, h1, hbr⟩ := hrel
                by_cases hkm : k < m
                · have HQ := Lib.hid (HCC.out _ j k hbr hjn hkm)
                  obtain ⟨be, hbe⟩ : ∃ b, b = eq j k := ⟨_, rfl⟩
                  have HN : Hid (nrow eq (rowF eq j) j (k + 1) = min (rowF eq j k + (if eq j k then 0 else 1)) (min (rowF eq j (k + 1) + 1) (nrow eq (rowF eq j) j k + 1))) := rfl
                  rw [← hbe] at HQ HN
                  clear hbe
                  have b1 := rowF_le eq j k
                  have b2 := rowF_le eq j (k + 1)
                  have b3 := nrow_le eq (rowF eq j) j k
                  obtain ⟨K1, hK1⟩ : ∃ K1, K1 = k + 1 := ⟨_, rfl⟩
                  have hk1 : K1 < M := by have := HM.out; omega
                  have hkw : IntKind.i64.wrap ((k : Int) + 1) = (K1 : Int) := by rw [IntKind.wrap_i64]; omega
                  have hk0 : k < M := by omega
                  have hw1 : w.heap.size ≤ q := hgq
                  have hA9 : rowF eq j k ≤ 1000 := by omega
                  have hB9 : rowF eq j (k + 1) ≤ 1000 := by omega
                  have hC9 : nrow eq (rowF eq j) j k ≤ 1000 := by omega
                  clear b1 b2 b3
                  go_wp2_with fail
                  refine HQ.out.mono ?_
                  rintro e w3 ⟨rfl, hq⟩
                  replace h1 := h1.below (hq.below _)
                  replace h2 := h2.below (hq.below _)
                  replace hbr := hbr.trans ((hq.below _).mono hbr.size)
                  clear HQ hq
                  have c1 := h1.cell k (by omega)
                  have c2 := h1.cell (k + 1) (by omega)
                  have c3 := h2.cell k (by omega)
                  rw [rowL_at (by omega)] at c1 c2 c3
                  have HKM := Lib.hid hkm
                  rw [hr.out k (Nat.le_refl k)] at c3
                  have HH := Lib.hid (And.intro h1 (And.intro h2 (And.intro hbr hr)))
                  clear h1 h2 hbr hr
                  rw [← hK1] at c2 HN hB9
                  generalize hA : rowF eq j k = A at *
                  generalize hB : rowF eq j K1 = B at *
                  generalize hC : nrow eq (rowF eq j) j k = C at *
                  clear hA hB hC
                  have hAw : IntKind.i64.wrap ((A : Int) + 1) = (A : Int) + 1 := by rw [IntKind.wrap_i64]; omega
                  have hAw0 : IntKind.i64.wrap (A : Int) = (A : Int) := by rw [IntKind.wrap_i64]; omega
                  have hBw : IntKind.i64.wrap ((B : Int) + 1) = (B : Int) + 1 := by rw [IntKind.wrap_i64]; omega
                  have hCw : IntKind.i64.wrap ((C : Int) + 1) = (C : Int) + 1 := by rw [IntKind.wrap_i64]; omega
                  have HK1 := Lib.hid hK1
                  clear hK1
                  cases be with
                  | true =>
                    go_wp2_with fail
                    obtain ⟨X, Wf, hX, hS1, hS2⟩ := family (fun V => Below w3.heap.size w3 V) w3 (Below.refl _ _)
                    have HS2 := Lib.hid hS2
                    have q_c1 := fun x => cell_later (hS1 x) c1
                    have q_c2 := fun x => cell_later (hS1 x) c2
                    have q_c3 := fun x => cell_later (hS1 x) c3
                    clear hS1 hS2
                    have hd0 : Below w3.heap.size w3 w3.drew := (Below.refl _ _).drew
                    refine wp_region_tree (Wf := Wf) 22 (.read 0 (.read 1 (.read 2 (.read 3 (.read 4 (.read 5 (.read 6 (.read 7 (.read 8 (.read 9 (.read 10 (.read 11 (.read 12 (.read 13 (.read 14 (.read 15 (.read 16 (.read 17 (.read 18 (.read 19 (.read 20 (.read 21 .fin)))))))))))))))))))))) (by kernel_rfl) (by kernel_rfl) (fun _ _ d _ _ h => by cases d <;> exact h) (HS2.out _ hd0) ?_
                    refine wpTree_read _ rfl (fun K hK => ?_); unfold rOp; go_simp; (refine hK _ ?_; clear hK K)
                    refine wpTree_read _ rfl (fun K hK => ?_); unfold rOp; go_simp; (refine hK _ ?_; clear hK K)
                    refine wpTree_read _ rfl (fun K hK => ?_); unfold rOp; go_simp; (refine hK _ ?_; clear hK K)
                    refine wpTree_read _ rfl (fun K hK => ?_); unfold rOp; go_simp; (refine hK _ ?_; clear hK K)
                    refine wpTree_read _ rfl (fun K hK => ?_); unfold rOp; go_simp; (refine hK _ ?_; clear hK K)
                    refine wpTree_read _ rfl (fun K hK => ?_); unfold rOp; go_simp; (refine hK _ ?_; clear hK K)
                    refine wpTree_read _ rfl (fun K hK => ?_); unfold rOp; go_simp; (refine hK _ ?_; clear hK K)
                    refine wpTree_read _ rfl (fun K hK => ?_); unfold rOp; go_simp; (refine hK _ ?_; clear hK K)
                    refine wpTree_read _ rfl (fun K hK => ?_); unfold rOp; go_simp; (refine hK _ ?_; clear hK K)
                    refine wpTree_read _ rfl (fun K hK => ?_); unfold rOp; go_simp; (refine hK _ ?_; clear hK K)
                    refine wpTree_read _ rfl (fun K hK => ?_); unfold rOp; go_simp; (refine hK _ ?_; clear hK K)
                    refine wpTree_read _ rfl (fun K hK => ?_); unfold rOp; go_simp; (refine hK _ ?_; clear hK K)
                    refine wpTree_read _ rfl (fun K hK => ?_); unfold rOp; go_simp; (refine hK _ ?_; clear hK K)
                    refine wpTree_read _ rfl (fun K hK => ?_); unfold rOp; go_simp; (refine hK _ ?_; clear hK K)
                    refine wpTree_read _ rfl (fun K hK => ?_); unfold rOp; go_simp; (refine hK _ ?_; clear hK K)
                    refine wpTree_read _ rfl (fun K hK => ?_); unfold rOp; go_simp; (refine hK _ ?_; clear hK K)
                    refine wpTree_read _ rfl (fun K hK => ?_); unfold rOp; go_simp; (refine hK _ ?_; clear hK K)
                    refine wpTree_read _ rfl (fun K hK => ?_); unfold rOp; go_simp; (refine hK _ ?_; clear hK K)
                    refine wpTree_read _ rfl (fun K hK => ?_); unfold rOp; go_simp; (refine hK _ ?_; clear hK K)
                    refine wpTree_read _ rfl (fun K hK => ?_); unfold rOp; go_simp; (refine hK _ ?_; clear hK K)
                    refine wpTree_read _ rfl (fun K hK => ?_); unfold rOp; go_simp; (refine hK _ ?_; clear hK K)
                    refine wpTree_read _ rfl (fun K hK => ?_); unfold rOp; go_simp; (refine hK _ ?_; clear hK K)
                    refine wpTree_fin ?_
                    have fz := HH.out.2.1.drew.free K1
                    have cz := HH.out.2.1.drew.cell K1 hk1
                    clear q_c1 q_c2 q_c3 c1 c2 c3 HS2 hX hd0
                    have KEY : Hid (∀ (V : Nat) (x : Int), x = (V : Int) → V = nrow eq (rowF eq j) j K1 → OwnI (w3.setCell ⟨q, K1, none⟩ (.int .i64 x)).drew w.heap.size (some ⟨q, 0, none⟩) M M (rowL (fun l => if l = K1 then V else r2 l) m) ∧ Hid (∀ l, l ≤ K1 → (fun l => if l = K1 then V else r2 l) l = nrow eq (rowF eq j) j l) ∧
                        OwnI (w3.setCell ⟨q, K1, none⟩ (.int .i64 x)).drew w.heap.size (some ⟨p, 0, none⟩) M M (rowL (rowF eq j) m) ∧ Below w.heap.size w (w3.setCell ⟨q, K1, none⟩ (.int .i64 x)).drew) := fun V x hx hV => by
                      subst hx
                      have h2 := HH.out.2.1.stored K1 (V : Int)
                      rw [rowL_set] at h2
                      refine ⟨h2.drew, fun l hl => ?_, (HH.out.1.other hpq (.int .i64 (V : Int))).drew, (below_setc HH.out.2.2.1 hw1 _ _).drew⟩
                      have e := HK1.out
                      dsimp only
                      split
                      · rename_i e2; rw [hV, e2]
                      · exact HH.out.2.2.2.out l (by omega)
                    have HN2 := HN.out
                    have HKm : K1 ≤ m := by have := HK1.out; omega
                    have HKE : Hid (m - (intOf (Value.int IntKind.i64 (K1 : Int))).toNat < m - (intOf (Value.int IntKind.i64 (k : Int))).toNat) := by have := HK1.out; show _ < _; simp [intOf]; omega
                    go_wp2_with fail
                    all_goals
                      simp only [if_true, Bool.false_eq_true, if_false] at HN2
                      first
                      | exact ⟨⟨_, _, _, ⟨K1, rfl, HKm, _, KEY.out (C + 1) _ rfl (by rw [HN2]; omega)⟩, rfl, rfl, rfl⟩, HKE.out⟩
                      | exact ⟨⟨_, _, _, ⟨K1, rfl, HKm, _, KEY.out (B + 1) _ rfl (by rw [HN2]; omega)⟩, rfl, rfl, rfl⟩, HKE.out⟩
                      | exact ⟨⟨_, _, _, ⟨K1, rfl, HKm, _, KEY.out (A + 1) _ rfl (by rw [HN2]; omega)⟩, rfl, rfl, rfl⟩, HKE.out⟩
                      | exact ⟨⟨_, _, _, ⟨K1, rfl, HKm, _, KEY.out A _ rfl (by rw [HN2]; omega)⟩, rfl, rfl, rfl⟩, HKE.out⟩
                  | false =>
                    go_wp2_with fail
                    obtain ⟨X, Wf, hX, hS1, hS2⟩ := family (fun V => Below w3.heap.size w3 V) w3 (Below.refl _ _)
                    have HS2 := Lib.hid hS2
                    have q_c1 := fun x => cell_later (hS1 x) c1
                    have q_c2 := fun x => cell_later (hS1 x) c2
                    have q_c3 := fun x => cell_later (hS1 x) c3
                    clear hS1 hS2
                    have hd0 : Below w3.heap.size w3 w3.drew := (Below.refl _ _).drew
                    refine wp_region_tree (Wf := Wf) 22 (.read 0 (.read 1 (.read 2 (.read 3 (.read 4 (.read 5 (.read 6 (.read 7 (.read 8 (.read 9 (.read 10 (.read 11 (.read 12 (.read 13 (.read 14 (.read 15 (.read 16 (.read 17 (.read 18 (.read 19 (.read 20 (.read 21 .fin)))))))))))))))))))))) (by kernel_rfl) (by kernel_rfl) (fun _ _ d _ _ h => by cases d <;> exact h) (HS2.out _ hd0) ?_
                    refine wpTree_read _ rfl (fun K hK => ?_); unfold rOp; go_simp; (refine hK _ ?_; clear hK K)
                    refine wpTree_read _ rfl (fun K hK => ?_); unfold rOp; go_simp; (refine hK _ ?_; clear hK K)
                    refine wpTree_read _ rfl (fun K hK => ?_); unfold rOp; go_simp; (refine hK _ ?_; clear hK K)
                    refine wpTree_read _ rfl (fun K hK => ?_); unfold rOp; go_simp; (refine hK _ ?_; clear hK K)
                    refine wpTree_read _ rfl (fun K hK => ?_); unfold rOp; go_simp; (refine hK _ ?_; clear hK K)
                    refine wpTree_read _ rfl (fun K hK => ?_); unfold rOp; go_simp; (refine hK _ ?_; clear hK K)
                    refine wpTree_read _ rfl (fun K hK => ?_); unfold rOp; go_simp; (refine hK _ ?_; clear hK K)
                    refine wpTree_read _ rfl (fun K hK => ?_); unfold rOp; go_simp; (refine hK _ ?_; clear hK K)
                    refine wpTree_read _ rfl (fun K hK => ?_); unfold rOp; go_simp; (refine hK _ ?_; clear hK K)
                    refine wpTree_read _ rfl (fun K hK => ?_); unfold rOp; go_simp; (refine hK _ ?_; clear hK K)
                    refine wpTree_read _ rfl (fun K hK => ?_); unfold rOp; go_simp; (refine hK _ ?_; clear hK K)
                    refine wpTree_read _ rfl (fun K hK => ?_); unfold rOp; go_simp; (refine hK _ ?_; clear hK K)
                    refine wpTree_read _ rfl (fun K hK => ?_); unfold rOp; go_simp; (refine hK _ ?_; clear hK K)
                    refine wpTree_read _ rfl (fun K hK => ?_); unfold rOp; go_simp; (refine hK _ ?_; clear hK K)
                    refine wpTree_read _ rfl (fun K hK => ?_); unfold rOp; go_simp; (refine hK _ ?_; clear hK K)
                    refine wpTree_read _ rfl (fun K hK => ?_); unfold rOp; go_simp; (refine hK _ ?_; clear hK K)
                    refine wpTree_read _ rfl (fun K hK => ?_); unfold rOp; go_simp; (refine hK _ ?_; clear hK K)
                    refine wpTree_read _ rfl (fun K hK => ?_); unfold rOp; go_simp; (refine hK _ ?_; clear hK K)
                    refine wpTree_read _ rfl (fun K hK => ?_); unfold rOp; go_simp; (refine hK _ ?_; clear hK K)
                    refine wpTree_read _ rfl (fun K hK => ?_); unfold rOp; go_simp; (refine hK _ ?_; clear hK K)
                    refine wpTree_read _ rfl (fun K hK => ?_); unfold rOp; go_simp; (refine hK _ ?_; clear hK K)
                    refine wpTree_read _ rfl (fun K hK => ?_); unfold rOp; go_simp; (refine hK _ ?_; clear hK K)
                    refine wpTree_fin ?_
                    have fz := HH.out.2.1.drew.free K1
                    have cz := HH.out.2.1.drew.cell K1 hk1
                    clear q_c1 q_c2 q_c3 c1 c2 c3 HS2 hX hd0
                    have KEY : Hid (∀ (V : Nat) (x : Int), x = (V : Int) → V = nrow eq (rowF eq j) j K1 → OwnI (w3.setCell ⟨q, K1, none⟩ (.int .i64 x)).drew w.heap.size (some ⟨q, 0, none⟩) M M (rowL (fun l => if l = K1 then V else r2 l) m) ∧ Hid (∀ l, l ≤ K1 → (fun l => if l = K1 then V else r2 l) l = nrow eq (rowF eq j) j l) ∧
                        OwnI (w3.setCell ⟨q, K1, none⟩ (.int .i64 x)).drew w.heap.size (some ⟨p, 0, none⟩) M M (rowL (rowF eq j) m) ∧ Below w.heap.size w (w3.setCell ⟨q, K1, none⟩ (.int .i64 x)).drew) := fun V x hx hV => by
                      subst hx
                      have h2 := HH.out.2.1.stored K1 (V : Int)
                      rw [rowL_set] at h2
                      refine ⟨h2.drew, fun l hl => ?_, (HH.out.1.other hpq (.int .i64 (V : Int))).drew, (below_setc HH.out.2.2.1 hw1 _ _).drew⟩
                      have e := HK1.out
                      dsimp only
                      split
                      · rename_i e2; rw [hV, e2]
                      · exact HH.out.2.2.2.out l (by omega)
                    have HN2 := HN.out
                    have HKm : K1 ≤ m := by have := HK1.out; omega
                    have HKE : Hid (m - (intOf (Value.int IntKind.i64 (K1 : Int))).toNat < m - (intOf (Value.int IntKind.i64 (k : Int))).toNat) := by have := HK1.out; show _ < _; simp [intOf]; omega
                    go_wp2_with fail
                    all_goals
                      simp only [if_true, Bool.false_eq_true, if_false] at HN2
                      first
                      | exact ⟨⟨_, _, _, ⟨K1, rfl, HKm, _, KEY.out (C + 1) _ rfl (by rw [HN2]; omega)⟩, rfl, rfl, rfl⟩, HKE.out⟩
                      | exact ⟨⟨_, _, _, ⟨K1, rfl, HKm, _, KEY.out (B + 1) _ rfl (by rw [HN2]; omega)⟩, rfl, rfl, rfl⟩, HKE.out⟩
                      | exact ⟨⟨_, _, _, ⟨K1, rfl, HKm, _, KEY.out (A + 1) _ rfl (by rw [HN2]; omega)⟩, rfl, rfl, rfl⟩, HKE.out⟩
                      | exact ⟨⟨_, _, _, ⟨K1, rfl, HKm, _, KEY.out A _ rfl (by rw [HN2]; omega)⟩, rfl, rfl, rfl⟩, HKE.out⟩
                · have hkm' : k = m := by omega
                  subst hkm'
                  have hr' : OwnI wr w.heap.size (some ⟨q, 0, none⟩) M M (rowL (rowF eq (j + 1)) k) := by
                    rw [← rowL_congr (r := r2) (s := rowF eq (j + 1)) (fun l hl => hr.out l hl)]; exact h2
                  have HE := Lib.hid (And.intro hr' (And.intro h1 hbr))
                  clear h1 h2 hr hbr hr'
                  go_wp2_with fail
                  go_roundw
                  case rel => exact ⟨j + 1, q, p, _, by go_num, rfl, rfl, by omega, hpq.symm, HE.out.1, HE.out.2.1, HE.out.2.2⟩
                  case measure => simp [intOf]; omega
            · have hjn' : j = n := by omega
              subst hjn'
              have hmM : m < M := by have := HM.out; omega
              have cz := h1.cell m hmM
              rw [rowL_at (Nat.le_refl m)] at cz
              clear h1 h2
              go_wp2_with fail
              go_ret
              exact ⟨rfl, hbr⟩
  · skip
    refine wpList_make_full _ rfl _ _ 27 rfl w.heap.size 3 i0 (.int .i64 0) 1 Tryz.underlying27 hi hz0 hz1 .i64 .i64 M M M rfl rfl rfl rfl (by rw [hz2]; omega) (by unfold maxLen; omega) hd0.size ?_
    intro w1 hrow hg
    have hd1 : Below w.heap.size w w1 := hd0.grown hg hd0.size (by simp)
    have hr1 : OwnI w1 w.heap.size (some ⟨w.heap.size, 0, none⟩) M M (List.replicate M 0) := OwnI.made (by simpa using hrow)
    have hlt1 : w.heap.size < w1.heap.size := by obtain ⟨g, e, -, h, -⟩ := hr1.at_ (by have := HM.out; omega); cases e; exact h
    clear hrow hg
    go_wp2_with fail
    refine ⟨HS2.out _ hd1, ?_⟩
    refine wpTree_act _ rfl ?_
    refine wpList_make_full _ rfl _ _ 27 rfl w.heap.size 3 i0 (.int .i64 0) 1 Tryz.underlying27 hi hz0 hz1 .i64 .i64 M M M rfl rfl rfl rfl (by rw [hz2]; omega) (by unfold maxLen; omega) hd1.size ?_
    intro w2 hrow hg
    have hd2 : Below w.heap.size w w2 := hd1.grown hg hd1.size (by simp)
    have hr2 : OwnI w2 w.heap.size (some ⟨w1.heap.size, 0, none⟩) M M (List.replicate M 0) := OwnI.made (by simpa using hrow)
    replace hr1 : OwnI w2 w.heap.size (some ⟨w.heap.size, 0, none⟩) M M (List.replicate M 0) := hr1.kept hg (by simp)
    clear hrow hg
    go_wp2_with fail
    refine ⟨HS2.out _ hd2, ?_⟩
    refine wpTree_act _ rfl ?_
    go_wp2_with fail
    refine ⟨HS2.out _ hd2, ?_⟩
    refine wpTree_fin ?_
    have hne : (w1.heap.size) ≠ (w.heap.size) := by omega
    have HR1 : OwnI w2 w.heap.size (some ⟨(w1.heap.size), 0, none⟩) M M (rowL (fun _ => 0) m) := by rw [← rowL_zero, ← HM.out]; first | exact hr1 | exact hr2
    have HR2 : OwnI w2 w.heap.size (some ⟨(w.heap.size), 0, none⟩) M M (rowL (fun _ => 0) m) := by rw [← rowL_zero, ← HM.out]; first | exact hr1 | exact hr2
    go_wp2_with fail
    go_loopw [21] (fun i wr => ∃ k : Nat, i = .int .i64 k ∧ k ≤ M ∧ OwnI wr w.heap.size (some ⟨(w1.heap.size), 0, none⟩) M M (rowL (fun j => if j < k then j else 0) m) ∧ OwnI wr w.heap.size (some ⟨(w.heap.size), 0, none⟩) M M (rowL (fun _ => 0) m) ∧ Below w.heap.size w wr) (fun i _ => M - (intOf i).toNat)
    case atStart => exact ⟨0, rfl, Nat.zero_le _, (by simpa using HR1), HR2, hd2⟩
    case round =>
      clear HR1 HR2 hd2
      obtain ⟨k, rfl, hk, h1, h2, hbr⟩ := hrel
      obtain ⟨gp, ep, hgp, -⟩ := h1.at_ (by have := HM.out; omega)
      cases ep
      by_cases hkl : k < M
      · have hkm : k ≤ m := by have := HM.out; omega
        have hst := h1.stored k (k : Int)
        rw [rowL_set] at hst
        have hso := h2.other (j := k) (fun e => hne e.symm) (.int .i64 (k : Int))
        have hb' := below_setc hbr hgp k (.int .i64 (k : Int))
        have fz := h1.free k
        have cz := h1.cell k hkl
        have HST := Lib.hid (And.intro hst (And.intro hso hb'))
        clear hst hso hb' h1 h2 hbr
        go_wp2_with fail
        go_roundw
        case rel => exact ⟨k + 1, by go_num, by omega, (by rw [rowL_congr (s := fun j => if j = k then k else if j < k then j else 0) (fun j hj => by split <;> split <;> (try split) <;> omega)]; exact HST.out.1), HST.out.2.1, HST.out.2.2⟩
        case measure => simp [intOf]; omega
      · have hkM : k = M := by omega
        have h1' : OwnI wr w.heap.size (some ⟨(w1.heap.size), 0, none⟩) M M (rowL (rowF eq 0) m) := by
          rw [rowL_congr (s := fun j => if j < k then j else 0) (fun j hj => by have := HM.out; rw [if_pos (by omega)]; rfl)]; exact h1
        clear h1 hk
        go_wp2_with fail
        go_loopw [7, 8, 30] (fun u v i wt => ∃ (j p q : Nat) (r : Nat → Nat), i = .int .i64 j ∧ u = .slice (some ⟨p, 0, none⟩) M M ∧ v = .slice (some ⟨q, 0, none⟩) M M ∧ j ≤ n ∧ p ≠ q ∧ OwnI wt w.heap.size (some ⟨p, 0, none⟩) M M (rowL (rowF eq j) m) ∧ OwnI wt w.heap.size (some ⟨q, 0, none⟩) M M (rowL r m) ∧ Below w.heap.size w wt) (fun _ _ i _ => n - (intOf i).toNat)
        case atStart => exact ⟨0, _, _, _, rfl, rfl, rfl, Nat.zero_le _, hne, h1', h2, hbr⟩
        case round =>
          clear h1' h2 hbr hr1 hr2
          obtain ⟨j, p, q, r, rfl, rfl, rfl, hj, hpq, h1, h2, hbr⟩ := hrel
          obtain ⟨gp, ep, hgp, -⟩ := h1.at_ (by have := HM.out; omega)
          obtain ⟨gq, eq', hgq, -⟩ := h2.at_ (by have := HM.out; omega)
          cases ep
          cases eq'
          by_cases hjn : j < n
          · have hM1 : 0 < M := by have := HM.out; omega
            have hst := h2.stored 0 ((j + 1 : Nat) : Int)
            rw [rowL_set] at hst
            have hso := h1.other (j := 0) hpq (.int .i64 ((j + 1 : Nat) : Int))
            have hb' := below_setc hbr hgq 0 (.int .i64 ((j + 1 : Nat) : Int))
            have fz := h2.free 0
            have cz := h2.cell 0 hM1
            have HST := Lib.hid (And.intro hst (And.intro hso hb'))
            rw [show ((j + 1 : Nat) : Int) = (j : Int) + 1 by omega] at HST
            clear hst hso hb' h1 h2 hbr
            go_wp2_with fail
            go_loopw [38] (fun z wu => ∃ (k : Nat) (r2 : Nat → Nat), z = .int .i64 k ∧ k ≤ m ∧ OwnI wu w.heap.size (some ⟨q, 0, none⟩) M M (rowL r2 m) ∧ Hid (∀ l, l ≤ k → r2 l = nrow eq (rowF eq j) j l) ∧ OwnI wu w.heap.size (some ⟨p, 0, none⟩) M M (rowL (rowF eq j) m) ∧ Below w.heap.size w wu) (fun z _ => m - (intOf z).toNat)
            case atStart => exact ⟨0, _, rfl, Nat.zero_le _, HST.out.1, (fun l hl => by rw [if_pos (by omega)]; rw [show l = 0 by omega]; rfl), HST.out.2.1, HST.out.2.2⟩
            case round =>
              clear HST fz cz
              obtain ⟨k, r2, rfl, hk, h2, hr, h1, hbr⟩ := hrel
              by_cases hkm : k < m
              · have HQ := Lib.hid (HCC.out _ j k hbr hjn hkm)
                obtain ⟨be, hbe⟩ : ∃ b, b = eq j k := ⟨_, rfl⟩
                have HN : Hid (nrow eq (rowF eq j) j (k + 1) = min (rowF eq j k + (if eq j k then 0 else 1)) (min (rowF eq j (k + 1) + 1) (nrow eq (rowF eq j) j k + 1))) := rfl
                rw [← hbe] at HQ HN
                clear hbe
                have b1 := rowF_le eq j k
                have b2 := rowF_le eq j (k + 1)
                have b3 := nrow_le eq (rowF eq j) j k
                obtain ⟨K1, hK1⟩ : ∃ K1, K1 = k + 1 := ⟨_, rfl⟩
                have hk1 : K1 < M := by have := HM.out; omega
                have hkw : IntKind.i64.wrap ((k : Int) + 1) = (K1 : Int) := by rw [IntKind.wrap_i64]; omega
                have hk0 : k < M := by omega
                have hw1 : w.heap.size ≤ q := hgq
                have hA9 : rowF eq j k ≤ 1000 := by omega
                have hB9 : rowF eq j (k + 1) ≤ 1000 := by omega
                have hC9 : nrow eq (rowF eq j) j k ≤ 1000 := by omega
                clear b1 b2 b3
                go_wp2_with fail
                refine HQ.out.mono ?_
                rintro e w3 ⟨rfl, hq⟩
                replace h1 := h1.below (hq.below _)
                replace h2 := h2.below (hq.below _)
                replace hbr := hbr.trans ((hq.below _).mono hbr.size)
                clear HQ hq
                have c1 := h1.cell k (by omega)
                have c2 := h1.cell (k + 1) (by omega)
                have c3 := h2.cell k (by omega)
                rw [rowL_at (by omega)] at c1 c2 c3
                have HKM := Lib.hid hkm
                rw [hr.out k (Nat.le_refl k)] at c3
                have HH := Lib.hid (And.intro h1 (And.intro h2 (And.intro hbr hr)))
                clear h1 h2 hbr hr
                rw [← hK1] at c2 HN hB9
                generalize hA : rowF eq j k = A at *
                generalize hB : rowF eq j K1 = B at *
                generalize hC : nrow eq (rowF eq j) j k = C at *
                clear hA hB hC
                have hAw : IntKind.i64.wrap ((A : Int) + 1) = (A : Int) + 1 := by rw [IntKind.wrap_i64]; omega
                have hAw0 : IntKind.i64.wrap (A : Int) = (A : Int) := by rw [IntKind.wrap_i64]; omega
                have hBw : IntKind.i64.wrap ((B : Int) + 1) = (B : Int) + 1 := by rw [IntKind.wrap_i64]; omega
                have hCw : IntKind.i64.wrap ((C : Int) + 1) = (C : Int) + 1 := by rw [IntKind.wrap_i64]; omega
                have HK1 := Lib.hid hK1
                clear hK1
                cases be with
                | true =>
                  go_wp2_with fail
                  obtain ⟨X, Wf, hX, hS1, hS2⟩ := family (fun V => Below w3.heap.size w3 V) w3 (Below.refl _ _)
                  have HS2 := Lib.hid hS2
                  have q_c1 := fun x => cell_later (hS1 x) c1
                  have q_c2 := fun x => cell_later (hS1 x) c2
                  have q_c3 := fun x => cell_later (hS1 x) c3
                  clear hS1 hS2
                  have hd0 : Below w3.heap.size w3 w3.drew := (Below.refl _ _).drew
                  refine wp_region_tree (Wf := Wf) 22 (.read 0 (.read 1 (.read 2 (.read 3 (.read 4 (.read 5 (.read 6 (.read 7 (.read 8 (.read 9 (.read 10 (.read 11 (.read 12 (.read 13 (.read 14 (.read 15 (.read 16 (.read 17 (.read 18 (.read 19 (.read 20 (.read 21 .fin)))))))))))))))))))))) (by kernel_rfl) (by kernel_rfl) (fun _ _ d _ _ h => by cases d <;> exact h) (HS2.out _ hd0) ?_
                  refine wpTree_read _ rfl (fun K hK => ?_); unfold rOp; go_simp; (refine hK _ ?_; clear hK K)
                  refine wpTree_read _ rfl (fun K hK => ?_); unfold rOp; go_simp; (refine hK _ ?_; clear hK K)
                  refine wpTree_read _ rfl (fun K hK => ?_); unfold rOp; go_simp; (refine hK _ ?_; clear hK K)
                  refine wpTree_read _ rfl (fun K hK => ?_); unfold rOp; go_simp; (refine hK _ ?_; clear hK K)
                  refine wpTree_read _ rfl (fun K hK => ?_); unfold rOp; go_simp; (refine hK _ ?_; clear hK K)
                  refine wpTree_read _ rfl (fun K hK => ?_); unfold rOp; go_simp; (refine hK _ ?_; clear hK K)
                  refine wpTree_read _ rfl (fun K hK => ?_); unfold rOp; go_simp; (refine hK _ ?_; clear hK K)
                  refine wpTree_read _ rfl (fun K hK => ?_); unfold rOp; go_simp; (refine hK _ ?_; clear hK K)
                  refine wpTree_read _ rfl (fun K hK => ?_); unfold rOp; go_simp; (refine hK _ ?_; clear hK K)
                  refine wpTree_read _ rfl (fun K hK => ?_); unfold rOp; go_simp; (refine hK _ ?_; clear hK K)
                  refine wpTree_read _ rfl (fun K hK => ?_); unfold rOp; go_simp; (refine hK _ ?_; clear hK K)
                  refine wpTree_read _ rfl (fun K hK => ?_); unfold rOp; go_simp; (refine hK _ ?_; clear hK K)
                  refine wpTree_read _ rfl (fun K hK => ?_); unfold rOp; go_simp; (refine hK _ ?_; clear hK K)
                  refine wpTree_read _ rfl (fun K hK => ?_); unfold rOp; go_simp; (refine hK _ ?_; clear hK K)
                  refine wpTree_read _ rfl (fun K hK => ?_); unfold rOp; go_simp; (refine hK _ ?_; clear hK K)
                  refine wpTree_read _ rfl (fun K hK => ?_); unfold rOp; go_simp; (refine hK _ ?_; clear hK K)
                  refine wpTree_read _ rfl (fun K hK => ?_); unfold rOp; go_simp; (refine hK _ ?_; clear hK K)
                  refine wpTree_read _ rfl (fun K hK => ?_); unfold rOp; go_simp; (refine hK _ ?_; clear hK K)
                  refine wpTree_read _ rfl (fun K hK => ?_); unfold rOp; go_simp; (refine hK _ ?_; clear hK K)
                  refine wpTree_read _ rfl (fun K hK => ?_); unfold rOp; go_simp; (refine hK _ ?_; clear hK K)
                  refine wpTree_read _ rfl (fun K hK => ?_); unfold rOp; go_simp; (refine hK _ ?_; clear hK K)
                  refine wpTree_read _ rfl (fun K hK => ?_); unfold rOp; go_simp; (refine hK _ ?_; clear hK K)
                  refine wpTree_fin ?_
                  have fz := HH.out.2.1.drew.free K1
                  have cz := HH.out.2.1.drew.cell K1 hk1
                  clear q_c1 q_c2 q_c3 c1 c2 c3 HS2 hX hd0
                  have KEY : Hid (∀ (V : Nat) (x : Int), x = (V : Int) → V = nrow eq (rowF eq j) j K1 → OwnI (w3.setCell ⟨q, K1, none⟩ (.int .i64 x)).drew w.heap.size (some ⟨q, 0, none⟩) M M (rowL (fun l => if l = K1 then V else r2 l) m) ∧ Hid (∀ l, l ≤ K1 → (fun l => if l = K1 then V else r2 l) l = nrow eq (rowF eq j) j l) ∧
                      OwnI (w3.setCell ⟨q, K1, none⟩ (.int .i64 x)).drew w.heap.size (some ⟨p, 0, none⟩) M M (rowL (rowF eq j) m) ∧ Below w.heap.size w (w3.setCell ⟨q, K1, none⟩ (.int .i64 x)).drew) := fun V x hx hV => by
                    subst hx
                    have h2 := HH.out.2.1.stored K1 (V : Int)
                    rw [rowL_set] at h2
                    refine ⟨h2.drew, fun l hl => ?_, (HH.out.1.other hpq (.int .i64 (V : Int))).drew, (below_setc HH.out.2.2.1 hw1 _ _).drew⟩
                    have e := HK1.out
                    dsimp only
                    split
                    · rename_i e2; rw [hV, e2]
                    · exact HH.out.2.2.2.out l (by omega)
                  have HN2 := HN.out
                  have HKm : K1 ≤ m := by have := HK1.out; omega
                  have HKE : Hid (m - (intOf (Value.int IntKind.i64 (K1 : Int))).toNat < m - (intOf (Value.int IntKind.i64 (k : Int))).toNat) := by have := HK1.out; show _ < _; simp [intOf]; omega
                  go_wp2_with fail
                  all_goals
                    simp only [if_true, Bool.false_eq_true, if_false] at HN2
                    first
                    | exact ⟨⟨_, _, _, ⟨K1, rfl, HKm, _, KEY.out (C + 1) _ rfl (by rw [HN2]; omega)⟩, rfl, rfl, rfl⟩, HKE.out⟩
                    | exact ⟨⟨_, _, _, ⟨K1, rfl, HKm, _, KEY.out (B + 1) _ rfl (by rw [HN2]; omega)⟩, rfl, rfl, rfl⟩, HKE.out⟩
                    | exact ⟨⟨_, _, _, ⟨K1, rfl, HKm, _, KEY.out (A + 1) _ rfl (by rw [HN2]; omega)⟩, rfl, rfl, rfl⟩, HKE.out⟩
                    | exact ⟨⟨_, _, _, ⟨K1, rfl, HKm, _, KEY.out A _ rfl (by rw [HN2]; omega)⟩, rfl, rfl, rfl⟩, HKE.out⟩
                | false =>
                  go_wp2_with fail
                  obtain ⟨X, Wf, hX, hS1, hS2⟩ := family (fun V => Below w3.heap.size w3 V) w3 (Below.refl _ _)
                  have HS2 := Lib.hid hS2
                  have q_c1 := fun x => cell_later (hS1 x) c1
                  have q_c2 := fun x => cell_later (hS1 x) c2
                  have q_c3 := fun x => cell_later (hS1 x) c3
                  clear hS1 hS2
                  have hd0 : Below w3.heap.size w3 w3.drew := (Below.refl _ _).drew
                  refine wp_region_tree (Wf := Wf) 22 (.read 0 (.read 1 (.read 2 (.read 3 (.read 4 (.read 5 (.read 6 (.read 7 (.read 8 (.read 9 (.read 10 (.read 11 (.read 12 (.read 13 (.read 14 (.read 15 (.read 16 (.read 17 (.read 18 (.read 19 (.read 20 (.read 21 .fin)))))))))))))))))))))) (by kernel_rfl) (by kernel_rfl) (fun _ _ d _ _ h => by cases d <;> exact h) (HS2.out _ hd0) ?_
                  refine wpTree_read _ rfl (fun K hK => ?_); unfold rOp; go_simp; (refine hK _ ?_; clear hK K)
                  refine wpTree_read _ rfl (fun K hK => ?_); unfold rOp; go_simp; (refine hK _ ?_; clear hK K)
                  refine wpTree_read _ rfl (fun K hK => ?_); unfold rOp; go_simp; (refine hK _ ?_; clear hK K)
                  refine wpTree_read _ rfl (fun K hK => ?_); unfold rOp; go_simp; (refine hK _ ?_; clear hK K)
                  refine wpTree_read _ rfl (fun K hK => ?_); unfold rOp; go_simp; (refine hK _ ?_; clear hK K)
                  refine wpTree_read _ rfl (fun K hK => ?_); unfold rOp; go_simp; (refine hK _ ?_; clear hK K)
                  refine wpTree_read _ rfl (fun K hK => ?_); unfold rOp; go_simp; (refine hK _ ?_; clear hK K)
                  refine wpTree_read _ rfl (fun K hK => ?_); unfold rOp; go_simp; (refine hK _ ?_; clear hK K)
                  refine wpTree_read _ rfl (fun K hK => ?_); unfold rOp; go_simp; (refine hK _ ?_; clear hK K)
                  refine wpTree_read _ rfl (fun K hK => ?_); unfold rOp; go_simp; (refine hK _ ?_; clear hK K)
                  refine wpTree_read _ rfl (fun K hK => ?_); unfold rOp; go_simp; (refine hK _ ?_; clear hK K)
                  refine wpTree_read _ rfl (fun K hK => ?_); unfold rOp; go_simp; (refine hK _ ?_; clear hK K)
                  refine wpTree_read _ rfl (fun K hK => ?_); unfold rOp; go_simp; (refine hK _ ?_; clear hK K)
                  refine wpTree_read _ rfl (fun K hK => ?_); unfold rOp; go_simp; (refine hK _ ?_; clear hK K)
                  refine wpTree_read _ rfl (fun K hK => ?_); unfold rOp; go_simp; (refine hK _ ?_; clear hK K)
                  refine wpTree_read _ rfl (fun K hK => ?_); unfold rOp; go_simp; (refine hK _ ?_; clear hK K)
                  refine wpTree_read _ rfl (fun K hK => ?_); unfold rOp; go_simp; (refine hK _ ?_; clear hK K)
                  refine wpTree_read _ rfl (fun K hK => ?_); unfold rOp; go_simp; (refine hK _ ?_; clear hK K)
                  refine wpTree_read _ rfl (fun K hK => ?_); unfold rOp; go_simp; (refine hK _ ?_; clear hK K)
                  refine wpTree_read _ rfl (fun K hK => ?_); unfold rOp; go_simp; (refine hK _ ?_; clear hK K)
                  refine wpTree_read _ rfl (fun K hK => ?_); unfold rOp; go_simp; (refine hK _ ?_; clear hK K)
                  refine wpTree_read _ rfl (fun K hK => ?_); unfold rOp; go_simp; (refine hK _ ?_; clear hK K)
                  refine wpTree_fin ?_
                  have fz := HH.out.2.1.drew.free K1
                  have cz := HH.out.2.1.drew.cell K1 hk1
                  clear q_c1 q_c2 q_c3 c1 c2 c3 HS2 hX hd0
                  have KEY : Hid (∀ (V : Nat) (x : Int), x = (V : Int) → V = nrow eq (rowF eq j) j K1 → OwnI (w3.setCell ⟨q, K1, none⟩ (.int .i64 x)).drew w.heap.size (some ⟨q, 0, none⟩) M M (rowL (fun l => if l = K1 then V else r2 l) m) ∧ Hid (∀ l, l ≤ K1 → (fun l => if l = K1 then V else r2 l) l = nrow eq (rowF eq j) j l) ∧
                      OwnI (w3.setCell ⟨q, K1, none⟩ (.int .i64 x)).drew w.heap.size (some ⟨p, 0, none⟩) M M (rowL (rowF eq j) m) ∧ Below w.heap.size w (w3.setCell ⟨q, K1, none⟩ (.int .i64 x)).drew) := fun V x hx hV => by
                    subst hx
                    have h2 := HH.out.2.1.stored K1 (V : Int)
                    rw [rowL_set] at h2
                    refine ⟨h2.drew, fun l hl => ?_, (HH.out.1.other hpq (.int .i64 (V : Int))).drew, (below_setc HH.out.2.2.1 hw1 _ _).drew⟩
                    have e := HK1.out
                    dsimp only
                    split
                    · rename_i e2; rw [hV, e2]
                    · exact HH.out.2.2.2.out l (by omega)
                  have HN2 := HN.out
                  have HKm : K1 ≤ m := by have := HK1.out; omega
                  have HKE : Hid (m - (intOf (Value.int IntKind.i64 (K1 : Int))).toNat < m - (intOf (Value.int IntKind.i64 (k : Int))).toNat) := by have := HK1.out; show _ < _; simp [intOf]; omega
                  go_wp2_with fail
                  all_goals
                    simp only [if_true, Bool.false_eq_true, if_false] at HN2
                    first
                    | exact ⟨⟨_, _, _, ⟨K1, rfl, HKm, _, KEY.out (C + 1) _ rfl (by rw [HN2]; omega)⟩, rfl, rfl, rfl⟩, HKE.out⟩
                    | exact ⟨⟨_, _, _, ⟨K1, rfl, HKm, _, KEY.out (B + 1) _ rfl (by rw [HN2]; omega)⟩, rfl, rfl, rfl⟩, HKE.out⟩
                    | exact ⟨⟨_, _, _, ⟨K1, rfl, HKm, _, KEY.out (A + 1) _ rfl (by rw [HN2]; omega)⟩, rfl, rfl, rfl⟩, HKE.out⟩
                    | exact ⟨⟨_, _, _, ⟨K1, rfl, HKm, _, KEY.out A _ rfl (by rw [HN2]; omega)⟩, rfl, rfl, rfl⟩, HKE.out⟩
              · have hkm' : k = m := by omega
                subst hkm'
                have hr' : OwnI wr w.heap.size (some ⟨q, 0, none⟩) M M (rowL (rowF eq (j + 1)) k) := by
                  rw [← rowL_congr (r := r2) (s := rowF eq (j + 1)) (fun l hl => hr.out l hl)]; exact h2
                have HE := Lib.hid (And.intro hr' (And.intro h1 hbr))
                clear h1 h2 hr hbr hr'
                go_wp2_with fail
                go_roundw
                case rel => exact ⟨j + 1, q, p, _, by go_num, rfl, rfl, by omega, hpq.symm, HE.out.1, HE.out.2.1, HE.out.2.2⟩
                case measure => simp [intOf]; omega
          · have hjn' : j = n := by omega
            subst hjn'
            have hmM : m < M := by have := HM.out; omega
            have cz := h1.cell m hmM
            rw [rowL_at (Nat.le_refl m)] at cz
            clear h1 h2
            go_wp2_with fail
            go_ret
            exact ⟨rfl, hbr⟩
end Go.Proofs.YtaelfjlmkgimhaaGreatDoor
