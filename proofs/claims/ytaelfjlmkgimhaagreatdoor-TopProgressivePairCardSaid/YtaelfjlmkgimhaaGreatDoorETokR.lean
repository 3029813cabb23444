/- Check of a token: the reference. -/
import Derived.Test.YtaelfjlmkgimhaaGreatDoorETok
import Derived.Test.YtaelfjlmkgimhaaGreatDoorHead
set_option linter.unusedVariables false
set_option linter.unusedSimpArgs false
namespace Go.Proofs.YtaelfjlmkgimhaaGreatDoor
open Go.RowKit

theorem has2_ref (tx nm pg na : ByteArray) (ln fl : Int) (w : World) (h0 : 0 ≤ fl) (h1 : fl ≤ 31) :
    Calls Tryz.prog 35 #[.agg #[.string tx, .string nm, .string pg, .int .i64 ln, .int .i64 fl, .string na], .int .i64 2] w fun e w' => e = .returned (.bool (decide (fl / 2 % 2 = 1))) ∧ Below w.heap.size w w' := by
  go_enter Tryz.func35, Tryz.ntmps35
  go_wp2
  go_ret
  exact ⟨ret_bool (by first | rfl | (rw [Bool.eq_iff_iff]; simp)), (Below.refl _ _).alloc (Nat.le_refl _) _⟩
theorem has8_ref (tx nm pg na : ByteArray) (ln fl : Int) (w : World) (h0 : 0 ≤ fl) (h1 : fl ≤ 31) :
    Calls Tryz.prog 35 #[.agg #[.string tx, .string nm, .string pg, .int .i64 ln, .int .i64 fl, .string na], .int .i64 8] w fun e w' => e = .returned (.bool (decide (fl / 8 % 2 = 1))) ∧ Below w.heap.size w w' := by
  go_enter Tryz.func35, Tryz.ntmps35
  go_wp2
  go_ret
  exact ⟨ret_bool (by first | rfl | (rw [Bool.eq_iff_iff]; simp)), (Below.refl _ _).alloc (Nat.le_refl _) _⟩
set_option maxRecDepth 100000 in
set_option maxHeartbeats 4000000 in
theorem tok_ref (tx nm pg na : ByteArray) (ln fl : Int) (w : World) :
    Calls Tryz.prog 18 #[.agg #[.string tx, .string nm, .string pg, .int .i64 ln, .int .i64 fl, .string na]] w fun e w' => e = .returned (.int .i64 (Tok.err ⟨tx, nm, pg, ln, fl, na⟩)) ∧ Below w.heap.size w w' := by
  have HB : Hid (w.heap.size ≤ (w.alloc (.cells #[.string tx, .string nm, .string pg, .int .i64 ln, .int .i64 fl, .string na] 47)).heap.size ∧ Below w.heap.size w (w.alloc (.cells #[.string tx, .string nm, .string pg, .int .i64 ln, .int .i64 fl, .string na] 47))) := ⟨by simp, (Below.refl _ _).alloc (Nat.le_refl _) _⟩
  have c0 : (w.alloc (.cells #[.string tx, .string nm, .string pg, .int .i64 ln, .int .i64 fl, .string na] 47)).cell? ⟨w.heap.size, 0, none⟩ = some (.string tx) := by rw [World.cell?_alloc_at _ _ _ _ rfl]; rfl
  have c1 : (w.alloc (.cells #[.string tx, .string nm, .string pg, .int .i64 ln, .int .i64 fl, .string na] 47)).cell? ⟨w.heap.size, 1, none⟩ = some (.string nm) := by rw [World.cell?_alloc_at _ _ _ _ rfl]; rfl
  have c2 : (w.alloc (.cells #[.string tx, .string nm, .string pg, .int .i64 ln, .int .i64 fl, .string na] 47)).cell? ⟨w.heap.size, 2, none⟩ = some (.string pg) := by rw [World.cell?_alloc_at _ _ _ _ rfl]; rfl
  have c3 : (w.alloc (.cells #[.string tx, .string nm, .string pg, .int .i64 ln, .int .i64 fl, .string na] 47)).cell? ⟨w.heap.size, 3, none⟩ = some (.int .i64 ln) := by rw [World.cell?_alloc_at _ _ _ _ rfl]; rfl
  have c4 : (w.alloc (.cells #[.string tx, .string nm, .string pg, .int .i64 ln, .int .i64 fl, .string na] 47)).cell? ⟨w.heap.size, 4, none⟩ = some (.int .i64 fl) := by rw [World.cell?_alloc_at _ _ _ _ rfl]; rfl
  have c5 : (w.alloc (.cells #[.string tx, .string nm, .string pg, .int .i64 ln, .int .i64 fl, .string na] 47)).cell? ⟨w.heap.size, 5, none⟩ = some (.string na) := by rw [World.cell?_alloc_at _ _ _ _ rfl]; rfl
  by_cases hr : fl < 0 ∨ 31 < fl
  · have HR : Hid (Tok.err ⟨tx, nm, pg, ln, fl, na⟩ = 2) := by show _ = _; unfold Tok.err; rw [if_pos hr]
    generalize Tok.err ⟨tx, nm, pg, ln, fl, na⟩ = R at *
    clear c0 c1 c2 c3 c4 c5
    rcases hr with hr | hr
    all_goals
      go_enter Tryz.func18, Tryz.ntmps18
      go_wp2
      go_ret
      exact ⟨ret_int HR.out.symm, HB.out.2⟩
  · have h0 : 0 ≤ fl := by omega
    have h1 : fl ≤ 31 := by omega
    have H2 : Hid (∀ W, Calls Tryz.prog 35 #[.agg #[.string tx, .string nm, .string pg, .int .i64 ln, .int .i64 fl, .string na], .int .i64 2] W fun e w' => e = .returned (.bool (decide (fl / 2 % 2 = 1))) ∧ Below W.heap.size W w') := fun W => has2_ref tx nm pg na ln fl W h0 h1
    have H8 : Hid (∀ W, Calls Tryz.prog 35 #[.agg #[.string tx, .string nm, .string pg, .int .i64 ln, .int .i64 fl, .string na], .int .i64 8] W fun e w' => e = .returned (.bool (decide (fl / 8 % 2 = 1))) ∧ Below W.heap.size W w') := fun W => has8_ref tx nm pg na ln fl W h0 h1
    have HT : Hid (Tok.err ⟨tx, nm, pg, ln, fl, na⟩ = if (decide (fl / 2 % 2 = 1) && decide (fl / 8 % 2 = 1)) = true then 8 else if (!(if decide (fl / 2 % 2 = 1) = true then gapP tx && decide (nm = tx) else if decide (fl / 8 % 2 = 1) = true then markP tx && decide (nm = tx) else isWordP tx && normP nm)) = true then 11 else if ln < 0 then 2 else if (!(namedP pg) || !(namedP na)) = true then 14 else 0) := by
      show _ = _; unfold Tok.err; rw [if_neg hr]; rfl
    generalize Tok.err ⟨tx, nm, pg, ln, fl, na⟩ = R at *
    generalize decide (fl / 2 % 2 = 1) = G at *
    generalize decide (fl / 8 % 2 = 1) = P at *
    clear hr
    go_enter Tryz.func18, Tryz.ntmps18
    go_wp2
    generalize w.alloc (.cells #[.string tx, .string nm, .string pg, .int .i64 ln, .int .i64 fl, .string na] 47) = W1 at *
    obtain ⟨X, Wf, hX, hS1, hS2⟩ := family (fun W => Below W1.heap.size W1 W) W1 (Below.refl _ _)
    have HS1 := Lib.hid hS1
    have HS2 := Lib.hid hS2
    have HC : Hid (∀ x, (Wf x).cell? ⟨w.heap.size, 0, none⟩ = some (.string tx) ∧ (Wf x).cell? ⟨w.heap.size, 1, none⟩ = some (.string nm) ∧ (Wf x).cell? ⟨w.heap.size, 2, none⟩ = some (.string pg) ∧ (Wf x).cell? ⟨w.heap.size, 3, none⟩ = some (.int .i64 ln) ∧ (Wf x).cell? ⟨w.heap.size, 4, none⟩ = some (.int .i64 fl) ∧ (Wf x).cell? ⟨w.heap.size, 5, none⟩ = some (.string na)) := fun x =>
      ⟨cell_later (hS1 x) c0, cell_later (hS1 x) c1, cell_later (hS1 x) c2, cell_later (hS1 x) c3, cell_later (hS1 x) c4, cell_later (hS1 x) c5⟩
    clear hS1 hS2
    refine wp_region_quiet (C := fun W => ∃ x, W = Wf x) (by kernel_rfl) (by kernel_rfl) (HS2.out _ (Below.refl _ _).drew) ?_
    simp only []
    have d0 := fun x => (HC.out x).1
    have d1 := fun x => (HC.out x).2.1
    have d2 := fun x => (HC.out x).2.2.1
    have d3 := fun x => (HC.out x).2.2.2.1
    have d4 := fun x => (HC.out x).2.2.2.2.1
    have d5 := fun x => (HC.out x).2.2.2.2.2
    go_big_quiet_step (fail)
    go_big_quiet_step ((go_at_call 35; refine (H2.out _).mono ?_; rintro e4 w4 ⟨rfl, hb4⟩; exact ⟨rfl, HS2.out _ ((HS1.out _).trans (hb4.mono (HS1.out _).size))⟩))
    go_big_quiet_step (fail)
    go_big_quiet_step ((go_at_call 35; refine (H8.out _).mono ?_; rintro e4 w4 ⟨rfl, hb4⟩; exact ⟨rfl, HS2.out _ ((HS1.out _).trans (hb4.mono (HS1.out _).size))⟩))
    go_big_quiet_step (fail)
    go_big_quiet_step (fail)
    refine wpQuiet_nil ?_
    rintro W2 ⟨x2, rfl⟩
    have hb' : Below W1.heap.size W1 (Wf x2) := HS1.out x2
    clear d0 d1 d2 d3 d4 d5 HC H2 H8
    replace HB := belowH HB hb'; have c0 := cell_later hb' c0; have c1 := cell_later hb' c1; have c2 := cell_later hb' c2; have c3 := cell_later hb' c3; have c4 := cell_later hb' c4; have c5 := cell_later hb' c5; clear hb'
    generalize Wf x2 = W2 at *
    clear HS1 HS2 hX
    cases G
    · cases P
      · cases hw : isWordP tx with
        | false =>
          go_wp2_with (first | (go_at_call 36; refine (gapped_ref tx _).mono ?_; rintro e w' ⟨rfl, rfl⟩) | (go_at_call 38; refine (isWord_ref tx _).mono ?_; rintro e w' ⟨rfl, hb'⟩; replace HB := belowH HB hb'; have c0 := cell_later hb' c0; have c1 := cell_later hb' c1; have c2 := cell_later hb' c2; have c3 := cell_later hb' c3; have c4 := cell_later hb' c4; have c5 := cell_later hb' c5; clear hb') | (go_at_call 37; refine (kind_ref _ _).mono ?_; rintro e w' ⟨rfl, rfl⟩) | (go_at_call 40; refine (named_ref _ _).mono ?_; rintro e w' ⟨rfl, hb'⟩; replace HB := belowH HB hb'; have c0 := cell_later hb' c0; have c1 := cell_later hb' c1; have c2 := cell_later hb' c2; have c3 := cell_later hb' c3; have c4 := cell_later hb' c4; have c5 := cell_later hb' c5; clear hb'))
          all_goals
            go_ret
            refine ⟨ret_int ?_, HB.out.2⟩
            rw [HT.out]
            simp_all [ba_toList]
        | true =>
          by_cases hz : nm.size = 0
          · have e0 := isEmpty_yes hz
            have e1 := toList_nil.2 hz
            have hn : Hid (normP nm = false) := by show _ = _; rw [normP_eq, decide_eq_false (by omega)]; rfl
            clear hz
            go_wp2_with (first | (go_at_call 36; refine (gapped_ref tx _).mono ?_; rintro e w' ⟨rfl, rfl⟩) | (go_at_call 38; refine (isWord_ref tx _).mono ?_; rintro e w' ⟨rfl, hb'⟩; replace HB := belowH HB hb'; have c0 := cell_later hb' c0; have c1 := cell_later hb' c1; have c2 := cell_later hb' c2; have c3 := cell_later hb' c3; have c4 := cell_later hb' c4; have c5 := cell_later hb' c5; clear hb') | (go_at_call 37; refine (kind_ref _ _).mono ?_; rintro e w' ⟨rfl, rfl⟩) | (go_at_call 40; refine (named_ref _ _).mono ?_; rintro e w' ⟨rfl, hb'⟩; replace HB := belowH HB hb'; have c0 := cell_later hb' c0; have c1 := cell_later hb' c1; have c2 := cell_later hb' c2; have c3 := cell_later hb' c3; have c4 := cell_later hb' c4; have c5 := cell_later hb' c5; clear hb'))
            go_ret
            refine ⟨ret_int ?_, HB.out.2⟩
            rw [HT.out, hn.out]
            simp_all [ba_toList]
          · have e0 := isEmpty_no hz
            have e1 : ¬ nm.toList = [] := fun h => hz (toList_nil.1 h)
            by_cases h64 : 64 < nm.size
            · have hn : Hid (normP nm = false) := by show _ = _; rw [normP_eq, decide_eq_false (by omega)]; rfl
              clear hz
              go_wp2_with (first | (go_at_call 36; refine (gapped_ref tx _).mono ?_; rintro e w' ⟨rfl, rfl⟩) | (go_at_call 38; refine (isWord_ref tx _).mono ?_; rintro e w' ⟨rfl, hb'⟩; replace HB := belowH HB hb'; have c0 := cell_later hb' c0; have c1 := cell_later hb' c1; have c2 := cell_later hb' c2; have c3 := cell_later hb' c3; have c4 := cell_later hb' c4; have c5 := cell_later hb' c5; clear hb') | (go_at_call 37; refine (kind_ref _ _).mono ?_; rintro e w' ⟨rfl, rfl⟩) | (go_at_call 40; refine (named_ref _ _).mono ?_; rintro e w' ⟨rfl, hb'⟩; replace HB := belowH HB hb'; have c0 := cell_later hb' c0; have c1 := cell_later hb' c1; have c2 := cell_later hb' c2; have c3 := cell_later hb' c3; have c4 := cell_later hb' c4; have c5 := cell_later hb' c5; clear hb'))
              go_ret
              refine ⟨ret_int ?_, HB.out.2⟩
              rw [HT.out, hn.out]
              simp_all [ba_toList]
            · have hn : Hid (normP nm = allFrom innB nm 0) := by show _ = _; rw [normP_eq, decide_eq_true (by omega)]; rfl
              have HTT : Hid (R = if (!(allFrom innB nm 0)) = true then 11 else if ln < 0 then 2 else if (!(namedP pg) || !(namedP na)) = true then 14 else 0) := by
                show _ = _; rw [HT.out, hw, hn.out]; simp
              clear hz HT hn
              go_wp2_with (first | (go_at_call 36; refine (gapped_ref tx _).mono ?_; rintro e w' ⟨rfl, rfl⟩) | (go_at_call 38; refine (isWord_ref tx _).mono ?_; rintro e w' ⟨rfl, hb'⟩; replace HB := belowH HB hb'; have c0 := cell_later hb' c0; have c1 := cell_later hb' c1; have c2 := cell_later hb' c2; have c3 := cell_later hb' c3; have c4 := cell_later hb' c4; have c5 := cell_later hb' c5; clear hb') | (go_at_call 37; refine (kind_ref _ _).mono ?_; rintro e w' ⟨rfl, rfl⟩) | (go_at_call 40; refine (named_ref _ _).mono ?_; rintro e w' ⟨rfl, hb'⟩; replace HB := belowH HB hb'; have c0 := cell_later hb' c0; have c1 := cell_later hb' c1; have c2 := cell_later hb' c2; have c3 := cell_later hb' c3; have c4 := cell_later hb' c4; have c5 := cell_later hb' c5; clear hb'))
              clear e0 e1
              obtain ⟨W3, rfl⟩ : ∃ W3, W3 = w' := ⟨_, rfl⟩
              clear hw
              go_loopw [5] (fun i wr => ∃ k : Nat, k ≤ nm.size ∧ i = .int .i64 k ∧ Hid (allFrom innB nm 0 = allFrom innB nm k) ∧ wr = W3) (fun i _ => nm.size - (intOf i).toNat)
              case atStart => exact ⟨0, Nat.zero_le _, rfl, rfl, rfl⟩
              case round =>
                obtain ⟨k, hk, rfl, hx, rfl⟩ := hrel
                by_cases hlt : k < nm.size
                · have HF : Hid (∀ w, Calls Tryz.prog 39 #[.int .u8 nm[k].toNat] w fun e w' => e = .returned (.bool (innB nm[k])) ∧ w = w') := fun w => wordly_ref _ w
                  have HS : Hid (allFrom innB nm k = (innB nm[k] && allFrom innB nm (k + 1))) := allFrom_step hlt
                  generalize innB nm[k] = b at *
                  cases b with
                  | true =>
                    have HN2 : Hid (allFrom innB nm 0 = allFrom innB nm (k + 1)) := by show _ = _; rw [hx.out, HS.out]; rfl
                    go_wp2_with (go_at_call 39; refine (HF.out _).mono ?_; rintro e w' ⟨rfl, rfl⟩)
                    go_roundw
                    case rel => exact ⟨k + 1, by omega, by go_num, HN2.out, trivial⟩
                    case measure => simp [intOf]; omega
                  | false =>
                    have HR : Hid (R = 11) := by show _ = _; rw [HTT.out, hx.out, HS.out]; rfl
                    go_wp2_with (go_at_call 39; refine (HF.out _).mono ?_; rintro e w' ⟨rfl, rfl⟩)
                    go_ret
                    exact ⟨ret_int HR.out.symm, HB.out.2⟩
                · have HR : Hid (R = if ln < 0 then 2 else if (!(namedP pg) || !(namedP na)) = true then 14 else 0) := by show _ = _; rw [HTT.out, hx.out, allFrom_end (by omega)]; rfl
                  clear HTT hx
                  go_wp2_with (first | (go_at_call 36; refine (gapped_ref tx _).mono ?_; rintro e w' ⟨rfl, rfl⟩) | (go_at_call 38; refine (isWord_ref tx _).mono ?_; rintro e w' ⟨rfl, hb'⟩; replace HB := belowH HB hb'; have c0 := cell_later hb' c0; have c1 := cell_later hb' c1; have c2 := cell_later hb' c2; have c3 := cell_later hb' c3; have c4 := cell_later hb' c4; have c5 := cell_later hb' c5; clear hb') | (go_at_call 37; refine (kind_ref _ _).mono ?_; rintro e w' ⟨rfl, rfl⟩) | (go_at_call 40; refine (named_ref _ _).mono ?_; rintro e w' ⟨rfl, hb'⟩; replace HB := belowH HB hb'; have c0 := cell_later hb' c0; have c1 := cell_later hb' c1; have c2 := cell_later hb' c2; have c3 := cell_later hb' c3; have c4 := cell_later hb' c4; have c5 := cell_later hb' c5; clear hb'))
                  all_goals
                    go_ret
                    refine ⟨ret_int ?_, HB.out.2⟩
                    rw [HR.out]
                    simp_all [ba_toList]
      · by_cases h1 : tx.size = 1
        · obtain ⟨c, hs, hc⟩ := bytes_one h1
          have hlt : 0 < tx.size := by omega
          have HM : Hid (markP tx = (decide (byK tx[0] = 5) || decide (byK tx[0] = 4))) := by show markP tx = _; unfold markP; rw [decide_eq_true h1, hs, hc hlt]; simp
          have b1 : ((tx.size : Int) != 1) = false := by simp [h1]
          have i0 : (0 : Int) < (tx.size : Int) := by omega
          clear hs hc h1
          go_wp2_with (first | (go_at_call 36; refine (gapped_ref tx _).mono ?_; rintro e w' ⟨rfl, rfl⟩) | (go_at_call 38; refine (isWord_ref tx _).mono ?_; rintro e w' ⟨rfl, hb'⟩; replace HB := belowH HB hb'; have c0 := cell_later hb' c0; have c1 := cell_later hb' c1; have c2 := cell_later hb' c2; have c3 := cell_later hb' c3; have c4 := cell_later hb' c4; have c5 := cell_later hb' c5; clear hb') | (go_at_call 37; refine (kind_ref _ _).mono ?_; rintro e w' ⟨rfl, rfl⟩) | (go_at_call 40; refine (named_ref _ _).mono ?_; rintro e w' ⟨rfl, hb'⟩; replace HB := belowH HB hb'; have c0 := cell_later hb' c0; have c1 := cell_later hb' c1; have c2 := cell_later hb' c2; have c3 := cell_later hb' c3; have c4 := cell_later hb' c4; have c5 := cell_later hb' c5; clear hb'))
          all_goals
            go_ret
            refine ⟨ret_int ?_, HB.out.2⟩
            rw [HT.out, HM.out]
            simp_all [ba_toList]
        · have HM : Hid (markP tx = false) := by show markP tx = _; unfold markP; rw [decide_eq_false h1]; rfl
          have b1 : ((tx.size : Int) != 1) = true := by simp; omega
          clear h1
          go_wp2_with (first | (go_at_call 36; refine (gapped_ref tx _).mono ?_; rintro e w' ⟨rfl, rfl⟩) | (go_at_call 38; refine (isWord_ref tx _).mono ?_; rintro e w' ⟨rfl, hb'⟩; replace HB := belowH HB hb'; have c0 := cell_later hb' c0; have c1 := cell_later hb' c1; have c2 := cell_later hb' c2; have c3 := cell_later hb' c3; have c4 := cell_later hb' c4; have c5 := cell_later hb' c5; clear hb') | (go_at_call 37; refine (kind_ref _ _).mono ?_; rintro e w' ⟨rfl, rfl⟩) | (go_at_call 40; refine (named_ref _ _).mono ?_; rintro e w' ⟨rfl, hb'⟩; replace HB := belowH HB hb'; have c0 := cell_later hb' c0; have c1 := cell_later hb' c1; have c2 := cell_later hb' c2; have c3 := cell_later hb' c3; have c4 := cell_later hb' c4; have c5 := cell_later hb' c5; clear hb'))
          all_goals
            go_ret
            refine ⟨ret_int ?_, HB.out.2⟩
            rw [HT.out, HM.out]
            simp_all [ba_toList]
    · cases P
      · go_wp2_with (first | (go_at_call 36; refine (gapped_ref tx _).mono ?_; rintro e w' ⟨rfl, rfl⟩) | (go_at_call 38; refine (isWord_ref tx _).mono ?_; rintro e w' ⟨rfl, hb'⟩; replace HB := belowH HB hb'; have c0 := cell_later hb' c0; have c1 := cell_later hb' c1; have c2 := cell_later hb' c2; have c3 := cell_later hb' c3; have c4 := cell_later hb' c4; have c5 := cell_later hb' c5; clear hb') | (go_at_call 37; refine (kind_ref _ _).mono ?_; rintro e w' ⟨rfl, rfl⟩) | (go_at_call 40; refine (named_ref _ _).mono ?_; rintro e w' ⟨rfl, hb'⟩; replace HB := belowH HB hb'; have c0 := cell_later hb' c0; have c1 := cell_later hb' c1; have c2 := cell_later hb' c2; have c3 := cell_later hb' c3; have c4 := cell_later hb' c4; have c5 := cell_later hb' c5; clear hb'))
        all_goals
          go_ret
          refine ⟨ret_int ?_, HB.out.2⟩
          rw [HT.out]
          simp_all [ba_toList]
      · go_wp2_with (first | (go_at_call 36; refine (gapped_ref tx _).mono ?_; rintro e w' ⟨rfl, rfl⟩) | (go_at_call 38; refine (isWord_ref tx _).mono ?_; rintro e w' ⟨rfl, hb'⟩; replace HB := belowH HB hb'; have c0 := cell_later hb' c0; have c1 := cell_later hb' c1; have c2 := cell_later hb' c2; have c3 := cell_later hb' c3; have c4 := cell_later hb' c4; have c5 := cell_later hb' c5; clear hb') | (go_at_call 37; refine (kind_ref _ _).mono ?_; rintro e w' ⟨rfl, rfl⟩) | (go_at_call 40; refine (named_ref _ _).mono ?_; rintro e w' ⟨rfl, hb'⟩; replace HB := belowH HB hb'; have c0 := cell_later hb' c0; have c1 := cell_later hb' c1; have c2 := cell_later hb' c2; have c3 := cell_later hb' c3; have c4 := cell_later hb' c4; have c5 := cell_later hb' c5; clear hb'))
        all_goals
          go_ret
          refine ⟨ret_int ?_, HB.out.2⟩
          rw [HT.out]
          simp_all [ba_toList]
end Go.Proofs.YtaelfjlmkgimhaaGreatDoor
