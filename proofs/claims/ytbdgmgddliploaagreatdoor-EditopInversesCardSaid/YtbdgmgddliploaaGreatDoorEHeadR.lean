/- The errors of a section, sigla and tokens: the reference. -/
import Derived.Test.YtbdgmgddliploaaGreatDoorEChkC
set_option linter.unusedVariables false
set_option linter.unusedSimpArgs false
namespace Go.Proofs.YtbdgmgddliploaaGreatDoor
open Go.RowKit

theorem hasS_take {l : List ByteArray} {i : Nat} {s : ByteArray} (hi : i ≤ l.length) : hasS (l.take i) s = false ↔ ∀ q, q < i → l[q]?.getD ⟨#[]⟩ ≠ s := by
  have : hasS (l.take i) s = true ↔ ∃ q, q < i ∧ l[q]?.getD ⟨#[]⟩ = s := by
    rw [hasS_iff, List.mem_iff_getElem?]
    constructor
    · rintro ⟨q, hq⟩
      rw [List.getElem?_take] at hq
      split at hq
      · exact ⟨q, by assumption, by rw [hq]; rfl⟩
      · cases hq
    · rintro ⟨q, h1, h2⟩
      refine ⟨q, ?_⟩
      rw [List.getElem?_take, if_pos h1, List.getElem?_eq_getElem (by omega)]
      rw [List.getElem?_eq_getElem (by omega)] at h2
      exact congrArg some h2
  constructor
  · intro h q hq e
    rw [this.2 ⟨q, hq, e⟩] at h; cases h
  · intro h
    cases e : hasS (l.take i) s with
    | false => rfl
    | true => obtain ⟨q, h1, h2⟩ := this.1 e; exact absurd h2 (h q h1)
set_option maxRecDepth 100000 in
set_option maxHeartbeats 4000000 in
theorem head_ref (S : Nat → Prop) (sa ta : Option Addr) (sn sc tn tc : Nat) (x : Col) (w : World) (hs : Strs S w sa sn sc x.sigla) (ht : Tokss S w ta tn tc x.toks) (hm : Sml x) :
    Calls Tryz.prog 85 #[.string x.sec, .slice sa sn sc, .slice ta tn tc] w fun e w' => e = .returned (.int .i64 (headErr x)) ∧ Below w.heap.size w w' := by
  have HSN := Lib.hid hs.len
  have HTN := Lib.hid ht.len
  have hsb := hs.bound
  have htb := ht.bound
  have HT : Hid (headErr x = if isNameP x.sec = false then 14 else if sn = 0 then 5 else if 32 < sn then 4 else if sigErr (x.sigla.take 0) (x.sigla.drop 0) ≠ 0 then sigErr (x.sigla.take 0) (x.sigla.drop 0) else if tn ≠ sn then 9 else toksErr (x.toks.drop 0)) := by
    show _ = _; unfold headErr; rw [hs.len, ht.len]; rfl
  have HSG := Lib.hid hm.sig
  clear hm
  obtain ⟨sec, sigla, toks, cols⟩ := x
  dsimp only at HT HSG HSN HTN hs ht ⊢
  generalize headErr ⟨sec, sigla, toks, cols⟩ = R at *
  have HNM : Hid (∀ w, Calls Tryz.prog 109 #[.string sec] w fun e w' => e = .returned (.bool (isNameP sec)) ∧ Below w.heap.size w w') := fun w => isName_ref sec w
  generalize isNameP sec = N at *
  cases N with
  | false =>
    have HR : Hid (R = 14) := by show _ = _; rw [HT.out, if_pos rfl]
    go_enter Tryz.func85, Tryz.ntmps85
    go_wp2_with (go_at_call 109; refine (HNM.out _).mono ?_; rintro e w1 ⟨rfl, hb1⟩)
    go_ret
    exact ⟨ret_int HR.out.symm, hb1⟩
  | true =>
    by_cases h0 : sn = 0
    · have HR : Hid (R = 5) := by show _ = _; rw [HT.out, if_neg (by simp), if_pos h0]
      have t0 : ((sn : Int) == 0) = true := by simp [h0]
      have t1 : decide (sn = 0) = true := decide_eq_true h0
      clear HT HSN
      go_enter Tryz.func85, Tryz.ntmps85
      go_wp2_with (go_at_call 109; refine (HNM.out _).mono ?_; rintro e w1 ⟨rfl, hb1⟩)
      go_ret
      exact ⟨ret_int HR.out.symm, hb1⟩
    · have t0 : ((sn : Int) == 0) = false := by simp [h0]
      by_cases h32 : 32 < sn
      · have HR : Hid (R = 4) := by show _ = _; rw [HT.out, if_neg (by simp), if_neg h0, if_pos h32]
        clear HT HSN h0
        go_enter Tryz.func85, Tryz.ntmps85
        go_wp2_with (go_at_call 109; refine (HNM.out _).mono ?_; rintro e w1 ⟨rfl, hb1⟩)
        go_ret
        exact ⟨ret_int HR.out.symm, hb1⟩
      · have HT2 : Hid (R = if sigErr (sigla.take 0) (sigla.drop 0) ≠ 0 then sigErr (sigla.take 0) (sigla.drop 0) else if tn ≠ sn then 9 else toksErr (toks.drop 0)) := by show _ = _; rw [HT.out, if_neg (by simp), if_neg h0, if_neg h32]
        clear HT h0
        go_enter Tryz.func85, Tryz.ntmps85
        go_wp2_with (go_at_call 109; refine (HNM.out _).mono ?_; rintro e w1 ⟨rfl, hb1⟩)
        go_loopw [7] (fun i wr => ∃ k : Nat, i = .int .i64 k ∧ k ≤ sn ∧ Hid (sigErr (sigla.take 0) (sigla.drop 0) = sigErr (sigla.take k) (sigla.drop k)) ∧ Below w.heap.size w wr) (fun i _ => sn - (intOf i).toNat)
        case atStart => exact ⟨0, rfl, Nat.zero_le _, rfl, hb1⟩
        case round =>
          clear t0 hb1
          obtain ⟨k, rfl, hk, hx, hb⟩ := hrel
          by_cases hkl : k < sn
          · obtain ⟨s, b, off, hu, hmem, rfl, -, hbl, hz, c1⟩ := (hs.below rStr_ok hb).str hkl
            have hst := sigErr_step hu
            have HSP : Hid (∀ w, Calls Tryz.prog 110 #[.string s] w fun e w' => e = .returned (.bool (sigP s)) ∧ Below w.heap.size w w') := fun w => siglum_ref s w (HSG.out s hmem)
            generalize sigP s = P at *
            have HST := Lib.hid hst
            clear hst
            cases P with
            | false =>
              have HR : Hid (R = 14) := by show _ = _; rw [HT2.out, hx.out, HST.out, if_pos rfl]; rfl
              clear hu hmem
              go_wp2_with (go_at_call 110; refine (HSP.out _).mono ?_; rintro e w2 ⟨rfl, hb2⟩)
              go_ret
              exact ⟨ret_int HR.out.symm, hb.trans (hb2.mono hb.size)⟩
            | true =>
              have HU := Lib.hid hu
              have hkl2 : Hid (k ≤ sigla.length) := by show k ≤ _; rw [← HSN.out]; exact hk
              clear hu hmem
              go_wp2_with (go_at_call 110; refine (HSP.out _).mono ?_; rintro e w2 ⟨rfl, hb2⟩)
              have hb3 := hb.trans (hb2.mono hb.size)
              clear hb2
              go_loopw [8] (fun i wr => ∃ q : Nat, i = .int .i64 q ∧ q ≤ k ∧ Hid (∀ p, p < q → sigla[p]?.getD ⟨#[]⟩ ≠ s) ∧ Below w.heap.size w wr) (fun i _ => k - (intOf i).toNat)
              case atStart => exact ⟨0, rfl, Nat.zero_le _, fun p h => by omega, hb3⟩
              case round =>
                clear hb3 c1
                obtain ⟨q, rfl, hq, hy, hb⟩ := hrel
                by_cases hqk : q < k
                · obtain ⟨u, b', off', hu, -, e', -, -, -, c2⟩ := (hs.below rStr_ok hb).str (j := q) (by omega)
                  cases e'
                  obtain ⟨u', b', off', hu', -, e', -, -, -, c3⟩ := (hs.below rStr_ok hb).str (j := k) hkl
                  cases e'
                  rw [HU.out] at hu'
                  cases hu'
                  have hq3 : q < sn := by omega
                  by_cases he : u = s
                  · have t1 : (u.toList == s.toList) = true := str_yes he
                    have HR : Hid (R = 7) := by
                      show _ = _
                      have : hasS (sigla.take k) s = true := by
                        cases e : hasS (sigla.take k) s with
                        | true => rfl
                        | false => exact absurd (by rw [hu]; exact he) ((hasS_take hkl2.out).1 e q hqk)
                      rw [HT2.out, hx.out, HST.out, this]; rfl
                    clear hu he
                    go_wp2
                    go_quiet (fail)
                    go_wp2
                    go_ret
                    exact ⟨ret_int HR.out.symm, below_drewN hb _⟩
                  · have t1 : (u.toList == s.toList) = false := str_no he
                    have HN : Hid (∀ p, p < q + 1 → sigla[p]?.getD ⟨#[]⟩ ≠ s) := fun p hp => by
                      by_cases e : p = q
                      · rw [e, hu]; exact he
                      · exact hy.out p (by omega)
                    clear hu he hy
                    go_wp2
                    go_quiet (fail)
                    go_wp2
                    go_roundw
                    case rel => exact ⟨q + 1, by go_num, by omega, HN.out, below_drewN hb _⟩
                    case measure => simp [intOf]; omega
                · obtain rfl : q = k := by omega
                  have HN : Hid (sigErr (sigla.take 0) (sigla.drop 0) = sigErr (sigla.take (q + 1)) (sigla.drop (q + 1))) := by show _ = _; rw [hx.out, HST.out, (hasS_take hkl2.out).2 hy.out]; rfl
                  clear hy hx
                  go_wp2
                  go_roundw
                  case rel => exact ⟨q + 1, by go_num, by omega, HN.out, hb⟩
                  case measure => simp [intOf]; omega
          · have HT3 : Hid (R = if tn ≠ sn then 9 else toksErr (toks.drop 0)) := by
              show _ = _
              rw [HT2.out, hx.out, List.drop_of_length_le (by rw [← HSN.out]; omega)]; rfl
            clear HT2 hx
            by_cases hmm : tn = sn
            · have t1 : ((tn : Int) != (sn : Int)) = false := by simp [hmm]
              have t2 : decide (tn = sn) = true := decide_eq_true hmm
              have HT4 : Hid (R = toksErr (toks.drop 0)) := by show _ = _; rw [HT3.out, if_neg (by simp [hmm])]
              have HMM := Lib.hid hmm
              clear HT3 hmm
              go_wp2
              go_loopw [9] (fun i wr => ∃ k : Nat, i = .int .i64 k ∧ k ≤ tn ∧ Below w.heap.size w wr ∧ Hid (R = toksErr (toks.drop k))) (fun i _ => tn - (intOf i).toNat)
              case atStart => exact ⟨0, rfl, Nat.zero_le _, hb, HT4.out⟩
              case round =>
                clear HT4 t1 t2 hb
                obtain ⟨k, rfl, hk, hb, hx⟩ := hrel
                by_cases hkl : k < tn
                · obtain ⟨r, b, off, a', n', c', hu, -, rfl, -, hbl, hr, c1w⟩ := ht.row hkl
                  have c1 := cell_later hb c1w
                  have hst := toksErr_step hu
                  rw [← hx.out, ← hr.len] at hst
                  have HST := Lib.hid hst
                  have hr2 := hr.bound
                  have HRN := Lib.hid hr.len
                  clear hst hu hx
                  by_cases h1024 : 1024 < n'
                  · have HR : Hid (R = 4) := by show _ = _; rw [HST.out, if_pos h1024]
                    go_wp2
                    go_ret
                    exact ⟨ret_int HR.out.symm, hb⟩
                  · go_wp2
                    go_loopw [10] (fun i wr => ∃ j : Nat, i = .int .i64 j ∧ j ≤ n' ∧ Below w.heap.size w wr ∧ Hid (r.any badT = (r.drop j).any badT)) (fun i _ => n' - (intOf i).toNat)
                    case atStart => exact ⟨0, rfl, Nat.zero_le _, hb, rfl⟩
                    case round =>
                      clear hb c1
                      obtain ⟨j, rfl, hj, hb, hx⟩ := hrel
                      have c1 := cell_later hb c1w
                      by_cases hjl : j < n'
                      · obtain ⟨t, b2, off2, hu, -, rfl, -, hbl2, -, ⟨d0, d1, d2, d3, d4, d5⟩⟩ := (hr.below rTok_ok hb).tok hjl
                        obtain ⟨tx, nm, pg, ln, fl, na⟩ := t
                        dsimp only at d0 d1 d2 d3 d4 d5
                        have HF := Lib.hid (tok_ref tx nm pg na ln fl wr)
                        have hst2 : r.any badT = (badT ⟨tx, nm, pg, ln, fl, na⟩ || (r.drop (j + 1)).any badT) := by
                          rw [hx.out, List.drop_eq_getElem_cons (by rw [← HRN.out]; exact hjl), List.any_cons]
                          congr 2
                          exact (List.getElem?_eq_some_iff.1 hu).2
                        have HST2 := Lib.hid hst2
                        have HBD : Hid (badT ⟨tx, nm, pg, ln, fl, na⟩ = decide (Tok.err ⟨tx, nm, pg, ln, fl, na⟩ ≠ 0)) := rfl
                        clear hst2 hx hu
                        generalize badT ⟨tx, nm, pg, ln, fl, na⟩ = G at *
                        generalize Tok.err ⟨tx, nm, pg, ln, fl, na⟩ = E at *
                        by_cases hE : E = 0
                        · have HN : Hid (r.any badT = (r.drop (j + 1)).any badT) := by show _ = _; rw [HST2.out, HBD.out, hE]; rfl
                          have t0 : ((E : Int) != 0) = false := by simp [hE]
                          clear hE
                          go_wp2_with (go_at_call 51; refine HF.out.mono ?_; rintro e w2 ⟨rfl, hb2⟩)
                          go_roundw
                          case rel => exact ⟨j + 1, by go_num, by omega, hb.trans (hb2.mono hb.size), HN.out⟩
                          case measure => simp [intOf]; omega
                        · have HR : Hid (R = 1) := by show _ = _; rw [HST.out, if_neg h1024, HST2.out, HBD.out, decide_eq_true hE]; rfl
                          have t0 : ((E : Int) != 0) = true := by simp [hE]
                          clear hE
                          go_wp2_with (go_at_call 51; refine HF.out.mono ?_; rintro e w2 ⟨rfl, hb2⟩)
                          go_ret
                          exact ⟨ret_int HR.out.symm, hb.trans (hb2.mono hb.size)⟩
                      · have HN : Hid (R = toksErr (toks.drop (k + 1))) := by
                          show _ = _
                          rw [HST.out, if_neg h1024, hx.out, List.drop_of_length_le (by rw [← HRN.out]; omega)]; rfl
                        clear hx
                        go_wp2
                        go_roundw
                        case rel => exact ⟨k + 1, by go_num, by omega, hb, HN.out⟩
                        case measure => simp [intOf]; omega
                · have HR : Hid (R = 0) := by show _ = _; rw [hx.out, List.drop_of_length_le (by rw [← HTN.out]; omega)]; rfl
                  clear hx
                  go_wp2
                  go_ret
                  exact ⟨ret_int HR.out.symm, hb⟩
            · have t1 : ((tn : Int) != (sn : Int)) = true := by simp; omega
              have t2 : decide (tn = sn) = false := decide_eq_false hmm
              have HR : Hid (R = 9) := by show _ = _; rw [HT3.out, if_pos hmm]
              clear HT3 hmm
              go_wp2
              go_ret
              exact ⟨ret_int HR.out.symm, hb⟩
end Go.Proofs.YtbdgmgddliploaaGreatDoor
