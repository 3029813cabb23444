/- Joined: EHeadR, EChkR. -/
import Derived.Test.YtbdgmgddliploaaGreatDoorJ09
set_option linter.unusedVariables false
set_option linter.unusedSimpArgs false
set_option maxRecDepth 100000
set_option maxHeartbeats 16000000
namespace Go.Proofs.YtbdgmgddliploaaGreatDoor
open Go.RowKit

theorem hasS_take {l : List ByteArray} {i : Nat} {s : ByteArray} (hi : i <= l.length) : hasS (l.take i) s = false ↔ ∀ q, q < i -> l[q]?.getD ⟨#[]⟩ ≠ s := by
  have : hasS (l.take i) s = true ↔ ∃ q, q < i /\ l[q]?.getD ⟨#[]⟩ = s := by
    rw [hasS_iff, List.mem_iff_getElem?]
    constructor
    · rintro ⟨q, hq⟩
      rw [List.getElem?_take] at hq
      split at hq
      · exact ⟨q, by assumption, by rw [hq]; rfl⟩
      · cases hq
    · rintro ⟨q, h1, h2⟩
      refine ⟨q, ?_⟩
      rw [List.getElem?_take, if_pos h1, List.getElem?_eq_getElem (by omega)]
      rw [List.getElem?_eq_getElem (by omega)] at h2
      exact congrArg some h2
  constructor
  · intro h q hq e
    rw [this.2 ⟨q, hq, e⟩] at h; cases h
  · intro h
    cases e : hasS (l.take i) s with
    | false => rfl
    | true => obtain ⟨q, h1, h2⟩ := this.1 e; exact absurd h2 (h q h1)
theorem head_ref (S : Nat -> Prop) (sa ta : Option Addr) (sn sc tn tc : Nat) (x : Col) (w : World) (hs : Strs S w sa sn sc x.sigla) (ht : Tokss S w ta tn tc x.toks) (hm : Sml x) :
    Calls Tryz.prog 85 #[.string x.sec, .slice sa sn sc, .slice ta tn tc] w fun e w' => e = .returned (.int .i64 (headErr x)) /\ Below w.heap.size w w' := by
  have HSN := hiq hs.len
  have HTN := hiq ht.len
  have hsb := hs.bound
  have htb := ht.bound
  have HT : Hid (headErr x = if isNameP x.sec = false then 14 else if sn = 0 then 5 else if 32 < sn then 4 else if sigErr (x.sigla.take 0) (x.sigla.drop 0) ≠ 0 then sigErr (x.sigla.take 0) (x.sigla.drop 0) else if tn ≠ sn then 9 else toksErr (x.toks.drop 0)) := by
    show _ = _; unfold headErr; rw [hs.len, ht.len]; rfl
  have HSG := hiq hm.sig
  clear hm
  obtain ⟨sec, sigla, toks, cols⟩ := x
  dsimp only at HT HSG HSN HTN hs ht ⊢
  generalize headErr ⟨sec, sigla, toks, cols⟩ = R at *
  have HNM : Hid (∀ w, Calls Tryz.prog 109 #[.string sec] w fun e w' => e = .returned (.bool (isNameP sec)) /\ Below w.heap.size w w') := fun w => isName_ref sec w
  generalize isNameP sec = N at *
  cases N with
  | false =>
    have HR : Hid (R = 14) := by show _ = _; rw [HT.out, if_pos rfl]
    go_enter Tryz.func85, Tryz.ntmps85
    go_wp2_with (go_at_call 109; refine (HNM.out _).mono ?_; rintro e w1 ⟨rfl, hb1⟩)
    go_ret
    exact ⟨ret_int HR.out.symm, hb1⟩
  | true =>
    by_cases h0 : sn = 0
    · have HR : Hid (R = 5) := by show _ = _; rw [HT.out, if_neg (by simp), if_pos h0]
      have t0 : ((sn : Int) == 0) = true := by simp [h0]
      have t1 : decide (sn = 0) = true := decide_eq_true h0
      clear HT HSN
      go_enter Tryz.func85, Tryz.ntmps85
      go_wp2_with (go_at_call 109; refine (HNM.out _).mono ?_; rintro e w1 ⟨rfl, hb1⟩)
      go_ret
      exact ⟨ret_int HR.out.symm, hb1⟩
    · have t0 : ((sn : Int) == 0) = false := by simp [h0]
      by_cases h32 : 32 < sn
      · have HR : Hid (R = 4) := by show _ = _; rw [HT.out, if_neg (by simp), if_neg h0, if_pos h32]
        clear HT HSN h0
        go_enter Tryz.func85, Tryz.ntmps85
        go_wp2_with (go_at_call 109; refine (HNM.out _).mono ?_; rintro e w1 ⟨rfl, hb1⟩)
        go_ret
        exact ⟨ret_int HR.out.symm, hb1⟩
      · have HT2 : Hid (R = if sigErr (sigla.take 0) (sigla.drop 0) ≠ 0 then sigErr (sigla.take 0) (sigla.drop 0) else if tn ≠ sn then 9 else toksErr (toks.drop 0)) := by show _ = _; rw [HT.out, if_neg (by simp), if_neg h0, if_neg h32]
        clear HT h0
        go_enter Tryz.func85, Tryz.ntmps85
        go_wp2_with (go_at_call 109; refine (HNM.out _).mono ?_; rintro e w1 ⟨rfl, hb1⟩)
        go_loopw [7] (fun i wr => ∃ k : Nat, i = .int .i64 k /\ k <= sn /\ Hid (sigErr (sigla.take 0) (sigla.drop 0) = sigErr (sigla.take k) (sigla.drop k)) /\ Below w.heap.size w wr) (fun i _ => sn - (intOf i).toNat)
        case atStart => exact ⟨0, rfl, Nat.zero_le _, rfl, hb1⟩
        case round =>
          clear t0 hb1
          obtain ⟨k, rfl, hk, hx, hb⟩ := hrel
          by_cases hkl : k < sn
          · obtain ⟨s, b, off, hu, hmem, rfl, -, hbl, hz, c1⟩ := (hs.below rStr_ok hb).str hkl
            have hst := sigErr_step hu
            have HSP : Hid (∀ w, Calls Tryz.prog 110 #[.string s] w fun e w' => e = .returned (.bool (sigP s)) /\ Below w.heap.size w w') := fun w => siglum_ref s w (HSG.out s hmem)
            generalize sigP s = P at *
            have HST := hiq hst
            clear hst
            cases P with
            | false =>
              have HR : Hid (R = 14) := by show _ = _; rw [HT2.out, hx.out, HST.out, if_pos rfl]; rfl
              clear hu hmem
              go_wp2_with (go_at_call 110; refine (HSP.out _).mono ?_; rintro e w2 ⟨rfl, hb2⟩)
              go_ret
              exact ⟨ret_int HR.out.symm, hb.trans (hb2.mono hb.size)⟩
            | true =>
              have HU := hiq hu
              have hkl2 : Hid (k <= sigla.length) := by show k <= _; rw [<- HSN.out]; exact hk
              clear hu hmem
              go_wp2_with (go_at_call 110; refine (HSP.out _).mono ?_; rintro e w2 ⟨rfl, hb2⟩)
              have hb3 := hb.trans (hb2.mono hb.size)
              clear hb2
              go_loopw [8] (fun i wr => ∃ q : Nat, i = .int .i64 q /\ q <= k /\ Hid (∀ p, p < q -> sigla[p]?.getD ⟨#[]⟩ ≠ s) /\ Below w.heap.size w wr) (fun i _ => k - (intOf i).toNat)
              case atStart => exact ⟨0, rfl, Nat.zero_le _, fun p h => by omega, hb3⟩
              case round =>
                clear hb3 c1
                obtain ⟨q, rfl, hq, hy, hb⟩ := hrel
                by_cases hqk : q < k
                · obtain ⟨u, b', off', hu, -, e', -, -, -, c2⟩ := (hs.below rStr_ok hb).str (j := q) (by omega)
                  cases e'
                  obtain ⟨u', b', off', hu', -, e', -, -, -, c3⟩ := (hs.below rStr_ok hb).str (j := k) hkl
                  cases e'
                  rw [HU.out] at hu'
                  cases hu'
                  have hq3 : q < sn := by omega
                  by_cases he : u = s
                  · have t1 : (u.toList == s.toList) = true := str_yes he
                    have HR : Hid (R = 7) := by
                      show _ = _
                      have : hasS (sigla.take k) s = true := by
                        cases e : hasS (sigla.take k) s with
                        | true => rfl
                        | false => exact absurd (by rw [hu]; exact he) ((hasS_take hkl2.out).1 e q hqk)
                      rw [HT2.out, hx.out, HST.out, this]; rfl
                    clear hu he
                    go_wp2
                    go_quiet (fail)
                    go_wp2
                    go_ret
                    exact ⟨ret_int HR.out.symm, below_drewN hb _⟩
                  · have t1 : (u.toList == s.toList) = false := str_no he
                    have HN : Hid (∀ p, p < q + 1 -> sigla[p]?.getD ⟨#[]⟩ ≠ s) := fun p hp => by
                      by_cases e : p = q
                      · rw [e, hu]; exact he
                      · exact hy.out p (by omega)
                    clear hu he hy
                    go_wp2
                    go_quiet (fail)
                    go_wp2
                    go_roundw
                    case rel => exact ⟨q + 1, by go_num, by omega, HN.out, below_drewN hb _⟩
                    case measure => simp [intOf]; omega
                · obtain rfl : q = k := by omega
                  have HN : Hid (sigErr (sigla.take 0) (sigla.drop 0) = sigErr (sigla.take (q + 1)) (sigla.drop (q + 1))) := by show _ = _; rw [hx.out, HST.out, (hasS_take hkl2.out).2 hy.out]; rfl
                  clear hy hx
                  go_wp2
                  go_roundw
                  case rel => exact ⟨q + 1, by go_num, by omega, HN.out, hb⟩
                  case measure => simp [intOf]; omega
          · have HT3 : Hid (R = if tn ≠ sn then 9 else toksErr (toks.drop 0)) := by
              show _ = _
              rw [HT2.out, hx.out, List.drop_of_length_le (by rw [<- HSN.out]; omega)]; rfl
            clear HT2 hx
            by_cases hmm : tn = sn
            · have t1 : ((tn : Int) != (sn : Int)) = false := by simp [hmm]
              have t2 : decide (tn = sn) = true := decide_eq_true hmm
              have HT4 : Hid (R = toksErr (toks.drop 0)) := by show _ = _; rw [HT3.out, if_neg (by simp [hmm])]
              have HMM := hiq hmm
              clear HT3 hmm
              go_wp2
              go_loopw [9] (fun i wr => ∃ k : Nat, i = .int .i64 k /\ k <= tn /\ Below w.heap.size w wr /\ Hid (R = toksErr (toks.drop k))) (fun i _ => tn - (intOf i).toNat)
              case atStart => exact ⟨0, rfl, Nat.zero_le _, hb, HT4.out⟩
              case round =>
                clear HT4 t1 t2 hb
                obtain ⟨k, rfl, hk, hb, hx⟩ := hrel
                by_cases hkl : k < tn
                · obtain ⟨r, b, off, a', n', c', hu, -, rfl, -, hbl, hr, c1w⟩ := ht.row hkl
                  have c1 := clq hb c1w
                  have hst := toksErr_step hu
                  rw [<- hx.out, <- hr.len] at hst
                  have HST := hiq hst
                  have hr2 := hr.bound
                  have HRN := hiq hr.len
                  clear hst hu hx
                  by_cases h1024 : 1024 < n'
                  · have HR : Hid (R = 4) := by show _ = _; rw [HST.out, if_pos h1024]
                    go_wp2
                    go_ret
                    exact ⟨ret_int HR.out.symm, hb⟩
                  · go_wp2
                    go_loopw [10] (fun i wr => ∃ j : Nat, i = .int .i64 j /\ j <= n' /\ Below w.heap.size w wr /\ Hid (r.any badT = (r.drop j).any badT)) (fun i _ => n' - (intOf i).toNat)
                    case atStart => exact ⟨0, rfl, Nat.zero_le _, hb, rfl⟩
                    case round =>
                      clear hb c1
                      obtain ⟨j, rfl, hj, hb, hx⟩ := hrel
                      have c1 := clq hb c1w
                      by_cases hjl : j < n'
                      · obtain ⟨t, b2, off2, hu, -, rfl, -, hbl2, -, ⟨d0, d1, d2, d3, d4, d5⟩⟩ := (hr.below rTok_ok hb).tok hjl
                        obtain ⟨tx, nm, pg, ln, fl, na⟩ := t
                        dsimp only at d0 d1 d2 d3 d4 d5
                        have HF := hiq (tok_ref tx nm pg na ln fl wr)
                        have hst2 : r.any badT = (badT ⟨tx, nm, pg, ln, fl, na⟩ || (r.drop (j + 1)).any badT) := by
                          rw [hx.out, List.drop_eq_getElem_cons (by rw [<- HRN.out]; exact hjl), List.any_cons]
                          congr 2
                          exact (List.getElem?_eq_some_iff.1 hu).2
                        have HST2 := hiq hst2
                        have HBD : Hid (badT ⟨tx, nm, pg, ln, fl, na⟩ = decide (Tok.err ⟨tx, nm, pg, ln, fl, na⟩ ≠ 0)) := rfl
                        clear hst2 hx hu
                        generalize badT ⟨tx, nm, pg, ln, fl, na⟩ = G at *
                        generalize Tok.err ⟨tx, nm, pg, ln, fl, na⟩ = E at *
                        by_cases hE : E = 0
                        · have HN : Hid (r.any badT = (r.drop (j + 1)).any badT) := by show _ = _; rw [HST2.out, HBD.out, hE]; rfl
                          have t0 : ((E : Int) != 0) = false := by simp [hE]
                          clear hE
                          go_wp2_with (go_at_call 51; refine HF.out.mono ?_; rintro e w2 ⟨rfl, hb2⟩)
                          go_roundw
                          case rel => exact ⟨j + 1, by go_num, by omega, hb.trans (hb2.mono hb.size), HN.out⟩
                          case measure => simp [intOf]; omega
                        · have HR : Hid (R = 1) := by show _ = _; rw [HST.out, if_neg h1024, HST2.out, HBD.out, decide_eq_true hE]; rfl
                          have t0 : ((E : Int) != 0) = true := by simp [hE]
                          clear hE
                          go_wp2_with (go_at_call 51; refine HF.out.mono ?_; rintro e w2 ⟨rfl, hb2⟩)
                          go_ret
                          exact ⟨ret_int HR.out.symm, hb.trans (hb2.mono hb.size)⟩
                      · have HN : Hid (R = toksErr (toks.drop (k + 1))) := by
                          show _ = _
                          rw [HST.out, if_neg h1024, hx.out, List.drop_of_length_le (by rw [<- HRN.out]; omega)]; rfl
                        clear hx
                        go_wp2
                        go_roundw
                        case rel => exact ⟨k + 1, by go_num, by omega, hb, HN.out⟩
                        case measure => simp [intOf]; omega
                · have HR : Hid (R = 0) := by show _ = _; rw [hx.out, List.drop_of_length_le (by rw [<- HTN.out]; omega)]; rfl
                  clear hx
                  go_wp2
                  go_ret
                  exact ⟨ret_int HR.out.symm, hb⟩
            · have t1 : ((tn : Int) != (sn : Int)) = true := by simp; omega
              have t2 : decide (tn = sn) = false := decide_eq_false hmm
              have HR : Hid (R = 9) := by show _ = _; rw [HT3.out, if_pos hmm]
              clear HT3 hmm
              go_wp2
              go_ret
              exact ⟨ret_int HR.out.symm, hb⟩
end Go.Proofs.YtbdgmgddliploaaGreatDoor
namespace Go.Proofs.YtbdgmgddliploaaGreatDoor
open Go.RowKit

theorem check_ref (S : Nat -> Prop) (v : CV) (x : Col) (w : World) (h : RdC S w v x) (hm : Sml x) :
    Calls Tryz.prog 50 #[v.val] w fun e w' => e = .returned (.int .i64 x.err) /\ Below w.heap.size w w' := by
  obtain ⟨sec, sa, sn, sc, ta, tn, tc, ca, cn, cc⟩ := v
  obtain ⟨h1, -, h2, h3, h4⟩ := h
  dsimp only at h1 h2 h3 h4
  change Calls _ _ #[.agg #[.string sec, .slice sa sn sc, .slice ta tn tc, .slice ca cn cc]] _ _
  have hb0 : Below w.heap.size w (w.alloc (.cells #[.string sec, .slice sa sn sc, .slice ta tn tc, .slice ca cn cc] 26)) := (Below.refl _ _).alloc (Nat.le_refl _) _
  have c0 : (w.alloc (.cells #[.string sec, .slice sa sn sc, .slice ta tn tc, .slice ca cn cc] 26)).cell? ⟨w.heap.size, 0, none⟩ = some (.string sec) := by rw [World.cell?_alloc_at _ _ _ _ rfl]; rfl
  have c1 : (w.alloc (.cells #[.string sec, .slice sa sn sc, .slice ta tn tc, .slice ca cn cc] 26)).cell? ⟨w.heap.size, 1, none⟩ = some (.slice sa sn sc) := by rw [World.cell?_alloc_at _ _ _ _ rfl]; rfl
  have c2 : (w.alloc (.cells #[.string sec, .slice sa sn sc, .slice ta tn tc, .slice ca cn cc] 26)).cell? ⟨w.heap.size, 2, none⟩ = some (.slice ta tn tc) := by rw [World.cell?_alloc_at _ _ _ _ rfl]; rfl
  have c3 : (w.alloc (.cells #[.string sec, .slice sa sn sc, .slice ta tn tc, .slice ca cn cc] 26)).cell? ⟨w.heap.size, 3, none⟩ = some (.slice ca cn cc) := by rw [World.cell?_alloc_at _ _ _ _ rfl]; rfl
  have HF : Hid (Calls Tryz.prog 85 #[.string sec, .slice sa sn sc, .slice ta tn tc] (w.alloc (.cells #[.string sec, .slice sa sn sc, .slice ta tn tc, .slice ca cn cc] 26)) fun e w' => e = .returned (.int .i64 (headErr x)) /\ Below (w.alloc (.cells #[.string sec, .slice sa sn sc, .slice ta tn tc, .slice ca cn cc] 26)).heap.size (w.alloc (.cells #[.string sec, .slice sa sn sc, .slice ta tn tc, .slice ca cn cc] 26)) w') := by
    have := head_ref S sa ta sn sc tn tc x _ (h2.below rStr_ok hb0) (h3.below (rSl_ok rTok_ok) hb0) hm
    rw [<- h1] at this
    exact this
  have HT : Hid (x.err = if headErr x ≠ 0 then headErr x else if aligned x.lens x.cols = true then 0 else 19) := rfl
  have hsb := h2.bound
  by_cases h0 : headErr x = 0
  · have hh := headErr_iff.1 h0
    have htn : tn = sn := by rw [h3.len, hh.len, h2.len]
    have hTN := h3.len
    have HCN := hiq h4.len
    have hcb := h4.bound
    have htb := h3.bound
    have hE : Hid (x.err = if (alAll x.lens (x.cols.drop 0) (List.replicate sn 0) == some (x.lens.map Int.ofNat)) = true then 0 else 19) := by
      show _ = _
      rw [HT.out, if_neg (by simp [h0])]
      unfold aligned; rw [lens_len, <- hTN, htn]; rfl
    have hLL : Hid (x.lens.length = sn) := by show _ = _; rw [lens_len, <- hTN, htn]
    have HLN : Hid (∀ (s : Nat) (r : List Tok), x.toks[s]? = some r -> x.lens[s]?.getD 0 = r.length) := fun s r hr => by unfold Col.lens; rw [List.getElem?_map, hr]; rfl
    rw [h0] at HF
    generalize hR : x.err = R at *
    generalize hlens : x.lens = lens at *
    clear hR hlens HT h0 hh hm hTN
    obtain ⟨xs, xg, toks, cols⟩ := x
    dsimp only at h1 h2 h3 h4 hE HLN HCN
    subst htn
    clear h1
    obtain ⟨i0, hi, hz0, hz1, hz2⟩ := info_parts Tryz.infoInt
    go_enter Tryz.func50, Tryz.ntmps50
    go_wp2_with fail
    generalize w.alloc (.cells #[.string sec, .slice sa tn sc, .slice ta tn tc, .slice ca cn cc] 26) = W1 at *
    refine HF.out.mono ?_
    rintro e W2 ⟨rfl, hb2⟩
    have hb3 := hb0.trans (hb2.mono hb0.size)
    replace c1 := clq hb2 c1; replace c2 := clq hb2 c2; replace c3 := clq hb2 c3
    replace h3 := h3.below (rSl_ok rTok_ok) hb3
    replace h4 := h4.below (rSl_ok rInt_ok) hb3
    have hwz : w.heap.size < W2.heap.size := World.block_lt_of_cell? _ _ c1
    clear HF hb2 hb0 c0 h2 W1
    go_wp2_with (at_make; refine wpList_make_full _ rfl _ _ 61 rfl W2.heap.size 3 i0 (.int .i64 0) 1 Tryz.underlying61 hi hz0 hz1 .i64 .i64 tn tn tn rfl rfl rfl rfl (by rw [hz2]; omega) (by unfold maxLen; omega) (Nat.le_refl _) ?_; intro w1 hrow hg)
    have hB1 : Below W2.heap.size W2 w1 := (Below.refl _ W2).grown hg (Nat.le_refl _) (by simp)
    have hr1 : OwnI w1 W2.heap.size (some ⟨W2.heap.size, 0, none⟩) tn tn (List.replicate tn 0) := OwnI.made (by simpa using hrow)
    clear hrow hg
    go_loopw [5] (fun i wr => ∃ (k : Nat) (cur : List Int), i = .int .i64 k /\ k <= cn /\ OwnI wr W2.heap.size (some ⟨W2.heap.size, 0, none⟩) tn tn cur /\ Below W2.heap.size W2 wr /\ Hid (R = if (alAll lens (cols.drop k) cur == some (lens.map Int.ofNat)) = true then 0 else 19)) (fun i _ => cn - (intOf i).toNat)
    case atStart => exact ⟨0, _, rfl, Nat.zero_le _, hr1, hB1, hE.out⟩
    case round =>
      clear hr1 hB1 hE w1
      obtain ⟨k, cur, rfl, hk, ho, hb, hx⟩ := hrel
      have d2 := clq hb c2
      have d3 := clq hb c3
      by_cases hkl : k < cn
      · obtain ⟨row, bo, off, a', n', c', hu, hmem, rfl, -, hbl, hr, c5w⟩ := h4.row hkl
        have c5 := clq hb c5w
        have hst := alAll_step (lens := lens) (at' := cur) hu
        by_cases hnl : n' = tn
        · have HNL := hiq hnl
          have HST : Hid (R = if (((alRow lens row cur tn).bind fun st => if st.2 = true then alAll lens (cols.drop (k + 1)) st.1 else none) == some (lens.map Int.ofNat)) = true then 0 else 19) := by
            show _ = _
            rw [hx.out, hst, if_neg (c := row.length ≠ lens.length) (by rw [<- hr.len, hLL.out]; omega), hLL.out]
          subst hnl
          clear hst hx hu hmem
          go_wp2
          have HO0 := hiq ho
          have hA0 : Hid (alRow lens row cur 0 = some (cur, false)) := rfl
          go_loopw [7, 8] (fun sm i wr => ∃ (j : Nat) (u2 : List Int) (b : Bool), i = .int .i64 j /\ sm = .bool b /\ j <= n' /\ OwnI wr W2.heap.size (some ⟨W2.heap.size, 0, none⟩) n' n' u2 /\ Below W2.heap.size W2 wr /\ Hid (alRow lens row cur j = some (u2, b))) (fun _ i _ => n' - (intOf i).toNat)
          case atStart => exact ⟨0, cur, false, rfl, rfl, Nat.zero_le _, HO0.out, hb, hA0.out⟩
          case round =>
            clear hA0 HO0 ho hb d2 d3 c5
            obtain ⟨j, u2, b, rfl, rfl, hj, ho, hb, hx⟩ := hrel
            obtain ⟨wi, rfl⟩ : ∃ wi : World, wi = wr := ⟨_, rfl⟩
            have d2 := clq hb c2
            by_cases hlj : j < n'
            · obtain ⟨x, b1, off1, hx1, -, rfl, -, hbl1, hI, e1⟩ := (hr.below rInt_ok hb).int hlj
              have e2 := ho.cell j hlj
              have hf := ho.free j
              obtain ⟨r, b2, off2, a3, n3, c3', hu3, -, rfl, -, hbl2, hr3, e3⟩ := (h3.below (rSl_ok rTok_ok) hb).row hlj
              have hlen3 := HLN.out j r hu3
              have he1 : ent row j = x := by unfold ent; rw [hx1]; rfl
              have hn3 : n3 = r.length := hr3.len
              have hn3b := hr3.bound
              change wi.cell? _ = some (.int .i64 (ent u2 j)) at e2
              generalize hq : ent u2 j = q at *
              by_cases hm : x = -1
              · have hN := hiq (alRow_skip hx.out (he1.trans hm))
                have t1 : ((x : Int) == -1) = true := by simp [hm]
                clear hx hx1 hu3 hlen3 he1 hr3 hm hq hn3
                go_wp2
                go_roundw
                case rel => exact ⟨j + 1, u2, b, by go_num, rfl, by omega, ho, hb, hN.out⟩
                case measure => simp [intOf]; omega
              · have t1 : ((x : Int) == -1) = false := by simp [hm]
                by_cases hqx : x = q
                · have t2 : ((x : Int) != q) = false := by simp [hqx]
                  by_cases hlx : x < (n3 : Int)
                  · have hN := hiq (alRow_go hx.out (by rw [he1]; exact hm) (by rw [he1, hq, hqx]) (by rw [he1, hlen3, <- hn3]; exact hlx))
                    rw [he1] at hN
                    have hI2 := hI.1
                    subst hqx
                    clear hx hx1 hu3 hlen3 he1 hr3 hm hq hn3
                    go_wp2
                    go_quiet (fail)
                    rename_i nq
                    have hb5 : Below W2.heap.size W2 (wi.drewN nq) := below_drewN hb nq
                    have e5 : (wi.drewN nq).cell? ⟨W2.heap.size, j, none⟩ = some (.int .i64 x) := e2
                    have hf5 : (wi.drewN nq).frozen? ⟨W2.heap.size, j, none⟩ = false := hf
                    have ho5 := hiq (ho.drewN nq)
                    have hst := hiq ((ho.drewN nq).stored j (x + 1))
                    generalize wi.drewN nq = wq at *
                    go_wp2
                    go_roundw
                    case rel => exact ⟨j + 1, _, true, by go_num, rfl, by omega, hst.out, hb5.setCell (Nat.le_refl _) _, hN.out⟩
                    case measure => simp [intOf]; omega
                  · have hN := alRow_none' (m := n') (alRow_bad hx.out (by rw [he1]; exact hm) (.inr (by rw [he1, hlen3, <- hn3]; omega))) (by omega)
                    have HR : Hid (R = 19) := by show _ = _; rw [HST.out, hN]; rfl
                    subst hqx
                    clear hx hx1 hu3 hlen3 he1 hr3 hm hq hn3 hN
                    go_wp2
                    go_quiet (fail)
                    go_wp2
                    go_ret
                    exact ⟨ret_int HR.out.symm, hb3.trans ((below_drewN hb _).mono hb3.size)⟩
                · have t2 : ((x : Int) != q) = true := by simp [hqx]
                  have hN := alRow_none' (m := n') (alRow_bad hx.out (by rw [he1]; exact hm) (.inl (by rw [he1, hq]; exact hqx))) (by omega)
                  have HR : Hid (R = 19) := by show _ = _; rw [HST.out, hN]; rfl
                  clear hx hx1 hu3 hlen3 he1 hr3 hm hq hn3 hN hqx
                  go_wp2
                  go_quiet (fail)
                  go_wp2
                  go_ret
                  exact ⟨ret_int HR.out.symm, hb3.trans ((below_drewN hb _).mono hb3.size)⟩
            · obtain rfl : j = n' := by omega
              cases b with
              | true =>
                have hN : Hid (R = if (alAll lens (cols.drop (k + 1)) u2 == some (lens.map Int.ofNat)) = true then 0 else 19) := by show _ = _; rw [HST.out, hx.out]; rfl
                clear hx
                go_wp2
                go_roundw
                case rel => exact ⟨k + 1, u2, by go_num, by omega, ho, hb, hN.out⟩
                case measure => simp [intOf]; omega
              | false =>
                have HR : Hid (R = 19) := by show _ = _; rw [HST.out, hx.out]; rfl
                clear hx
                go_wp2
                go_ret
                exact ⟨ret_int HR.out.symm, hb3.trans (hb.mono hb3.size)⟩
        · have HR : Hid (R = 19) := by
            show _ = _
            rw [hx.out, hst, if_pos (c := row.length ≠ lens.length) (by rw [<- hr.len, hLL.out]; exact hnl)]; rfl
          have t1 : decide (n' = tn) = false := decide_eq_false hnl
          have t2 : ((n' : Int) != (tn : Int)) = true := by simp; omega
          clear hst hx hu hmem hnl
          go_wp2
          go_ret
          exact ⟨ret_int HR.out.symm, hb3.trans (hb.mono hb3.size)⟩
      · obtain rfl : k = cn := by omega
        have hlc : Hid (R = if cur = lens.map Int.ofNat then 0 else 19) := by
          show _ = _
          rw [hx.out, List.drop_of_length_le (by rw [<- HCN.out]; exact Nat.le_refl _), alAll]; simp
        have hcl : Hid (cur.length = tn) := ho.len.symm
        clear hx
        go_wp2
        obtain ⟨wo, rfl⟩ : ∃ wo : World, wo = wr := ⟨_, rfl⟩
        go_loopw [9] (fun i wr => ∃ s : Nat, i = .int .i64 s /\ s <= tn /\ Drew wo wr /\ Hid (∀ i, i < s -> ent cur i = ((lens[i]?.getD 0 : Nat) : Int))) (fun i _ => tn - (intOf i).toNat)
        case atStart => exact ⟨0, rfl, Nat.zero_le _, Drew.refl _, fun i h => by omega⟩
        case round =>
          obtain ⟨s, rfl, hs, hq, hx⟩ := hrel
          have hb4 : Below W2.heap.size W2 wr := hb.trans (hq.below _)
          clear d2 d3
          have d2 := clq hb4 c2
          by_cases hls : s < tn
          · have e2 := clq (hq.below wo.heap.size) (ho.cell s hls)
            obtain ⟨r, b2, off2, a3, n3, c3', hu3, -, rfl, -, hbl2, hr3, e3⟩ := (h3.below (rSl_ok rTok_ok) hb4).row hls
            have hlen3 := HLN.out s r hu3
            have hn3 : n3 = r.length := hr3.len
            have hn3b := hr3.bound
            change wr.cell? _ = some (.int .i64 (ent cur s)) at e2
            have hI : Hid (ent cur s = (n3 : Int) ↔ ent cur s = ((lens[s]?.getD 0 : Nat) : Int)) := by show _ ↔ _; rw [hlen3, hn3]
            by_cases he : ent cur s = (n3 : Int)
            · have t1 : ((ent cur s : Int) != (n3 : Int)) = false := by simp [he]
              have hN : Hid (∀ i, i < s + 1 -> ent cur i = ((lens[i]?.getD 0 : Nat) : Int)) := fun i hi => by
                by_cases e : i = s
                · rw [e]; exact hI.out.1 he
                · exact hx.out i (by omega)
              generalize ent cur s = q at *
              clear hx hlen3 hu3 hr3 hn3 he
              go_wp2
              go_quiet (fail)
              go_wp2
              go_roundw
              case rel => exact ⟨s + 1, by go_num, by omega, hq.drewN _, hN.out⟩
              case measure => simp [intOf]; omega
            · have t1 : ((ent cur s : Int) != (n3 : Int)) = true := by simp [he]
              have HR : Hid (R = 19) := by
                show _ = _
                rw [hlc.out, if_neg]
                intro e
                apply he
                apply hI.out.2
                rw [e]; exact ent_ofNat (by rw [hLL.out]; exact hls)
              generalize ent cur s = q at *
              clear hx hlen3 hu3 hr3 hn3 he
              go_wp2
              go_quiet (fail)
              go_wp2
              go_ret
              exact ⟨ret_int HR.out.symm, hb3.trans ((hb4.trans (drewN_below _ _ _)).mono hb3.size)⟩
          · obtain rfl : s = tn := by omega
            have HR : Hid (R = 0) := by
              show _ = _
              rw [hlc.out, if_pos]
              apply ent_ext (by rw [hcl.out, List.length_map, hLL.out])
              intro i hi
              rw [hcl.out] at hi
              rw [hx.out i hi, ent_ofNat (by rw [hLL.out]; exact hi)]
            go_wp2
            go_ret
            exact ⟨ret_int HR.out.symm, hb3.trans (hb4.mono hb3.size)⟩
  · have hR : Hid (x.err = headErr x) := by show _ = _; rw [HT.out, if_pos h0]
    have t0 : ((headErr x : Int) != 0) = true := by simp [h0]
    generalize x.err = R at *
    generalize headErr x = H at *
    clear HT h0 h1 h2 h3 h4 hm
    go_enter Tryz.func50, Tryz.ntmps50
    go_wp2_with fail
    generalize w.alloc (.cells #[.string sec, .slice sa sn sc, .slice ta tn tc, .slice ca cn cc] 26) = W1 at *
    refine HF.out.mono ?_
    rintro e W2 ⟨rfl, hb2⟩
    go_wp2
    go_ret
    exact ⟨ret_int hR.out.symm, hb0.trans (hb2.mono hb0.size)⟩
end Go.Proofs.YtbdgmgddliploaaGreatDoor
