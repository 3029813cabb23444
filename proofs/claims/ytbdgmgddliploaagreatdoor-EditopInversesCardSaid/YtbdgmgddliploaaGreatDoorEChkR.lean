/- Check of a collation: the reference. -/
import Derived.Test.YtbdgmgddliploaaGreatDoorEHeadR
set_option linter.unusedVariables false
set_option linter.unusedSimpArgs false
namespace Go.Proofs.YtbdgmgddliploaaGreatDoor
open Go.RowKit

set_option maxRecDepth 100000 in
set_option maxHeartbeats 4000000 in
theorem check_ref (S : Nat → Prop) (v : CV) (x : Col) (w : World) (h : RdC S w v x) (hm : Sml x) :
    Calls Tryz.prog 50 #[v.val] w fun e w' => e = .returned (.int .i64 x.err) ∧ Below w.heap.size w w' := by
  obtain ⟨sec, sa, sn, sc, ta, tn, tc, ca, cn, cc⟩ := v
  obtain ⟨h1, -, h2, h3, h4⟩ := h
  dsimp only at h1 h2 h3 h4
  change Calls _ _ #[.agg #[.string sec, .slice sa sn sc, .slice ta tn tc, .slice ca cn cc]] _ _
  have hb0 : Below w.heap.size w (w.alloc (.cells #[.string sec, .slice sa sn sc, .slice ta tn tc, .slice ca cn cc] 26)) := (Below.refl _ _).alloc (Nat.le_refl _) _
  have c0 : (w.alloc (.cells #[.string sec, .slice sa sn sc, .slice ta tn tc, .slice ca cn cc] 26)).cell? ⟨w.heap.size, 0, none⟩ = some (.string sec) := by rw [World.cell?_alloc_at _ _ _ _ rfl]; rfl
  have c1 : (w.alloc (.cells #[.string sec, .slice sa sn sc, .slice ta tn tc, .slice ca cn cc] 26)).cell? ⟨w.heap.size, 1, none⟩ = some (.slice sa sn sc) := by rw [World.cell?_alloc_at _ _ _ _ rfl]; rfl
  have c2 : (w.alloc (.cells #[.string sec, .slice sa sn sc, .slice ta tn tc, .slice ca cn cc] 26)).cell? ⟨w.heap.size, 2, none⟩ = some (.slice ta tn tc) := by rw [World.cell?_alloc_at _ _ _ _ rfl]; rfl
  have c3 : (w.alloc (.cells #[.string sec, .slice sa sn sc, .slice ta tn tc, .slice ca cn cc] 26)).cell? ⟨w.heap.size, 3, none⟩ = some (.slice ca cn cc) := by rw [World.cell?_alloc_at _ _ _ _ rfl]; rfl
  have HF : Hid (Calls Tryz.prog 85 #[.string sec, .slice sa sn sc, .slice ta tn tc] (w.alloc (.cells #[.string sec, .slice sa sn sc, .slice ta tn tc, .slice ca cn cc] 26)) fun e w' => e = .returned (.int .i64 (headErr x)) ∧ Below (w.alloc (.cells #[.string sec, .slice sa sn sc, .slice ta tn tc, .slice ca cn cc] 26)).heap.size (w.alloc (.cells #[.string sec, .slice sa sn sc, .slice ta tn tc, .slice ca cn cc] 26)) w') := by
    have := head_ref S sa ta sn sc tn tc x _ (h2.below rStr_ok hb0) (h3.below (rSl_ok rTok_ok) hb0) hm
    rw [← h1] at this
    exact this
  have HT : Hid (x.err = if headErr x ≠ 0 then headErr x else if aligned x.lens x.cols = true then 0 else 19) := rfl
  have hsb := h2.bound
  by_cases h0 : headErr x = 0
  · have hh := headErr_iff.1 h0
    have htn : tn = sn := by rw [h3.len, hh.len, h2.len]
    have hTN := h3.len
    have HCN := Lib.hid h4.len
    have hcb := h4.bound
    have htb := h3.bound
    have hE : Hid (x.err = if (alAll x.lens (x.cols.drop 0) (List.replicate sn 0) == some (x.lens.map Int.ofNat)) = true then 0 else 19) := by
      show _ = _
      rw [HT.out, if_neg (by simp [h0])]
      unfold aligned; rw [lens_len, ← hTN, htn]; rfl
    have hLL : Hid (x.lens.length = sn) := by show _ = _; rw [lens_len, ← hTN, htn]
    have HLN : Hid (∀ (s : Nat) (r : List Tok), x.toks[s]? = some r → x.lens[s]?.getD 0 = r.length) := fun s r hr => by unfold Col.lens; rw [List.getElem?_map, hr]; rfl
    rw [h0] at HF
    generalize hR : x.err = R at *
    generalize hlens : x.lens = lens at *
    clear hR hlens HT h0 hh hm hTN
    obtain ⟨xs, xg, toks, cols⟩ := x
    dsimp only at h1 h2 h3 h4 hE HLN HCN
    subst htn
    clear h1
    obtain ⟨i0, hi, hz0, hz1, hz2⟩ := info_parts Tryz.infoInt
    go_enter Tryz.func50, Tryz.ntmps50
    go_wp2_with fail
    generalize w.alloc (.cells #[.string sec, .slice sa tn sc, .slice ta tn tc, .slice ca cn cc] 26) = W1 at *
    refine HF.out.mono ?_
    rintro e W2 ⟨rfl, hb2⟩
    have hb3 := hb0.trans (hb2.mono hb0.size)
    replace c1 := cell_later hb2 c1
    replace c2 := cell_later hb2 c2
    replace c3 := cell_later hb2 c3
    replace h3 := h3.below (rSl_ok rTok_ok) hb3
    replace h4 := h4.below (rSl_ok rInt_ok) hb3
    have hwz : w.heap.size < W2.heap.size := World.block_lt_of_cell? _ _ c1
    clear HF hb2 hb0 c0 h2 W1
    go_wp2_with (at_make; refine wpList_make_full _ rfl _ _ 61 rfl W2.heap.size 3 i0 (.int .i64 0) 1 Tryz.underlying61 hi hz0 hz1 .i64 .i64 tn tn tn rfl rfl rfl rfl (by rw [hz2]; omega) (by unfold maxLen; omega) (Nat.le_refl _) ?_; intro w1 hrow hg)
    have hB1 : Below W2.heap.size W2 w1 := (Below.refl _ W2).grown hg (Nat.le_refl _) (by simp)
    have hr1 : OwnI w1 W2.heap.size (some ⟨W2.heap.size, 0, none⟩) tn tn (List.replicate tn 0) := OwnI.made (by simpa using hrow)
    clear hrow hg
    go_loopw [5] (fun i wr => ∃ (k : Nat) (cur : List Int), i = .int .i64 k ∧ k ≤ cn ∧ OwnI wr W2.heap.size (some ⟨W2.heap.size, 0, none⟩) tn tn cur ∧ Below W2.heap.size W2 wr ∧ Hid (R = if (alAll lens (cols.drop k) cur == some (lens.map Int.ofNat)) = true then 0 else 19)) (fun i _ => cn - (intOf i).toNat)
    case atStart => exact ⟨0, _, rfl, Nat.zero_le _, hr1, hB1, hE.out⟩
    case round =>
      clear hr1 hB1 hE w1
      obtain ⟨k, cur, rfl, hk, ho, hb, hx⟩ := hrel
      have d2 := cell_later hb c2
      have d3 := cell_later hb c3
      by_cases hkl : k < cn
      · obtain ⟨row, bo, off, a', n', c', hu, hmem, rfl, -, hbl, hr, c5w⟩ := h4.row hkl
        have c5 := cell_later hb c5w
        have hst := alAll_step (lens := lens) (at' := cur) hu
        by_cases hnl : n' = tn
        · have HNL := Lib.hid hnl
          have HST : Hid (R = if (((alRow lens row cur tn).bind fun st => if st.2 = true then alAll lens (cols.drop (k + 1)) st.1 else none) == some (lens.map Int.ofNat)) = true then 0 else 19) := by
            show _ = _
            rw [hx.out, hst, if_neg (c := row.length ≠ lens.length) (by rw [← hr.len, hLL.out]; omega), hLL.out]
          subst hnl
          clear hst hx hu hmem
          go_wp2
          have HO0 := Lib.hid ho
          have hA0 : Hid (alRow lens row cur 0 = some (cur, false)) := rfl
          go_loopw [7, 8] (fun sm i wr => ∃ (j : Nat) (u2 : List Int) (b : Bool), i = .int .i64 j ∧ sm = .bool b ∧ j ≤ n' ∧ OwnI wr W2.heap.size (some ⟨W2.heap.size, 0, none⟩) n' n' u2 ∧ Below W2.heap.size W2 wr ∧ Hid (alRow lens row cur j = some (u2, b))) (fun _ i _ => n' - (intOf i).toNat)
          case atStart => exact ⟨0, cur, false, rfl, rfl, Nat.zero_le _, HO0.out, hb, hA0.out⟩
          case round =>
            clear hA0 HO0 ho hb d2 d3 c5
            obtain ⟨j, u2, b, rfl, rfl, hj, ho, hb, hx⟩ := hrel
            obtain ⟨wi, rfl⟩ : ∃ wi : World, wi = wr := ⟨_, rfl⟩
            have d2 := cell_later hb c2
            by_cases hlj : j < n'
            · obtain ⟨x, b1, off1, hx1, -, rfl, -, hbl1, hI, e1⟩ := (hr.below rInt_ok hb).int hlj
              have e2 := ho.cell j hlj
              have hf := ho.free j
              obtain ⟨r, b2, off2, a3, n3, c3', hu3, -, rfl, -, hbl2, hr3, e3⟩ := (h3.below (rSl_ok rTok_ok) hb).row hlj
              have hlen3 := HLN.out j r hu3
              have he1 : ent row j = x := by unfold ent; rw [hx1]; rfl
              have hn3 : n3 = r.length := hr3.len
              have hn3b := hr3.bound
              change wi.cell? _ = some (.int .i64 (ent u2 j)) at e2
              generalize hq : ent u2 j = q at *
              by_cases hm : x = -1
              · have hN := Lib.hid (alRow_skip hx.out (he1.trans hm))
                have t1 : ((x : Int) == -1) = true := by simp [hm]
                clear hx hx1 hu3 hlen3 he1 hr3 hm hq hn3
                go_wp2
                go_roundw
                case rel => exact ⟨j + 1, u2, b, by go_num, rfl, by omega, ho, hb, hN.out⟩
                case measure => simp [intOf]; omega
              · have t1 : ((x : Int) == -1) = false := by simp [hm]
                by_cases hqx : x = q
                · have t2 : ((x : Int) != q) = false := by simp [hqx]
                  by_cases hlx : x < (n3 : Int)
                  · have hN := Lib.hid (alRow_go hx.out (by rw [he1]; exact hm) (by rw [he1, hq, hqx]) (by rw [he1, hlen3, ← hn3]; exact hlx))
                    rw [he1] at hN
                    have hI2 := hI.1
                    subst hqx
                    clear hx hx1 hu3 hlen3 he1 hr3 hm hq hn3
                    go_wp2
                    go_quiet (fail)
                    rename_i nq
                    have hb5 : Below W2.heap.size W2 (wi.drewN nq) := below_drewN hb nq
                    have e5 : (wi.drewN nq).cell? ⟨W2.heap.size, j, none⟩ = some (.int .i64 x) := e2
                    have hf5 : (wi.drewN nq).frozen? ⟨W2.heap.size, j, none⟩ = false := hf
                    have ho5 := Lib.hid (ho.drewN nq)
                    have hst := Lib.hid ((ho.drewN nq).stored j (x + 1))
                    generalize wi.drewN nq = wq at *
                    go_wp2
                    go_roundw
                    case rel => exact ⟨j + 1, _, true, by go_num, rfl, by omega, hst.out, hb5.setCell (Nat.le_refl _) _, hN.out⟩
                    case measure => simp [intOf]; omega
                  · have hN := alRow_none' (m := n') (alRow_bad hx.out (by rw [he1]; exact hm) (.inr (by rw [he1, hlen3, ← hn3]; omega))) (by omega)
                    have HR : Hid (R = 19) := by show _ = _; rw [HST.out, hN]; rfl
                    subst hqx
                    clear hx hx1 hu3 hlen3 he1 hr3 hm hq hn3 hN
                    go_wp2
                    go_quiet (fail)
                    go_wp2
                    go_ret
                    exact ⟨ret_int HR.out.symm, hb3.trans ((below_drewN hb _).mono hb3.size)⟩
                · have t2 : ((x : Int) != q) = true := by simp [hqx]
                  have hN := alRow_none' (m := n') (alRow_bad hx.out (by rw [he1]; exact hm) (.inl (by rw [he1, hq]; exact hqx))) (by omega)
                  have HR : Hid (R = 19) := by show _ = _; rw [HST.out, hN]; rfl
                  clear hx hx1 hu3 hlen3 he1 hr3 hm hq hn3 hN hqx
                  go_wp2
                  go_quiet (fail)
                  go_wp2
                  go_ret
                  exact ⟨ret_int HR.out.symm, hb3.trans ((below_drewN hb _).mono hb3.size)⟩
            · obtain rfl : j = n' := by omega
              cases b with
              | true =>
                have hN : Hid (R = if (alAll lens (cols.drop (k + 1)) u2 == some (lens.map Int.ofNat)) = true then 0 else 19) := by show _ = _; rw [HST.out, hx.out]; rfl
                clear hx
                go_wp2
                go_roundw
                case rel => exact ⟨k + 1, u2, by go_num, by omega, ho, hb, hN.out⟩
                case measure => simp [intOf]; omega
              | false =>
                have HR : Hid (R = 19) := by show _ = _; rw [HST.out, hx.out]; rfl
                clear hx
                go_wp2
                go_ret
                exact ⟨ret_int HR.out.symm, hb3.trans (hb.mono hb3.size)⟩
        · have HR : Hid (R = 19) := by
            show _ = _
            rw [hx.out, hst, if_pos (c := row.length ≠ lens.length) (by rw [← hr.len, hLL.out]; exact hnl)]; rfl
          have t1 : decide (n' = tn) = false := decide_eq_false hnl
          have t2 : ((n' : Int) != (tn : Int)) = true := by simp; omega
          clear hst hx hu hmem hnl
          go_wp2
          go_ret
          exact ⟨ret_int HR.out.symm, hb3.trans (hb.mono hb3.size)⟩
      · obtain rfl : k = cn := by omega
        have hlc : Hid (R = if cur = lens.map Int.ofNat then 0 else 19) := by
          show _ = _
          rw [hx.out, List.drop_of_length_le (by rw [← HCN.out]; exact Nat.le_refl _), alAll]; simp
        have hcl : Hid (cur.length = tn) := ho.len.symm
        clear hx
        go_wp2
        obtain ⟨wo, rfl⟩ : ∃ wo : World, wo = wr := ⟨_, rfl⟩
        go_loopw [9] (fun i wr => ∃ s : Nat, i = .int .i64 s ∧ s ≤ tn ∧ Drew wo wr ∧ Hid (∀ i, i < s → ent cur i = ((lens[i]?.getD 0 : Nat) : Int))) (fun i _ => tn - (intOf i).toNat)
        case atStart => exact ⟨0, rfl, Nat.zero_le _, Drew.refl _, fun i h => by omega⟩
        case round =>
          obtain ⟨s, rfl, hs, hq, hx⟩ := hrel
          have hb4 : Below W2.heap.size W2 wr := hb.trans (hq.below _)
          clear d2 d3
          have d2 := cell_later hb4 c2
          by_cases hls : s < tn
          · have e2 := cell_later (hq.below wo.heap.size) (ho.cell s hls)
            obtain ⟨r, b2, off2, a3, n3, c3', hu3, -, rfl, -, hbl2, hr3, e3⟩ := (h3.below (rSl_ok rTok_ok) hb4).row hls
            have hlen3 := HLN.out s r hu3
            have hn3 : n3 = r.length := hr3.len
            have hn3b := hr3.bound
            change wr.cell? _ = some (.int .i64 (ent cur s)) at e2
            have hI : Hid (ent cur s = (n3 : Int) ↔ ent cur s = ((lens[s]?.getD 0 : Nat) : Int)) := by show _ ↔ _; rw [hlen3, hn3]
            by_cases he : ent cur s = (n3 : Int)
            · have t1 : ((ent cur s : Int) != (n3 : Int)) = false := by simp [he]
              have hN : Hid (∀ i, i < s + 1 → ent cur i = ((lens[i]?.getD 0 : Nat) : Int)) := fun i hi => by
                by_cases e : i = s
                · rw [e]; exact hI.out.1 he
                · exact hx.out i (by omega)
              generalize ent cur s = q at *
              clear hx hlen3 hu3 hr3 hn3 he
              go_wp2
              go_quiet (fail)
              go_wp2
              go_roundw
              case rel => exact ⟨s + 1, by go_num, by omega, hq.drewN _, hN.out⟩
              case measure => simp [intOf]; omega
            · have t1 : ((ent cur s : Int) != (n3 : Int)) = true := by simp [he]
              have HR : Hid (R = 19) := by
                show _ = _
                rw [hlc.out, if_neg]
                intro e
                apply he
                apply hI.out.2
                rw [e]; exact ent_ofNat (by rw [hLL.out]; exact hls)
              generalize ent cur s = q at *
              clear hx hlen3 hu3 hr3 hn3 he
              go_wp2
              go_quiet (fail)
              go_wp2
              go_ret
              exact ⟨ret_int HR.out.symm, hb3.trans ((hb4.trans (drewN_below _ _ _)).mono hb3.size)⟩
          · obtain rfl : s = tn := by omega
            have HR : Hid (R = 0) := by
              show _ = _
              rw [hlc.out, if_pos]
              apply ent_ext (by rw [hcl.out, List.length_map, hLL.out])
              intro i hi
              rw [hcl.out] at hi
              rw [hx.out i hi, ent_ofNat (by rw [hLL.out]; exact hi)]
            go_wp2
            go_ret
            exact ⟨ret_int HR.out.symm, hb3.trans (hb4.mono hb3.size)⟩
  · have hR : Hid (x.err = headErr x) := by show _ = _; rw [HT.out, if_pos h0]
    have t0 : ((headErr x : Int) != 0) = true := by simp [h0]
    generalize x.err = R at *
    generalize headErr x = H at *
    clear HT h0 h1 h2 h3 h4 hm
    go_enter Tryz.func50, Tryz.ntmps50
    go_wp2_with fail
    generalize w.alloc (.cells #[.string sec, .slice sa sn sc, .slice ta tn tc, .slice ca cn cc] 26) = W1 at *
    refine HF.out.mono ?_
    rintro e W2 ⟨rfl, hb2⟩
    go_wp2
    go_ret
    exact ⟨ret_int hR.out.symm, hb0.trans (hb2.mono hb0.size)⟩
end Go.Proofs.YtbdgmgddliploaaGreatDoor
