/- Too great collations; fine. -/
import Derived.Test.YtbdgmgddliploaaGreatDoorEGrt2
import Derived.Test.YtbdgmgddliploaaGreatDoorEChkR
import Derived.Test.YtbdgmgddliploaaGreatDoorEPut
set_option linter.unusedVariables false
set_option linter.unusedSimpArgs false
namespace Go.Proofs.YtbdgmgddliploaaGreatDoor
open Go.RowKit

def great (x : Col) : Bool := (x.cols.any fun r => decide (36 < r.length)) || (greatToks x.toks || decide (24 < x.cols.length) || decide (36 < x.sigla.length) || greatNames x.sec x.sigla)
theorem greatGo_tok {L : Nat} : ∀ {i n : Nat} {l : List (List Tok)}, greatGo L i n l = false → ∀ r ∈ l, ∀ t ∈ r, tokGreat t = false
  | _, _, [], _ => by simp
  | i, n, r :: rs, h => by
    unfold greatGo at h
    simp only [Bool.or_eq_false_iff] at h
    intro r' hr' t ht
    rcases List.mem_cons.1 hr' with rfl | hr'
    · have := List.any_eq_false.1 h.2.1 t ht
      simpa using this
    · exact greatGo_tok h.2.2 r' hr' t ht
theorem great_sml {x : Col} (h : great x = false) : Sml x := by
  unfold great at h
  simp only [Bool.or_eq_false_iff] at h
  obtain ⟨-, ⟨⟨h1, -⟩, -⟩, h2⟩ := h
  refine ⟨fun s hs => ?_, fun r hr t ht => ?_⟩
  · unfold greatNames at h2
    rw [Bool.or_eq_false_iff, List.any_eq_false] at h2
    have := h2.1 s hs
    simp at this; omega
  · have := greatGo_tok h1 r hr t ht
    unfold tokGreat at this
    simp at this
    unfold SmT; omega
set_option maxRecDepth 100000 in
set_option maxHeartbeats 4000000 in
theorem great_ref (S : Nat → Prop) (v : CV) (x : Col) (w : World) (h : RdC S w v x) : Calls Tryz.prog 11 #[v.val] w fun e w' => e = .returned (.bool (great x)) ∧ Below w.heap.size w w' := by
  obtain ⟨sec, sa, sn, sc, ta, tn, tc, ca, cn, cc⟩ := v
  obtain ⟨xs, xg, xt, xc⟩ := x
  obtain ⟨h0, -, h2, h3, h4⟩ := h
  dsimp only at h0 h2 h3 h4
  subst h0
  have HC := Lib.hid h4.len
  have HSN := Lib.hid h2.len
  have hcb := h4.bound
  have hb0 : Below w.heap.size w (w.alloc (.cells #[.string sec, .slice sa sn sc, .slice ta tn tc, .slice ca cn cc] 26)) := (Below.refl _ _).alloc (Nat.le_refl _) _
  obtain ⟨c0, c1, c2, c3, -⟩ := box_cells4 (World.alloc_heap_new w (.cells #[.string sec, .slice sa sn sc, .slice ta tn tc, .slice ca cn cc] 26))
  have HT : Hid (∀ W, Below w.heap.size w W → Calls Tryz.prog 36 #[.slice ta tn tc] W fun e w' => e = .returned (.bool (greatToks xt)) ∧ Below W.heap.size W w') := fun W hb => greatToks_ref S ta tn tc xt W (h3.below (rSl_ok rTok_ok) hb)
  have HNM : Hid (∀ W, Below w.heap.size w W → Calls Tryz.prog 37 #[.string sec, .slice sa sn sc] W fun e w' => e = .returned (.bool (greatNames sec xg)) ∧ W = w') := fun W hb => greatNames_ref S sa sn sc sec xg W (h2.below rStr_ok hb)
  have h4' := h4.below (rSl_ok rInt_ok) hb0
  have hE : Hid (great ⟨sec, xg, xt, xc⟩ = (((xc.drop 0).any fun r => decide (36 < r.length)) || (greatToks xt || decide (24 < cn) || decide (36 < sn) || greatNames sec xg))) := by
    show _ = _; unfold great; rw [h4.len, h2.len]; rfl
  generalize great ⟨sec, xg, xt, xc⟩ = R at *
  generalize greatToks xt = T at *
  generalize greatNames sec xg = N at *
  clear h2 h3 h4
  change Calls _ _ #[.agg #[.string sec, .slice sa sn sc, .slice ta tn tc, .slice ca cn cc]] _ _
  go_enter Tryz.func11, Tryz.ntmps11
  have HW := Lib.hid hb0
  have H4 := Lib.hid h4'
  clear hb0 h4'
  go_wp2
  generalize w.alloc (.cells #[.string sec, .slice sa sn sc, .slice ta tn tc, .slice ca cn cc] 26) = W1 at *
  go_loop [3] (fun i => ∃ k : Nat, i = .int .i64 k ∧ k ≤ cn ∧ Hid (R = (((xc.drop k).any fun r => decide (36 < r.length)) || (T || decide (24 < cn) || decide (36 < sn) || N)))) (fun i => cn - (intOf i).toNat)
  case atStart => exact ⟨0, rfl, Nat.zero_le _, hE.out⟩
  case round =>
    obtain ⟨k, rfl, hk, hx⟩ := hrel
    by_cases hkl : k < cn
    · obtain ⟨u, b, off, a', n', c', hu, -, ea, -, -, hr, d1⟩ := H4.out.row hkl
      subst ea
      have hst := hx.out
      rw [any_drop hu, ← hr.len] at hst
      have HST := Lib.hid hst
      clear hx hu hst hr
      by_cases g : 36 < n'
      · have HR : Hid (R = true) := by show _ = _; rw [HST.out, decide_eq_true g]; rfl
        clear HST
        go_wp2
        go_ret
        exact ⟨ret_bool HR.out.symm, HW.out⟩
      · have HN2 : Hid (R = (((xc.drop (k + 1)).any fun r => decide (36 < r.length)) || (T || decide (24 < cn) || decide (36 < sn) || N))) := by show _ = _; rw [HST.out, decide_eq_false g]; rfl
        clear HST
        go_wp2
        go_round
        case rel => exact ⟨k + 1, by go_num, by omega, HN2.out⟩
        case measure => simp [intOf]; omega
    · have HR : Hid (R = (T || decide (24 < cn) || decide (36 < sn) || N)) := by show _ = _; rw [hx.out, List.drop_of_length_le (by rw [← HC.out]; omega)]; rfl
      have HTT := Lib.hid (HT.out _ HW.out)
      clear hx hE
      go_wp2_with fail
      refine HTT.out.mono ?_
      rintro e W2 ⟨rfl, hb2⟩
      have hb3 := HW.out.trans (hb2.mono HW.out.size)
      replace c0 := cell_later hb2 c0
      replace c1 := cell_later hb2 c1
      replace c2 := cell_later hb2 c2
      replace c3 := cell_later hb2 c3
      have HNN := Lib.hid (HNM.out _ hb3)
      clear hb2 HTT
      cases T with
      | true =>
        go_wp2
        go_ret
        exact ⟨ret_bool (by rw [HR.out]; rfl), hb3⟩
      | false =>
        by_cases p1 : 24 < cn
        · go_wp2
          go_ret
          exact ⟨ret_bool (by rw [HR.out, decide_eq_true p1]; rfl), hb3⟩
        · by_cases p2 : 36 < sn
          · go_wp2
            go_ret
            exact ⟨ret_bool (by rw [HR.out, decide_eq_true p2]; simp), hb3⟩
          · go_wp2_with (go_at_call 37; refine HNN.out.mono ?_; rintro e w' ⟨rfl, rfl⟩)
            go_ret
            exact ⟨ret_bool (by rw [HR.out, decide_eq_false p1, decide_eq_false p2, decide_eq_false (show ¬ (24 : Int) < (cn : Int) by omega), decide_eq_false (show ¬ (36 : Int) < (sn : Int) by omega)]; rfl), hb3⟩
set_option maxRecDepth 100000 in
set_option maxHeartbeats 2000000 in
theorem index_great (S : Nat → Prop) (a : Option Addr) (n c : Nat) (l : List Op) (w : World) (h : Opsq S w a n c l) :
    Calls Tryz.prog 92 #[.slice a n c, .func (.func 12) #[] #[]] w fun e w' => ∃ i : Int, e = .returned (.int .i64 i) ∧ decide (0 ≤ i) = l.any greatOp ∧ Below w.heap.size w w' := by
  have hL := h.bound
  have hE0 : Hid (l.any greatOp = (l.drop 0).any greatOp) := rfl
  have HN := Lib.hid h.len
  generalize l.any greatOp = R at *
  go_enter Tryz.func92, Tryz.ntmps92
  go_wp2
  go_loopw [8] (fun i wr => ∃ (j : Nat), i = .int .i64 j ∧ j ≤ n ∧ Hid (R = (l.drop j).any greatOp) ∧ Below w.heap.size w wr) (fun i _ => n - (intOf i).toNat)
  case atStart => exact ⟨0, rfl, Nat.zero_le _, hE0.out, Below.refl _ _⟩
  case round =>
    obtain ⟨j, rfl, hj, hx, hb⟩ := hrel
    by_cases hlj : j < n
    · obtain ⟨u, bb, off, hu, -, rfl, -, hbl, -, ⟨c1, c2, c3, c4, c5⟩⟩ := (h.below rOpn_ok hb).op hlj
      have F := greatOp_ref u wr
      have hst := hx.out
      rw [any_drop hu] at hst
      have HST := Lib.hid hst
      generalize greatOp u = G at *
      obtain ⟨uk, us, ut, uo, ux⟩ := u
      dsimp only at c1 c2 c3 c4 c5
      change Calls _ _ #[.agg #[.int .i64 uk, .string us, .int .i64 ut, .int .i64 uo, .string ux]] _ _ at F
      have HF := Lib.hid F
      clear F hst hx hu
      cases G with
      | true =>
        have HST2 : Hid (R = true) := by show _ = _; rw [HST.out]; rfl
        clear HST
        go_wp2_with (go_at_call 12; refine HF.out.mono ?_; rintro e w' ⟨rfl, hb'⟩)
        go_ret
        exact ⟨j, by first | rfl | go_num, by rw [HST2.out]; simp, hb.trans (hb'.mono hb.size)⟩
      | false =>
        have HST2 : Hid (R = (l.drop (j + 1)).any greatOp) := by show _ = _; rw [HST.out]; rfl
        clear HST
        go_wp2_with (go_at_call 12; refine HF.out.mono ?_; rintro e w' ⟨rfl, hb'⟩)
        go_roundw
        case rel => exact ⟨j + 1, by go_num, by omega, HST2.out, hb.trans (hb'.mono hb.size)⟩
        case measure => simp [intOf]; omega
    · obtain rfl : j = n := by omega
      have HST2 : Hid (R = false) := by show _ = _; rw [hx.out, List.drop_of_length_le (by rw [← HN.out]; exact Nat.le_refl _)]; rfl
      go_wp2
      go_ret
      exact ⟨-1, rfl, by rw [HST2.out]; rfl, hb⟩
set_option maxRecDepth 100000 in
theorem contains_great (S : Nat → Prop) (a : Option Addr) (n c : Nat) (l : List Op) (w : World) (h : Opsq S w a n c l) :
    Calls Tryz.prog 54 #[.slice a n c, .func (.func 12) #[] #[]] w fun e w' => e = .returned (.bool (l.any greatOp)) ∧ Below w.heap.size w w' := by
  have F := Lib.hid (index_great S a n c l w h)
  generalize l.any greatOp = R at *
  clear h
  go_enter Tryz.func54, Tryz.ntmps54
  go_wp2_with (go_at_call 92; refine F.out.mono ?_; rintro e w' ⟨i, rfl, hi, hb'⟩)
  go_ret
  exact ⟨by rw [← hi]; simp, hb'⟩
def fine (x : Col) (l : List Op) : Bool := !great x && decide (x.err = 0) && !l.any greatOp
set_option maxRecDepth 100000 in
set_option maxHeartbeats 4000000 in
theorem fine_any (S T : Nat → Prop) (v : CV) (x : Col) (a : Option Addr) (n c : Nat) (l : List Op) (w : World) (h : RdC S w v x) (ho : Opsq T w a n c l) : Calls Tryz.prog 21 #[v.val, .slice a n c] w fun e w' => e = .returned (.bool (fine x l)) ∧ Below w.heap.size w w' := by
  have HG : Hid (∀ W, Below w.heap.size w W → Calls Tryz.prog 11 #[v.val] W fun e w' => e = .returned (.bool (great x)) ∧ Below W.heap.size W w') := fun W hb => great_ref S v x W (h.below hb)
  have HK : Hid (great x = false → ∀ W, Below w.heap.size w W → Calls Tryz.prog 50 #[v.val] W fun e w' => e = .returned (.int .i64 x.err) ∧ Below W.heap.size W w') := fun hg W hb => check_ref S v x W (h.below hb) (great_sml hg)
  have HO : Hid (∀ W, Below w.heap.size w W → Calls Tryz.prog 54 #[.slice a n c, .func (.func 12) #[] #[]] W fun e w' => e = .returned (.bool (l.any greatOp)) ∧ Below W.heap.size W w') := fun W hb => contains_great T a n c l W (ho.below rOpn_ok hb)
  have HX : Hid (fine x l = (!great x && decide (x.err = 0) && !l.any greatOp)) := rfl
  generalize fine x l = R at *
  generalize great x = G at *
  generalize x.err = E at *
  generalize l.any greatOp = A at *
  clear h ho
  obtain ⟨sec, sa, sn, sc, ta, tn, tc, ca, cn, cc⟩ := v
  change Calls _ _ #[.agg #[.string sec, .slice sa sn sc, .slice ta tn tc, .slice ca cn cc], _] _ _
  change Hid (∀ W, _ → Calls _ _ #[.agg #[.string sec, .slice sa sn sc, .slice ta tn tc, .slice ca cn cc]] _ _) at HG
  change Hid (_ → ∀ W, _ → Calls _ _ #[.agg #[.string sec, .slice sa sn sc, .slice ta tn tc, .slice ca cn cc]] _ _) at HK
  have hb0 : Below w.heap.size w (w.alloc (.cells #[.string sec, .slice sa sn sc, .slice ta tn tc, .slice ca cn cc] 26)) := (Below.refl _ _).alloc (Nat.le_refl _) _
  obtain ⟨c0, c1, c2, c3, -⟩ := box_cells4 (World.alloc_heap_new w (.cells #[.string sec, .slice sa sn sc, .slice ta tn tc, .slice ca cn cc] 26))
  have HGG := Lib.hid (HG.out _ hb0)
  go_enter Tryz.func21, Tryz.ntmps21
  go_wp2_with fail
  generalize w.alloc (.cells #[.string sec, .slice sa sn sc, .slice ta tn tc, .slice ca cn cc] 26) = W1 at *
  refine HGG.out.mono ?_
  rintro e W2 ⟨rfl, hb2⟩
  have hb3 := hb0.trans (hb2.mono hb0.size)
  replace c0 := cell_later hb2 c0
  replace c1 := cell_later hb2 c1
  replace c2 := cell_later hb2 c2
  replace c3 := cell_later hb2 c3
  clear HGG hb2
  cases G with
  | true =>
    go_wp2
    go_ret
    exact ⟨ret_bool (by rw [HX.out]; rfl), hb3⟩
  | false =>
    have HKK := Lib.hid (HK.out rfl _ hb3)
    go_wp2_with fail
    refine HKK.out.mono ?_
    rintro e W3 ⟨rfl, hb4⟩
    have hb5 := hb3.trans (hb4.mono hb3.size)
    have HOO := Lib.hid (HO.out _ hb5)
    clear HKK hb4
    by_cases hE : E = 0
    · have t0 : ((E : Int) == 0) = true := by simp [hE]
      have HR : Hid (R = !A) := by show _ = _; rw [HX.out, decide_eq_true hE]; rfl
      clear hE HX
      go_wp2_with fail
      refine HOO.out.mono ?_
      rintro e W4 ⟨rfl, hb6⟩
      have hb7 := hb5.trans (hb6.mono hb5.size)
      go_wp2
      go_ret
      exact ⟨ret_bool HR.out.symm, hb7⟩
    · have t0 : ((E : Int) == 0) = false := by simp [hE]
      have HR : Hid (R = false) := by show _ = _; rw [HX.out, decide_eq_false hE]; rfl
      clear hE HX
      go_wp2
      go_ret
      exact ⟨ret_bool HR.out.symm, hb5⟩
end Go.Proofs.YtbdgmgddliploaaGreatDoor
