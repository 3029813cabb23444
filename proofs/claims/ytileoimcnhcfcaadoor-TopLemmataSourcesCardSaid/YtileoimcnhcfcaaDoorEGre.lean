/- Too great collations. -/
import Derived.Test.YtileoimcnhcfcaaDoorEGrt2
import Derived.Test.YtileoimcnhcfcaaDoorEChkR
import Derived.Test.YtileoimcnhcfcaaDoorEPut
set_option linter.unusedVariables false
set_option linter.unusedSimpArgs false
namespace Go.Proofs.YtileoimcnhcfcaaDoor
open Go.RowKit

def great (x : Col) : Bool := (x.cols.any fun r => decide (36 < r.length)) || (greatToks x.toks || decide (24 < x.cols.length) || decide (36 < x.sigla.length) || greatNames x.sec x.sigla)
theorem greatGo_tok {L : Nat} : ∀ {i n : Nat} {l : List (List Tok)}, greatGo L i n l = false → ∀ r ∈ l, ∀ t ∈ r, tokGreat t = false
  | _, _, [], _ => by simp
  | i, n, r :: rs, h => by
    unfold greatGo at h
    simp only [Bool.or_eq_false_iff] at h
    intro r' hr' t ht
    rcases List.mem_cons.1 hr' with rfl | hr'
    · have := List.any_eq_false.1 h.2.1 t ht
      simpa using this
    · exact greatGo_tok h.2.2 r' hr' t ht
theorem great_sml {x : Col} (h : great x = false) : Sml x := by
  unfold great at h
  simp only [Bool.or_eq_false_iff] at h
  obtain ⟨-, ⟨⟨h1, -⟩, -⟩, h2⟩ := h
  refine ⟨fun s hs => ?_, fun r hr t ht => ?_⟩
  · unfold greatNames at h2
    rw [Bool.or_eq_false_iff, List.any_eq_false] at h2
    have := h2.1 s hs
    simp at this; omega
  · have := greatGo_tok h1 r hr t ht
    unfold tokGreat at this
    simp at this
    unfold SmT; omega
set_option maxRecDepth 100000 in
set_option maxHeartbeats 4000000 in
theorem great_ref (S : Nat → Prop) (v : CV) (x : Col) (w : World) (h : RdC S w v x) : Calls Tryd.prog 4 #[v.val] w fun e w' => e = .returned (.bool (great x)) ∧ Below w.heap.size w w' := by
  obtain ⟨sec, sa, sn, sc, ta, tn, tc, ca, cn, cc⟩ := v
  obtain ⟨xs, xg, xt, xc⟩ := x
  obtain ⟨h0, -, h2, h3, h4⟩ := h
  dsimp only at h0 h2 h3 h4
  subst h0
  have HC := Lib.hid h4.len
  have HSN := Lib.hid h2.len
  have hcb := h4.bound
  have hb0 : Below w.heap.size w (w.alloc (.cells #[.string sec, .slice sa sn sc, .slice ta tn tc, .slice ca cn cc] 26)) := (Below.refl _ _).alloc (Nat.le_refl _) _
  obtain ⟨c0, c1, c2, c3, -⟩ := box_cells4 (World.alloc_heap_new w (.cells #[.string sec, .slice sa sn sc, .slice ta tn tc, .slice ca cn cc] 26))
  have HT : Hid (∀ W, Below w.heap.size w W → Calls Tryd.prog 11 #[.slice ta tn tc] W fun e w' => e = .returned (.bool (greatToks xt)) ∧ Below W.heap.size W w') := fun W hb => greatToks_ref S ta tn tc xt W (h3.below (rSl_ok rTok_ok) hb)
  have HNM : Hid (∀ W, Below w.heap.size w W → Calls Tryd.prog 12 #[.string sec, .slice sa sn sc] W fun e w' => e = .returned (.bool (greatNames sec xg)) ∧ W = w') := fun W hb => greatNames_ref S sa sn sc sec xg W (h2.below rStr_ok hb)
  have h4' := h4.below (rSl_ok rInt_ok) hb0
  have hE : Hid (great ⟨sec, xg, xt, xc⟩ = (((xc.drop 0).any fun r => decide (36 < r.length)) || (greatToks xt || decide (24 < cn) || decide (36 < sn) || greatNames sec xg))) := by
    show _ = _; unfold great; rw [h4.len, h2.len]; rfl
  generalize great ⟨sec, xg, xt, xc⟩ = R at *
  generalize greatToks xt = T at *
  generalize greatNames sec xg = N at *
  clear h2 h3 h4
  change Calls _ _ #[.agg #[.string sec, .slice sa sn sc, .slice ta tn tc, .slice ca cn cc]] _ _
  go_enter Tryd.func4, Tryd.ntmps4
  have HW := Lib.hid hb0
  have H4 := Lib.hid h4'
  clear hb0 h4'
  go_wp2
  generalize w.alloc (.cells #[.string sec, .slice sa sn sc, .slice ta tn tc, .slice ca cn cc] 26) = W1 at *
  go_loop [3] (fun i => ∃ k : Nat, i = .int .i64 k ∧ k ≤ cn ∧ Hid (R = (((xc.drop k).any fun r => decide (36 < r.length)) || (T || decide (24 < cn) || decide (36 < sn) || N)))) (fun i => cn - (intOf i).toNat)
  case atStart => exact ⟨0, rfl, Nat.zero_le _, hE.out⟩
  case round =>
    obtain ⟨k, rfl, hk, hx⟩ := hrel
    by_cases hkl : k < cn
    · obtain ⟨u, b, off, a', n', c', hu, -, ea, -, -, hr, d1⟩ := H4.out.row hkl
      subst ea
      have hst := hx.out
      rw [any_drop hu, ← hr.len] at hst
      have HST := Lib.hid hst
      clear hx hu hst hr
      by_cases g : 36 < n'
      · have HR : Hid (R = true) := by show _ = _; rw [HST.out, decide_eq_true g]; rfl
        clear HST
        go_wp2
        go_ret
        exact ⟨ret_bool HR.out.symm, HW.out⟩
      · have HN2 : Hid (R = (((xc.drop (k + 1)).any fun r => decide (36 < r.length)) || (T || decide (24 < cn) || decide (36 < sn) || N))) := by show _ = _; rw [HST.out, decide_eq_false g]; rfl
        clear HST
        go_wp2
        go_round
        case rel => exact ⟨k + 1, by go_num, by omega, HN2.out⟩
        case measure => simp [intOf]; omega
    · have HR : Hid (R = (T || decide (24 < cn) || decide (36 < sn) || N)) := by show _ = _; rw [hx.out, List.drop_of_length_le (by rw [← HC.out]; omega)]; rfl
      have HTT := Lib.hid (HT.out _ HW.out)
      clear hx hE
      go_wp2_with fail
      refine HTT.out.mono ?_
      rintro e W2 ⟨rfl, hb2⟩
      have hb3 := HW.out.trans (hb2.mono HW.out.size)
      replace c0 := cell_later hb2 c0
      replace c1 := cell_later hb2 c1
      replace c2 := cell_later hb2 c2
      replace c3 := cell_later hb2 c3
      have HNN := Lib.hid (HNM.out _ hb3)
      clear hb2 HTT
      cases T with
      | true =>
        go_wp2
        go_ret
        exact ⟨ret_bool (by rw [HR.out]; rfl), hb3⟩
      | false =>
        by_cases p1 : 24 < cn
        · go_wp2
          go_ret
          exact ⟨ret_bool (by rw [HR.out, decide_eq_true p1]; rfl), hb3⟩
        · by_cases p2 : 36 < sn
          · go_wp2
            go_ret
            exact ⟨ret_bool (by rw [HR.out, decide_eq_true p2]; simp), hb3⟩
          · go_wp2_with (go_at_call 12; refine HNN.out.mono ?_; rintro e w' ⟨rfl, rfl⟩)
            go_ret
            exact ⟨ret_bool (by rw [HR.out, decide_eq_false p1, decide_eq_false p2, decide_eq_false (show ¬ (24 : Int) < (cn : Int) by omega), decide_eq_false (show ¬ (36 : Int) < (sn : Int) by omega)]; rfl), hb3⟩
theorem greatGo_len {L : Nat} : ∀ {i n : Nat} {l : List (List Tok)}, greatGo L i n l = false → ∀ r ∈ l, r.length ≤ 6
  | _, _, [], _ => by simp
  | i, n, r :: rs, h => by
    unfold greatGo at h
    simp only [Bool.or_eq_false_iff] at h
    intro r' hr'
    rcases List.mem_cons.1 hr' with rfl | hr'
    · have := h.1.1; simp at this; omega
    · exact greatGo_len h.2.2 r' hr'
theorem great_len {x : Col} (h : great x = false) : ∀ r ∈ x.toks, r.length ≤ 6 := by
  unfold great at h
  simp only [Bool.or_eq_false_iff] at h
  obtain ⟨-, ⟨⟨h1, -⟩, -⟩, -⟩ := h
  exact greatGo_len h1
end Go.Proofs.YtileoimcnhcfcaaDoor
