/- Same of the reference. -/
import Derived.Test.YtancjkaoocgeeaaDoorCSame
import Derived.Test.YtancjkaoocgeeaaDoorTail
namespace Go.Proofs.YtancjkaoocgeeaaDoor
open Go.RowKit
set_option maxRecDepth 100000 in
set_option maxHeartbeats 2000000 in
theorem same_ref (S S' : Nat → Prop) (a : Vl) : ∀ (b : Vl) (w : World), Rd S w a → Rd S' w b →
    Calls Tryd.prog 19 #[a.val, b.val] w fun e w' => e = .returned (.bool (sameV a.er b.er)) ∧ Below w.heap.size w w' := by
  induction a using Vl.ind with
  | h a ih =>
    intro b w ha hb
    obtain ⟨k, nn, t, a, c, l⟩ := a
    obtain ⟨k', nn', t', a', c', l'⟩ := b
    change ∀ u ∈ l, _ at ih
    have IH := Lib.hid ih
    have hb1 : Below w.heap.size w (w.alloc (.cells #[.int .i64 k, .int .i64 nn, .string t, .slice a l.length c] 24)) := (Below.refl _ _).alloc (Nat.le_refl _) _
    have hB2 : Below (w.alloc (.cells #[.int .i64 k, .int .i64 nn, .string t, .slice a l.length c] 24)).heap.size (w.alloc (.cells #[.int .i64 k, .int .i64 nn, .string t, .slice a l.length c] 24)) ((w.alloc (.cells #[.int .i64 k, .int .i64 nn, .string t, .slice a l.length c] 24)).alloc (.cells #[.int .i64 k', .int .i64 nn', .string t', .slice a' l'.length c'] 24)) := (Below.refl _ _).alloc (Nat.le_refl _) _
    have hb2 : Below w.heap.size w ((w.alloc (.cells #[.int .i64 k, .int .i64 nn, .string t, .slice a l.length c] 24)).alloc (.cells #[.int .i64 k', .int .i64 nn', .string t', .slice a' l'.length c'] 24)) := hb1.alloc hb1.size _
    have hBa : Boxed S w ((w.alloc (.cells #[.int .i64 k, .int .i64 nn, .string t, .slice a l.length c] 24)).alloc (.cells #[.int .i64 k', .int .i64 nn', .string t', .slice a' l'.length c'] 24)) w.heap.size (.mk k nn t a c l) := (boxed S w _ ha).later hB2
    have hBb0 : Boxed S' (w.alloc (.cells #[.int .i64 k, .int .i64 nn, .string t, .slice a l.length c] 24)) ((w.alloc (.cells #[.int .i64 k, .int .i64 nn, .string t, .slice a l.length c] 24)).alloc (.cells #[.int .i64 k', .int .i64 nn', .string t', .slice a' l'.length c'] 24)) (w.alloc (.cells #[.int .i64 k, .int .i64 nn, .string t, .slice a l.length c] 24)).heap.size (.mk k' nn' t' a' c' l') := boxed S' (w.alloc (.cells #[.int .i64 k, .int .i64 nn, .string t, .slice a l.length c] 24)) _ (hb.below hb1)
    have hsz1 : (w.alloc (.cells #[.int .i64 k, .int .i64 nn, .string t, .slice a l.length c] 24)).heap.size = w.heap.size + 1 := by simp
    rw [hsz1] at hBb0
    have hBv := hBb0.at_
    have hBr := hBb0.rd
    have hVa := hBa.rd.vals
    have hVb := hBr.vals
    have hPa := hBa.at_.2.2.2
    have hPb := hBv.2.2.2
    change Vals S _ a l.length c l at hVa
    change Vals S' _ a' l'.length c' l' at hVb
    change World.cell? _ ⟨w.heap.size, 3, none⟩ = some (.slice a l.length c) at hPa
    rw [Nat.zero_add] at hPb
    change World.cell? _ ⟨w.heap.size + 1, 3, none⟩ = some (.slice a' l'.length c') at hPb
    clear hBb0 hBv hBr hBa hsz1
    have hE : Hid (sameV (Vl.mk k nn t a c l).er (Vl.mk k' nn' t' a' c' l').er = (decide (k = k') && (decide (nn = nn') && (decide (t = t') && sameL (l.map Vl.er) (l'.map Vl.er))))) := by
      show _ = _; rw [Vl.er, Vl.er, sameV, Vl.erL_map, Vl.erL_map]
    have hL := (rd_iff.1 ha).2.2.2.2.2.1
    have hL' := (rd_iff.1 hb).2.2.2.2.2.1
    change l.length * 56 ≤ _ at hL
    change l'.length * 56 ≤ _ at hL'
    change Calls _ _ #[.agg #[.int .i64 k, .int .i64 nn, .string t, .slice a l.length c], .agg #[.int .i64 k', .int .i64 nn', .string t', .slice a' l'.length c']] _ _
    generalize sameV (Vl.mk k nn t a c l).er (Vl.mk k' nn' t' a' c' l').er = R at *
    clear ih ha hb hb1 hB2
    by_cases h1 : k = k'
    · subst h1
      have d1 : ((k : Int) != k) = false := by simp
      by_cases h2 : nn = nn'
      · subst h2
        have d2 : ((nn : Int) != nn) = false := by simp
        by_cases h3 : t = t'
        · subst h3
          have HX : Hid (R = sameL (l.map Vl.er) (l'.map Vl.er)) := by show _ = _; rw [hE.out]; simp
          clear hE
          by_cases h4 : l.length = l'.length
          · have d4 : ((l.length : Int) != l'.length) = false := by simp [h4]
            have HLEN := Lib.hid h4
            generalize hM : l'.length = ML at *
            have HM := Lib.hid hM
            generalize hN : l.length = NL at *
            have HN := Lib.hid hN
            clear hM hN h4
            go_enter Tryd.func19, Tryd.ntmps19
            go_wp2
            generalize (w.alloc (.cells #[.int .i64 k, .int .i64 nn, .string t, .slice a NL c] 24)).alloc (.cells #[.int .i64 k, .int .i64 nn, .string t, .slice a' ML c'] 24) = W1 at *
            have hE0 : Hid (R = sameL ((l.map Vl.er).drop 0) ((l'.map Vl.er).drop 0)) := HX.out
            clear HX
            go_loopw [5] (fun i wr => ∃ (j : Nat), i = .int .i64 j ∧ j ≤ NL ∧ Hid (R = sameL ((l.map Vl.er).drop j) ((l'.map Vl.er).drop j)) ∧ Below W1.heap.size W1 wr) (fun i _ => NL - (intOf i).toNat)
            case atStart => exact ⟨0, rfl, Nat.zero_le _, hE0.out, Below.refl _ _⟩
            case round =>
              obtain ⟨j, rfl, hj, hx, hb⟩ := hrel
              have hpa := cell_later hb hPa
              have hpb := cell_later hb hPb
              by_cases hlj : j < NL
              · obtain ⟨u, bb, off, hu, hmem, rfl, -, hbl, ⟨c1, c2, c3, c4⟩, hru⟩ := (hVa.below hb).get hlj
                have hlj' : j < ML := by have := HLEN.out; omega
                obtain ⟨v, bb', off', hv, -, rfl, -, hbl', ⟨d1', d2', d3', d4'⟩, hrv⟩ := (hVb.below hb).get hlj'
                have hst := sameL_take hu hv
                rw [← hx.out] at hst
                have F : ∀ q, _ := fun q => IH.out u hmem v (wr.drewN q) (hru.below (below_drewN (Below.refl _ _) q)) (hrv.below (below_drewN (Below.refl _ _) q))
                generalize hG : sameV u.er v.er = G at *
                clear hG
                have HST := Lib.hid hst
                obtain ⟨uk, un, ut, ua, uc, ul⟩ := u
                obtain ⟨vk, vn, vt, va, vc, vl⟩ := v
                dsimp only [Vl.val, Vl.cells, Vl.kind, Vl.num, Vl.text, Vl.sl, Vl.addr, Vl.items, Vl.cap] at c1 c2 c3 c4 d1' d2' d3' d4' F
                have HF := Lib.hid F
                have sj : ((j : Int)).toNat = j := Int.toNat_natCast j
                have n1 : (0 : Int) ≤ (j : Int) := by omega
                have n2 : (j : Int) < (NL : Int) := by omega
                have n3 : (j : Int) < (ML : Int) := by omega
                clear F hst hx hru hrv hu hv hmem
                go_wp2
                refine wp_region_head_drew 10 (by kernel_rfl) (by kernel_rfl) ?_
                simp only [List.take_succ_cons, List.take_zero, List.drop_succ_cons, List.drop_zero]
                repeat (quiet_step (fail))
                refine wpQuiet_nil ?_
                intro _ hw'
                obtain ⟨nq, rfl⟩ := hw'
                have hbq : Below W1.heap.size W1 (wr.drewN nq) := below_drewN hb nq
                have hsq : (wr.drewN nq).heap.size = wr.heap.size := rfl
                cases G with
                | true =>
                  have HST2 : Hid (R = sameL ((l.map Vl.er).drop (j + 1)) ((l'.map Vl.er).drop (j + 1))) := by show _ = _; rw [HST.out]; rfl
                  clear HST
                  go_wp2_with (go_at_call 19; refine (HF.out nq).mono ?_; rintro e w' ⟨rfl, hb'⟩)
                  go_roundw
                  case rel => exact ⟨j + 1, by go_num, by omega, HST2.out, hbq.trans (hb'.mono hbq.size)⟩
                  case measure => simp [intOf]; omega
                | false =>
                  have HST2 : Hid (R = false) := by show _ = _; rw [HST.out]; rfl
                  clear HST
                  go_wp2_with (go_at_call 19; refine (HF.out nq).mono ?_; rintro e w' ⟨rfl, hb'⟩)
                  go_ret
                  exact ⟨by rw [HST2.out]; rfl, hb2.trans ((hbq.trans (hb'.mono hbq.size)).mono hb2.size)⟩
              · obtain rfl : j = NL := by omega
                have HST2 : Hid (R = true) := by show _ = _; rw [hx.out]; exact sameL_end (by rw [HN.out]; exact Nat.le_refl _) (by rw [HM.out, HLEN.out]; exact Nat.le_refl _)
                go_wp2
                go_ret
                exact ⟨by rw [HST2.out]; rfl, hb2.trans (hb.mono hb2.size)⟩
          · have d4 : ((l.length : Int) != l'.length) = true := by simp; omega
            have HX2 : Hid (R = false) := by show _ = _; rw [HX.out]; exact sameL_len (by simpa using h4)
            clear HX h4
            go_enter Tryd.func19, Tryd.ntmps19
            go_wp2
            go_ret
            exact ⟨by rw [HX2.out]; rfl, hb2⟩
        · have HX : Hid (R = false) := by show _ = _; rw [hE.out]; simp [h3]
          clear hE
          have d3 : (t.toList == t'.toList) = false := by
            rw [beq_eq_false_iff_ne, ByteArray.toList_eq, ByteArray.toList_eq]
            intro h; apply h3; cases t; cases t'; simp at h; rw [ByteArray.mk.injEq]; exact h
          go_enter Tryd.func19, Tryd.ntmps19
          go_wp2
          go_ret
          exact ⟨by rw [HX.out]; rfl, hb2⟩
      · have HX : Hid (R = false) := by show _ = _; rw [hE.out]; simp [h2]
        have d2 : ((nn : Int) != nn') = true := by simp [h2]
        clear hE
        go_enter Tryd.func19, Tryd.ntmps19
        go_wp2
        go_ret
        exact ⟨by rw [HX.out]; rfl, hb2⟩
    · have HX : Hid (R = false) := by show _ = _; rw [hE.out]; simp [h1]
      have d1 : ((k : Int) != k') = true := by simp [h1]
      clear hE
      go_enter Tryd.func19, Tryd.ntmps19
      go_wp2
      go_ret
      exact ⟨by rw [HX.out]; rfl, hb2⟩
end Go.Proofs.YtancjkaoocgeeaaDoor
