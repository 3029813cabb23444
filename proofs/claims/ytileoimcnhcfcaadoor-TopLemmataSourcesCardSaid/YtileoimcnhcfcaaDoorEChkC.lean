/- Is there a bad token? are there too many? -/
import Derived.Test.YtileoimcnhcfcaaDoorETokR
import Derived.Test.YtileoimcnhcfcaaDoorEVal3
set_option linter.unusedVariables false
set_option linter.unusedSimpArgs false
namespace Go.Proofs.YtileoimcnhcfcaaDoor
open Go.RowKit

/-- Strings that are not too long. -/
def SmT (t : Tok) : Prop := t.text.size ≤ 1000000 ∧ t.norm.size ≤ 1000000
def badT (t : Tok) : Bool := decide (t.err ≠ 0)
set_option maxRecDepth 100000 in
set_option maxHeartbeats 1000000 in
theorem bad1_any (t : Tok) (w : World) (hs : SmT t) (hE : Env w) : Calls Tryd.prog 24 #[t.val] w fun e w' => e = .returned (.bool (badT t)) ∧ Below w.heap.size w w' := by
  obtain ⟨tx, nm, pg, ln, fl, na⟩ := t
  have hb0 : Below w.heap.size w (w.alloc (.cells #[.string tx, .string nm, .string pg, .int .i64 ln, .int .i64 fl, .string na] 58)) := (Below.refl _ _).alloc (Nat.le_refl _) _
  have HF := Lib.hid (tok_any tx nm pg na ln fl _ hs (hE.below hb0))
  have HD : Hid (badT ⟨tx, nm, pg, ln, fl, na⟩ = decide (Tok.err ⟨tx, nm, pg, ln, fl, na⟩ ≠ 0)) := rfl
  generalize badT ⟨tx, nm, pg, ln, fl, na⟩ = R at *
  generalize Tok.err ⟨tx, nm, pg, ln, fl, na⟩ = E at *
  change Calls _ _ #[.agg #[.string tx, .string nm, .string pg, .int .i64 ln, .int .i64 fl, .string na]] _ _
  clear hs
  go_enter Tryd.func24, Tryd.ntmps24
  go_wp2_with (go_at_call 25; refine HF.out.mono ?_; rintro e w' ⟨rfl, hb'⟩)
  go_ret
  exact ⟨ret_bool (by rw [HD.out, Bool.eq_iff_iff]; simp), hb0.trans (hb'.mono hb0.size)⟩
set_option maxRecDepth 100000 in
set_option maxHeartbeats 2000000 in
theorem indexT_any (S : Nat → Prop) (a : Option Addr) (n c : Nat) (l : List Tok) (w : World) (h : Toks S w a n c l) (hs : ∀ t ∈ l, SmT t) (hE : Env w) :
    Calls Tryd.prog 36 #[.slice a n c, .func (.func 24) #[] #[]] w fun e w' => ∃ i : Int, e = .returned (.int .i64 i) ∧ decide (0 ≤ i) = l.any badT ∧ Below w.heap.size w w' := by
  have HN := Lib.hid h.len
  have hL := h.bound
  have hE0 : Hid (l.any badT = (l.drop 0).any badT) := rfl
  have HE := Lib.hid hE
  have HSS := Lib.hid hs
  clear hE hs
  generalize hR : l.any badT = R at *
  clear hR
  go_enter Tryd.func36, Tryd.ntmps36
  go_wp2
  go_loopw [8] (fun i wr => ∃ (j : Nat), i = .int .i64 j ∧ j ≤ n ∧ Hid (R = (l.drop j).any badT) ∧ Below w.heap.size w wr) (fun i _ => n - (intOf i).toNat)
  case atStart => exact ⟨0, rfl, Nat.zero_le _, hE0.out, Below.refl _ _⟩
  case round =>
    obtain ⟨j, rfl, hj, hx, hb⟩ := hrel
    by_cases hlj : j < n
    · obtain ⟨t, b, off, hu, hmem, rfl, -, hbl, -, ⟨c0, c1, c2, c3, c4, c5⟩⟩ := (h.below rTok_ok hb).tok hlj
      have HF := Lib.hid (bad1_any t wr (HSS.out t hmem) (HE.out.below hb))
      have hst : R = (badT t || (l.drop (j + 1)).any badT) := by
        rw [hx.out, List.drop_eq_getElem_cons (by rw [← HN.out]; exact hlj), List.any_cons]
        congr 2
        exact (List.getElem?_eq_some_iff.1 hu).2
      generalize badT t = G at *
      have HST := Lib.hid hst
      clear hst hx hu hmem
      obtain ⟨tx, nm, pg, ln, fl, na⟩ := t
      dsimp only [Tok.val] at c0 c1 c2 c3 c4 c5 HF
      cases G with
      | true =>
        have HST2 : Hid (R = true) := by show _ = _; rw [HST.out]; rfl
        clear HST
        go_wp2_with (go_at_call 24; refine HF.out.mono ?_; rintro e w' ⟨rfl, hb'⟩)
        go_ret
        exact ⟨j, by first | rfl | go_num, by rw [HST2.out]; simp, hb.trans (hb'.mono hb.size)⟩
      | false =>
        have HST2 : Hid (R = (l.drop (j + 1)).any badT) := by show _ = _; rw [HST.out]; rfl
        clear HST
        go_wp2_with (go_at_call 24; refine HF.out.mono ?_; rintro e w' ⟨rfl, hb'⟩)
        go_roundw
        case rel => exact ⟨j + 1, by go_num, by omega, HST2.out, hb.trans (hb'.mono hb.size)⟩
        case measure => simp [intOf]; omega
    · have HST2 : Hid (R = false) := by show _ = _; rw [hx.out, List.drop_of_length_le (by rw [← HN.out]; omega)]; rfl
      clear hx
      go_wp2
      go_ret
      exact ⟨-1, rfl, by rw [HST2.out]; rfl, hb⟩
theorem containsT_any (S : Nat → Prop) (a : Option Addr) (n c : Nat) (l : List Tok) (w : World) (h : Toks S w a n c l) (hs : ∀ t ∈ l, SmT t) (hE : Env w) :
    Calls Tryd.prog 23 #[.slice a n c, .func (.func 24) #[] #[]] w fun e w' => e = .returned (.bool (l.any badT)) ∧ Below w.heap.size w w' := by
  have F := Lib.hid (indexT_any S a n c l w h hs hE)
  generalize l.any badT = R at *
  clear h hs hE
  go_enter Tryd.func23, Tryd.ntmps23
  go_wp2_with (go_at_call 36; refine F.out.mono ?_; rintro e w' ⟨i, rfl, hi, hb'⟩)
  go_ret
  exact ⟨by rw [← hi]; simp, hb'⟩
/-- Too many tokens. -/
def longL (l : List Tok) : Bool := decide (1024 < l.length)
theorem long1_any (a : Option Addr) (n c : Nat) (l : List Tok) (w : World) (hn : n = l.length) : Calls Tryd.prog 44 #[.slice a n c] w fun e w' => e = .returned (.bool (longL l)) ∧ w = w' := by
  have HD : Hid (longL l = decide (1024 < n)) := by show _ = _; rw [hn]; rfl
  generalize longL l = R at *
  clear hn
  go_enter Tryd.func44, Tryd.ntmps44
  go_wp2
  go_ret
  exact ⟨ret_bool (by rw [HD.out, Bool.eq_iff_iff]; simp; try omega), rfl⟩
set_option maxRecDepth 100000 in
set_option maxHeartbeats 2000000 in
theorem indexL_any (S : Nat → Prop) (a : Option Addr) (n c : Nat) (l : List (List Tok)) (w : World) (h : Tokss S w a n c l) :
    Calls Tryd.prog 56 #[.slice a n c, .func (.func 44) #[] #[]] w fun e w' => ∃ i : Int, e = .returned (.int .i64 i) ∧ decide (0 ≤ i) = l.any longL ∧ w = w' := by
  have HN := Lib.hid h.len
  have hL := h.bound
  have hE0 : Hid (l.any longL = (l.drop 0).any longL) := rfl
  generalize hR : l.any longL = R at *
  clear hR
  go_enter Tryd.func56, Tryd.ntmps56
  go_wp2
  go_loop [8] (fun i => ∃ (j : Nat), i = .int .i64 j ∧ j ≤ n ∧ Hid (R = (l.drop j).any longL)) (fun i => n - (intOf i).toNat)
  case atStart => exact ⟨0, rfl, Nat.zero_le _, hE0.out⟩
  case round =>
    obtain ⟨j, rfl, hj, hx⟩ := hrel
    by_cases hlj : j < n
    · obtain ⟨r, b, off, a', n', c', hu, hmem, rfl, -, hbl, hr, c0⟩ := h.row hlj
      have HF : Hid (∀ w, Calls Tryd.prog 44 #[.slice a' n' c'] w fun e w' => e = .returned (.bool (longL r)) ∧ w = w') := fun w => long1_any a' n' c' r w hr.len
      have hst : R = (longL r || (l.drop (j + 1)).any longL) := by
        rw [hx.out, List.drop_eq_getElem_cons (by rw [← HN.out]; exact hlj), List.any_cons]
        congr 2
        exact (List.getElem?_eq_some_iff.1 hu).2
      generalize longL r = G at *
      have HST := Lib.hid hst
      clear hst hx hu hmem hr
      cases G with
      | true =>
        have HST2 : Hid (R = true) := by show _ = _; rw [HST.out]; rfl
        clear HST
        go_wp2_with (go_at_call 44; refine (HF.out _).mono ?_; rintro e w' ⟨rfl, rfl⟩)
        go_ret
        exact ⟨j, by first | rfl | go_num, by rw [HST2.out]; simp, rfl⟩
      | false =>
        have HST2 : Hid (R = (l.drop (j + 1)).any longL) := by show _ = _; rw [HST.out]; rfl
        clear HST
        go_wp2_with (go_at_call 44; refine (HF.out _).mono ?_; rintro e w' ⟨rfl, rfl⟩)
        go_round
        case rel => exact ⟨j + 1, by go_num, by omega, HST2.out⟩
        case measure => simp [intOf]; omega
    · have HST2 : Hid (R = false) := by show _ = _; rw [hx.out, List.drop_of_length_le (by rw [← HN.out]; omega)]; rfl
      clear hx
      go_wp2
      go_ret
      exact ⟨-1, rfl, by rw [HST2.out]; rfl, rfl⟩
theorem containsL_any (S : Nat → Prop) (a : Option Addr) (n c : Nat) (l : List (List Tok)) (w : World) (h : Tokss S w a n c l) :
    Calls Tryd.prog 43 #[.slice a n c, .func (.func 44) #[] #[]] w fun e w' => e = .returned (.bool (l.any longL)) ∧ w = w' := by
  have F := Lib.hid (indexL_any S a n c l w h)
  generalize l.any longL = R at *
  clear h
  go_enter Tryd.func43, Tryd.ntmps43
  go_wp2_with (go_at_call 56; refine F.out.mono ?_; rintro e w' ⟨i, rfl, hi, rfl⟩)
  go_ret
  exact ⟨by rw [← hi]; simp, rfl⟩
end Go.Proofs.YtileoimcnhcfcaaDoor

/- Are the columns aligned? -/
namespace Go.Proofs.YtileoimcnhcfcaaDoor
open Go.RowKit

theorem alRow_none {lens : List Nat} {c at' : List Int} {k : Nat} (h : alRow lens c at' k = none) : ∀ m, alRow lens c at' (k + m) = none
  | 0 => h
  | m + 1 => by rw [show k + (m + 1) = (k + m) + 1 by omega, alRow, alRow_none h m]; rfl
theorem alRow_none' {lens : List Nat} {c at' : List Int} {k m : Nat} (h : alRow lens c at' k = none) (hm : k ≤ m) : alRow lens c at' m = none := by
  have := alRow_none h (m - k)
  rwa [show k + (m - k) = m by omega] at this
theorem alRow_len {lens : List Nat} {c at' : List Int} : ∀ (k : Nat) (a2 : List Int) (b : Bool), alRow lens c at' k = some (a2, b) → a2.length = at'.length
  | 0, a2, b, h => by rw [alRow] at h; cases h; rfl
  | k + 1, a2, b, h => by
    rw [alRow] at h
    obtain ⟨⟨a1, b1⟩, h1, h2⟩ := Option.bind_eq_some_iff.1 h
    have := alRow_len k a1 b1 h1
    split at h2
    · cases h2; exact this
    · split at h2
      · cases h2
      · cases h2; simpa using this
theorem alRow_skip {lens : List Nat} {c at' a2 : List Int} {b : Bool} {k : Nat} (h : alRow lens c at' k = some (a2, b)) (e : ent c k = -1) : alRow lens c at' (k + 1) = some (a2, b) := by
  rw [alRow, h]; simp only [Option.bind_some]; rw [if_pos e]
theorem alRow_go {lens : List Nat} {c at' a2 : List Int} {b : Bool} {k : Nat} (h : alRow lens c at' k = some (a2, b)) (e : ent c k ≠ -1) (e1 : ent c k = ent a2 k) (e2 : ent c k < ((lens[k]?.getD 0 : Nat) : Int)) : alRow lens c at' (k + 1) = some (a2.set k (ent c k + 1), true) := by
  rw [alRow, h]; simp only [Option.bind_some]; rw [if_neg e, if_neg (by rintro (q | q) <;> omega)]
theorem alRow_bad {lens : List Nat} {c at' a2 : List Int} {b : Bool} {k : Nat} (h : alRow lens c at' k = some (a2, b)) (e : ent c k ≠ -1) (e1 : ent c k ≠ ent a2 k ∨ ((lens[k]?.getD 0 : Nat) : Int) ≤ ent c k) : alRow lens c at' (k + 1) = none := by
  rw [alRow, h]; simp only [Option.bind_some]; rw [if_neg e, if_pos e1]
theorem alAll_step {lens : List Nat} {cols : List (List Int)} {at' : List Int} {k : Nat} {c : List Int} (h : cols[k]? = some c) : alAll lens (cols.drop k) at' = if c.length ≠ lens.length then none else (alRow lens c at' lens.length).bind fun st => if st.2 = true then alAll lens (cols.drop (k + 1)) st.1 else none := by
  obtain ⟨hl, e⟩ := List.getElem?_eq_some_iff.1 h
  rw [List.drop_eq_getElem_cons hl, e, alAll]
set_option maxRecDepth 100000 in
set_option maxHeartbeats 4000000 in
theorem aligned_any (S : Nat → Prop) (ta ca : Option Addr) (tn tc cn cc : Nat) (toks : List (List Tok)) (cols : List (List Int)) (w : World) (h : Tokss S w ta tn tc toks) (hc : Numss S w ca cn cc cols) :
    Calls Tryd.prog 27 #[.slice ta tn tc, .slice ca cn cc] w fun e w' => e = .returned (.bool (aligned (toks.map List.length) cols)) ∧ Below w.heap.size w w' := by
  have HTN := Lib.hid h.len
  have HCN := Lib.hid hc.len
  have hb24 := h.bound
  have hc24 := hc.bound
  have hE : Hid (aligned (toks.map List.length) cols = (alAll (toks.map List.length) (cols.drop 0) (List.replicate tn 0) == some ((toks.map List.length).map Int.ofNat))) := by
    show _ = _; unfold aligned; rw [List.length_map, h.len]; rfl
  have hLL : Hid ((toks.map List.length).length = tn) := by show _ = _; rw [List.length_map, h.len]
  have HLN : Hid (∀ (s : Nat) (r : List Tok), toks[s]? = some r → (toks.map List.length)[s]?.getD 0 = r.length) := fun s r hr => by rw [List.getElem?_map, hr]; rfl
  generalize hR : aligned (toks.map List.length) cols = R at *
  clear hR
  generalize hlens : toks.map List.length = lens at *
  clear hlens
  obtain ⟨i0, hi, hz0, hz1, hz2⟩ := info_parts Tryd.infoInt
  go_enter Tryd.func27, Tryd.ntmps27
  go_wp2_with (at_make; refine wpList_make_full _ rfl _ _ 41 rfl w.heap.size 3 i0 (.int .i64 0) 1 Tryd.underlying41 hi hz0 hz1 .i64 .i64 tn tn tn rfl rfl rfl rfl (by rw [hz2]; omega) (by unfold maxLen; omega) (Nat.le_refl _) ?_; intro w1 hrow hg)
  have h1 : Below w.heap.size w w1 := (Below.refl _ w).grown hg (Nat.le_refl _) (by simp)
  have hr1 : OwnI w1 w.heap.size (some ⟨w.heap.size, 0, none⟩) tn tn (List.replicate tn 0) := OwnI.made (by simpa using hrow)
  clear hrow hg
  go_loopw [17] (fun i wr => ∃ (k : Nat) (cur : List Int), i = .int .i64 k ∧ k ≤ cn ∧ OwnI wr w.heap.size (some ⟨w.heap.size, 0, none⟩) tn tn cur ∧ Below w.heap.size w wr ∧ Hid (R = (alAll lens (cols.drop k) cur == some (lens.map Int.ofNat)))) (fun i _ => cn - (intOf i).toNat)
  case atStart => exact ⟨0, _, rfl, Nat.zero_le _, hr1, h1, hE.out⟩
  case round =>
    clear hr1 h1 hE w1
    obtain ⟨k, cur, rfl, hk, ho, hb, hx⟩ := hrel
    by_cases hkl : k < cn
    · obtain ⟨row, bo, off, a', n', c', hu, hmem, rfl, -, hbl, hr, c1w⟩ := hc.row hkl
      have c1 := cell_later hb c1w
      have hst := alAll_step (lens := lens) (at' := cur) hu
      by_cases hnl : n' = tn
      · have HNL := Lib.hid hnl
        have HST : Hid (R = (((alRow lens row cur tn).bind fun st => if st.2 = true then alAll lens (cols.drop (k + 1)) st.1 else none) == some (lens.map Int.ofNat))) := by
          show _ = _
          rw [hx.out, hst, if_neg (by rw [← hr.len, hLL.out]; omega), hLL.out]
        subst hnl
        clear hst hx hu hmem
        go_wp2
        obtain ⟨wo, rfl⟩ : ∃ wo : World, wo = wr := ⟨_, rfl⟩
        have HO0 := Lib.hid ho
        have hA0 : Hid (alRow lens row cur 0 = some (cur, false)) := rfl
        go_loopw [8, 28] (fun sm i wr => ∃ (j : Nat) (c2 : List Int) (b : Bool), i = .int .i64 j ∧ sm = .bool b ∧ j ≤ n' ∧ OwnI wr w.heap.size (some ⟨w.heap.size, 0, none⟩) n' n' c2 ∧ Below w.heap.size w wr ∧ Hid (alRow lens row cur j = some (c2, b))) (fun _ i _ => n' - (intOf i).toNat)
        case atStart => exact ⟨0, cur, false, rfl, rfl, Nat.zero_le _, HO0.out, hb, hA0.out⟩
        case round =>
          clear hA0 HO0 ho
          obtain ⟨j, c2, b, rfl, rfl, hj, ho, hb, hx⟩ := hrel
          obtain ⟨wi, rfl⟩ : ∃ wi : World, wi = wr := ⟨_, rfl⟩
          by_cases hlj : j < n'
          · obtain ⟨x, b1, off1, hx1, -, rfl, -, hbl1, hI, d1⟩ := (hr.below rInt_ok hb).int hlj
            have d2 := ho.cell j hlj
            have hf := ho.free j
            obtain ⟨r, b2, off2, a3, n3, c3, hu3, -, rfl, -, hbl2, hr3, d3⟩ := (h.below (rSl_ok rTok_ok) hb).row hlj
            have hlen3 := HLN.out j r hu3
            have he1 : ent row j = x := by unfold ent; rw [hx1]; rfl
            have hn3 : n3 = r.length := hr3.len
            have hn3b := hr3.bound
            change wi.cell? _ = some (.int .i64 (ent c2 j)) at d2
            generalize hq : ent c2 j = q at *
            by_cases hm : x = -1
            · have hN := Lib.hid (alRow_skip hx.out (he1.trans hm))
              have t1 : ((x : Int) == -1) = true := by simp [hm]
              clear hx hx1 hu3 hlen3 he1 hr3 hm hq hn3
              go_wp2
              go_roundw
              case rel => exact ⟨j + 1, c2, b, by go_num, rfl, by omega, ho, hb, hN.out⟩
              case measure => simp [intOf]; omega
            · have t1 : ((x : Int) == -1) = false := by simp [hm]
              by_cases hqx : x = q
              · have t2 : ((x : Int) != q) = false := by simp [hqx]
                by_cases hlx : x < (n3 : Int)
                · have hN := Lib.hid (alRow_go hx.out (by rw [he1]; exact hm) (by rw [he1, hq, hqx]) (by rw [he1, hlen3, ← hn3]; exact hlx))
                  rw [he1] at hN
                  have hI2 := hI.1
                  have hst := Lib.hid (ho.stored j (x + 1))
                  subst hqx
                  clear hx hx1 hu3 hlen3 he1 hr3 hm hq hn3
                  go_wp2
                  go_roundw
                  case rel => exact ⟨j + 1, _, true, by go_num, rfl, by omega, hst.out, hb.setCell (Nat.le_refl _) _, hN.out⟩
                  case measure => simp [intOf]; omega
                · have hN := alRow_none' (m := n') (alRow_bad hx.out (by rw [he1]; exact hm) (.inr (by rw [he1, hlen3, ← hn3]; omega))) (by omega)
                  have HR : Hid (R = false) := by show _ = _; rw [HST.out, hN]; rfl
                  subst hqx
                  clear hx hx1 hu3 hlen3 he1 hr3 hm hq hn3 hN
                  go_wp2
                  go_ret
                  exact ⟨ret_bool HR.out.symm, hb⟩
              · have t2 : ((x : Int) != q) = true := by simp [hqx]
                have hN := alRow_none' (m := n') (alRow_bad hx.out (by rw [he1]; exact hm) (.inl (by rw [he1, hq]; exact hqx))) (by omega)
                have HR : Hid (R = false) := by show _ = _; rw [HST.out, hN]; rfl
                clear hx hx1 hu3 hlen3 he1 hr3 hm hq hn3 hN hqx
                go_wp2
                go_ret
                exact ⟨ret_bool HR.out.symm, hb⟩
          · obtain rfl : j = n' := by omega
            cases b with
            | true =>
              have hN : Hid (R = (alAll lens (cols.drop (k + 1)) c2 == some (lens.map Int.ofNat))) := by show _ = _; rw [HST.out, hx.out]; rfl
              clear hx
              go_wp2
              go_roundw
              case rel => exact ⟨k + 1, c2, by go_num, by omega, ho, hb, hN.out⟩
              case measure => simp [intOf]; omega
            | false =>
              have HR : Hid (R = false) := by show _ = _; rw [HST.out, hx.out]; rfl
              clear hx
              go_wp2
              go_ret
              exact ⟨ret_bool HR.out.symm, hb⟩
      · have HR : Hid (R = false) := by
          show _ = _
          rw [hx.out, hst, if_pos (by rw [← hr.len, hLL.out]; exact hnl)]; rfl
        have t1 : decide (n' = tn) = false := decide_eq_false hnl
        have t2 : ((n' : Int) != (tn : Int)) = true := by simp; omega
        clear hst hx hu hmem hnl
        go_wp2
        go_ret
        exact ⟨ret_bool HR.out.symm, hb⟩
    · obtain rfl : k = cn := by omega
      have hlc : Hid (R = decide (cur = lens.map Int.ofNat)) := by
        show _ = _
        rw [hx.out, List.drop_of_length_le (by rw [← HCN.out]; exact Nat.le_refl _), alAll, Bool.eq_iff_iff]; simp
      have hcl : Hid (cur.length = tn) := ho.len.symm
      clear hx
      go_wp2
      obtain ⟨wo, rfl⟩ : ∃ wo : World, wo = wr := ⟨_, rfl⟩
      go_loopw [62] (fun i wr => ∃ s : Nat, i = .int .i64 s ∧ s ≤ tn ∧ Drew wo wr ∧ Hid (∀ i, i < s → ent cur i = ((lens[i]?.getD 0 : Nat) : Int))) (fun i _ => tn - (intOf i).toNat)
      case atStart => exact ⟨0, rfl, Nat.zero_le _, Drew.refl _, fun i h => by omega⟩
      case round =>
        obtain ⟨s, rfl, hs, hq, hx⟩ := hrel
        by_cases hls : s < tn
        · have d2 := cell_later (hq.below wo.heap.size) (ho.cell s hls)
          obtain ⟨r, b2, off2, a3, n3, c3, hu3, -, rfl, -, hbl2, hr3, d3⟩ := ((h.below (rSl_ok rTok_ok) hb).below (rSl_ok rTok_ok) (hq.below _)).row hls
          have hlen3 := HLN.out s r hu3
          have hn3 : n3 = r.length := hr3.len
          have hn3b := hr3.bound
          change wr.cell? _ = some (.int .i64 (ent cur s)) at d2
          have hI : Hid (ent cur s = (n3 : Int) ↔ ent cur s = ((lens[s]?.getD 0 : Nat) : Int)) := by show _ ↔ _; rw [hlen3, hn3]
          have hb3 : Below w.heap.size w wr := hb.trans (hq.below _)
          by_cases he : ent cur s = (n3 : Int)
          · have t1 : ((ent cur s : Int) != (n3 : Int)) = false := by simp [he]
            have hN : Hid (∀ i, i < s + 1 → ent cur i = ((lens[i]?.getD 0 : Nat) : Int)) := fun i hi => by
              by_cases e : i = s
              · rw [e]; exact hI.out.1 he
              · exact hx.out i (by omega)
            generalize ent cur s = q at *
            clear hx hlen3 hu3 hr3 hn3 he
            go_wp2
            go_quiet (fail)
            go_wp2
            go_roundw
            case rel => exact ⟨s + 1, by go_num, by omega, hq.drewN _, hN.out⟩
            case measure => simp [intOf]; omega
          · have t1 : ((ent cur s : Int) != (n3 : Int)) = true := by simp [he]
            have HR : Hid (R = false) := by
              show _ = _
              rw [hlc.out, decide_eq_false]
              intro e
              apply he
              apply hI.out.2
              rw [e]; exact ent_ofNat (by rw [hLL.out]; exact hls)
            generalize ent cur s = q at *
            clear hx hlen3 hu3 hr3 hn3 he
            go_wp2
            go_quiet (fail)
            go_wp2
            go_ret
            exact ⟨ret_bool HR.out.symm, hb3.trans (drewN_below _ _ _)⟩
        · obtain rfl : s = tn := by omega
          have HR : Hid (R = true) := by
            show _ = _
            rw [hlc.out, decide_eq_true]
            apply ent_ext (by rw [hcl.out, List.length_map, hLL.out])
            intro i hi
            rw [hcl.out] at hi
            rw [hx.out i hi, ent_ofNat (by rw [hLL.out]; exact hi)]
          go_wp2
          go_ret
          exact ⟨ret_bool HR.out.symm, hb.trans (hq.below _)⟩
end Go.Proofs.YtileoimcnhcfcaaDoor

/- The errors of a section, sigla and tokens; multiway's. -/
namespace Go.Proofs.YtileoimcnhcfcaaDoor
open Go.RowKit

theorem Sq.strs {S : Nat → Prop} {w : World} {a : Option Addr} {n c : Nat} {l : List ByteArray} (h : Strs S w a n c l) (hn : 0 < n) : ∃ b off, a = some ⟨b, off, none⟩ ∧ S b ∧ b < w.heap.size ∧ Hid (∀ j, j < l.length → w.cell? ⟨b, off + j, none⟩ = some (.string (l.getD j ByteArray.empty))) := by
  obtain ⟨_, b, off, _, _, e, hs, hb, _, _⟩ := h.str hn
  refine ⟨b, off, e, hs, hb, fun j hj => ?_⟩
  obtain ⟨x, b', off', hx, _, e', _, _, _, hc⟩ := h.str (j := j) (by rw [h.len]; exact hj)
  rw [e] at e'; cases e'
  rw [List.getD_eq_getElem?_getD, hx]; exact hc
theorem contains_hasS (l : List ByteArray) (s : ByteArray) : Lib.containsS l s = hasS l s := by
  rw [Bool.eq_iff_iff, Lib.containsS_iff, hasS_iff]
theorem containsS_any (S : Nat → Prop) (a : Option Addr) (n c c' k : Nat) (l : List ByteArray) (s : ByteArray) (w : World) (h : Strs S w a n c l) (hk : k ≤ n) :
    Calls Tryd.prog 22 #[.slice a k c', .string s] w fun e w' => e = .returned (.bool (hasS (l.take k) s)) ∧ w = w' := by
  by_cases h0 : k = 0
  · subst h0
    refine (Tryd.slices_Contains_string_empty a c' s w).mono ?_
    rintro e w' ⟨rfl, rfl⟩
    exact ⟨rfl, rfl⟩
  · obtain ⟨b, off, rfl, -, -, hc⟩ := h.strs (by omega)
    have hb := h.bound
    refine (Tryd.slices_Contains_string b off k c' l s w (by rw [← h.len]; exact hk) (by omega) hc.out).mono ?_
    rintro e w' ⟨rfl, rfl⟩
    exact ⟨by rw [contains_hasS], rfl⟩
/-- Strings that are not too long. -/
structure Sml (x : Col) : Prop where
  sig : ∀ s ∈ x.sigla, s.size ≤ 1000000
  tok : ∀ r ∈ x.toks, ∀ t ∈ r, SmT t
theorem sigErr_step {l : List ByteArray} {k : Nat} {s : ByteArray} (h : l[k]? = some s) : sigErr (l.take k) (l.drop k) = if sigP s = false then 14 else if hasS (l.take k) s = true then 7 else sigErr (l.take (k + 1)) (l.drop (k + 1)) := by
  obtain ⟨hl, e⟩ := List.getElem?_eq_some_iff.1 h
  rw [List.drop_eq_getElem_cons hl, e, sigErr, List.take_succ_eq_append_getElem hl, e]
theorem toksErr_step {l : List (List Tok)} {k : Nat} {r : List Tok} (h : l[k]? = some r) : toksErr (l.drop k) = if 1024 < r.length then 4 else if r.any badT = true then 1 else toksErr (l.drop (k + 1)) := by
  obtain ⟨hl, e⟩ := List.getElem?_eq_some_iff.1 h
  rw [List.drop_eq_getElem_cons hl, e, toksErr]; rfl
set_option maxRecDepth 100000 in
set_option maxHeartbeats 4000000 in
theorem sources_any (S : Nat → Prop) (sa ta : Option Addr) (sn sc tn tc : Nat) (x : Col) (w : World) (hs : Strs S w sa sn sc x.sigla) (ht : Tokss S w ta tn tc x.toks) (hm : Sml x) (hE : Env w) :
    Calls Tryd.prog 13 #[.string x.sec, .slice sa sn sc, .slice ta tn tc] w fun e w' => e = .returned (.int .i64 (headErr x)) ∧ Below w.heap.size w w' := by
  have HSN := Lib.hid hs.len
  have HTN := Lib.hid ht.len
  have hsb := hs.bound
  have htb := ht.bound
  have HT : Hid (headErr x = if isNameP x.sec = false then 14 else if sn = 0 then 5 else if 32 < sn then 4 else if sigErr (x.sigla.take 0) (x.sigla.drop 0) ≠ 0 then sigErr (x.sigla.take 0) (x.sigla.drop 0) else if tn ≠ sn then 9 else toksErr (x.toks.drop 0)) := by
    show _ = _; unfold headErr; rw [hs.len, ht.len]; rfl
  have HSG := Lib.hid hm.sig
  have HTK := Lib.hid hm.tok
  have HE := Lib.hid hE
  clear hm hE
  obtain ⟨sec, sigla, toks, cols⟩ := x
  dsimp only at HT HSG HTK HSN HTN hs ht ⊢
  generalize headErr ⟨sec, sigla, toks, cols⟩ = R at *
  have HNM : Hid (∀ w, Calls Tryd.prog 20 #[.string sec] w fun e w' => e = .returned (.bool (isNameP sec)) ∧ w = w') := fun w => isName_any sec w
  generalize isNameP sec = N at *
  cases N with
  | false =>
    have HR : Hid (R = 14) := by show _ = _; rw [HT.out, if_pos rfl]
    go_enter Tryd.func13, Tryd.ntmps13
    go_wp2_with (go_at_call 20; refine (HNM.out _).mono ?_; rintro e w' ⟨rfl, rfl⟩)
    go_ret
    exact ⟨ret_int HR.out.symm, Below.refl _ _⟩
  | true =>
    by_cases h0 : sn = 0
    · have HR : Hid (R = 5) := by show _ = _; rw [HT.out, if_neg (by simp), if_pos h0]
      have t0 : ((sn : Int) == 0) = true := by simp [h0]
      have t1 : decide (sn = 0) = true := decide_eq_true h0
      clear HT HSN
      go_enter Tryd.func13, Tryd.ntmps13
      go_wp2_with (go_at_call 20; refine (HNM.out _).mono ?_; rintro e w' ⟨rfl, rfl⟩)
      go_ret
      exact ⟨ret_int HR.out.symm, Below.refl _ _⟩
    · have t0 : ((sn : Int) == 0) = false := by simp [h0]
      by_cases h32 : 32 < sn
      · have HR : Hid (R = 4) := by show _ = _; rw [HT.out, if_neg (by simp), if_neg h0, if_pos h32]
        clear HT HSN h0
        go_enter Tryd.func13, Tryd.ntmps13
        go_wp2_with (go_at_call 20; refine (HNM.out _).mono ?_; rintro e w' ⟨rfl, rfl⟩)
        go_ret
        exact ⟨ret_int HR.out.symm, Below.refl _ _⟩
      · have HT2 : Hid (R = if sigErr (sigla.take 0) (sigla.drop 0) ≠ 0 then sigErr (sigla.take 0) (sigla.drop 0) else if tn ≠ sn then 9 else toksErr (toks.drop 0)) := by show _ = _; rw [HT.out, if_neg (by simp), if_neg h0, if_neg h32]
        clear HT h0
        go_enter Tryd.func13, Tryd.ntmps13
        go_wp2_with (go_at_call 20; refine (HNM.out _).mono ?_; rintro e w' ⟨rfl, rfl⟩)
        go_loop [25] (fun i => ∃ k : Nat, i = .int .i64 k ∧ k ≤ sn ∧ Hid (sigErr (sigla.take 0) (sigla.drop 0) = sigErr (sigla.take k) (sigla.drop k))) (fun i => sn - (intOf i).toNat)
        case atStart => exact ⟨0, rfl, Nat.zero_le _, rfl⟩
        case round =>
          clear t0
          obtain ⟨k, rfl, hk, hx⟩ := hrel
          by_cases hkl : k < sn
          · obtain ⟨s, b, off, hu, hmem, rfl, -, hbl, hz, c1⟩ := hs.str hkl
            have hst := sigErr_step hu
            have HSP : Hid (∀ w, Calls Tryd.prog 21 #[.string s] w fun e w' => e = .returned (.bool (sigP s)) ∧ w = w') := fun w => siglum_any s w (HSG.out s hmem)
            have HCO : Hid (∀ c', Calls Tryd.prog 22 #[.slice (some ⟨b, off, none⟩) k c', .string s] w fun e w'' => e = .returned (.bool (hasS (sigla.take k) s)) ∧ w = w'') := fun c' => containsS_any S _ sn sc c' k sigla s w hs hk
            generalize sigP s = P at *
            generalize hasS (sigla.take k) s = Q at *
            have HST := Lib.hid hst
            clear hst hu hmem
            have hkc : k ≤ sc := by have := hs.le; omega
            cases P with
            | false =>
              have HR : Hid (R = 14) := by show _ = _; rw [HT2.out, hx.out, HST.out, if_pos rfl]; rfl
              go_wp2_with (first | (go_at_call 21; refine (HSP.out _).mono ?_; rintro e w' ⟨rfl, rfl⟩) | (go_at_call 22; refine (HCO.out _).mono ?_; rintro e w' ⟨rfl, rfl⟩))
              go_ret
              exact ⟨ret_int HR.out.symm, Below.refl _ _⟩
            | true =>
              cases Q with
              | true =>
                have HR : Hid (R = 7) := by show _ = _; rw [HT2.out, hx.out, HST.out]; rfl
                go_wp2_with (first | (go_at_call 21; refine (HSP.out _).mono ?_; rintro e w' ⟨rfl, rfl⟩) | (go_at_call 22; refine (HCO.out _).mono ?_; rintro e w' ⟨rfl, rfl⟩))
                go_ret
                exact ⟨ret_int HR.out.symm, Below.refl _ _⟩
              | false =>
                have HN : Hid (sigErr (sigla.take 0) (sigla.drop 0) = sigErr (sigla.take (k + 1)) (sigla.drop (k + 1))) := by show _ = _; rw [hx.out, HST.out]; rfl
                go_wp2_with (first | (go_at_call 21; refine (HSP.out _).mono ?_; rintro e w' ⟨rfl, rfl⟩) | (go_at_call 22; refine (HCO.out _).mono ?_; rintro e w' ⟨rfl, rfl⟩))
                go_round
                case rel => exact ⟨k + 1, by go_num, by omega, HN.out⟩
                case measure => simp [intOf]; omega
          · have HT3 : Hid (R = if tn ≠ sn then 9 else toksErr (toks.drop 0)) := by
              show _ = _
              rw [HT2.out, hx.out, List.drop_of_length_le (by rw [← HSN.out]; omega)]; rfl
            clear HT2 hx
            by_cases hmm : tn = sn
            · have t1 : ((tn : Int) != (sn : Int)) = false := by simp [hmm]
              have t2 : decide (tn = sn) = true := decide_eq_true hmm
              have HT4 : Hid (R = toksErr (toks.drop 0)) := by show _ = _; rw [HT3.out, if_neg (by simp [hmm])]
              have HMM := Lib.hid hmm
              clear HT3 hmm
              go_wp2
              obtain ⟨wo, rfl⟩ : ∃ wo : World, wo = w := ⟨_, rfl⟩
              go_loopw [46] (fun i wr => ∃ k : Nat, i = .int .i64 k ∧ k ≤ tn ∧ Below wo.heap.size wo wr ∧ Hid (R = toksErr (toks.drop k))) (fun i _ => tn - (intOf i).toNat)
              case atStart => exact ⟨0, rfl, Nat.zero_le _, Below.refl _ _, HT4.out⟩
              case round =>
                clear HT4 t1 t2
                obtain ⟨k, rfl, hk, hb, hx⟩ := hrel
                by_cases hkl : k < tn
                · obtain ⟨r, b, off, a', n', c', hu, hmem, rfl, -, hbl, hr, c1⟩ := (ht.below (rSl_ok rTok_ok) hb).row hkl
                  have hst := toksErr_step hu
                  rw [← hx.out, ← hr.len] at hst
                  have HCT := Lib.hid (containsT_any S a' n' c' r wr hr (HTK.out r hmem) (HE.out.below hb))
                  generalize r.any badT = Q at *
                  have HST := Lib.hid hst
                  have hr2 := hr.bound
                  clear hst hu hmem hr hx
                  by_cases h1024 : 1024 < n'
                  · have HR : Hid (R = 4) := by show _ = _; rw [HST.out, if_pos h1024]
                    go_wp2
                    go_ret
                    exact ⟨ret_int HR.out.symm, hb⟩
                  · cases Q with
                    | true =>
                      have HR : Hid (R = 1) := by show _ = _; rw [HST.out, if_neg h1024]; rfl
                      go_wp2_with (go_at_call 23; refine HCT.out.mono ?_; rintro e w2 ⟨rfl, hb2⟩)
                      go_ret
                      exact ⟨ret_int HR.out.symm, hb.trans (hb2.mono hb.size)⟩
                    | false =>
                      have HN : Hid (R = toksErr (toks.drop (k + 1))) := by show _ = _; rw [HST.out, if_neg h1024]; rfl
                      go_wp2_with (go_at_call 23; refine HCT.out.mono ?_; rintro e w2 ⟨rfl, hb2⟩)
                      go_roundw
                      case rel => exact ⟨k + 1, by go_num, by omega, hb.trans (hb2.mono hb.size), HN.out⟩
                      case measure => simp [intOf]; omega
                · have HR : Hid (R = 0) := by show _ = _; rw [hx.out, List.drop_of_length_le (by rw [← HTN.out]; omega)]; rfl
                  clear hx
                  go_wp2
                  go_ret
                  exact ⟨ret_int HR.out.symm, hb⟩
            · have t1 : ((tn : Int) != (sn : Int)) = true := by simp; omega
              have t2 : decide (tn = sn) = false := decide_eq_false hmm
              have HR : Hid (R = 9) := by show _ = _; rw [HT3.out, if_pos hmm]
              clear HT3 hmm
              go_wp2
              go_ret
              exact ⟨ret_int HR.out.symm, Below.refl _ _⟩
end Go.Proofs.YtileoimcnhcfcaaDoor

/- collation.Check. -/
namespace Go.Proofs.YtileoimcnhcfcaaDoor
open Go.RowKit

theorem noLong {x : Col} (h : Heads x) : x.toks.any longL = false := by
  rw [List.any_eq_false]
  intro r hr
  have := (h.toks r hr).1
  simp [longL]; omega
theorem mwSources_any (S : Nat → Prop) (ta : Option Addr) (tn tc : Nat) (x : Col) (w : World) (ht : Tokss S w ta tn tc x.toks) (hh : Heads x) :
    Calls Tryd.prog 26 #[.slice ta tn tc] w fun e w' => e = .returned (.int .i64 0) ∧ w = w' := by
  have h1 : 0 < tn := by rw [ht.len, hh.len]; exact hh.pos
  have h2 : tn ≤ 32 := by rw [ht.len, hh.len]; exact hh.most
  have hF := containsL_any S ta tn tc x.toks w ht
  rw [noLong hh] at hF
  have HF := Lib.hid hF
  clear ht hF hh
  go_enter Tryd.func26, Tryd.ntmps26
  go_wp2_with (go_at_call 43; refine HF.out.mono ?_; rintro e w' ⟨rfl, rfl⟩)
  go_ret
  exact ⟨rfl, rfl⟩
theorem mwCheck_any (S : Nat → Prop) (ta ca : Option Addr) (tn tc cn cc : Nat) (x : Col) (w : World) (ht : Tokss S w ta tn tc x.toks) (hc : Numss S w ca cn cc x.cols) (hh : Heads x) :
    Calls Tryd.prog 14 #[.slice ta tn tc, .slice ca cn cc] w fun e w' => e = .returned (.int .i64 (if aligned x.lens x.cols = true then 0 else 19)) ∧ Below w.heap.size w w' := by
  have HS := Lib.hid (mwSources_any S ta tn tc x w ht hh)
  have HA : Hid (Calls Tryd.prog 27 #[.slice ta tn tc, .slice ca cn cc] w fun e w' => e = .returned (.bool (aligned x.lens x.cols)) ∧ Below w.heap.size w w') := aligned_any S ta ca tn tc cn cc x.toks x.cols w ht hc
  generalize aligned x.lens x.cols = Q at *
  clear ht hc hh
  cases Q with
  | true =>
    go_enter Tryd.func14, Tryd.ntmps14
    go_wp2_with (first | (go_at_call 26; refine HS.out.mono ?_; rintro e w' ⟨rfl, rfl⟩) | (go_at_call 27; refine HA.out.mono ?_; rintro e w1 ⟨rfl, hb1⟩))
    go_ret
    exact ⟨rfl, hb1⟩
  | false =>
    go_enter Tryd.func14, Tryd.ntmps14
    go_wp2_with (first | (go_at_call 26; refine HS.out.mono ?_; rintro e w' ⟨rfl, rfl⟩) | (go_at_call 27; refine HA.out.mono ?_; rintro e w1 ⟨rfl, hb1⟩))
    go_ret
    exact ⟨rfl, hb1⟩
set_option maxRecDepth 100000 in
set_option maxHeartbeats 2000000 in
theorem check_any (S : Nat → Prop) (v : CV) (x : Col) (w : World) (h : RdC S w v x) (hm : Sml x) (hE : Env w) :
    Calls Tryd.prog 5 #[v.val] w fun e w' => e = .returned (.int .i64 x.err) ∧ Below w.heap.size w w' := by
  obtain ⟨sec, sa, sn, sc, ta, tn, tc, ca, cn, cc⟩ := v
  obtain ⟨h1, -, h2, h3, h4⟩ := h
  dsimp only at h1 h2 h3 h4
  change Calls _ _ #[.agg #[.string sec, .slice sa sn sc, .slice ta tn tc, .slice ca cn cc]] _ _
  have hb0 : Below w.heap.size w (w.alloc (.cells #[.string sec, .slice sa sn sc, .slice ta tn tc, .slice ca cn cc] 26)) := (Below.refl _ _).alloc (Nat.le_refl _) _
  have c0 : (w.alloc (.cells #[.string sec, .slice sa sn sc, .slice ta tn tc, .slice ca cn cc] 26)).cell? ⟨w.heap.size, 0, none⟩ = some (.string sec) := by rw [World.cell?_alloc_at _ _ _ _ rfl]; rfl
  have c1 : (w.alloc (.cells #[.string sec, .slice sa sn sc, .slice ta tn tc, .slice ca cn cc] 26)).cell? ⟨w.heap.size, 1, none⟩ = some (.slice sa sn sc) := by rw [World.cell?_alloc_at _ _ _ _ rfl]; rfl
  have c2 : (w.alloc (.cells #[.string sec, .slice sa sn sc, .slice ta tn tc, .slice ca cn cc] 26)).cell? ⟨w.heap.size, 2, none⟩ = some (.slice ta tn tc) := by rw [World.cell?_alloc_at _ _ _ _ rfl]; rfl
  have c3 : (w.alloc (.cells #[.string sec, .slice sa sn sc, .slice ta tn tc, .slice ca cn cc] 26)).cell? ⟨w.heap.size, 3, none⟩ = some (.slice ca cn cc) := by rw [World.cell?_alloc_at _ _ _ _ rfl]; rfl
  have HF : Hid (Calls Tryd.prog 13 #[.string sec, .slice sa sn sc, .slice ta tn tc] (w.alloc (.cells #[.string sec, .slice sa sn sc, .slice ta tn tc, .slice ca cn cc] 26)) fun e w' => e = .returned (.int .i64 (headErr x)) ∧ Below (w.alloc (.cells #[.string sec, .slice sa sn sc, .slice ta tn tc, .slice ca cn cc] 26)).heap.size (w.alloc (.cells #[.string sec, .slice sa sn sc, .slice ta tn tc, .slice ca cn cc] 26)) w') := by
    have := sources_any S sa ta sn sc tn tc x _ (h2.below rStr_ok hb0) (h3.below (rSl_ok rTok_ok) hb0) hm (hE.below hb0)
    rw [← h1] at this
    exact this
  have hbs : w.heap.size < (w.alloc (.cells #[.string sec, .slice sa sn sc, .slice ta tn tc, .slice ca cn cc] 26)).heap.size := by simp
  have HT : Hid (x.err = if headErr x ≠ 0 then headErr x else if aligned x.lens x.cols = true then 0 else 19) := rfl
  have HG : Hid (headErr x = 0 → ∀ W, Below w.heap.size w W → Calls Tryd.prog 14 #[.slice ta tn tc, .slice ca cn cc] W fun e w' => e = .returned (.int .i64 (if aligned x.lens x.cols = true then 0 else 19)) ∧ Below W.heap.size W w') := fun h0 W hb =>
    mwCheck_any S ta ca tn tc cn cc x W (h3.below (rSl_ok rTok_ok) hb) (h4.below (rSl_ok rInt_ok) hb) (headErr_iff.1 h0)
  generalize x.err = R at *
  generalize headErr x = H at *
  generalize aligned x.lens x.cols = Q at *
  clear h1 h2 h3 h4 hm hE
  by_cases h0 : H = 0
  · subst h0
    have HG2 := Lib.hid (HG.out rfl)
    clear HG
    have HT2 : Hid (R = if Q = true then 0 else 19) := HT.out
    clear HT
    go_enter Tryd.func5, Tryd.ntmps5
    go_wp2_with fail
    generalize w.alloc (.cells #[.string sec, .slice sa sn sc, .slice ta tn tc, .slice ca cn cc] 26) = W1 at *
    refine HF.out.mono ?_
    rintro e W2 ⟨rfl, hb2⟩
    have hb3 := hb0.trans (hb2.mono hb0.size)
    have d2 := cell_later hb2 c2
    have d3 := cell_later hb2 c3
    clear c0 c1 c2 c3
    cases Q with
    | true =>
      go_wp2_with (go_at_call 14; refine (HG2.out _ hb3).mono ?_; rintro e W3 ⟨rfl, hb4⟩)
      go_ret
      exact ⟨ret_int HT2.out.symm, hb3.trans (hb4.mono hb3.size)⟩
    | false =>
      go_wp2_with (go_at_call 14; refine (HG2.out _ hb3).mono ?_; rintro e W3 ⟨rfl, hb4⟩)
      go_ret
      exact ⟨ret_int HT2.out.symm, hb3.trans (hb4.mono hb3.size)⟩
  · have HT2 : Hid (R = H) := by show _ = _; rw [HT.out, if_pos h0]
    have t0 : ((H : Int) != 0) = true := by simp [h0]
    clear HT h0 HG
    go_enter Tryd.func5, Tryd.ntmps5
    go_wp2_with fail
    generalize w.alloc (.cells #[.string sec, .slice sa sn sc, .slice ta tn tc, .slice ca cn cc] 26) = W1 at *
    refine HF.out.mono ?_
    rintro e W2 ⟨rfl, hb2⟩
    go_wp2
    go_ret
    exact ⟨ret_int HT2.out.symm, hb0.trans (hb2.mono hb0.size)⟩
end Go.Proofs.YtileoimcnhcfcaaDoor
