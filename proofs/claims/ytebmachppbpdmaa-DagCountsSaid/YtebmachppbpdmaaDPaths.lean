/- paths: all paths from one node to another. -/
import Derived.Test.YtebmachppbpdmaaDPathP
import Derived.Test.YtebmachppbpdmaaAppR
namespace Go.Proofs.Ytebmachppbpdmaa
open Go.RowKit

theorem pathsF_i64 {ll : List Lk} {t d s : Nat} (hd : d ≤ 8) (hm : ll.length ≤ 14) : ∀ p ∈ pathsF ll t d s, p.length ≤ 8 ∧ ∀ x ∈ p, I64 x := fun p hp => by
  obtain ⟨h1, h2⟩ := pathsF_row d s p hp
  exact ⟨by omega, fun x hx => by have := h2 x hx; exact I64.small (by omega) (by omega)⟩
set_option maxRecDepth 10000 in
set_option maxHeartbeats 2000000 in
theorem paths_in {ll : List Lk} {n : Nat} (hv : Valid n ll) (hm : ll.length ≤ 14) (hn : n ≤ 8) (t : Nat) (ht : t < n) (a : Option Addr) (m cap : Nat) : ∀ (d s : Nat) (w : World), n - s ≤ d → d ≤ 8 → s < n → Links w a m cap ll →
    Calls Try.prog 30 #[.slice a m cap, .int .i64 s, .int .i64 t] w fun e w' => ∃ (a' : Option Addr) (q c' : Nat), e = .returned (.slice a' q c') ∧ OwnII w' w.heap.size a' q c' (pathsF ll t d s) ∧ Below w.heap.size w w'
  | 0, s, w, h1, _, h3, _ => by omega
  | d + 1, s, w, h1, h2, h3, h => by
    have IH := Lib.hid (paths_in hv hm hn t ht a m cap d)
    have H := Lib.hid h.len
    have HM := Lib.hid hm
    have hmm : m ≤ 14 := by rw [h.len]; exact hm
    have HV : Hid (Valid n ll) := hv
    have h8 := h.bound
    by_cases hst : s = t
    · subst hst
      rw [pathsF_self]
      have he : ((s : Int) == (s : Int)) = true := by simp
      clear hv hm
      go_enter Try.func30, Try.ntmps30
      go_wp2
      go_ret
      exact ⟨_, _, _, rfl, OwnII.lit0 w w.heap.size (Nat.le_refl _), (Below.refl _ _).alloc (Nat.le_refl _) _⟩
    · have he : ((s : Int) == (t : Int)) = false := by simp; omega
      have HST := Lib.hid hst
      rw [pathsF_next hst]
      clear hv hm hst
      go_enter Try.func30, Try.ntmps30
      go_wp2
      go_loopw [18, 7] (fun i o wr => ∃ (j : Nat) (a2 : Option Addr) (q2 c2 : Nat), i = .int .i64 j ∧ o = .slice a2 q2 c2 ∧ j ≤ m ∧ OwnII wr w.heap.size a2 q2 c2 (pathsTo ll t d s j) ∧ Below w.heap.size w wr) (fun i _ _ => m - (intOf i).toNat)
      case atStart => exact ⟨0, none, 0, 0, rfl, rfl, Nat.zero_le _, OwnII.nil _ _, Below.refl _ _⟩
      case round =>
        obtain ⟨j, a2, q2, c2, rfl, rfl, hj, hO, hB⟩ := hrel
        by_cases hlt : j < m
        · obtain ⟨f, tt0, c, hxx, -, -, -, bb, off, rfl, hbl, k1, k2, k3⟩ := (h.below hB).get hlt
          dsimp only at k1 k2 k3
          have hxl : lkAt ll j = (f, tt0, c) := by rw [lkAt, hxx]; rfl
          obtain ⟨f', tt, e1, e2, e3, e4, e5, e6⟩ := HV.out j (by rw [← H.out]; exact hlt)
          rw [hxl] at e1 e2 e5 e6
          dsimp only at e1 e2 e5 e6
          subst e1 e2
          have hB' := hB.alloc hB.size (.cells #[.int .i64 (f' : Int), .int .i64 (tt : Int), .int .i64 c] 36)
          have hO' := hO.below ((Below.refl _ _).alloc (Nat.le_refl _) (.cells #[.int .i64 (f' : Int), .int .i64 (tt : Int), .int .i64 c] 36))
          by_cases hfs : f' = s
          · subst hfs
            have d1 : ((f' : Int) == (f' : Int)) = true := by simp
            have hdst : dst ll j = tt := by rw [dst, hxl]; rfl
            have hnx := pathsTo_yes (ll := ll) (t := t) (d := d) (s := f') (j := j) (by rw [hxl])
            rw [hdst] at hnx
            have HNX := Lib.hid hnx
            have hlen := pathsTo_small HV.out HM.out (d := d) (j := j + 1) HST.out (by rw [← H.out]; omega)
            rw [hnx, List.length_append, List.length_map] at hlen
            have HLEN := Lib.hid hlen
            have HP := Lib.hid (pathsF_i64 (ll := ll) (t := t) (d := d) (s := tt) (by omega) HM.out)
            clear hxl hxx hdst hnx hlen
            generalize hpt : pathsTo ll t d f' j = pt at *
            have HPT := Lib.hid hpt
            clear hpt
            have w2bd : Hid (Below wr.heap.size wr (wr.alloc (.cells #[.int .i64 (f' : Int), .int .i64 (tt : Int), .int .i64 c] 36))) := (Below.refl _ _).alloc (Nat.le_refl _) _
            have hsz0 := hB.size
            go_wp2_with fail
            refine (IH.out tt _ (by omega) (by omega) e4 (h.below hB')).mono ?_
            rintro e w1 ⟨a3, q3, c3, rfl, hR, b1⟩
            have hRlen := Lib.hid hR.len
            have hq3 : q3 ≤ 16384 := by have := hR.len; have := pathsF_small HV.out HM.out t d tt; omega
            have hB1 := hB'.trans (b1.mono hB'.size)
            have hO1 := hO'.below b1
            have hlt2 := Lib.hid hO'.lt
            have hsz1 := b1.size
            generalize hrows : pathsF ll t d tt = rows at *
            clear hrows
            generalize hW2 : wr.alloc (.cells #[.int .i64 (f' : Int), .int .i64 (tt : Int), .int .i64 c] 36) = W2 at *
            have hszW : w.heap.size ≤ W2.heap.size := by rw [← hW2]; simp; omega
            clear hW2 hO hO' hB hB' k1 k2 k3 w2bd
            obtain ⟨wo, rfl⟩ : ∃ wo : World, wo = w1 := ⟨_, rfl⟩
            go_wp2
            go_loopw [33, 7] (fun i o wr => ∃ (k : Nat) (a4 : Option Addr) (q4 c4 : Nat), i = .int .i64 k ∧ o = .slice a4 q4 c4 ∧ k ≤ q3 ∧ OwnII wr w.heap.size a4 q4 c4 (pt ++ (rows.take k).map ((j : Int) :: ·)) ∧ Below w.heap.size w wr ∧ Held W2.heap.size wo.heap.size wo wr ∧
              Hid (∀ q, (Value.slice a4 q4 c4).ownBlock = some q → q < W2.heap.size ∨ wo.heap.size ≤ q)) (fun i _ _ => q3 - (intOf i).toNat)
            case atStart => exact ⟨0, a2, q2, c2, rfl, rfl, Nat.zero_le _, by simpa using hO1, hB1, Held.refl _ _ _, fun q hq => .inl (hlt2.out q hq).2⟩
            case round =>
              obtain ⟨k, a4, q4, c4, rfl, rfl, hk, hO4, hB4, hH4, hg4⟩ := hrel
              by_cases hlk : k < q3
              · have hR4 := hR.held hH4
                obtain ⟨g, aj, nj, cj, rfl, -, -, -, hcj, hoj, -⟩ := hR4.at_ hlk
                have hkl : k < rows.length := by rw [← hRlen.out]; exact hlk
                rw [List.getElem?_eq_getElem hkl] at hoj
                have hmem := List.getElem_mem hkl
                have htk : Hid ((rows.take (k + 1)).map ((j : Int) :: ·) = (rows.take k).map ((j : Int) :: ·) ++ [(j : Int) :: rows[k]]) := by
                  show _ = _
                  rw [List.take_succ_eq_append_getElem hkl, List.map_append]; rfl
                generalize rows[k] = row at *
                have hoj : OwnI _ W2.heap.size aj nj cj row := hoj
                have hrow := HP.out row hmem
                have hnj : nj ≤ 8 := by have := hoj.len; omega
                have hq4 : q4 ≤ 100000 := by have := hO4.len; have := HLEN.out; rw [List.length_append, List.length_map, List.length_take] at *; omega
                have hsz4 := hB4.size
                clear hmem hkl
                have hBr : Below wr.heap.size wr (wr.alloc (.cells #[.int .i64 (j : Int)] 3)) := (Below.refl _ _).alloc (Nat.le_refl _) _
                clear hR4
                go_wp2_with (first
                  | (at_builtin; refine wpList_appRow rfl (.tmp 39) (.tmp 40) rfl rfl rfl (OwnI.lit1 wr wr.heap.size (j : Int) (Nat.le_refl _)) (hoj.alloc _) (by omega) (by simp) hBr ?_; intro a5 c5 w5 o5 b5 g5 at5)
                  | (at_builtin; refine wpList_appII rfl (.tmp 37) (.tmp 42) rfl rfl rfl hO4 (b5.alloc b5.size _) ((o5.mono hsz4).alloc _) (fun x hx => (o5.2.lt x.block (by rw [hx]; rfl)).1) (cell_lit1 _ _ _ rfl) (by omega) (by have := b5.size; simp; omega) ((hB4.trans (b5.mono hsz4)).alloc (by have := b5.size; omega) _) ?_; intro a6 c6 w6 o6 b6 g6 at6))
                go_roundw
                case rel =>
                  have b56 := b5.alloc b5.size (.cells #[.slice a5 (1 + nj) c5] 26)
                  refine ⟨k + 1, a6, q4 + 1, c6, by go_num, rfl, by omega, ?_, b6, (hH4.trans (Held.below b56 hH4.1)).trans (Held.grown g6 (Nat.le_trans hH4.1 b56.size) hg4.out), fun q hq => ?_⟩
                  · rw [htk.out, ← List.append_assoc]; exact o6
                  · rw [hq] at at6
                    rcases at6 with e | e
                    · exact hg4.out q e.symm
                    · have := b56.size; have := hH4.1; have := Option.some.inj e; exact .inr (by omega)
                case measure => simp [intOf]; omega
              · obtain rfl : k = q3 := by omega
                have hfull : Hid (OwnII wr w.heap.size a4 q4 c4 (pathsTo ll t d f' (j + 1))) := by
                  show OwnII _ _ _ _ _ _
                  rw [HNX.out]
                  have := hO4
                  rw [List.take_of_length_le (by rw [← hRlen.out]; exact Nat.le_refl _)] at this
                  exact this
                go_wp2
                go_roundw
                case rel => exact ⟨j + 1, a4, q4, c4, by go_num, rfl, by omega, hfull.out, hB4⟩
                case measure => simp [intOf]; omega
          · have d1 : ((f' : Int) == (s : Int)) = false := by simp; omega
            have hfull : Hid (pathsTo ll t d s (j + 1) = pathsTo ll t d s j) := pathsTo_no (by rw [hxl]; show (f' : Int) ≠ s; omega)
            clear hxl hxx
            go_wp2
            go_roundw
            case rel => exact ⟨j + 1, a2, q2, c2, by go_num, rfl, by omega, by rw [hfull.out]; exact hO', hB'⟩
            case measure => simp [intOf]; omega
        · obtain rfl : m = j := by omega
          have hO2 : Hid (OwnII wr w.heap.size a2 q2 c2 (pathsTo ll t d s ll.length)) := by show OwnII _ _ _ _ _ _; rw [← H.out]; exact hO
          go_wp2
          go_ret
          exact ⟨a2, q2, c2, rfl, hO2.out, hB⟩
/-- paths, in a small graph. -/
theorem paths_any {ll : List Lk} {n : Nat} (hv : Valid n ll) (hm : ll.length ≤ 14) (hn : n ≤ 8) {s t : Nat} (hs : s < n) (ht : t < n) (a : Option Addr) (m cap : Nat) (w : World) (h : Links w a m cap ll) :
    Calls Try.prog 30 #[.slice a m cap, .int .i64 s, .int .i64 t] w fun e w' => ∃ (a' : Option Addr) (q c' : Nat), e = .returned (.slice a' q c') ∧ Intss w' a' q c' (pathsL ll n s t) ∧ Below w.heap.size w w' := by
  refine (paths_in hv hm hn t ht a m cap n s w (by omega) hn hs h).mono ?_
  rintro e w' ⟨a', q, c', rfl, ho, hb⟩
  have hl := ho.len
  have := pathsF_small hv hm t n s
  exact ⟨a', q, c', rfl, ho.intss (by omega) fun p hp => by
    obtain ⟨h1, h2⟩ := pathsF_i64 hn hm p hp
    exact ⟨by omega, h2⟩, hb⟩
end Go.Proofs.Ytebmachppbpdmaa
