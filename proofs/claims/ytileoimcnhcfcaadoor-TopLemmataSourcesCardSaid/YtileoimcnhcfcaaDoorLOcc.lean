/- lemma.occurrences: the iterator. -/
import Derived.Test.YtileoimcnhcfcaaDoorLWor
import Derived.Test.YtileoimcnhcfcaaDoorEIter
import Derived.Test.YtileoimcnhcfcaaDoorLQin
set_option linter.unusedVariables false
set_option linter.unusedSimpArgs false
namespace Go.Proofs.YtileoimcnhcfcaaDoor
open Go.RowKit Go.Shelf
attribute [local go_sem] Oper.semAt_some

section
variable (ws : List ByteArray) (f l : ByteArray)
/-- The occurrences that begin at i, and end before k. -/
def inn (i k : Nat) : List (Nat × Nat) := ((List.range k).filter (fun q => decide (i < q) && decide (ws[q]? = some l))).map (fun q => (i, q))
def row (i : Nat) : List (Nat × Nat) := if ws[i]? = some f then (if l = ⟨#[]⟩ then [(i, i)] else inn ws l i ws.length) else []
def occ (j : Nat) : List (Nat × Nat) := (List.range j).flatMap (row ws f l)
theorem occ_succ (j : Nat) : occ ws f l (j + 1) = occ ws f l j ++ row ws f l j := by simp [occ, List.range_succ]
theorem inn_succ (i k : Nat) : inn ws l i (k + 1) = inn ws l i k ++ (if i < k ∧ ws[k]? = some l then [(i, k)] else []) := by
  unfold inn
  rw [List.range_succ, List.filter_append, List.map_append]
  by_cases h : i < k ∧ ws[k]? = some l
  · rw [if_pos h]; simp [h]
  · rw [if_neg h]
    have : (decide (i < k) && decide (ws[k]? = some l)) = false := by
      rw [Bool.eq_false_iff]; intro e; simp at e; exact h e
    simp [this]
theorem inn_zero (i : Nat) : ∀ k, k ≤ i + 1 → inn ws l i k = []
  | 0, _ => rfl
  | k + 1, h => by rw [inn_succ, inn_zero i k (by omega), if_neg (by omega)]; rfl
theorem inn_pre (i : Nat) {k m : Nat} (h : k ≤ m) : inn ws l i k <+: inn ws l i m := by
  obtain ⟨d, rfl⟩ : ∃ d, m = k + d := ⟨m - k, by omega⟩
  clear h
  induction d with
  | zero => exact List.prefix_rfl
  | succ d ih => exact ih.trans (by rw [← Nat.add_assoc, inn_succ]; exact List.prefix_append _ _)
theorem occ_pre {j m : Nat} (h : j ≤ m) : occ ws f l j <+: occ ws f l m := by
  obtain ⟨d, rfl⟩ : ∃ d, m = j + d := ⟨m - j, by omega⟩
  clear h
  induction d with
  | zero => exact List.prefix_rfl
  | succ d ih => exact ih.trans (by rw [← Nat.add_assoc, occ_succ]; exact List.prefix_append _ _)
/-- All occurrences. -/
def occs : List (Nat × Nat) := occ ws f l ws.length
theorem occ_pre2 {j k : Nat} (hj : j < ws.length) (hk : k ≤ ws.length) (hf : ws[j]? = some f) (hl : l ≠ ⟨#[]⟩) : occ ws f l j ++ inn ws l j k <+: occs ws f l := by
  refine List.IsPrefix.trans ?_ (occ_pre ws f l (j := j + 1) (m := ws.length) (by omega))
  rw [occ_succ, row, if_pos hf, if_neg hl]
  obtain ⟨r, hr⟩ := inn_pre ws l j hk
  exact ⟨r, by rw [List.append_assoc, hr]⟩
end
abbrev Oc (ws : List ByteArray) (f l : ByteArray) := { x : Nat × Nat // x ∈ occs ws f l }
abbrev ocEnc {ws : List ByteArray} {f l : ByteArray} (x : Oc ws f l) : Array Value := #[.int .i64 (x.1.1 : Int), .int .i64 (x.1.2 : Int)]
def ocL (ws : List ByteArray) (f l : ByteArray) : List (Oc ws f l) := (occs ws f l).attach
theorem ocL_len (ws : List ByteArray) (f l : ByteArray) : (ocL ws f l).length = (occs ws f l).length := by simp [ocL]
theorem ocL_at {ws : List ByteArray} {f l : ByteArray} {n : Nat} {p : Nat × Nat} (h : (occs ws f l)[n]? = some p) : ∃ x : Oc ws f l, (ocL ws f l)[n]? = some x ∧ x.1 = p := by
  obtain ⟨hn, e⟩ := List.getElem?_eq_some_iff.1 h
  exact ⟨⟨(occs ws f l)[n], List.getElem_mem hn⟩, by simp [ocL, hn], e⟩
theorem pre_at {α : Type} {p L : List α} {x : α} (h : p ++ [x] <+: L) : L[p.length]? = some x := by
  obtain ⟨r, rfl⟩ := h
  simp
theorem pre_take {α : Type} {L : List α} {n : Nat} {x : α} (h : L[n]? = some x) : L.take n ++ [x] = L.take (n + 1) := by rw [List.take_add_one, h]; rfl
set_option maxRecDepth 100000 in
set_option maxHeartbeats 4000000 in
theorem occ_stops (m : Nat) (G : Nat → Prop) (b1 b2 b3 : Nat) (ws : List ByteArray) (f l : ByteArray) (a : Option Addr) (n c : Nat) (w : World) (hv : Strs (fun b => ¬ G b) w a n c ws) (hn : n ≤ 4096)
    (c1 : w.cell? ⟨b1, 0, none⟩ = some (.slice a n c)) (c2 : w.cell? ⟨b2, 0, none⟩ = some (.string f)) (c3 : w.cell? ⟨b3, 0, none⟩ = some (.string l)) (g1 : ¬ G b1) (g2 : ¬ G b2) (g3 : ¬ G b3) :
    SeqStopsK Fence.wide m Tryd.prog 32 #[.pointer (some ⟨b1, 0, none⟩), .pointer (some ⟨b2, 0, none⟩), .pointer (some ⟨b3, 0, none⟩)] (ocEnc (ws := ws) (f := f) (l := l)) (KeepS (fun b => ¬ G b)) (fun ys => ys = ocL ws f l) (fun pre => pre <+: ocL ws f l) (ocL ws f l).length w := fun lo J Jx W0 hW hJ _ hY h0 => by
  have HJA := Lib.hid hJ
  have hv0 := hv.below rStr_ok hW
  have d1 := cell_later hW c1
  have d2 := cell_later hW c2
  have d3 := cell_later hW c3
  have HY := Lib.hid hY
  have HV := Lib.hid hv0
  have HJ0 : Hid (J [] W0) := h0
  have HG := Lib.hid (And.intro g1 (And.intro g2 g3))
  have HLEN := Lib.hid hv0.len
  clear hY hJ hW c1 c2 c3 h0 hv hv0 g1 g2 g3
  have D1 := Lib.hid d1
  have D2 := Lib.hid d2
  have D3 := Lib.hid d3
  obtain ⟨W, rfl⟩ : ∃ W, W = W0 := ⟨_, rfl⟩
  refine callsIn_of_wp Tryd.func32 rfl trivial ?_ rfl
  simp only [Tryd.ntmps32, List.size_toArray, List.length_cons, List.length_nil, Nat.reduceAdd, Nat.reduceSub, Array.replicate_succ, Array.replicate_zero, List.push_toArray, List.append_toArray, List.nil_append, List.cons_append]
  gi_wp2
  gi_loopw [10] (fun i wr => ∃ j : Nat, i = .int .i64 j ∧ j ≤ n ∧ Hid (J ((ocL ws f l).take (occ ws f l j).length) wr) ∧ Hid (KeepS (fun b => ¬ G b) W wr)) (fun i _ => n - (intOf i).toNat)
  case atStart => exact ⟨0, rfl, Nat.zero_le _, HJ0.out, KeepS.refl _ _⟩
  case round =>
    clear HJ0 d1 d2 d3
    obtain ⟨j, rfl, hj, hJp, hK⟩ := hrel
    by_cases hjl : j < n
    · obtain ⟨s, bb, off, hu, hm, ea, hSb, -, -, e0⟩ := (HV.out.keep rStr_ok hK.out).str hjl
      subst ea
      obtain ⟨g1, g2, g3⟩ := HG.out
      have d1' := hK.out.cell (a := ⟨b1, 0, none⟩) g1 D1.out
      have d2' := hK.out.cell (a := ⟨b2, 0, none⟩) g2 D2.out
      have d3' := hK.out.cell (a := ⟨b3, 0, none⟩) g3 D3.out
      have hjw : j < ws.length := by rw [← HLEN.out]; exact hjl
      by_cases hsf : s = f
      · subst hsf
        have q1 : (s.toList == s.toList) = true := str_yes rfl
        by_cases hl : l = ⟨#[]⟩
        · -- one
          subst hl
          have hrow : occ ws s ⟨#[]⟩ (j + 1) = occ ws s ⟨#[]⟩ j ++ [(j, j)] := by rw [occ_succ, row, if_pos hu, if_pos rfl]
          have hpre := occ_pre ws s ⟨#[]⟩ (j := j + 1) (m := ws.length) (by omega)
          rw [hrow] at hpre
          obtain ⟨x, hx, hx1⟩ := ocL_at (pre_at hpre)
          obtain ⟨fn, tmps, assign, body, hy, hR⟩ := HY.out _ x wr hJp.out (by rw [List.length_take]; have := (List.getElem?_eq_some_iff.1 hx).1; omega)
          rw [pre_take hx] at hR
          have HNX : Hid ((occ ws s ⟨#[]⟩ (j + 1)).length = (occ ws s ⟨#[]⟩ j).length + 1) := by show _ = _; rw [hrow]; simp
          have HPX : Hid ((ocL ws s ⟨#[]⟩).take ((occ ws s ⟨#[]⟩ j).length + 1) <+: ocL ws s ⟨#[]⟩) := List.take_prefix _ _
          dsimp only [ocEnc] at hy
          rw [hx1] at hy
          dsimp only at hy
          have HRR := Lib.hid hR
          have HK := Lib.hid hK.out
          clear hR hx hx1 hpre hrow hJp hu hm hK g1 g2 g3
          gi_wp2
          refine ⟨(fun h => by cases h), ?_⟩
          refine HRR.out.mono ?_
          rintro e W3 (⟨rfl, hJ3, hk3⟩ | ⟨rfl, hJx3⟩)
          · have HJ3 : Hid (J ((ocL ws s ⟨#[]⟩).take (occ ws s ⟨#[]⟩ (j + 1)).length) W3) := by show J _ _; rw [HNX.out]; exact hJ3
            have HK3 := Lib.hid (HK.out.trans hk3)
            clear hJ3 hk3 hy HRR e0 d1' d2' d3'
            gi_wp2
            go_roundw
            case rel => exact ⟨j + 1, by go_num, by omega, HJ3, HK3⟩
            case measure => simp [intOf]; omega
          · have HJX := Lib.hid hJx3
            clear hJx3 hy HRR e0 d1' d2' d3'
            gi_wp2
            refine bodyPost_ret (results_none rfl _ _ _) rfl ?_
            exact ⟨⟨_, rfl⟩, .inr ⟨_, HPX.out, HJX.out⟩⟩
        · have q2 : l.toList.isEmpty = false := isEmpty_no (fun e => hl (by obtain ⟨⟨x⟩⟩ := l; cases x with
                                                                            | nil => rfl
                                                                            | cons => simp [ByteArray.size] at e))
          have HEND : Hid ((occ ws s l j).length + (inn ws l j n).length = (occ ws s l (j + 1)).length) := by
            show _ = _
            rw [occ_succ, row, if_pos hu, if_neg hl, List.length_append, HLEN.out]
          have HPR : Hid (∀ k, k ≤ n → occ ws s l j ++ inn ws l j k <+: occs ws s l) := fun k hk => occ_pre2 ws s l hjw (by rw [← HLEN.out]; exact hk) hu hl
          have HK := Lib.hid hK.out
          have HJP := Lib.hid hJp.out
          clear hu hm hl hJp hK g1 g2 g3
          obtain ⟨wo, rfl⟩ : ∃ wo : World, wo = wr := ⟨_, rfl⟩
          gi_wp2
          gi_loopw [7] (fun i wr => ∃ k : Nat, i = .int .i64 k ∧ j + 1 ≤ k ∧ k ≤ n ∧ Hid (J ((ocL ws s l).take ((occ ws s l j).length + (inn ws l j k).length)) wr) ∧ Hid (KeepS (fun b => ¬ G b) W wr)) (fun i _ => n - (intOf i).toNat)
          case atStart => exact ⟨j + 1, by go_num, Nat.le_refl _, hjl, by rw [inn_zero ws l j (j + 1) (Nat.le_refl _)]; exact HJP.out, HK.out⟩
          case round =>
            clear HJP HK e0 d1' d2' d3'
            obtain ⟨k, rfl, hjk, hkn, hJk, hKk⟩ := hrel
            obtain ⟨g1, g2, g3⟩ := HG.out
            have d1' := hKk.out.cell (a := ⟨b1, 0, none⟩) g1 D1.out
            have d3' := hKk.out.cell (a := ⟨b3, 0, none⟩) g3 D3.out
            by_cases hkl : k < n
            · obtain ⟨u, bu, ou, hu, hm, ea, hSb, -, -, e0⟩ := (HV.out.keep rStr_ok hKk.out).str hkl
              cases ea
              by_cases hul : u = l
              · subst hul
                have q3 : (u.toList == u.toList) = true := str_yes rfl
                have hrow : inn ws u j (k + 1) = inn ws u j k ++ [(j, k)] := by rw [inn_succ, if_pos ⟨by omega, hu⟩]
                have hpre := HPR.out (k + 1) (by omega)
                rw [hrow, ← List.append_assoc] at hpre
                have hpa := pre_at hpre
                rw [List.length_append] at hpa
                obtain ⟨x, hx, hx1⟩ := ocL_at hpa
                have HYY : Hid (∀ q, ∃ fn tmps assign body, (Instr.yield lo #[.int .i64 (j : Int), .int .i64 (k : Int)]).run Tryd.prog (wr.drewN q) = .ok (.round lo fn tmps assign body) (wr.drewN q) ∧ RoundIn Fence.wide (m - 1) Tryd.prog lo fn tmps assign body (wr.drewN q) fun e W' =>
                    (e = .returned (.bool true) ∧ J ((ocL ws s u).take ((occ ws s u j).length + (inn ws u j k).length + 1)) W' ∧ KeepS (fun b => ¬ G b) (wr.drewN q) W') ∨ (e = .returned (.bool false) ∧ Jx ((ocL ws s u).take ((occ ws s u j).length + (inn ws u j k).length + 1)) W')) := fun q => by
                  have hJq : J ((ocL ws s u).take ((occ ws s u j).length + (inn ws u j k).length)) (wr.drewN q) := HJA.out _ wr _ none hJk.out ⟨rfl, rfl, rfl, Nat.le_refl _, fun _ _ _ => rfl⟩ (fun r e => by cases e)
                  obtain ⟨fn, tmps, assign, body, hy, hR⟩ := HY.out _ x (wr.drewN q) hJq (by rw [List.length_take]; have := (List.getElem?_eq_some_iff.1 hx).1; omega)
                  rw [pre_take hx] at hR
                  dsimp only [ocEnc] at hy
                  rw [hx1] at hy
                  exact ⟨fn, tmps, assign, body, hy, hR⟩
                have HNX : Hid ((occ ws s u j).length + (inn ws u j (k + 1)).length = (occ ws s u j).length + (inn ws u j k).length + 1) := by show _ = _; rw [hrow]; simp; omega
                have HPX : Hid ((ocL ws s u).take ((occ ws s u j).length + (inn ws u j k).length + 1) <+: ocL ws s u) := List.take_prefix _ _
                have HK := Lib.hid hKk.out
                clear hx hx1 hpre hpa hrow hJk hKk hu hm g1 g2 g3
                gi_wp2_with (fail)
                refine wpIn_region_headQ 10 rfl (by kernel_rfl) (by kernel_rfl) ?_
                repeat (refine wpQuietIn_step (fun _ _ _ _ => trivial) (fun K hK => ?_); go_simp; (refine hK _ ?_; clear hK K))
                refine wpQuietIn_nil ?_
                rintro W2 ⟨nq, rfl⟩
                obtain ⟨fn, tmps, assign, body, hy, hR⟩ := HYY.out nq
                have HRR := Lib.hid hR
                clear hR HYY e0 d1' d3'
                gi_wp2
                refine ⟨(fun h => by cases h), ?_⟩
                refine HRR.out.mono ?_
                rintro e W3 (⟨rfl, hJ3, hk3⟩ | ⟨rfl, hJx3⟩)
                · have HJ3 : Hid (J ((ocL ws s u).take ((occ ws s u j).length + (inn ws u j (k + 1)).length)) W3) := by show J _ _; rw [HNX.out]; exact hJ3
                  have HK3 : Hid (KeepS (fun b => ¬ G b) W W3) := (HK.out.trans ⟨Nat.le_refl _, fun _ _ _ _ _ h => h⟩).trans hk3
                  clear hJ3 hk3 hy HRR
                  gi_wp2
                  go_roundw
                  case rel => exact ⟨k + 1, by go_num, by omega, by omega, HJ3, HK3⟩
                  case measure => simp [intOf]; omega
                · have HJX := Lib.hid hJx3
                  clear hJx3 hy HRR
                  gi_wp2
                  refine bodyPost_ret (results_none rfl _ _ _) rfl ?_
                  exact ⟨⟨_, rfl⟩, .inr ⟨_, HPX.out, HJX.out⟩⟩
              · have q3 : (u.toList == l.toList) = false := str_no hul
                have HNX : Hid (inn ws l j (k + 1) = inn ws l j k) := by
                  show _ = _
                  rw [inn_succ, if_neg (by rw [hu]; intro e; exact hul (Option.some.inj e.2)), List.append_nil]
                have HK := Lib.hid hKk.out
                clear hul hu hm g1 g2 g3
                gi_wp2_with (fail)
                refine wpIn_region_quiet_lit rfl (by kernel_rfl) (by kernel_rfl) ?_
                repeat (refine wpQuietIn_step (fun _ _ _ _ => trivial) (fun K hK => ?_); go_simp; (refine hK _ ?_; clear hK K))
                refine wpQuietIn_nil ?_
                rintro W2 ⟨nq, rfl⟩
                have HJ3 : Hid (J ((ocL ws s l).take ((occ ws s l j).length + (inn ws l j (k + 1)).length)) (wr.drewN nq)) := by
                  show J _ _
                  rw [HNX.out]
                  exact HJA.out _ wr _ none hJk.out ⟨rfl, rfl, rfl, Nat.le_refl _, fun _ _ _ => rfl⟩ (fun r e => by cases e)
                have HK3 : Hid (KeepS (fun b => ¬ G b) W (wr.drewN nq)) := HK.out.trans ⟨Nat.le_refl _, fun _ _ _ _ _ h => h⟩
                clear hJk hKk e0 d1' d3'
                gi_wp2
                go_roundw
                case rel => exact ⟨k + 1, by go_num, by omega, by omega, HJ3, HK3⟩
                case measure => simp [intOf]; omega
            · obtain rfl : k = n := by omega
              have HJ2 : Hid (J ((ocL ws s l).take (occ ws s l (j + 1)).length) wr) := by show J _ _; rw [← HEND.out]; exact hJk.out
              have HK := Lib.hid hKk.out
              clear hJk hKk
              gi_wp2
              go_roundw
              case rel => exact ⟨j + 1, by go_num, by omega, HJ2, HK⟩
              case measure => simp [intOf]; omega
      · have q1 : (s.toList == f.toList) = false := str_no hsf
        have HR : Hid (occ ws f l (j + 1) = occ ws f l j) := by
          show _ = _
          rw [occ_succ, row, if_neg (by rw [hu]; intro e; exact hsf (Option.some.inj e)), List.append_nil]
        have HK := Lib.hid hK.out
        clear hsf hu hm g1 g2 g3
        gi_wp2
        go_roundw
        case rel => exact ⟨j + 1, by go_num, by omega, by rw [HR.out]; exact hJp, HK⟩
        case measure => simp [intOf]; omega
    · obtain rfl : j = n := by omega
      have HF : Hid ((ocL ws f l).take (occ ws f l j).length = ocL ws f l) := by
        show _ = _
        rw [HLEN.out]
        exact List.take_of_length_le (by rw [ocL_len]; exact Nat.le_refl _)
      gi_wp2
      go_end0
      refine ⟨⟨_, rfl⟩, .inl ⟨_, rfl, by rw [← HF.out]; exact hJp.out⟩⟩
theorem occ_in (m : Nat) (w : World) (a : Option Addr) (n c : Nat) (f l : ByteArray) : CallsIn Fence.wide m Tryd.prog 18 #[.slice a n c, .string f, .string l] w fun e w' =>
    e = .returned (.func (.func 32) #[] #[.pointer (some ⟨w.heap.size, 0, none⟩), .pointer (some ⟨w.heap.size + 1, 0, none⟩), .pointer (some ⟨w.heap.size + 1 + 1, 0, none⟩)]) ∧
    w' = ((w.alloc (.cells #[.slice a n c] 22)).alloc (.cells #[.string f] 9)).alloc (.cells #[.string l] 9) := by
  refine callsIn_of_wp Tryd.func18 rfl trivial ?_ rfl
  simp only [Tryd.ntmps18, List.size_toArray, List.length_cons, List.length_nil, Nat.reduceAdd, Nat.reduceSub, Array.replicate_succ, Array.replicate_zero, List.push_toArray, List.append_toArray, List.nil_append, List.cons_append]
  gi_wp2
  go_ret
  exact ⟨rfl, rfl⟩
/-- A loop over the occurrences. -/
theorem occ_loop {n i1 i2 : Nat} {g0 : Operand} {assign body : Code} {Q : Exit → Act → World → Prop} {act : Act} {WL : World} (hn : 3 ≤ n) (b1 b2 b3 : Nat) (ws : List ByteArray) (f l : ByteArray) (a : Option Addr) (m c : Nat) (G : Nat → Prop)
    (hg0 : act.eval g0 = .func (.func 32) #[] #[.pointer (some ⟨b1, 0, none⟩), .pointer (some ⟨b2, 0, none⟩), .pointer (some ⟨b3, 0, none⟩)])
    (hv : Strs (fun b => ¬ G b) WL a m c ws) (hm : m ≤ 4096) (c1 : WL.cell? ⟨b1, 0, none⟩ = some (.slice a m c)) (c2 : WL.cell? ⟨b2, 0, none⟩ = some (.string f)) (c3 : WL.cell? ⟨b3, 0, none⟩ = some (.string l)) (g1 : ¬ G b1) (g2 : ¬ G b2) (g3 : ¬ G b3)
    (I : List (Oc ws f l) → World → Prop) (Ix : Code → List (Oc ws f l) → World → Prop) (hI : OwnFrom WL.heap.size I) (hIx : ∀ c, OwnFrom WL.heap.size (Ix c)) (h0 : I [] WL)
    (Ax : Oc ws f l → Act → World → Prop) (hAx : ∀ x a', OwnFrom WL.heap.size (fun (_ : Unit) W => Ax x a' W))
    (hassign : ∀ (lv : Nat) (pre : List (Oc ws f l)) (x : Oc ws f l) (W : World) (K : Act → World → Prop), I pre W → (∀ a' W', KeepsFrom WL.heap.size W W' → KeepS (fun b => ¬ G b) W W' → I pre W' → Ax x a' W' → K a' W') →
      assign.wpIn (Fence.wide.inRound lv) (n - 1 - 1) Tryd.prog (Exit.then K (fun _ _ _ => False)) { tmps := (#[i1, i2].zip (ocEnc x)).foldl (fun t (p, v) => t.setIfInBounds p v) act.tmps, defers := [] } W)
    (hbody : ∀ (lv : Nat) (pre : List (Oc ws f l)) (x : Oc ws f l) (a' : Act) (W : World), I pre W → Ax x a' W → pre.length < (ocL ws f l).length → body.wpIn (Fence.wide.inRound lv) (n - 1 - 1) Tryd.prog (ownPostG WL.heap.size (KeepS (fun b => ¬ G b)) I Ix (pre ++ [x]) W) a' W)
    (hdone : ∀ (D : Nat) (W : World), WL.heap.size ≤ D → I (ocL ws f l) W → W.heap[D]? = some (.deferred (some [])) → Q .normal { act with defers := { target := .collected D, args := #[] } :: act.defers } W)
    (hstop : ∀ (D : Nat) (c : Code) (pre : List (Oc ws f l)) (W : World), WL.heap.size ≤ D → pre <+: ocL ws f l → Ix c pre W → W.heap[D]? = some (.deferred (some [])) → c.wpIn Fence.wide n Tryd.prog Q { act with defers := { target := .collected D, args := #[] } :: act.defers } W) :
    (Code.rangeFunc g0 #[i1, i2] assign body).wpIn Fence.wide n Tryd.prog Q act WL :=
  wpIn_rangeFunc_ownH (α := Oc ws f l) (n := n) (F := Fence.wide) rfl (by omega) hg0 trivial (enters_of Tryd.func32 (by kernel_rfl) rfl)
    (occ_stops (n - 1) G b1 b2 b3 ws f l a m c WL hv hm c1 c2 c3 g1 g2 g3) KeepS.trans
    (fun W _ _ o' _ h hc _ => KeepS.putObj W h hc o') (Below.refl _ _) (fun _ => rfl) I Ix hI hIx h0 Ax hAx hassign
    (fun lv pre x a' W h1 h2 hp ha hlt => hbody lv pre x a' W hp ha hlt) (fun D _ W hD he hp hd => hdone D W hD (he ▸ hp) hd) hstop
end Go.Proofs.YtileoimcnhcfcaaDoor
