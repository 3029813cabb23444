/- tokencost.pairs: the iterator. -/
import Derived.Test.YtaelfjlmkgimhaaGreatDoorPLop
set_option linter.unusedVariables false
set_option linter.unusedSimpArgs false
namespace Go.Proofs.YtaelfjlmkgimhaaGreatDoor
open Go.RowKit Go.Shelf
attribute [local go_sem] Oper.semAt_some

/-- All pairs of different numbers below n. -/
def prL : Nat → List (Nat × Nat)
  | 0 => []
  | k + 1 => prL k ++ (List.range k).map (fun i => (i, k))
theorem prL_mem : ∀ {n : Nat} {x : Nat × Nat}, x ∈ prL n → x.1 < x.2 ∧ x.2 < n
  | 0, x, h => by simp [prL] at h
  | k + 1, x, h => by
    rw [prL, List.mem_append] at h
    rcases h with h | h
    · have := prL_mem h; omega
    · obtain ⟨i, hi, rfl⟩ := List.mem_map.1 h
      have := List.mem_range.1 hi
      dsimp only; omega
theorem prL_pre {k n : Nat} (h : k ≤ n) : prL k <+: prL n := by
  obtain ⟨d, rfl⟩ : ∃ d, n = k + d := ⟨n - k, by omega⟩
  clear h
  induction d with
  | zero => exact List.prefix_rfl
  | succ d ih => exact ih.trans (List.prefix_append _ _)
theorem prL_at {n k i : Nat} (hk : k < n) (hi : i < k) : (prL n)[(prL k).length + i]? = some (i, k) := by
  obtain ⟨r, hr⟩ := prL_pre (k := k + 1) (n := n) hk
  rw [← hr, prL, List.append_assoc, List.getElem?_append_right (by omega), Nat.add_sub_cancel_left, List.getElem?_append_left (by simpa using hi), List.getElem?_map, List.getElem?_range hi]; rfl
theorem prL_len (k : Nat) : (prL (k + 1)).length = (prL k).length + k := by rw [prL]; simp
abbrev Pr (n : Nat) := { x : Nat × Nat // x ∈ prL n }
abbrev prEnc {n : Nat} (x : Pr n) : Array Value := #[.int .i64 (x.1.1 : Int), .int .i64 (x.1.2 : Int)]
def prS (n : Nat) : List (Pr n) := (prL n).attach
theorem prS_len (n : Nat) : (prS n).length = (prL n).length := by simp [prS]
theorem prS_at {n m : Nat} {p : Nat × Nat} (h : (prL n)[m]? = some p) : ∃ x : Pr n, (prS n)[m]? = some x ∧ x.1 = p := by
  obtain ⟨hn, e⟩ := List.getElem?_eq_some_iff.1 h
  exact ⟨⟨(prL n)[m], List.getElem_mem hn⟩, by simp [prS, hn], e⟩
theorem take_more {α : Type} {L : List α} {n : Nat} {x : α} (h : L[n]? = some x) : L.take n ++ [x] = L.take (n + 1) := by rw [List.take_add_one, h]; rfl
set_option maxRecDepth 100000 in
set_option maxHeartbeats 4000000 in
theorem prs_stops (m : Nat) (Kp : World → World → Prop) (bn n : Nat) (w : World) (hn : n ≤ 1000) (c1 : w.cell? ⟨bn, 0, none⟩ = some (.int .i64 (n : Int))) :
    SeqStopsK Fence.wide m Tryz.prog 101 #[.pointer (some ⟨bn, 0, none⟩)] (prEnc (n := n)) Kp (fun ys => ys = prS n) (fun pre => pre <+: prS n) (prS n).length w := fun lo J Jx W0 hW hJ _ hY h0 => by
  have d1 := cell_later hW c1
  have HY := Lib.hid hY
  have HJ0 : Hid (J [] W0) := h0
  clear hY hJ hW c1 h0
  obtain ⟨W, rfl⟩ : ∃ W, W = W0 := ⟨_, rfl⟩
  refine callsIn_of_wp Tryz.func101 rfl trivial ?_ rfl
  simp only [Tryz.ntmps101, List.size_toArray, List.length_cons, List.length_nil, Nat.reduceAdd, Nat.reduceSub, Array.replicate_succ, Array.replicate_zero, List.push_toArray, List.append_toArray, List.nil_append, List.cons_append]
  gi_wp2
  gi_loopw [6] (fun i wr => ∃ k : Nat, i = .int .i64 k ∧ k ≤ n ∧ Hid (J ((prS n).take (prL k).length) wr)) (fun i _ => n - (intOf i).toNat)
  case atStart => exact ⟨0, rfl, Nat.zero_le _, HJ0.out⟩
  case round =>
    clear HJ0 d1
    obtain ⟨k, rfl, hk, hJp⟩ := hrel
    by_cases hkl : k < n
    · have HJP := Lib.hid hJp.out
      clear hJp
      obtain ⟨wo, rfl⟩ : ∃ wo : World, wo = wr := ⟨_, rfl⟩
      gi_wp2
      gi_loopw [10] (fun i wr => ∃ j : Nat, i = .int .i64 j ∧ j ≤ k ∧ Hid (J ((prS n).take ((prL k).length + j)) wr)) (fun i _ => k - (intOf i).toNat)
      case atStart => exact ⟨0, rfl, Nat.zero_le _, HJP.out⟩
      case round =>
        clear HJP
        obtain ⟨j, rfl, hj, hJj⟩ := hrel
        by_cases hjl : j < k
        · obtain ⟨x, hx, hx1⟩ := prS_at (prL_at hkl hjl)
          obtain ⟨fn, tmps, assign, body, hy, hR⟩ := HY.out _ x wr hJj.out (by rw [List.length_take]; have := (List.getElem?_eq_some_iff.1 hx).1; omega)
          rw [take_more hx] at hR
          have HPX : Hid ((prS n).take ((prL k).length + j + 1) <+: prS n) := List.take_prefix _ _
          dsimp only [prEnc] at hy
          rw [hx1] at hy
          dsimp only at hy
          have HRR := Lib.hid hR
          clear hR hx hx1 hJj
          gi_wp2
          refine ⟨(fun h => by cases h), ?_⟩
          refine HRR.out.mono ?_
          rintro e W3 (⟨rfl, hJ3, -⟩ | ⟨rfl, hJx3⟩)
          · have HJ3 := Lib.hid hJ3
            clear hJ3 hy HRR
            gi_wp2
            go_roundw
            case rel => exact ⟨j + 1, by go_num, by omega, HJ3⟩
            case measure => simp [intOf]; omega
          · have HJX := Lib.hid hJx3
            clear hJx3 hy HRR
            gi_wp2
            refine bodyPost_ret (results_none rfl _ _ _) rfl ?_
            exact ⟨⟨_, rfl⟩, .inr ⟨_, HPX.out, HJX.out⟩⟩
        · obtain rfl : j = k := by omega
          have HJ2 : Hid (J ((prS n).take (prL (j + 1)).length) wr) := by show J _ _; rw [prL_len]; exact hJj.out
          clear hJj
          gi_wp2
          go_roundw
          case rel => exact ⟨j + 1, by go_num, by omega, HJ2⟩
          case measure => simp [intOf]; omega
    · obtain rfl : k = n := by omega
      have HF : Hid ((prS k).take (prL k).length = prS k) := List.take_of_length_le (by rw [prS_len]; exact Nat.le_refl _)
      gi_wp2
      go_end0
      refine ⟨⟨_, rfl⟩, .inl ⟨_, rfl, by rw [← HF.out]; exact hJp.out⟩⟩
theorem prs_in (m : Nat) (w : World) (n : Nat) : CallsIn Fence.wide m Tryz.prog 87 #[.int .i64 (n : Int)] w fun e w' =>
    e = .returned (.func (.func 101) #[] #[.pointer (some ⟨w.heap.size, 0, none⟩)]) ∧ w' = w.alloc (.cells #[.int .i64 (n : Int)] 3) := by
  refine callsIn_of_wp Tryz.func87 rfl trivial ?_ rfl
  simp only [Tryz.ntmps87, List.size_toArray, List.length_cons, List.length_nil, Nat.reduceAdd, Nat.reduceSub, Array.replicate_succ, Array.replicate_zero, List.push_toArray, List.append_toArray, List.nil_append, List.cons_append]
  gi_wp2
  go_ret
  exact ⟨rfl, rfl⟩
end Go.Proofs.YtaelfjlmkgimhaaGreatDoor
