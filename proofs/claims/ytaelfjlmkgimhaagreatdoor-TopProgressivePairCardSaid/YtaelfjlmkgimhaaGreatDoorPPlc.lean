/- pairwise: the iterator over the places of a table. -/
import Derived.Test.YtaelfjlmkgimhaaGreatDoorPTbl
set_option linter.unusedVariables false
set_option linter.unusedSimpArgs false
namespace Go.Proofs.YtaelfjlmkgimhaaGreatDoor
open Go.RowKit Go.Shelf
attribute [local go_sem] Oper.semAt_some

/-- All places of a table, from the end on. -/
def plL (n m : Nat) : List (Nat × Nat) := (List.range ((n + 1) * (m + 1))).map fun p => (n - p / (m + 1), m - p % (m + 1))
theorem plL_len (n m : Nat) : (plL n m).length = (n + 1) * (m + 1) := by simp [plL]
theorem plL_get {n m p : Nat} (h : p < (n + 1) * (m + 1)) : (plL n m)[p]? = some (n - p / (m + 1), m - p % (m + 1)) := by
  simp [plL, h]
theorem plL_lt {n m j q : Nat} (hj : j ≤ n) (hq : q ≤ m) : j * (m + 1) + q < (n + 1) * (m + 1) := by
  have : (j + 1) * (m + 1) ≤ (n + 1) * (m + 1) := Nat.mul_le_mul_right _ (by omega)
  rw [Nat.succ_mul] at this
  omega
theorem plL_at {n m j q : Nat} (hj : j ≤ n) (hq : q ≤ m) : (plL n m)[j * (m + 1) + q]? = some (n - j, m - q) := by
  rw [plL_get (plL_lt hj hq), Nat.mul_comm j, Nat.mul_add_div (by omega), Nat.div_eq_of_lt (show q < m + 1 by omega), Nat.mul_add_mod, Nat.mod_eq_of_lt (show q < m + 1 by omega), Nat.add_zero]
theorem plL_mem {n m : Nat} {x : Nat × Nat} (h : x ∈ plL n m) : x.1 ≤ n ∧ x.2 ≤ m := by
  obtain ⟨p, -, rfl⟩ := List.mem_map.1 h
  exact ⟨Nat.sub_le _ _, Nat.sub_le _ _⟩
/-- A place that comes later in the sources comes earlier here. -/
theorem plL_before {n m i k i' k' : Nat} {pre : List (Nat × Nat)} (h : pre ++ [(i, k)] <+: plL n m) (hi : i' ≤ n) (hk : k' ≤ m) (hb : i < i' ∨ (i = i' ∧ k < k')) : (i', k') ∈ pre := by
  obtain ⟨r, hr⟩ := h
  have hlp : pre.length < (n + 1) * (m + 1) := by rw [← plL_len, ← hr]; simp
  have hx : (plL n m)[pre.length]? = some (i, k) := by rw [← hr]; simp
  rw [plL_get hlp] at hx
  have e1 : n - pre.length / (m + 1) = i := by have := congrArg Prod.fst (Option.some.inj hx); exact this
  have e2 : m - pre.length % (m + 1) = k := by have := congrArg Prod.snd (Option.some.inj hx); exact this
  have hd := Nat.div_add_mod pre.length (m + 1)
  have hm := Nat.mod_lt pre.length (show m + 1 > 0 by omega)
  have hq : pre.length / (m + 1) < n + 1 := Nat.div_lt_of_lt_mul (by rw [Nat.mul_comm]; exact hlp)
  have hat := plL_at (n := n) (m := m) (j := n - i') (q := m - k') (by omega) (by omega)
  rw [show n - (n - i') = i' by omega, show m - (m - k') = k' by omega] at hat
  have hlt : (n - i') * (m + 1) + (m - k') < pre.length := by
    rw [← hd, Nat.mul_comm (m + 1)]
    generalize pre.length / (m + 1) = d at *
    generalize pre.length % (m + 1) = e at *
    rcases hb with hb | ⟨hb, hb2⟩
    · have h1 : (n - i' + 1) * (m + 1) ≤ d * (m + 1) := Nat.mul_le_mul_right _ (by omega)
      rw [Nat.succ_mul] at h1
      omega
    · have h1 : n - i' = d := by omega
      rw [h1]; omega
  rw [← hr, List.append_assoc, List.getElem?_append_left hlt] at hat
  exact List.mem_of_getElem? hat
abbrev Pl (n m : Nat) := { x : Nat × Nat // x ∈ plL n m }
abbrev plEnc {n m : Nat} (x : Pl n m) : Array Value := #[.int .i64 (x.1.1 : Int), .int .i64 (x.1.2 : Int)]
def plS (n m : Nat) : List (Pl n m) := (plL n m).attach
theorem plS_len (n m : Nat) : (plS n m).length = (n + 1) * (m + 1) := by simp [plS, plL_len]
theorem plS_at {n m p : Nat} {x : Nat × Nat} (h : (plL n m)[p]? = some x) : ∃ y : Pl n m, (plS n m)[p]? = some y ∧ y.1 = x := by
  obtain ⟨hn, e⟩ := List.getElem?_eq_some_iff.1 h
  exact ⟨⟨(plL n m)[p], List.getElem_mem hn⟩, by simp [plS, hn], e⟩
set_option maxRecDepth 100000 in
set_option maxHeartbeats 4000000 in
theorem plc_stops (mm : Nat) (Kp : World → World → Prop) (bs n m cp cq : Nat) (a b : Option Addr) (w : World) (hn : n ≤ 1000) (hm : m ≤ 1000) (c4 : w.cell? ⟨bs, 4, none⟩ = some (.slice a n cp)) (c5 : w.cell? ⟨bs, 5, none⟩ = some (.slice b m cq))
    (hKp : ∀ A B, Kp A B → A.cell? ⟨bs, 5, none⟩ = some (.slice b m cq) → B.cell? ⟨bs, 5, none⟩ = some (.slice b m cq)) :
    SeqStopsK Fence.wide mm Tryz.prog 83 #[.pointer (some ⟨bs, 0, none⟩)] (plEnc (n := n) (m := m)) Kp (fun ys => ys = plS n m) (fun pre => pre <+: plS n m) (plS n m).length w := fun lo J Jx W0 hW hJ _ hY h0 => by
  have d4 := cell_later hW c4
  have d5 := cell_later hW c5
  have HY := Lib.hid hY
  have HKP := Lib.hid hKp
  have HJ0 : Hid (J [] W0) := h0
  clear hY hJ hW c4 c5 h0 hKp
  obtain ⟨W, rfl⟩ : ∃ W, W = W0 := ⟨_, rfl⟩
  refine callsIn_of_wp Tryz.func83 rfl trivial ?_ rfl
  simp only [Tryz.ntmps83, List.size_toArray, List.length_cons, List.length_nil, Nat.reduceAdd, Nat.reduceSub, Array.replicate_succ, Array.replicate_zero, List.push_toArray, List.append_toArray, List.nil_append, List.cons_append]
  gi_wp2
  gi_loopw [3] (fun i wr => ∃ (j : Nat) (I : Int), i = .int .i64 I ∧ I = (n : Int) - j ∧ j ≤ n + 1 ∧ wr.cell? ⟨bs, 5, none⟩ = some (.slice b m cq) ∧ Hid (J ((plS n m).take (j * (m + 1))) wr)) (fun i _ => (intOf i + 1).toNat)
  case atStart => exact ⟨0, n, rfl, by omega, by omega, d5, by rw [Nat.zero_mul]; exact HJ0.out⟩
  case round =>
    clear HJ0 d4 d5
    obtain ⟨j, I, rfl, hI, hj, d5, hJp⟩ := hrel
    by_cases hjl : j ≤ n
    · have hI0 : 0 ≤ I := by omega
      have hI1 : I ≤ 1000 := by omega
      have HII := Lib.hid hI
      have HJP := Lib.hid hJp.out
      clear hJp hI
      obtain ⟨wo, rfl⟩ : ∃ wo : World, wo = wr := ⟨_, rfl⟩
      gi_wp2
      gi_loopw [4] (fun k wr => ∃ (q : Nat) (K : Int), k = .int .i64 K ∧ K = (m : Int) - q ∧ q ≤ m + 1 ∧ wr.cell? ⟨bs, 5, none⟩ = some (.slice b m cq) ∧ Hid (J ((plS n m).take (j * (m + 1) + q)) wr)) (fun k _ => (intOf k + 1).toNat)
      case atStart => exact ⟨0, m, rfl, by omega, by omega, d5, HJP.out⟩
      case round =>
        clear HJP d5
        obtain ⟨q, K, rfl, hK, hq, d5, hJj⟩ := hrel
        by_cases hql : q ≤ m
        · obtain ⟨x, hx, hx1⟩ := plS_at (plL_at hjl hql)
          obtain ⟨fn, tmps, assign, body, hy, hR⟩ := HY.out _ x wr hJj.out (by rw [List.length_take]; have := (List.getElem?_eq_some_iff.1 hx).1; omega)
          rw [take_more hx] at hR
          have HPX : Hid ((plS n m).take (j * (m + 1) + q + 1) <+: plS n m) := List.take_prefix _ _
          dsimp only [plEnc] at hy
          rw [hx1] at hy
          dsimp only at hy
          rw [show ((n - j : Nat) : Int) = I by have := HII.out; omega, show ((m - q : Nat) : Int) = K by omega] at hy
          have HRR := Lib.hid hR
          have hK0 : 0 ≤ K := by omega
          have hK1 : K ≤ 1000 := by omega
          have hKw : IntKind.i64.wrap (K - 1) = K - 1 := by rw [IntKind.wrap_i64]; omega
          have HKK := Lib.hid hK
          clear hR hx hx1 hJj hK
          gi_wp2
          refine ⟨(fun h => by cases h), ?_⟩
          refine HRR.out.mono ?_
          rintro e W3 (⟨rfl, hJ3, hk3⟩ | ⟨rfl, hJx3⟩)
          · have HJ3 := Lib.hid hJ3
            have d6 := HKP.out _ _ hk3 d5
            clear hJ3 hy HRR d5 hk3
            gi_wp2
            go_roundw
            case rel => exact ⟨q + 1, K - 1, by first | rfl | go_num, by have := HKK.out; omega, by omega, d6, HJ3⟩
            case measure => simp [intOf]; omega
          · have HJX := Lib.hid hJx3
            clear hJx3 hy HRR
            gi_wp2
            refine bodyPost_ret (results_none rfl _ _ _) rfl ?_
            exact ⟨⟨_, rfl⟩, .inr ⟨_, HPX.out, HJX.out⟩⟩
        · have hqe : q = m + 1 := by omega
          subst hqe
          have HJ2 : Hid (J ((plS n m).take ((j + 1) * (m + 1))) wr) := by show J _ _; rw [Nat.succ_mul]; exact hJj.out
          have hKneg : K < 0 := by omega
          have hIw : IntKind.i64.wrap (I - 1) = I - 1 := by rw [IntKind.wrap_i64]; omega
          clear hJj hK
          gi_wp2
          go_roundw
          case rel => exact ⟨j + 1, I - 1, by first | rfl | go_num, by have := HII.out; omega, by omega, d5, HJ2⟩
          case measure => simp [intOf]; omega
    · have hje : j = n + 1 := by omega
      subst hje
      have hIneg : I < 0 := by omega
      have HF : Hid ((plS n m).take ((n + 1) * (m + 1)) = plS n m) := List.take_of_length_le (by rw [plS_len]; exact Nat.le_refl _)
      clear hI
      gi_wp2
      go_end0
      refine ⟨⟨_, rfl⟩, .inl ⟨_, rfl, by rw [← HF.out]; exact hJp.out⟩⟩
theorem plc_in (mm : Nat) (w : World) (c : Cst) (v : SV) : CallsIn Fence.wide mm Tryz.prog 57 #[v.val c] w fun e w' =>
    e = .returned (.func (.func 83) #[] #[.pointer (some ⟨w.heap.size, 0, none⟩)]) ∧ w' = w.alloc (.cells (v.arr c) 60) := by
  obtain ⟨cg, cn, cl, cm⟩ := c
  obtain ⟨a, n, cp, b, m, cq, ga, gc, gb, gd⟩ := v
  dsimp only [SV.val, SV.arr]
  refine callsIn_of_wp Tryz.func57 rfl trivial ?_ rfl
  simp only [Tryz.ntmps57, List.size_toArray, List.length_cons, List.length_nil, Nat.reduceAdd, Nat.reduceSub, Array.replicate_succ, Array.replicate_zero, List.push_toArray, List.append_toArray, List.nil_append, List.cons_append]
  gi_wp2
  go_ret
  exact ⟨rfl, rfl⟩
end Go.Proofs.YtaelfjlmkgimhaaGreatDoor
