/- Joined: ECk2. -/
import Derived.Test.YtbdgmgddliploaaGreatDoorJ10
set_option linter.unusedVariables false
set_option linter.unusedSimpArgs false
set_option maxRecDepth 100000
set_option maxHeartbeats 16000000
namespace Go.Proofs.YtbdgmgddliploaaGreatDoor
open Go.RowKit

/-- Three boxes, one behind the other. -/
theorem box3 (w : World) (C O P : Array Value) (tc to tp : TypeId) : Below w.heap.size w (((w.alloc (.cells C tc)).alloc (.cells O to)).alloc (.cells P tp)) /\ w.heap.size + 2 < (((w.alloc (.cells C tc)).alloc (.cells O to)).alloc (.cells P tp)).heap.size /\
    (∀ (i : Nat) (u : Value), C[i]? = some u -> (((w.alloc (.cells C tc)).alloc (.cells O to)).alloc (.cells P tp)).cell? ⟨w.heap.size, i, none⟩ = some u) /\
    (∀ (i : Nat) (u : Value), O[i]? = some u -> (((w.alloc (.cells C tc)).alloc (.cells O to)).alloc (.cells P tp)).cell? ⟨w.heap.size + 1, i, none⟩ = some u) /\
    (∀ (i : Nat) (u : Value), P[i]? = some u -> (((w.alloc (.cells C tc)).alloc (.cells O to)).alloc (.cells P tp)).cell? ⟨w.heap.size + 1 + 1, i, none⟩ = some u) := by
  have s1 : (w.alloc (.cells C tc)).heap.size = w.heap.size + 1 := by simp
  have s2 : ((w.alloc (.cells C tc)).alloc (.cells O to)).heap.size = w.heap.size + 1 + 1 := by simp
  have b2 : Below ((w.alloc (.cells C tc)).alloc (.cells O to)).heap.size ((w.alloc (.cells C tc)).alloc (.cells O to)) (((w.alloc (.cells C tc)).alloc (.cells O to)).alloc (.cells P tp)) := (Below.refl _ _).alloc (Nat.le_refl _) _
  have b1 : Below (w.alloc (.cells C tc)).heap.size (w.alloc (.cells C tc)) ((w.alloc (.cells C tc)).alloc (.cells O to)) := (Below.refl _ _).alloc (Nat.le_refl _) _
  refine ⟨(((Below.refl _ w).alloc (Nat.le_refl _) _).alloc (by simp) _).alloc (by simp; omega) _, by simp, fun i u h => ?_, fun i u h => ?_, fun i u h => ?_⟩
  · exact clq b2 (clq b1 (by rw [World.cell?_alloc_at _ _ _ _ rfl]; exact h))
  · exact clq b2 (by rw [World.cell?_alloc_at _ _ _ _ (by rw [s1])]; exact h)
  · rw [World.cell?_alloc_at _ _ _ _ (by rw [s2])]; exact h
theorem row_of {x : Col} {c : Nat} {r : List Int} (h : x.cols[c]? = some r) : x.row c = r := by unfold Col.row; rw [h]; rfl
theorem ent_of {r : List Int} {i : Nat} {u : Int} (h : r[i]? = some u) : ent r i = u := by unfold ent; rw [h]; rfl
theorem alone_any (S : Nat -> Prop) (a : Option Addr) (n c : Nat) (l : List Int) (s : Nat) (w : World) (h : Nums S w a n c l) : Calls Tryz.prog 103 #[.slice a n c, .int .i64 (s : Int)] w fun e w' => e = .returned (.bool (alone l s)) /\ w = w' := by
  have HN := hiq h.len
  have hb := h.bound
  have HP : Hid ((∀ i, i < n -> i ≠ s -> ent l i < 0) -> alone l s = true) := fun q => alone_iff.2 fun i hi hn => q i (by rw [h.len]; exact hi) hn
  have HQ : Hid (∀ i, i < n -> i ≠ s -> 0 <= ent l i -> alone l s = false) := fun i hi hn h0 => by
    cases e : alone l s with
    | false => rfl
    | true => have := alone_iff.1 e i (by rw [<- h.len]; exact hi) hn; omega
  generalize alone l s = R at *
  go_enter Tryz.func103, Tryz.ntmps103
  go_wp2
  go_loop [9] (fun i => ∃ j : Nat, i = .int .i64 j /\ j <= n /\ Hid (∀ i, i < j -> i ≠ s -> ent l i < 0)) (fun i => n - (intOf i).toNat)
  case atStart => exact ⟨0, rfl, Nat.zero_le _, fun i h => by omega⟩
  case round =>
    obtain ⟨j, rfl, hj, hx⟩ := hrel
    by_cases hlj : j < n
    · obtain ⟨u, b, off, hu, -, rfl, -, hbl, hI, c1⟩ := h.int hlj
      have he := ent_of hu
      by_cases hjs : j = s
      · have t1 : ((j : Int) != (s : Int)) = false := by simp [hjs]
        have t2 : decide (j = s) = true := decide_eq_true hjs
        have HN2 : Hid (∀ i, i < j + 1 -> i ≠ s -> ent l i < 0) := fun i hi hn => hx.out i (by omega) hn
        clear hx hu he hjs
        go_wp2
        go_round
        case rel => exact ⟨j + 1, by go_num, by omega, HN2.out⟩
        case measure => simp [intOf]; omega
      · have t1 : ((j : Int) != (s : Int)) = true := by simp; omega
        have t2 : decide (j = s) = false := decide_eq_false hjs
        by_cases h0 : 0 <= u
        · have HR : Hid (R = false) := HQ.out j hlj hjs (by rw [he]; exact h0)
          clear hx hu he hjs
          go_wp2
          go_ret
          exact ⟨ret_bool HR.out.symm, rfl⟩
        · have HN2 : Hid (∀ i, i < j + 1 -> i ≠ s -> ent l i < 0) := fun i hi hn => by
            by_cases e : i = j
            · rw [e, he]; omega
            · exact hx.out i (by omega) hn
          clear hx hu he hjs
          go_wp2
          go_round
          case rel => exact ⟨j + 1, by go_num, by omega, HN2.out⟩
          case measure => simp [intOf]; omega
    · have HR : Hid (R = true) := HP.out fun i hi hn => hx.out i (by omega) hn
      go_wp2
      go_ret
      exact ⟨ret_bool HR.out.symm, rfl⟩
theorem ckJoin_any (S : Nat -> Prop) (v : CV) (x : Col) (o : Op) (s c : Nat) (w : World) (h : RdC S w v x) (hv : x.err = 0) (hc : c < x.cols.length) :
    Calls Tryz.prog 73 #[v.val, o.val, .agg #[.int .i64 (s : Int), .int .i64 (c : Int), .int .i64 ((c : Int) + 1)]] w fun e w' => e = .returned (.int .i64 (if x.cols.length <= c + 1 then 2 else if clash (x.row c) (x.row (c + 1)) = true then 19 else 0)) /\ Below w.heap.size w w' := by
  obtain ⟨sec, sa, sn, sc, ta, tn, tc, ca, cn, cc⟩ := v
  obtain ⟨ok, og, ot, oo, ox⟩ := o
  obtain ⟨-, -, h2, h3, h4⟩ := h
  dsimp only at h2 h3 h4
  obtain ⟨po, hpo⟩ : ∃ po : Int, po = (c : Int) + 1 := ⟨_, rfl⟩
  rw [<- hpo]
  change Calls _ _ #[.agg #[.string sec, .slice sa sn sc, .slice ta tn tc, .slice ca cn cc], .agg #[.int .i64 ok, .string og, .int .i64 ot, .int .i64 oo, .string ox], .agg #[.int .i64 (s : Int), .int .i64 (c : Int), .int .i64 po]] _ _
  obtain ⟨hb0, -, hC, -, hP⟩ := box3 w #[.string sec, .slice sa sn sc, .slice ta tn tc, .slice ca cn cc] #[.int .i64 ok, .string og, .int .i64 ot, .int .i64 oo, .string ox] #[.int .i64 (s : Int), .int .i64 (c : Int), .int .i64 po] 26 28 66
  have c3 := hC 3 _ rfl
  have p1 := hP 1 _ rfl
  have p2 := hP 2 _ rfl
  have hg := (err_iff.1 hv).2
  have hcn := h4.len
  have hcb := h4.bound
  obtain ⟨r, bo, off, a1, n1, c1, hu, hmem, rfl, -, hbl, hr, d1⟩ := h4.row (j := c) (by rw [hcn]; exact hc)
  have e1 := clq hb0 d1
  have er := row_of hu
  have hrl := hg.mem hmem
  have hr' := hr.below rInt_ok hb0
  have hcl : c < cn := by rw [hcn]; exact hc
  have p0 : (0 : Int) <= po := by omega
  by_cases hq : cn <= c + 1
  · have HR : Hid ((if x.cols.length <= c + 1 then (2 : Int) else if clash (x.row c) (x.row (c + 1)) = true then 19 else 0) = 2) := by show _ = _; rw [if_pos (by omega)]
    have t0 : (cn : Int) <= po := by omega
    generalize (if x.cols.length <= c + 1 then (2 : Int) else if clash (x.row c) (x.row (c + 1)) = true then 19 else 0) = R at *
    clear hC hP hu hmem hr hr' hcn hc hpo hv hg er hrl
    go_enter Tryz.func73, Tryz.ntmps73
    go_wp2
    go_ret
    exact ⟨ret_int HR.out.symm, hb0⟩
  · obtain ⟨r2, bo2, off2, a2, n2, c2, hu2, hmem2, e', -, -, hr2, d2⟩ := h4.row (j := c + 1) (by omega)
    cases e'
    have e2 := clq hb0 d2
    have er2 := row_of hu2
    have hrl2 := hg.mem hmem2
    have hr2' := hr2.below rInt_ok hb0
    have hnn : n1 = n2 := by rw [hr.len, hr2.len, hrl, hrl2]
    have HR : Hid ((if x.cols.length <= c + 1 then (2 : Int) else if clash (x.row c) (x.row (c + 1)) = true then 19 else 0) = if clash r r2 = true then 19 else 0) := by show _ = _; rw [if_neg (by omega), er, er2]
    have HP1 : Hid ((∀ i, i < n1 -> ¬ (0 <= ent r i /\ 0 <= ent r2 i)) -> clash r r2 = false) := fun q => clash_iff.2 fun i hi => q i (by rw [hr.len]; exact hi)
    have HP2 : Hid (∀ i, i < n1 -> 0 <= ent r i /\ 0 <= ent r2 i -> clash r r2 = true) := fun i hi q => by
      cases e : clash r r2 with
      | true => rfl
      | false => exact absurd q (clash_iff.1 e i (by rw [<- hr.len]; exact hi))
    have t0 : po < (cn : Int) := by omega
    have HPO := hiq hpo
    have i3 : po.toNat = c + 1 := by omega
    generalize (if x.cols.length <= c + 1 then (2 : Int) else if clash (x.row c) (x.row (c + 1)) = true then 19 else 0) = R at *
    generalize clash r r2 = Q at *
    have hrb := hr.bound
    clear hC hP hu hmem hr hcn hc hv hg er hrl hu2 hmem2 hr2 er2 hrl2 hpo d1 d2 h2 h3 h4
    subst hnn
    go_enter Tryz.func73, Tryz.ntmps73
    go_wp2
    generalize ((w.alloc (.cells #[.string sec, .slice sa sn sc, .slice ta tn tc, .slice (some ⟨bo, off, none⟩) cn cc] 26)).alloc (.cells #[.int .i64 ok, .string og, .int .i64 ot, .int .i64 oo, .string ox] 28)).alloc (.cells #[.int .i64 (s : Int), .int .i64 (c : Int), .int .i64 po] 66) = W1 at *
    go_loop [22] (fun i => ∃ j : Nat, i = .int .i64 j /\ j <= n1 /\ Hid (∀ i, i < j -> ¬ (0 <= ent r i /\ 0 <= ent r2 i))) (fun i => n1 - (intOf i).toNat)
    case atStart => exact ⟨0, rfl, Nat.zero_le _, fun i h => by omega⟩
    case round =>
      obtain ⟨j, rfl, hj, hx⟩ := hrel
      by_cases hlj : j < n1
      · obtain ⟨u, b, off3, hu, -, rfl, -, -, hI, f1⟩ := hr'.int hlj
        obtain ⟨u2, b2, off4, hu2, -, rfl, -, -, hI2, f2⟩ := hr2'.int hlj
        have he := ent_of hu
        have he2 := ent_of hu2
        by_cases h0 : 0 <= u
        · by_cases h1 : 0 <= u2
          · have HRR : Hid (R = 19) := by show _ = _; rw [HR.out, HP2.out j hlj ⟨by rw [he]; exact h0, by rw [he2]; exact h1⟩]; rfl
            clear hx hu hu2 he he2
            go_wp2
            go_ret
            exact ⟨ret_int HRR.out.symm, hb0⟩
          · have HN2 : Hid (∀ i, i < j + 1 -> ¬ (0 <= ent r i /\ 0 <= ent r2 i)) := fun i hi => by
              by_cases e : i = j
              · rw [e, he2]; omega
              · exact hx.out i (by omega)
            clear hx hu hu2 he he2
            go_wp2
            go_round
            case rel => exact ⟨j + 1, by go_num, by omega, HN2.out⟩
            case measure => simp [intOf]; omega
        · have HN2 : Hid (∀ i, i < j + 1 -> ¬ (0 <= ent r i /\ 0 <= ent r2 i)) := fun i hi => by
            by_cases e : i = j
            · rw [e, he]; omega
            · exact hx.out i (by omega)
          clear hx hu hu2 he he2
          go_wp2
          go_round
          case rel => exact ⟨j + 1, by go_num, by omega, HN2.out⟩
          case measure => simp [intOf]; omega
      · have HRR : Hid (R = 0) := by show _ = _; rw [HR.out, HP1.out fun i hi => hx.out i (by omega)]; rfl
        go_wp2
        go_ret
        exact ⟨ret_int HRR.out.symm, hb0⟩
theorem ckSplit_any (S : Nat -> Prop) (v : CV) (x : Col) (o : Op) (s c : Nat) (po : Int) (w : World) (h : RdC S w v x) (hc : c < x.cols.length) :
    Calls Tryz.prog 75 #[v.val, o.val, .agg #[.int .i64 (s : Int), .int .i64 (c : Int), .int .i64 po]] w fun e w' => e = .returned (.int .i64 (if alone (x.row c) s = true then 19 else 0)) /\ Below w.heap.size w w' := by
  obtain ⟨sec, sa, sn, sc, ta, tn, tc, ca, cn, cc⟩ := v
  obtain ⟨ok, og, ot, oo, ox⟩ := o
  obtain ⟨-, -, h2, h3, h4⟩ := h
  dsimp only at h2 h3 h4
  change Calls _ _ #[.agg #[.string sec, .slice sa sn sc, .slice ta tn tc, .slice ca cn cc], .agg #[.int .i64 ok, .string og, .int .i64 ot, .int .i64 oo, .string ox], .agg #[.int .i64 (s : Int), .int .i64 (c : Int), .int .i64 po]] _ _
  obtain ⟨hb0, -, hC, -, hP⟩ := box3 w #[.string sec, .slice sa sn sc, .slice ta tn tc, .slice ca cn cc] #[.int .i64 ok, .string og, .int .i64 ot, .int .i64 oo, .string ox] #[.int .i64 (s : Int), .int .i64 (c : Int), .int .i64 po] 26 28 66
  have c3 := hC 3 _ rfl
  have p0 := hP 0 _ rfl
  have p1 := hP 1 _ rfl
  have hcn := h4.len
  have hcb := h4.bound
  obtain ⟨r, bo, off, a1, n1, c1, hu, hmem, rfl, -, hbl, hr, d1⟩ := h4.row (j := c) (by rw [hcn]; exact hc)
  have e1 := clq hb0 d1
  rw [row_of hu]
  have hcl : c < cn := by rw [hcn]; exact hc
  have HA : Hid (∀ q, Calls Tryz.prog 103 #[.slice a1 n1 c1, .int .i64 (s : Int)] ((((w.alloc (.cells #[.string sec, .slice sa sn sc, .slice ta tn tc, .slice (some ⟨bo, off, none⟩) cn cc] 26)).alloc (.cells #[.int .i64 ok, .string og, .int .i64 ot, .int .i64 oo, .string ox] 28)).alloc (.cells #[.int .i64 (s : Int), .int .i64 (c : Int), .int .i64 po] 66)).drewN q) fun e w' => e = .returned (.bool (alone r s)) /\ (((w.alloc (.cells #[.string sec, .slice sa sn sc, .slice ta tn tc, .slice (some ⟨bo, off, none⟩) cn cc] 26)).alloc (.cells #[.int .i64 ok, .string og, .int .i64 ot, .int .i64 oo, .string ox] 28)).alloc (.cells #[.int .i64 (s : Int), .int .i64 (c : Int), .int .i64 po] 66)).drewN q = w') := fun q => alone_any S a1 n1 c1 r s _ ((hr.below rInt_ok hb0).below rInt_ok (drewN_below _ _ _))
  generalize alone r s = Q at *
  clear hC hP hu hmem hr hcn hc d1 h2 h3 h4
  cases Q with
  | true =>
    go_enter Tryz.func75, Tryz.ntmps75
    go_wp2
    generalize ((w.alloc (.cells #[.string sec, .slice sa sn sc, .slice ta tn tc, .slice (some ⟨bo, off, none⟩) cn cc] 26)).alloc (.cells #[.int .i64 ok, .string og, .int .i64 ot, .int .i64 oo, .string ox] 28)).alloc (.cells #[.int .i64 (s : Int), .int .i64 (c : Int), .int .i64 po] 66) = W1 at *
    go_quiet ((go_at_call 103; exact Calls.quiet_of_same ((HA.out _).mono fun _ _ ⟨a, b⟩ => ⟨a, b.symm⟩)))
    go_wp2
    go_ret
    exact ⟨rfl, below_drewN hb0 _⟩
  | false =>
    go_enter Tryz.func75, Tryz.ntmps75
    go_wp2
    generalize ((w.alloc (.cells #[.string sec, .slice sa sn sc, .slice ta tn tc, .slice (some ⟨bo, off, none⟩) cn cc] 26)).alloc (.cells #[.int .i64 ok, .string og, .int .i64 ot, .int .i64 oo, .string ox] 28)).alloc (.cells #[.int .i64 (s : Int), .int .i64 (c : Int), .int .i64 po] 66) = W1 at *
    go_quiet ((go_at_call 103; exact Calls.quiet_of_same ((HA.out _).mono fun _ _ ⟨a, b⟩ => ⟨a, b.symm⟩)))
    go_wp2
    go_ret
    exact ⟨rfl, below_drewN hb0 _⟩
end Go.Proofs.YtbdgmgddliploaaGreatDoor

/- Can an operation be applied at its place? Shift, regularize. -/
namespace Go.Proofs.YtbdgmgddliploaaGreatDoor
open Go.RowKit

theorem ckShift_any (S : Nat -> Prop) (v : CV) (x : Col) (o : Op) (s c : Nat) (po : Int) (w : World) (h : RdC S w v x) (hv : x.err = 0) (hs : s < x.sigla.length) :
    Calls Tryz.prog 77 #[v.val, o.val, .agg #[.int .i64 (s : Int), .int .i64 (c : Int), .int .i64 po]] w fun e w' => e = .returned (.int .i64 (if (o.other ≠ -1 /\ o.other ≠ 1) \/ po < 0 \/ (x.cols.length : Int) <= po then 2 else if 0 <= ent (x.row po.toNat) s then 19 else 0)) /\ Below w.heap.size w w' := by
  obtain ⟨sec, sa, sn, sc, ta, tn, tc, ca, cn, cc⟩ := v
  obtain ⟨ok, og, ot, oo, ox⟩ := o
  obtain ⟨-, -, h2, h3, h4⟩ := h
  obtain ⟨hh, hg⟩ := err_iff.1 hv
  dsimp only at h2 h3 h4
  have hks : s < x.lens.length := by rw [lens_len, hh.len]; exact hs
  change Calls _ _ #[.agg #[.string sec, .slice sa sn sc, .slice ta tn tc, .slice ca cn cc], .agg #[.int .i64 ok, .string og, .int .i64 ot, .int .i64 oo, .string ox], .agg #[.int .i64 (s : Int), .int .i64 (c : Int), .int .i64 po]] _ _
  obtain ⟨hb0, -, hC, hO, hP⟩ := box3 w #[.string sec, .slice sa sn sc, .slice ta tn tc, .slice ca cn cc] #[.int .i64 ok, .string og, .int .i64 ot, .int .i64 oo, .string ox] #[.int .i64 (s : Int), .int .i64 (c : Int), .int .i64 po] 26 28 66
  have c3 := hC 3 _ rfl
  have o3 := hO 3 _ rfl
  have p0 := hP 0 _ rfl
  have p2 := hP 2 _ rfl
  have hcn := h4.len
  have hcb := h4.bound
  have HT : Hid ((if (oo ≠ -1 /\ oo ≠ 1) \/ po < 0 \/ (x.cols.length : Int) <= po then (2 : Int) else if 0 <= ent (x.row po.toNat) s then 19 else 0) = if (oo ≠ -1 /\ oo ≠ 1) \/ po < 0 \/ (cn : Int) <= po then (2 : Int) else if 0 <= ent (x.row po.toNat) s then 19 else 0) := by show _ = _; rw [hcn]
  generalize (if (oo ≠ -1 /\ oo ≠ 1) \/ po < 0 \/ (x.cols.length : Int) <= po then (2 : Int) else if 0 <= ent (x.row po.toNat) s then 19 else 0) = R at *
  by_cases hq : (oo ≠ -1 /\ oo ≠ 1) \/ po < 0 \/ (cn : Int) <= po
  · have HR : Hid (R = 2) := by show _ = _; rw [HT.out, if_pos hq]
    have hway : (((oo : Int) != -1) = true /\ ((oo : Int) != 1) = true) \/ ((((oo : Int) != -1) = false \/ (((oo : Int) != -1) = true /\ ((oo : Int) != 1) = false)) /\ (po < 0 \/ (0 <= po /\ (cn : Int) <= po))) := by
      by_cases a1 : oo = -1
      · right; exact ⟨.inl (by simp [a1]), by omega⟩
      · by_cases a2 : oo = 1
        · right; exact ⟨.inr ⟨by simp [a1], by simp [a2]⟩, by omega⟩
        · left; exact ⟨by simp [a1], by simp [a2]⟩
    clear hq HT hC hO hP h2 h3 h4 hcn hh hg hv
    rcases hway with ⟨t1, t2⟩ | ⟨t1 | ⟨t1, t2⟩, t3 | ⟨t3, t4⟩⟩
    all_goals
      go_enter Tryz.func77, Tryz.ntmps77
      go_wp2
      go_ret
      exact ⟨ret_int HR.out.symm, hb0⟩
  · obtain ⟨pn, rfl⟩ : ∃ pn : Nat, po = (pn : Int) := ⟨po.toNat, by omega⟩
    obtain ⟨r, bo, off, a1, n1, c1, hu, hmem, rfl, -, hbl, hr, d1⟩ := h4.row (j := pn) (by omega)
    have hrl := hg.mem hmem
    obtain ⟨u, b2, off2, hu2, -, rfl, -, -, hI, d2⟩ := hr.int (j := s) (by rw [hr.len]; omega)
    have e1 := clq hb0 d1
    have e2 := clq hb0 d2
    have HR : Hid (R = if 0 <= u then 19 else 0) := by show _ = _; rw [HT.out, if_neg hq, Int.toNat_natCast, row_of hu, ent_of hu2]
    have hsn : s < n1 := by rw [hr.len]; omega
    have hpc : pn < cn := by omega
    have hway : ((oo : Int) != -1) = false \/ (((oo : Int) != -1) = true /\ ((oo : Int) != 1) = false) := by
      by_cases a1 : oo = -1
      · left; simp [a1]
      · by_cases a2 : oo = 1
        · right; exact ⟨by simp [a1], by simp [a2]⟩
        · exact absurd (.inl ⟨a1, a2⟩) hq
    have hrb := hr.bound
    clear hq HT hC hO hP h2 h3 h4 hcn hh hg hv hu hmem hu2 hrl d1 d2
    by_cases h0 : 0 <= u
    · have HRR : Hid (R = 19) := by show _ = _; rw [HR.out, if_pos h0]
      rcases hway with t1 | ⟨t1, t2⟩
      all_goals
        go_enter Tryz.func77, Tryz.ntmps77
        go_wp2
        go_quiet (fail)
        go_wp2
        go_ret
        exact ⟨ret_int HRR.out.symm, below_drewN hb0 _⟩
    · have HRR : Hid (R = 0) := by show _ = _; rw [HR.out, if_neg h0]
      have h00 : decide (0 <= u) = false := decide_eq_false h0
      rcases hway with t1 | ⟨t1, t2⟩
      all_goals
        go_enter Tryz.func77, Tryz.ntmps77
        go_wp2
        go_quiet (fail)
        go_wp2
        go_ret
        exact ⟨ret_int HRR.out.symm, below_drewN hb0 _⟩
theorem ckReg_any (S : Nat -> Prop) (v : CV) (x : Col) (o : Op) (s c : Nat) (po : Int) (w : World) (h : RdC S w v x) (hE : Env w) (hm : Sml x) (hx : o.text.size <= 1000000) (hs : s < x.toks.length) (ht0 : 0 <= o.tok) (ht1 : o.tok < ((x.tks s).length : Int)) :
    Calls Tryz.prog 79 #[v.val, o.val, .agg #[.int .i64 (s : Int), .int .i64 (c : Int), .int .i64 po]] w fun e w' => e = .returned (.int .i64 (if Tok.err { x.tk s o.tok with norm := o.text } ≠ 0 then 11 else 0)) /\ Below w.heap.size w w' := by
  obtain ⟨sec, sa, sn, sc, ta, tn, tc, ca, cn, cc⟩ := v
  obtain ⟨ok, og, ot, oo, ox⟩ := o
  obtain ⟨-, -, h2, h3, h4⟩ := h
  dsimp only at h2 h3 h4 ht0 ht1 hx
  change Calls _ _ #[.agg #[.string sec, .slice sa sn sc, .slice ta tn tc, .slice ca cn cc], .agg #[.int .i64 ok, .string og, .int .i64 ot, .int .i64 oo, .string ox], .agg #[.int .i64 (s : Int), .int .i64 (c : Int), .int .i64 po]] _ _
  obtain ⟨hb0, hsz, hC, hO, hP⟩ := box3 w #[.string sec, .slice sa sn sc, .slice ta tn tc, .slice ca cn cc] #[.int .i64 ok, .string og, .int .i64 ot, .int .i64 oo, .string ox] #[.int .i64 (s : Int), .int .i64 (c : Int), .int .i64 po] 26 28 66
  have c2 := hC 2 _ rfl
  have o2 := hO 2 _ rfl
  have o4 := hO 4 _ rfl
  have p0 := hP 0 _ rfl
  obtain ⟨tk, rfl⟩ : ∃ tk : Nat, ot = (tk : Int) := ⟨ot.toNat, by omega⟩
  obtain ⟨r, bo, off, a1, n1, c1, hu, hmem, rfl, -, hbl, hr, d1⟩ := h3.row (j := s) (by rw [h3.len]; exact hs)
  have htr : x.tks s = r := by unfold Col.tks; rw [hu]; rfl
  rw [htr] at ht1
  obtain ⟨t, b2, off2, hu2, hmem2, rfl, -, hbl2, -, ⟨e0, e1, e2, e3, e4, e5⟩⟩ := hr.tok (j := tk) (by rw [hr.len]; omega)
  have htk : x.tk s (tk : Int) = t := by unfold Col.tk; rw [htr, Int.toNat_natCast, hu2]; rfl
  dsimp only
  rw [htk]
  have hsm := hm.tok r hmem t hmem2
  have hsn : s < tn := by rw [h3.len]; exact hs
  have htn : tk < n1 := by rw [hr.len]; omega
  have htb := h3.bound
  have hrb := hr.bound
  obtain ⟨tx, nm, pg, ln, fl, na⟩ := t
  dsimp only at e0 e1 e2 e3 e4 e5 ⊢
  have d1' := clq hb0 d1
  have e0' := clq hb0 e0
  have e1' := clq hb0 e1
  have e2' := clq hb0 e2
  have e3' := clq hb0 e3
  have e4' := clq hb0 e4
  have e5' := clq hb0 e5
  have HF : Hid (∀ W, Below w.heap.size w W -> Calls Tryz.prog 99 #[.agg #[.string tx, .string ox, .string pg, .int .i64 ln, .int .i64 fl, .string na]] W fun e w' => e = .returned (.int .i64 (Tok.err ⟨tx, ox, pg, ln, fl, na⟩)) /\ Below W.heap.size W w') := fun W hb => tok_any tx ox pg na ln fl W ⟨hsm.1, hx⟩ (hE.below hb)
  generalize Tok.err ⟨tx, ox, pg, ln, fl, na⟩ = E at *
  clear hC hO hP h2 h3 h4 hu hmem hu2 hmem2 htr htk hsm hm hE d1 e0 e1 e2 e3 e4 e5 hr ht1 hs
  generalize hot : (tk : Int) = ot at *
  go_enter Tryz.func79, Tryz.ntmps79
  go_wp2
  generalize ((w.alloc (.cells #[.string sec, .slice sa sn sc, .slice (some ⟨bo, off, none⟩) tn tc, .slice ca cn cc] 26)).alloc (.cells #[.int .i64 ok, .string og, .int .i64 ot, .int .i64 oo, .string ox] 28)).alloc (.cells #[.int .i64 (s : Int), .int .i64 (c : Int), .int .i64 po] 66) = W1 at *
  subst hot
  obtain ⟨X, Wf, hX, hS1, hS2⟩ := family (fun W => Below W1.heap.size W1 W) W1 (Below.refl _ _)
  have HS1 := hiq hS1
  have HS2 := hiq hS2
  have q0 := fun x => clq (hS1 x) c2
  have q1 := fun x => clq (hS1 x) o2
  have q2 := fun x => clq (hS1 x) p0
  have q3 := fun x => clq (hS1 x) d1'
  have q4 := fun x => clq (hS1 x) e0'
  have q5 := fun x => clq (hS1 x) e1'
  have q6 := fun x => clq (hS1 x) e2'
  have q7 := fun x => clq (hS1 x) e3'
  have q8 := fun x => clq (hS1 x) e4'
  have q9 := fun x => clq (hS1 x) e5'
  clear hS1 hS2
  have hc0 : Below W1.heap.size W1 W1.drew := (Below.refl _ _).drew
  refine wp_region_reads (Wf := Wf) 11 [0, 1, 2, 3, 4, 5, 6, 7, 8, 9] [10] (by kernel_rfl) (by kernel_rfl) (fun _ _ d _ _ h => by cases d <;> exact h) (HS2.out _ hc0) ?_
  simp only [pickOps, List.filterMap_cons, List.filterMap_nil, List.getElem?_cons_zero, List.getElem?_cons_succ]
  repeat (refine wpReads_step (fun K hK => ?_); unfold rOp; go_simp; (refine hK _ ?_; clear hK K))
  clear q0 q1 q2 q3 q4 q5 q6 q7 q8 q9
  refine wpReads_nil (wpActs_cons ?_)
  go_wp2_with fail
  have hc1 : Below W1.heap.size W1 (W1.alloc (.cells #[.string ⟨#[]⟩, .string ⟨#[]⟩, .string ⟨#[]⟩, .int .i64 0, .int .i64 0, .string ⟨#[]⟩] 76)).drew := ((Below.refl _ _).alloc (Nat.le_refl _) _).drew
  refine ⟨HS2.out _ hc1, wpActs_nil ?_⟩
  simp only [List.drop_succ_cons, List.drop_zero]
  have hc2 : Below W1.heap.size W1 (W1.alloc (.cells #[.string tx, .string nm, .string pg, .int .i64 ln, .int .i64 fl, .string na] 76)).drew := ((Below.refl _ _).alloc (Nat.le_refl _) _).drew
  have o4' := clq hc2 o4
  have hc3 : Below W1.heap.size W1 (W1.alloc (.cells #[.string tx, .string ox, .string pg, .int .i64 ln, .int .i64 fl, .string na] 76)).drew := ((Below.refl _ _).alloc (Nat.le_refl _) _).drew
  have hb4 : Below w.heap.size w (W1.alloc (.cells #[.string tx, .string ox, .string pg, .int .i64 ln, .int .i64 fl, .string na] 76)).drew := hb0.trans (hc3.mono (by omega))
  have HFF := hiq (HF.out _ hb4)
  clear HS1 HS2 hX hc1 hc2 o2 o4 p0 c2 d1' e0' e1' e2' e3' e4' e5'
  by_cases hE : E = 0
  · subst hE
    go_wp2_with (go_at_call 99; refine HFF.out.mono ?_; rintro e W2 ⟨rfl, hb5⟩)
    go_ret
    exact ⟨rfl, hb4.trans (hb5.mono hb4.size)⟩
  · have t0 : ((E : Int) != 0) = true := by simp [hE]
    go_wp2_with (go_at_call 99; refine HFF.out.mono ?_; rintro e W2 ⟨rfl, hb5⟩)
    go_ret
    exact ⟨by first | rfl | (simp [hE]), hb4.trans (hb5.mono hb4.size)⟩
end Go.Proofs.YtbdgmgddliploaaGreatDoor
