/- dag.inside, dag.Check, dag.check. -/
import Derived.Test.YtebmachppbpdmaaDRChk
namespace Go.Proofs.Ytebmachppbpdmaa
open Go.RowKit

/-- All numbers are nodes. -/
def insB (n : Int) (l : List Int) : Bool := decide (∀ j : Nat, j < l.length → 0 ≤ l[j]?.getD 0 ∧ l[j]?.getD 0 < n)
theorem ins_one (x n : Int) (bn : Nat) (w : World) (hb : w.cell? ⟨bn, 0, none⟩ = some (.int .i64 n)) :
    Calls Try.prog 59 #[.int .i64 x, .pointer (some ⟨bn, 0, none⟩)] w fun e w' => e = .returned (.bool (!(decide (0 ≤ x) && decide (x < n)))) ∧ w' = w := by
  rcases (show x < 0 ∨ (0 ≤ x ∧ n ≤ x) ∨ (0 ≤ x ∧ x < n) by omega) with h | ⟨h, h2⟩ | ⟨h, h2⟩
  · have E : Hid ((!(decide (0 ≤ x) && decide (x < n))) = true) := by show _ = true; simp; omega
    go_enter Try.func59, Try.ntmps59
    go_wp2
    go_ret
    exact ⟨by rw [E.out]; rfl, rfl⟩
  · have E : Hid ((!(decide (0 ≤ x) && decide (x < n))) = true) := by show _ = true; simp; omega
    have d0 : decide (x < 0) = false := decide_eq_false (by omega)
    go_enter Try.func59, Try.ntmps59
    go_wp2
    go_ret
    exact ⟨by rw [E.out]; rfl, rfl⟩
  · have E : Hid ((!(decide (0 ≤ x) && decide (x < n))) = false) := by show _ = false; simp; omega
    have d0 : decide (x < 0) = false := decide_eq_false (by omega)
    have d1 : decide (n ≤ x) = false := decide_eq_false (by omega)
    go_enter Try.func59, Try.ntmps59
    go_wp2
    go_ret
    exact ⟨by rw [E.out]; rfl, rfl⟩

set_option maxHeartbeats 400000 in
theorem ins_index (n : Int) (bn : Nat) (a : Option Addr) (q c : Nat) (l : List Int) (w : World) (h : Ints w a q c l) (hb : w.cell? ⟨bn, 0, none⟩ = some (.int .i64 n)) :
    Calls Try.prog 62 #[.slice a q c, .func (.func 59) #[] #[.pointer (some ⟨bn, 0, none⟩)]] w fun e w' => (∃ r : Int, e = .returned (.int .i64 r) ∧ ((insB n l = true ∧ r = -1) ∨ (insB n l = false ∧ 0 ≤ r))) ∧ w' = w := by
  have H := Lib.hid h.len
  have h8 := h.bound
  go_enter Try.func62, Try.ntmps62
  go_wp2
  go_loopw [8] (fun i wr => ∃ k : Nat, k ≤ q ∧ i = .int .i64 k ∧ Hid (∀ j, j < k → 0 ≤ l[j]?.getD 0 ∧ l[j]?.getD 0 < n) ∧ wr = w) (fun i _ => q - (intOf i).toNat)
  case atStart => exact ⟨0, Nat.zero_le _, rfl, fun j hj => by omega, rfl⟩
  case round =>
    obtain ⟨k, hk, rfl, hs, rfl⟩ := hrel
    by_cases hlt : k < q
    · obtain ⟨bb, off, rfl, -, hc⟩ := h.at_ (by omega)
      have c1 := hc.out k (by omega)
      have F := ins_one (l[k]?.getD 0) n bn wr hb
      by_cases hin : 0 ≤ l[k]?.getD 0 ∧ l[k]?.getD 0 < n
      · rw [show (!(decide (0 ≤ l[k]?.getD 0) && decide (l[k]?.getD 0 < n))) = false by simp; omega] at F
        have HF := Lib.hid F
        have hs' : Hid (∀ j, j < k + 1 → 0 ≤ l[j]?.getD 0 ∧ l[j]?.getD 0 < n) := fun j hj => by
          by_cases e : j = k
          · subst e; exact hin
          · exact hs.out j (by omega)
        clear F hin
        go_wp2_with (go_at_call 59; refine HF.out.mono ?_; rintro e w' ⟨rfl, rfl⟩)
        go_roundw
        case rel => exact ⟨k + 1, by omega, by go_num, hs'.out, trivial⟩
        case measure => simp [intOf]; omega
      · rw [show (!(decide (0 ≤ l[k]?.getD 0) && decide (l[k]?.getD 0 < n))) = true by simp; omega] at F
        have HF := Lib.hid F
        have E : Hid (insB n l = false) := decide_eq_false fun hall => hin (hall k (by rw [← H.out]; exact hlt))
        clear F hin
        go_wp2_with (go_at_call 59; refine HF.out.mono ?_; rintro e w' ⟨rfl, rfl⟩)
        go_ret
        exact ⟨⟨k, rfl, .inr ⟨E.out, by omega⟩⟩, rfl⟩
    · have E : Hid (insB n l = true) := decide_eq_true fun j hj => hs.out j (by rw [← H.out] at hj; omega)
      go_wp2
      go_ret
      exact ⟨⟨-1, rfl, .inl ⟨E.out, rfl⟩⟩, rfl⟩
theorem ins_contains (n : Int) (bn : Nat) (a : Option Addr) (q c : Nat) (l : List Int) (w : World) (h : Ints w a q c l) (hb : w.cell? ⟨bn, 0, none⟩ = some (.int .i64 n)) :
    Calls Try.prog 58 #[.slice a q c, .func (.func 59) #[] #[.pointer (some ⟨bn, 0, none⟩)]] w fun e w' => e = .returned (.bool (!(insB n l))) ∧ w' = w := by
  have F := Lib.hid (ins_index n bn a q c l w h hb)
  generalize insB n l = B at *
  go_enter Try.func58, Try.ntmps58
  go_wp2_with fail
  refine F.out.mono ?_
  rintro e w' ⟨⟨r, rfl, hr⟩, rfl⟩
  rcases hr with ⟨rfl, rfl⟩ | ⟨rfl, hr⟩
  · go_wp2
    go_ret
    exact ⟨rfl, rfl⟩
  · have d0 : decide (0 ≤ r) = true := decide_eq_true hr
    go_wp2
    go_ret
    exact ⟨rfl, rfl⟩
set_option maxHeartbeats 400000 in
theorem inside_any (n : Int) (a : Option Addr) (q c : Nat) (l : List Int) (w : World) (h : Ints w a q c l) :
    Calls Try.prog 48 #[.int .i64 n, .slice a q c] w fun e w' => e = .returned (.bool (insB n l)) ∧ Below w.heap.size w w' := by
  have D0 := (Below.refl w.heap.size w).alloc (Nat.le_refl _) (.cells #[.int .i64 n] 3)
  have hbl : (w.alloc (.cells #[.int .i64 n] 3)).cell? ⟨w.heap.size, 0, none⟩ = some (.int .i64 n) := by rw [World.cell?_alloc_at _ _ _ _ rfl]; rfl
  have F := Lib.hid (ins_contains n w.heap.size a q c l _ (h.alloc _) hbl)
  generalize insB n l = B at *
  go_enter Try.func48, Try.ntmps48
  go_wp2_with (go_at_call 58; refine F.out.mono ?_; rintro e w' ⟨rfl, rfl⟩)
  go_ret
  exact ⟨by simp, D0⟩

theorem lit2_ints (w : World) (x y : Int) (hx : I64 x) (hy : I64 y) : Ints (w.alloc (.cells #[.int .i64 x, .int .i64 y] 3)) (some ⟨w.heap.size, 0, none⟩) 2 2 [x, y] :=
  (OwnI.lit2 w w.heap.size x y (Nat.le_refl _)).ints (by omega) (by simp; exact ⟨hx, hy⟩)
theorem lit1_ints (w : World) (x : Int) (hx : I64 x) : Ints (w.alloc (.cells #[.int .i64 x] 3)) (some ⟨w.heap.size, 0, none⟩) 1 1 [x] :=
  (OwnI.lit1 w w.heap.size x (Nat.le_refl _)).ints (by omega) (by simp; exact hx)
theorem insB_two (n x y : Int) : insB n [x, y] = (decide (0 ≤ x ∧ x < n) && decide (0 ≤ y ∧ y < n)) := by
  unfold insB
  rw [Bool.eq_iff_iff]
  simp only [decide_eq_true_eq, Bool.and_eq_true]
  constructor
  · intro h
    exact ⟨by simpa using h 0 (by simp), by simpa using h 1 (by simp)⟩
  · rintro ⟨h1, h2⟩ j hj
    match j, hj with
    | 0, _ => simpa using h1
    | 1, _ => simpa using h2
theorem insB_one (n x : Int) : insB n [x] = decide (0 ≤ x ∧ x < n) := by
  unfold insB
  rw [Bool.eq_iff_iff]
  simp only [decide_eq_true_eq]
  constructor
  · intro h
    simpa using h 0 (by simp)
  · intro h1 j hj
    match j, hj with
    | 0, _ => simpa using h1

set_option maxRecDepth 100000 in
set_option maxHeartbeats 2000000 in
theorem check_any (n : Int) (a : Option Addr) (m cap : Nat) (ll : List Lk) (w : World) (h : Links w a m cap ll) :
    Calls Try.prog 26 #[.int .i64 n, .slice a m cap] w fun e w' => e = .returned (.int .i64 (chkE n ll)) ∧ Below w.heap.size w w' := by
  have H := Lib.hid h.len
  have h8 := h.bound
  by_cases hn : n < 1 ∨ 4096 < n
  · have E : Hid (chkE n ll = 2) := if_pos hn
    rcases (show n < 1 ∨ (1 ≤ n ∧ 4096 < n) by omega) with g1 | ⟨g1, g2⟩
    · go_enter Try.func26, Try.ntmps26
      go_wp2
      go_ret
      exact ⟨by rw [E.out]; rfl, Below.refl _ _⟩
    · go_enter Try.func26, Try.ntmps26
      go_wp2
      go_ret
      exact ⟨by rw [E.out]; rfl, Below.refl _ _⟩
  · have hn1 : 1 ≤ n := by omega
    have hn2 : n ≤ 4096 := by omega
    by_cases hl : 65536 < m
    · have E : Hid (chkE n ll = 4) := by show chkE n ll = 4; rw [chkE, if_neg hn, if_pos (by rw [← H.out]; exact hl)]
      clear hn
      go_enter Try.func26, Try.ntmps26
      go_wp2
      go_ret
      exact ⟨by rw [E.out]; rfl, Below.refl _ _⟩
    · have E : Hid (chkE n ll = chkL n (ll.drop 0)) := by show chkE n ll = _; rw [chkE, if_neg hn, if_neg (by rw [← H.out]; exact hl), List.drop_zero]
      clear hn
      go_enter Try.func26, Try.ntmps26
      go_wp2
      go_loopw [18] (fun i wr => ∃ k : Nat, k ≤ m ∧ i = .int .i64 k ∧ Hid (chkL n (ll.drop 0) = chkL n (ll.drop k)) ∧ Below w.heap.size w wr) (fun i _ => m - (intOf i).toNat)
      case atStart => exact ⟨0, Nat.zero_le _, rfl, rfl, Below.refl _ _⟩
      case round =>
        obtain ⟨k, hk, rfl, hc, hb⟩ := hrel
        by_cases hlt : k < m
        · obtain ⟨f, t, c, hx, f1, t1, c1, b, off, rfl, -, k1, k2, k3⟩ := (h.below hb).get hlt
          have HX := Lib.hid hx
          clear hx
          dsimp only at k1 k2 k3
          have hb1 := hb.alloc hb.size (.cells #[.int .i64 f, .int .i64 t, .int .i64 c] 36)
          have hb2 := hb1.alloc hb1.size (.cells #[.int .i64 f, .int .i64 t] 3)
          have hF := inside_any n _ 2 2 [f, t] _ (lit2_ints (wr.alloc (.cells #[.int .i64 f, .int .i64 t, .int .i64 c] 36)) f t f1 t1)
          rw [insB_two] at hF
          rw [World.size_alloc] at hF
          have x3 : ((wr.alloc (.cells #[.int .i64 f, .int .i64 t, .int .i64 c] 36)).alloc (.cells #[.int .i64 f, .int .i64 t] 3)).cell? ⟨wr.heap.size, 2, none⟩ = some (.int .i64 c) := by
            rw [World.cell?_alloc_past _ _ _ (by simp)]; simp [World.cell?_alloc_at]
          have x1 : ((wr.alloc (.cells #[.int .i64 f, .int .i64 t, .int .i64 c] 36)).alloc (.cells #[.int .i64 f, .int .i64 t] 3)).cell? ⟨wr.heap.size, 0, none⟩ = some (.int .i64 f) := by
            rw [World.cell?_alloc_past _ _ _ (by simp)]; simp [World.cell?_alloc_at]
          have x2 : ((wr.alloc (.cells #[.int .i64 f, .int .i64 t, .int .i64 c] 36)).alloc (.cells #[.int .i64 f, .int .i64 t] 3)).cell? ⟨wr.heap.size, 1, none⟩ = some (.int .i64 t) := by
            rw [World.cell?_alloc_past _ _ _ (by simp)]; simp [World.cell?_alloc_at]
          have hsz : wr.heap.size < ((wr.alloc (.cells #[.int .i64 f, .int .i64 t, .int .i64 c] 36)).alloc (.cells #[.int .i64 f, .int .i64 t] 3)).heap.size := by simp; omega
          have HSZ := Lib.hid hsz
          clear hsz
          by_cases hin : (0 ≤ f ∧ f < n) ∧ 0 ≤ t ∧ t < n
          · rw [show (decide (0 ≤ f ∧ f < n) && decide (0 ≤ t ∧ t < n)) = true by simp; omega] at hF
            have HF := Lib.hid hF
            clear hF
            rcases (show c < 0 ∨ (0 ≤ c ∧ 1073741824 < c) ∨ (0 ≤ c ∧ c ≤ 1073741824) by omega) with r1 | ⟨r1, r2⟩ | ⟨r1, r2⟩
            iterate 2
              · have E2 : Hid (chkE n ll = 2) := (E.out.trans hc.out).trans (chkL_bad HX.out (by unfold badL; dsimp only; omega))
                clear hin
                go_wp2_with (go_at_call 48; refine HF.out.mono ?_; rintro e w1 ⟨rfl, b1⟩; have y3 := cell_later b1 x3)
                go_ret
                exact ⟨by rw [E2.out]; rfl, hb2.trans (b1.mono hb2.size)⟩
            · have B : ¬ badL n (f, t, c) := by unfold badL; dsimp only; omega
              by_cases ho : t ≤ f
              · have E2 : Hid (chkE n ll = 10) := (E.out.trans hc.out).trans (chkL_order HX.out B ho)
                clear B hin
                go_wp2_with (go_at_call 48; refine HF.out.mono ?_; rintro e w1 ⟨rfl, b1⟩; have y3 := cell_later b1 x3; have y1 := cell_later b1 x1; have y2 := cell_later b1 x2)
                go_ret
                exact ⟨by rw [E2.out]; rfl, hb2.trans (b1.mono hb2.size)⟩
              · have E2 : Hid (chkL n (ll.drop k) = chkL n (ll.drop (k + 1))) := chkL_next HX.out B ho
                clear B hin
                go_wp2_with (go_at_call 48; refine HF.out.mono ?_; rintro e w1 ⟨rfl, b1⟩; have y3 := cell_later b1 x3; have y1 := cell_later b1 x1; have y2 := cell_later b1 x2)
                go_roundw
                case rel => exact ⟨k + 1, by omega, by go_num, hc.out.trans E2.out, hb2.trans (b1.mono hb2.size)⟩
                case measure => simp [intOf]; omega
          · have E2 : Hid (chkE n ll = 2) := (E.out.trans hc.out).trans (chkL_bad HX.out (by unfold badL; dsimp only; omega))
            rw [show (decide (0 ≤ f ∧ f < n) && decide (0 ≤ t ∧ t < n)) = false by rw [Bool.eq_false_iff]; simp; omega] at hF
            have HF := Lib.hid hF
            clear hF hin
            go_wp2_with (go_at_call 48; refine HF.out.mono ?_; rintro e w1 ⟨rfl, b1⟩)
            go_ret
            exact ⟨by rw [E2.out]; rfl, hb2.trans (b1.mono hb2.size)⟩
        · obtain rfl : k = m := by omega
          have E2 : Hid (chkE n ll = 0) := by
            show chkE n ll = 0
            rw [E.out, hc.out, List.drop_eq_nil_of_le (by rw [← H.out]; omega)]; rfl
          go_wp2
          go_ret
          exact ⟨by rw [E2.out]; rfl, hb⟩

/-- check at nodes. -/
def chkN (n : Int) (ll : List Lk) (l : List Int) : Int := if chkE n ll ≠ 0 then 1 else if insB n l then 0 else 2
theorem chkN_two (n : Int) (ll : List Lk) (s t : Int) : chkN n ll [s, t] = chk2 n ll s t := by
  unfold chkN chk2
  split
  · rfl
  · rw [insB_two]
    by_cases h : s < 0 ∨ n ≤ s ∨ t < 0 ∨ n ≤ t
    · rw [if_pos h, if_neg (by simp; omega)]
    · rw [if_neg h, if_pos (by simp; omega)]
theorem chkN_one (n : Int) (ll : List Lk) (t : Int) : chkN n ll [t] = chk2 n ll t t := by
  unfold chkN chk2
  split
  · rfl
  · rw [insB_one]
    by_cases h : t < 0 ∨ n ≤ t ∨ t < 0 ∨ n ≤ t
    · rw [if_pos h, if_neg (by simp; omega)]
    · rw [if_neg h, if_pos (by simp; omega)]
set_option maxHeartbeats 400000 in
theorem checkn_any (n : Int) (a an : Option Addr) (m cap q c : Nat) (ll : List Lk) (l : List Int) (w : World) (h : Links w a m cap ll) (hn : Ints w an q c l) :
    Calls Try.prog 39 #[.int .i64 n, .slice a m cap, .slice an q c] w fun e w' => e = .returned (.int .i64 (chkN n ll l)) ∧ Below w.heap.size w w' := by
  have F := Lib.hid (check_any n a m cap ll w h)
  have G : Hid (∀ w', Below w.heap.size w w' → Calls Try.prog 48 #[.int .i64 n, .slice an q c] w' fun e w'' => e = .returned (.bool (insB n l)) ∧ Below w'.heap.size w' w'') := fun w' hb => inside_any n an q c l w' (hn.below hb)
  by_cases h0 : chkE n ll = 0
  · have z : (chkE n ll != 0) = false := by simp [h0]
    have E : Hid (chkN n ll l = if insB n l then 0 else 2) := by show _ = _; rw [chkN, if_neg (by omega)]
    generalize chkE n ll = C at *
    generalize chkN n ll l = R at *
    generalize insB n l = B at *
    clear h0
    cases B with
    | true =>
      go_enter Try.func39, Try.ntmps39
      go_wp2_with (first | (go_at_call 26; refine F.out.mono ?_; rintro e w1 ⟨rfl, b1⟩) | (go_at_call 48; refine (G.out _ b1).mono ?_; rintro e w2 ⟨rfl, b2⟩))
      go_ret
      exact ⟨by rw [E.out]; rfl, b1.trans (b2.mono b1.size)⟩
    | false =>
      go_enter Try.func39, Try.ntmps39
      go_wp2_with (first | (go_at_call 26; refine F.out.mono ?_; rintro e w1 ⟨rfl, b1⟩) | (go_at_call 48; refine (G.out _ b1).mono ?_; rintro e w2 ⟨rfl, b2⟩))
      go_ret
      exact ⟨by rw [E.out]; rfl, b1.trans (b2.mono b1.size)⟩
  · have z : (chkE n ll != 0) = true := by simpa using h0
    have E : Hid (chkN n ll l = 1) := by show _ = _; rw [chkN, if_pos h0]
    generalize chkE n ll = C at *
    generalize chkN n ll l = R at *
    clear h0
    go_enter Try.func39, Try.ntmps39
    go_wp2_with (go_at_call 26; refine F.out.mono ?_; rintro e w1 ⟨rfl, b1⟩)
    go_ret
    exact ⟨by rw [E.out]; rfl, b1⟩
end Go.Proofs.Ytebmachppbpdmaa
