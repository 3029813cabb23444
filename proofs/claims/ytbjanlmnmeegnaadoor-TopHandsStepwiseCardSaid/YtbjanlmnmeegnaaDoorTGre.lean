/- How great nodes are. -/
import Derived.Test.YtbjanlmnmeegnaaDoorTSam
set_option linter.unusedVariables false
set_option linter.unusedSimpArgs false
namespace Go.Proofs.YtbjanlmnmeegnaaDoor
open Go.RowKit

mutual
/-- All texts have at most 8 bytes. -/
def txtN : Nd → Prop
  | .mk _ t _ ps => t.size ≤ 8 ∧ txtL ps
def txtL : List Nd → Prop
  | [] => True
  | x :: r => txtN x ∧ txtL r
end
theorem txtL_append : ∀ a b : List Nd, txtL (a ++ b) ↔ txtL a ∧ txtL b
  | [], b => by simp [txtL]
  | x :: a, b => by simp [txtL, txtL_append a b, and_assoc]
/-- What size answers. -/
def SizeP (f : Nat) (l : List Nd) (s : Nat) (w : World) (e : Ending) (w' : World) : Prop :=
  ∃ (k : Int) (b : Bool), e = .returned (.tuple #[.int .i64 k, .bool b]) ∧ Below w.heap.size w w' ∧ (b = false → k = ((s + cntL l : Nat) : Int) ∧ s + cntL l ≤ 100 ∧ dptL l + 1 ≤ max f 1 ∧ txtL l ∧ (f = 0 → l = []))
set_option maxRecDepth 100000 in
set_option maxHeartbeats 4000000 in
theorem size_any : ∀ (f d : Nat), d + f = 7 → ∀ (S : Nat → Prop) (a : Option Addr) (n c : Nat) (vs : List Vl) (w : World) (s : Nat), s ≤ 100 → Vals S w a n c vs →
    Calls Tryd.prog 10 #[.slice a n c, .int .i64 (d : Int), .int .i64 (s : Int)] w (SizeP f (vs.map Vl.er) s w) := by
  intro f
  induction f with
  | zero =>
    intro d hd S a n c vs w s hs hv
    obtain rfl : d = 7 := by omega
    have hnb := hv.2.2.1
    have HN := Lib.hid hv.1
    clear hv hd
    go_enter Tryd.func10, Tryd.ntmps10
    by_cases h0 : n = 0
    · have HZ : Hid (vs = []) := List.eq_nil_of_length_eq_zero (by rw [← HN.out]; exact h0)
      subst h0
      go_wp2
      exact bodyPost_ret (results_tmp2 rfl _ _ _) rfl ⟨s, false, rfl, Below.refl _ _, fun _ => by rw [HZ.out]; exact ⟨rfl, hs, by decide, trivial, fun _ => rfl⟩⟩
    · have t1 : decide ((n : Int) > 0) = true := by rw [decide_eq_true_eq]; omega
      have t2 : decide (0 < n) = true := by rw [decide_eq_true_eq]; omega
      go_wp2
      exact bodyPost_ret (results_tmp2 rfl _ _ _) rfl ⟨s, true, (by simp [go_sem]), Below.refl _ _, fun h => by cases h⟩
  | succ f ih =>
    intro d hd S a n c vs w s hs hv
    have hnb := hv.2.2.1
    have HV := Lib.hid hv
    have HIH := Lib.hid (ih (d + 1) (by omega))
    have hd6 : d ≤ 6 := by omega
    clear hv ih hd
    go_enter Tryd.func10, Tryd.ntmps10
    go_wp2
    go_loopw [8, 2] (fun i t wr => ∃ (j sj : Nat), i = .int .i64 j ∧ t = .int .i64 sj ∧ j ≤ n ∧ sj ≤ 100 ∧ Hid (sj = s + cntL ((vs.take j).map Vl.er) ∧ dptL ((vs.take j).map Vl.er) + 1 ≤ max (f + 1) 1 ∧ txtL ((vs.take j).map Vl.er)) ∧ Below w.heap.size w wr) (fun i _ _ => n - (intOf i).toNat)
    case atStart => exact ⟨0, s, rfl, rfl, Nat.zero_le _, hs, ⟨rfl, (by simp [dptL]), trivial⟩, Below.refl _ _⟩
    case round =>
      obtain ⟨j, sj, rfl, rfl, hj, hsj, hx, hB⟩ := hrel
      by_cases hjl : j < n
      · obtain ⟨v, b1, o1, h1, -, ea, -, -, ⟨d0, d1, d2, d3⟩, hr⟩ := (HV.out.below hB).get hjl
        subst ea
        have HP := Lib.hid (rd_iff.1 hr).2.2.2
        have HE : Hid ((vs.take (j + 1)).map Vl.er = (vs.take j).map Vl.er ++ [v.er]) := by show _ = _; rw [List.take_add_one, h1, List.map_append]; rfl
        have HEK := Lib.hid (er_kind v)
        have HB := Lib.hid hB
        clear hr h1 hB
        obtain ⟨vk, vn, vt, va, vc, vl⟩ := v
        dsimp only [Vl.kind, Vl.num, Vl.text, Vl.sl, Vl.addr, Vl.items, Vl.cap] at d0 d1 d2 d3 HP HEK
        by_cases h100 : 100 ≤ sj
        · obtain rfl : sj = 100 := by omega
          go_wp2
          exact bodyPost_ret (results_tmp2 rfl _ _ _) rfl ⟨_, true, rfl, HB.out, fun h => by cases h⟩
        · by_cases h8 : 8 < vt.size
          · go_wp2
            exact bodyPost_ret (results_tmp2 rfl _ _ _) rfl ⟨_, true, rfl, HB.out, fun h => by cases h⟩
          · have HQ := Lib.hid (HIH.out S va vl.length vc vl wr (sj + 1) (by omega) HP.out)
            have ee1 : ((sj + 1 : Nat) : Int) = (sj : Int) + 1 := by omega
            have ee2 : ((d + 1 : Nat) : Int) = (d : Int) + 1 := by omega
            rw [ee1, ee2] at HQ
            go_wp2_with fail
            refine HQ.out.mono ?_
            rintro e w2 ⟨k, b, rfl, hst, hk⟩
            have HB2 := Lib.hid (HB.out.trans (hst.mono HB.out.size))
            cases b with
            | true =>
              clear HQ hst hk
              go_wp2
              exact bodyPost_ret (results_tmp2 rfl _ _ _) rfl ⟨_, true, rfl, HB2.out, fun h => by cases h⟩
            | false =>
              obtain ⟨rfl, hk1, hk2, hk3, hk4⟩ := hk rfl
              have hZ : Hid (sj + 1 + cntL (vl.map Vl.er) = s + cntL ((vs.take (j + 1)).map Vl.er) ∧ dptL ((vs.take (j + 1)).map Vl.er) + 1 ≤ max (f + 1) 1 ∧ txtL ((vs.take (j + 1)).map Vl.er)) := by
                obtain ⟨x1, x2, x3⟩ := hx.out
                rw [HE.out, HEK.out, cntL_append, dptL_append, txtL_append]
                refine ⟨by rw [x1]; simp only [cntL, cntN]; omega, ?_, x3, ⟨by omega, hk3⟩, trivial⟩
                simp only [dptL, dptN]
                split
                · omega
                · rename_i hq
                  cases f with
                  | zero =>
                    exact absurd (by rw [hk4 rfl]; rfl) hq
                  | succ f => omega
              clear HQ hst hx
              go_wp2
              go_roundw
              case rel => exact ⟨j + 1, sj + 1 + cntL (vl.map Vl.er), by go_num, rfl, by omega, hk1, hZ.out, HB2.out⟩
              case measure => simp [intOf]; omega
      · obtain rfl : j = n := by omega
        have hZ := Lib.hid hB
        have HX : Hid (sj = s + cntL (vs.map Vl.er) ∧ dptL (vs.map Vl.er) + 1 ≤ max (f + 1) 1 ∧ txtL (vs.map Vl.er)) := by
          have := hx.out
          rw [List.take_of_length_le (by rw [HV.out.1]; exact Nat.le_refl _)] at this; exact this
        clear hB hx
        go_wp2
        exact bodyPost_ret (results_tmp2 rfl _ _ _) rfl ⟨_, false, rfl, hZ.out, fun _ => ⟨by rw [HX.out.1], by rw [← HX.out.1]; exact hsj, HX.out.2.1, HX.out.2.2, fun e => by cases e⟩⟩
/-- What it says of nodes that they are not too great. -/
def SmT (l : List Nd) : Prop := cntL l ≤ 100 ∧ dptL l ≤ 6 ∧ txtL l
set_option maxRecDepth 100000 in
set_option maxHeartbeats 4000000 in
theorem great_any (S : Nat → Prop) (a : Option Addr) (n c : Nat) (vs : List Vl) (w : World) (h : Vals S w a n c vs) :
    Calls Tryd.prog 4 #[.slice a n c, .int .i64 24] w fun e w' => ∃ g, e = .returned (.bool g) ∧ Below w.heap.size w w' ∧ (g = false → SmT (vs.map Vl.er)) := by
  have HQ := Lib.hid (size_any 7 0 rfl S a n c vs w 0 (by omega) h)
  change Hid (Calls _ _ #[_, .int .i64 0, .int .i64 0] _ _) at HQ
  clear h
  go_enter Tryd.func4, Tryd.ntmps4
  go_wp2_with fail
  refine HQ.out.mono ?_
  rintro e w2 ⟨k, b, rfl, hst, hk⟩
  cases b with
  | true =>
    clear HQ hk
    go_wp2
    go_ret
    exact ⟨true, rfl, hst, fun h => by cases h⟩
  | false =>
    obtain ⟨rfl, hk1, hk2, hk3, -⟩ := hk rfl
    have HS : Hid (SmT (vs.map Vl.er)) := ⟨by omega, by omega, hk3⟩
    clear HQ
    go_wp2
    go_ret
    exact ⟨_, rfl, hst, fun _ => HS.out⟩
end Go.Proofs.YtbjanlmnmeegnaaDoor
