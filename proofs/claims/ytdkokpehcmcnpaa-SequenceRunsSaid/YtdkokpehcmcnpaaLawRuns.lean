/- The law SequenceRuns returns true, for every slice of ints, and writes nothing that was there. -/
import Derived.Test.YtdkokpehcmcnpaaWAwake
namespace Go.Proofs.Ytdkokpehcmcnpaa
open Go.RowKit

theorem stopGo_cont (l : List Int) : ∀ f t i, t ≤ i → i < stopGo l f t → i < l.length ∧ cont l i = true
  | 0, t, i, h1, h2 => by simp only [stopGo] at h2; omega
  | f + 1, t, i, h1, h2 => by
    simp only [stopGo] at h2
    split at h2
    · rename_i hc
      by_cases e : i = t
      · subst e; exact hc
      · exact stopGo_cont l f (t + 1) i (by omega) h2
    · omega
theorem stopAt_cont {l : List Int} {t i : Nat} (h1 : t ≤ i) (h2 : i < stopAt l t) : cont l i = true := (stopGo_cont l _ t i h1 h2).2
theorem stopGo_not (l : List Int) : ∀ f t, l.length ≤ t + f → ¬ (stopGo l f t < l.length ∧ cont l (stopGo l f t) = true)
  | 0, t, h => by simp only [stopGo]; omega
  | f + 1, t, h => by
    simp only [stopGo]
    split
    · exact stopGo_not l f (t + 1) (by omega)
    · assumption
theorem stopAt_not (l : List Int) (t : Nat) : ¬ (stopAt l t < l.length ∧ cont l (stopAt l t) = true) := stopGo_not l _ t (by omega)

/-- A run may begin at index i. -/
def Begins (l : List Int) (i : Nat) : Prop := i = 0 ∨ ¬ (i < l.length ∧ cont l i = true)
theorem cont_iff {l : List Int} {t : Nat} : cont l t = true ↔ l[t - 1]?.getD 0 < l[t]?.getD 0 ∧ l[t]?.getD 0 - 1 = l[t - 1]?.getD 0 := by simp [cont]

set_option maxHeartbeats 400000 in
theorem law_runs_long (a : Option Addr) (n cap : Nat) (w : World) (hn : 12 < n) :
    Calls Try.prog 3 #[.slice a n cap] w fun e w' => e = .returned (.bool true) ∧ Below w.heap.size w w' := by
  go_enter Try.func3, Try.ntmps3
  go_wp2_with (go_at_call 11; refine (awake_any _).mono ?_; rintro e w' ⟨rfl, hb⟩)
  go_ret
  exact ⟨rfl, hb⟩
set_option maxRecDepth 100000 in
set_option maxHeartbeats 2000000 in
theorem law_runs (a : Option Addr) (n cap : Nat) (l : List Int) (w : World) (h : Ints w a n cap l) (hn : ¬ 12 < n) :
    Calls Try.prog 3 #[.slice a n cap] w fun e w' => e = .returned (.bool true) ∧ Below w.heap.size w w' := by
  have HN := Lib.hid h.len
  · have F := runs_any a n cap l w h (by omega)
    have HF := Lib.hid F
    clear F
    go_enter Try.func3, Try.ntmps3
    go_wp2_with (go_at_call 12; refine HF.out.mono ?_; rintro e w1 ⟨a', q, cap', rfl, ho, hb⟩)
    have hlen : (runsOf l).length ≤ 12 := by
      have := RunsFrom.length_le (Nat.zero_le _) (runs_spec l)
      have := HN.out
      omega
    have hq : q = (runsOf l).length := by rw [ho.len]; simp [runsL]
    have HQ := Lib.hid hq
    have hq12 : q ≤ 12 := by omega
    have hbd := (runs_spec l).bound
    have hI := ho.intss (by omega) (fun s hs => by
      obtain ⟨p, hp, rfl⟩ := List.mem_map.1 hs
      have := hbd p hp
      have := HN.out
      exact ⟨by simp [pair], fun x hx => by simp [pair] at hx; exact I64.small (by omega) (by omega)⟩)
    have hl := h.below hb
    clear hq hbd hlen ho HF
    go_loopw [5, 23] (fun t i wr => ∃ (j p : Nat), i = .int .i64 (j : Int) ∧ t = .int .i64 (p : Int) ∧ j ≤ q ∧ p ≤ n ∧ Hid (RunsFrom l p ((runsOf l).drop j)) ∧ Hid (Begins l p) ∧ Drew w1 wr) (fun _ i _ => q - (intOf i).toNat)
    case atStart => exact ⟨0, 0, rfl, rfl, Nat.zero_le _, Nat.zero_le _, runs_spec l, .inl rfl, Drew.refl _⟩
    case round =>
      obtain ⟨j, p, rfl, rfl, hj, hp, hr, hbeg, hd⟩ := hrel
      by_cases hjq : j < q
      · have hj' : j < (runsOf l).length := by rw [← HQ.out]; exact hjq
        obtain ⟨b1, off1, rfl, -, hc1⟩ := (hI.drews hd).at_ (by omega)
        obtain ⟨a2, n2, c2, k1, k2⟩ := hc1.out j hjq
        have hrr : RunsFrom l p ((runsOf l)[j] :: (runsOf l).drop (j + 1)) := by rw [← List.drop_eq_getElem_cons hj']; exact hr.out
        obtain ⟨r1, r2, r3⟩ := hrr
        have r1' : p < n := by rw [HN.out]; exact r1
        obtain ⟨e, he⟩ : ∃ e, stopAt l (p + 1) = e := ⟨_, rfl⟩
        have e1 : p + 1 ≤ e := by rw [← he]; exact stopAt_ge _ _
        have e2 : e ≤ n := by rw [← he, HN.out]; exact stopAt_le (by omega)
        rw [he] at r2 r3
        have hx : (runsL l)[j]?.getD [] = [(p : Int), ((e - p : Nat) : Int)] := by
          simp only [runsL, List.getElem?_map, List.getElem?_eq_getElem hj', r2, pair]; rfl
        rw [hx] at k2
        have hn2 := k2.len
        simp at hn2
        subst hn2
        obtain ⟨b2, off2, rfl, -, hc2⟩ := k2.at_ (by omega)
        have x0 := hc2.out 0 (by omega)
        have x1 := hc2.out 1 (by omega)
        simp only [List.getElem?_cons_zero, List.getElem?_cons_succ, Option.getD_some, Nat.add_zero] at x0 x1
        rw [Int.ofNat_sub (by omega)] at x1
        have HE := Lib.hid he
        have R3 := Lib.hid r3
        clear hx r1 r2 r3 he hj'
        have t1 : ((p : Int) != (p : Int)) = false := by simp
        have t2 : decide ((e : Int) - (p : Int) < 1) = false := by simp; omega
        have t3 : decide (n < e) = false := by simp; omega
        go_wp2
        obtain ⟨wo, rfl⟩ : ∃ wo : World, wo = wr := ⟨_, rfl⟩
        go_loopw [8, 9] (fun i _ wr => ∃ k : Nat, i = .int .i64 (k : Int) ∧ p ≤ k ∧ k ≤ e ∧ Drew wo wr) (fun i _ _ => e - (intOf i).toNat)
        case atStart => exact ⟨p, rfl, Nat.le_refl _, by omega, Drew.refl _⟩
        case round =>
          obtain ⟨k, rfl, hk1, hk2, hdk⟩ := hrel
          have y1 := cell_later (hdk.below _) x1
          by_cases hke : k < e
          · obtain ⟨b, off, rfl, -, hcl⟩ := ((hl.drews hd).drews hdk).at_ (by omega)
            have c1 := hcl.out k (by omega)
            have c2 := hcl.out (k - 1) (by omega)
            have z1 := ((h.i64 k)).2
            have z2 := ((h.i64 (k - 1))).1
            by_cases hkp : k = p
            · subst hkp
              by_cases hk0 : k = 0
              · subst hk0
                go_wp2
                go_quiet (fail)
                go_wp2
                go_roundw
                case rel => exact ⟨0 + 1, by go_num, by omega, by omega, hdk.drewN _⟩
                case measure => simp [intOf]; omega
              · have hkpos : 0 < k := by omega
                have hnc : ¬ cont l k = true := fun hc => by
                  rcases hbeg.out with h0 | h0
                  · exact hk0 h0
                  · exact h0 ⟨by rw [← HN.out]; omega, hc⟩
                have HNC := Lib.hid hnc
                clear hnc hk0
                by_cases hx : l[k - 1]?.getD 0 < l[k]?.getD 0
                · have q1 : IntKind.i64.wrap (l[k]?.getD 0 - 1) = l[k]?.getD 0 - 1 := IntWalk.i64_in _ (by omega)
                  have q2 : (l[k]?.getD 0 - 1 == l[k - 1]?.getD 0) = false := by
                    rw [beq_eq_false_iff_ne]; exact fun hy => HNC.out (cont_iff.2 ⟨hx, hy⟩)
                  clear z1 z2
                  go_wp2
                  go_quiet (fail)
                  go_wp2
                  go_roundw
                  case rel => exact ⟨k + 1, by go_num, by omega, by omega, hdk.drewN _⟩
                  case measure => simp [intOf]; omega
                · have q2 : decide (l[k - 1]?.getD 0 < l[k]?.getD 0) = false := by simpa using hx
                  clear z1 z2 hx
                  go_wp2
                  go_quiet (fail)
                  go_wp2
                  go_roundw
                  case rel => exact ⟨k + 1, by go_num, by omega, by omega, hdk.drewN _⟩
                  case measure => simp [intOf]; omega
            · have hkpos : 0 < k := by omega
              have hc := stopAt_cont (l := l) (t := p + 1) (i := k) (by omega) (by rw [HE.out]; exact hke)
              obtain ⟨hx, hy⟩ := cont_iff.1 hc
              have q1 : IntKind.i64.wrap (l[k]?.getD 0 - 1) = l[k]?.getD 0 - 1 := IntWalk.i64_in _ (by omega)
              have q2 : (l[k]?.getD 0 - 1 == l[k - 1]?.getD 0) = true := by simp [hy]
              have q3 : decide (p < k) = true := by simp; omega
              clear hy hc z1 z2
              go_wp2
              go_quiet (fail)
              go_wp2
              go_roundw
              case rel => exact ⟨k + 1, by go_num, by omega, by omega, hdk.drewN _⟩
              case measure => simp [intOf]; omega
          · obtain rfl : k = e := by omega
            go_wp2
            go_roundw
            case rel =>
              refine ⟨j + 1, k, by go_num, by go_num, by omega, e2, R3.out, .inr ?_, hd.trans hdk⟩
              rw [← HE.out]; exact stopAt_not l _
            case measure => simp [intOf]; omega
      · have hpn : p = n := by
          have := hr.out
          rw [List.drop_eq_nil_of_le (by rw [← HQ.out]; omega)] at this
          have := HN.out
          simp only [RunsFrom] at *
          omega
        subst hpn
        go_wp2_with (go_at_call 11; refine (awake_any _).mono ?_; rintro e w' ⟨rfl, hb'⟩)
        go_ret
        exact ⟨rfl, hb.trans ((hd.below _).trans (hb'.mono (by have := (hd.below 0).size; have := hb.size; omega)))⟩
end Go.Proofs.Ytdkokpehcmcnpaa
