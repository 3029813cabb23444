/- The law SequenceFinds returns true, for every slice of ints, and writes nothing that was there. -/
import Derived.Test.YtdkokpehcmcnpaaWRefI
import Derived.Test.YtdkokpehcmcnpaaWRefN
import Derived.Test.YtdkokpehcmcnpaaWRefR
import Derived.Test.YtdkokpehcmcnpaaWRefC
import Derived.Test.YtdkokpehcmcnpaaWAwake
namespace Go.Proofs.Ytdkokpehcmcnpaa
open Go.RowKit

/-- The error for n elements. -/
def tooLong (n : Nat) : Int := if n ≤ 1024 then 0 else 4
def upTo {α : Type} (n : Nat) (x y : α) : α := if n ≤ 1024 then x else y
theorem upTo_le {α : Type} {n : Nat} (h : n ≤ 1024) (x y : α) : upTo n x y = x := if_pos h
theorem upTo_gt {α : Type} {n : Nat} (h : ¬ n ≤ 1024) (x y : α) : upTo n x y = y := if_neg h
theorem tooLong_le {n : Nat} (h : n ≤ 1024) : tooLong n = 0 := if_pos h
theorem tooLong_gt {n : Nat} (h : ¬ n ≤ 1024) : tooLong n = 4 := if_neg h

theorem lis_ints {w : World} {B : Nat} {a : Option Addr} {q cap n : Nat} {l : List Int} (h : OwnI w B a q cap (lis l)) (hn : n = l.length) (hm : n ≤ 1024) : Ints w a q cap (lis l) := by
  have h1 := h.len
  have h2 := lis_le l
  exact h.ints (by omega) (heavy_i64 _ _ (by omega))
theorem inc_all (a : Option Addr) (n cap : Nat) (l : List Int) (w : World) (h : Ints w a n cap l) :
    Calls Try.prog 14 #[.slice a n cap] w fun e w' => ∃ (a' : Option Addr) (q cap' : Nat), e = .returned (.tuple #[.slice a' q cap', .int .i64 (tooLong n)]) ∧ Ints w' a' q cap' (upTo n (lis l) []) ∧ Below w.heap.size w w' := by
  by_cases hm : n ≤ 1024
  · refine (increasing_any a n cap l w h hm).mono ?_
    rintro e w' ⟨a', q, cap', rfl, ho, hB⟩
    exact ⟨a', q, cap', by rw [tooLong_le hm], by rw [upTo_le hm]; exact lis_ints ho h.len hm, hB⟩
  · refine (increasing_long a n cap w (by omega)).mono ?_
    rintro e w' ⟨rfl, rfl⟩
    exact ⟨none, 0, 0, by rw [tooLong_gt hm], by rw [upTo_gt hm]; exact Ints.nil _, Below.refl _ _⟩
theorem ref_inc_all (a : Option Addr) (n cap : Nat) (l : List Int) (w : World) (h : Ints w a n cap l) :
    Calls Try.prog 15 #[.slice a n cap] w fun e w' => ∃ (a' : Option Addr) (q cap' : Nat), e = .returned (.tuple #[.slice a' q cap', .int .i64 (tooLong n)]) ∧ Ints w' a' q cap' (upTo n (lis l) []) ∧ Below w.heap.size w w' := by
  by_cases hm : n ≤ 1024
  · refine (ref_increasing_any a n cap l w h hm).mono ?_
    rintro e w' ⟨a', q, cap', rfl, ho, hB⟩
    exact ⟨a', q, cap', by rw [tooLong_le hm], by rw [upTo_le hm]; exact lis_ints ho h.len hm, hB⟩
  · refine (ref_increasing_long a n cap w (by omega)).mono ?_
    rintro e w' ⟨rfl, rfl⟩
    exact ⟨none, 0, 0, by rw [tooLong_gt hm], by rw [upTo_gt hm]; exact Ints.nil _, Below.refl _ _⟩
theorem cover_intss {w : World} {B : Nat} {a : Option Addr} {q cap n : Nat} {l : List Int} (h : OwnII w B a q cap (cover l n)) (hm : n ≤ 1024) : Intss w a q cap (cover l n) := by
  obtain ⟨h1, h2⟩ := cover_rows l n
  exact h.intss (by have := h.len; omega) (rows_i64 h1 hm)
theorem cov_all (a : Option Addr) (n cap : Nat) (l : List Int) (w : World) (h : Ints w a n cap l) :
    Calls Try.prog 16 #[.slice a n cap] w fun e w' => ∃ (a' : Option Addr) (q cap' : Nat), e = .returned (.tuple #[.slice a' q cap', .int .i64 (tooLong n)]) ∧ Intss w' a' q cap' (upTo n (cover l n) []) ∧ Below w.heap.size w w' := by
  by_cases hm : n ≤ 1024
  · refine (cover_any a n cap l w h hm).mono ?_
    rintro e w' ⟨a', q, cap', rfl, ho, hB⟩
    exact ⟨a', q, cap', by rw [tooLong_le hm], by rw [upTo_le hm]; exact cover_intss ho hm, hB⟩
  · refine (cover_long a n cap w (by omega)).mono ?_
    rintro e w' ⟨rfl, hB⟩
    exact ⟨none, 0, 0, by rw [tooLong_gt hm], by rw [upTo_gt hm]; exact Intss.nil _, hB⟩
theorem ref_cov_all (a : Option Addr) (n cap : Nat) (l : List Int) (w : World) (h : Ints w a n cap l) :
    Calls Try.prog 17 #[.slice a n cap] w fun e w' => ∃ (a' : Option Addr) (q cap' : Nat), e = .returned (.tuple #[.slice a' q cap', .int .i64 (tooLong n)]) ∧ Intss w' a' q cap' (upTo n (cover l n) []) ∧ Below w.heap.size w w' := by
  by_cases hm : n ≤ 1024
  · refine (ref_cover_any a n cap l w h hm).mono ?_
    rintro e w' ⟨a', q, cap', rfl, ho, hB⟩
    exact ⟨a', q, cap', by rw [tooLong_le hm], by rw [upTo_le hm]; exact cover_intss ho hm, hB⟩
  · refine (ref_cover_long a n cap w (by omega)).mono ?_
    rintro e w' ⟨rfl, rfl⟩
    exact ⟨none, 0, 0, by rw [tooLong_gt hm], by rw [upTo_gt hm]; exact Intss.nil _, Below.refl _ _⟩
theorem inv_all (a : Option Addr) (n cap : Nat) (l : List Int) (w : World) (h : Ints w a n cap l) :
    Calls Try.prog 18 #[.slice a n cap] w fun e w' => e = .returned (.tuple #[.int .i64 (upTo n (inv l n : Int) 0), .int .i64 (tooLong n)]) ∧ Drew w w' := by
  by_cases hm : n ≤ 1024
  · refine (inversions_any a n cap l w h hm).mono ?_
    rintro e w' ⟨rfl, hB⟩
    exact ⟨by rw [tooLong_le hm, upTo_le hm], hB⟩
  · refine (inversions_long a n cap w (by omega)).mono ?_
    rintro e w' ⟨rfl, rfl⟩
    exact ⟨by rw [tooLong_gt hm, upTo_gt hm], Drew.refl _⟩
theorem ref_inv_all (a : Option Addr) (n cap : Nat) (l : List Int) (w : World) (h : Ints w a n cap l) :
    Calls Try.prog 19 #[.slice a n cap] w fun e w' => e = .returned (.tuple #[.int .i64 (upTo n (inv l n : Int) 0), .int .i64 (tooLong n)]) ∧ Drew w w' := by
  by_cases hm : n ≤ 1024
  · refine (ref_inversions_any a n cap l w h hm).mono ?_
    rintro e w' ⟨rfl, hB⟩
    exact ⟨by rw [tooLong_le hm, upTo_le hm], hB⟩
  · refine (ref_inversions_long a n cap w (by omega)).mono ?_
    rintro e w' ⟨rfl, rfl⟩
    exact ⟨by rw [tooLong_gt hm, upTo_gt hm], Drew.refl _⟩
theorem runs_intss {w : World} {B : Nat} {a : Option Addr} {q cap n : Nat} {l : List Int} (h : OwnII w B a q cap (runsL l)) (hn : n = l.length) (hm : n ≤ 1024) : Intss w a q cap (runsL l) := by
  have h1 := RunsFrom.length_le (Nat.zero_le _) (runs_spec l)
  have h2 := RunsFrom.bound (runs_spec l)
  refine h.intss (by have := h.len; simp [runsL] at this; omega) (fun s hs => ?_)
  obtain ⟨p, hp, rfl⟩ := List.mem_map.1 hs
  have := h2 p hp
  refine ⟨by simp [pair], fun x hx => ?_⟩
  simp [pair] at hx
  rcases hx with rfl | rfl <;> exact I64.small (by omega) (by omega)
theorem runs_all (a : Option Addr) (n cap : Nat) (l : List Int) (w : World) (h : Ints w a n cap l) :
    Calls Try.prog 12 #[.slice a n cap] w fun e w' => ∃ (a' : Option Addr) (q cap' : Nat), e = .returned (.tuple #[.slice a' q cap', .int .i64 (tooLong n)]) ∧ Intss w' a' q cap' (upTo n (runsL l) []) ∧ Below w.heap.size w w' := by
  by_cases hm : n ≤ 1024
  · refine (runs_any a n cap l w h hm).mono ?_
    rintro e w' ⟨a', q, cap', rfl, ho, hB⟩
    exact ⟨a', q, cap', by rw [tooLong_le hm], by rw [upTo_le hm]; exact runs_intss ho h.len hm, hB⟩
  · refine (runs_long a n cap w (by omega)).mono ?_
    rintro e w' ⟨rfl, rfl⟩
    exact ⟨none, 0, 0, by rw [tooLong_gt hm], by rw [upTo_gt hm]; exact Intss.nil _, Below.refl _ _⟩
theorem ref_runs_all (a : Option Addr) (n cap : Nat) (l : List Int) (w : World) (h : Ints w a n cap l) :
    Calls Try.prog 20 #[.slice a n cap] w fun e w' => ∃ (a' : Option Addr) (q cap' : Nat), e = .returned (.tuple #[.slice a' q cap', .int .i64 (tooLong n)]) ∧ Intss w' a' q cap' (upTo n (runsL l) []) ∧ Below w.heap.size w w' := by
  by_cases hm : n ≤ 1024
  · refine (ref_runs_any a n cap l w h hm).mono ?_
    rintro e w' ⟨a', q, cap', rfl, ho, hB⟩
    exact ⟨a', q, cap', by rw [tooLong_le hm], by rw [upTo_le hm]; exact runs_intss ho h.len hm, hB⟩
  · refine (ref_runs_long a n cap w (by omega)).mono ?_
    rintro e w' ⟨rfl, rfl⟩
    exact ⟨none, 0, 0, by rw [tooLong_gt hm], by rw [upTo_gt hm]; exact Intss.nil _, Below.refl _ _⟩
theorem mov_all (a : Option Addr) (n cap : Nat) (l : List Int) (w : World) (h : Ints w a n cap l) :
    Calls Try.prog 21 #[.slice a n cap] w fun e w' => e = .returned (.tuple #[.int .i64 (upTo n (movesN l) 0), .int .i64 (upTo n (movesE l) 4)]) ∧ Below w.heap.size w w' := by
  by_cases hm : n ≤ 1024
  · refine (moves_any a n cap l w h hm).mono ?_
    rintro e w' ⟨rfl, hB⟩
    exact ⟨by rw [upTo_le hm, upTo_le hm], hB⟩
  · refine (moves_long a n cap w (by omega)).mono ?_
    rintro e w' ⟨rfl, rfl⟩
    exact ⟨by rw [upTo_gt hm, upTo_gt hm], Below.refl _ _⟩
theorem ref_mov_all (a : Option Addr) (n cap : Nat) (l : List Int) (w : World) (h : Ints w a n cap l) :
    Calls Try.prog 22 #[.slice a n cap] w fun e w' => e = .returned (.tuple #[.int .i64 (upTo n (movesN l) 0), .int .i64 (upTo n (movesE l) 4)]) ∧ Below w.heap.size w w' := by
  by_cases hm : n ≤ 1024
  · refine (ref_moves_any a n cap l w h hm).mono ?_
    rintro e w' ⟨rfl, hB⟩
    exact ⟨by rw [upTo_le hm, upTo_le hm], hB⟩
  · refine (ref_moves_long a n cap w (by omega)).mono ?_
    rintro e w' ⟨rfl, rfl⟩
    exact ⟨by rw [upTo_gt hm, upTo_gt hm], Below.refl _ _⟩

set_option maxHeartbeats 2000000 in
theorem law_finds (a : Option Addr) (n cap : Nat) (l : List Int) (w : World) (h : n ≤ 1027 → Ints w a n cap l) :
    Calls Try.prog 4 #[.slice a n cap] w fun e w' => e = .returned (.bool true) ∧ Below w.heap.size w w' := by
  go_enter Try.func4, Try.ntmps4
  go_wp2_with fail
  refine (great_any a n cap l w h).mono ?_
  rintro e w0 ⟨⟨g, rfl, hg⟩, d0⟩
  have D0 : Below w.heap.size w w0 := d0.below _
  cases g with
  | true =>
    clear hg
    go_wp2_with (go_at_call 11; refine (awake_any _).mono ?_; rintro e w' ⟨rfl, hb⟩)
    go_ret
    exact ⟨rfl, D0.trans (hb.mono D0.size)⟩
  | false =>
    have hn : n ≤ 1027 := by have := hg rfl; omega
    have i0 := (h hn).below D0
    clear hg h hn d0
    go_wp2_with fail
    refine (inc_all a n cap l w0 i0).mono ?_
    rintro e w1 ⟨a1, q1, c1, rfl, o1, b1⟩
    have D1 := D0.trans (b1.mono D0.size)
    have i1 := i0.below b1
    clear b1 i0
    go_wp2_with fail
    refine (ref_inc_all a n cap l w1 i1).mono ?_
    rintro e w2 ⟨a2, q2, c2, rfl, o2, b2⟩
    have D2 := D1.trans (b2.mono D1.size)
    have i2 := i1.below b2
    replace o1 := o1.below b2
    clear b2 i1 D1
    go_wp2_with fail
    refine (cov_all a n cap l w2 i2).mono ?_
    rintro e w3 ⟨a3, q3, c3, rfl, o3, b3⟩
    have D3 := D2.trans (b3.mono D2.size)
    have i3 := i2.below b3
    replace o1 := o1.below b3
    replace o2 := o2.below b3
    clear b3 i2 D2
    go_wp2_with fail
    refine (ref_cov_all a n cap l w3 i3).mono ?_
    rintro e w4 ⟨a4, q4, c4, rfl, o4, b4⟩
    have D4 := D3.trans (b4.mono D3.size)
    have i4 := i3.below b4
    replace o1 := o1.below b4
    replace o2 := o2.below b4
    replace o3 := o3.below b4
    clear b4 i3 D3
    go_wp2_with fail
    refine (inv_all a n cap l w4 i4).mono ?_
    rintro e w5 ⟨rfl, b5⟩
    go_wp2_with fail
    refine (ref_inv_all a n cap l w5 (i4.drews b5)).mono ?_
    rintro e w6 ⟨rfl, b6⟩
    replace b6 := b5.trans b6
    have D6 := D4.trans (b6.below _)
    have i6 := i4.drews b6
    replace o1 := o1.drews b6
    replace o2 := o2.drews b6
    replace o3 := o3.drews b6
    replace o4 := o4.drews b6
    clear b5 b6 i4 D4
    go_wp2_with fail
    refine (runs_all a n cap l w6 i6).mono ?_
    rintro e w7 ⟨a7, q7, c7, rfl, o7, b7⟩
    have D7 := D6.trans (b7.mono D6.size)
    have i7 := i6.below b7
    replace o1 := o1.below b7
    replace o2 := o2.below b7
    replace o3 := o3.below b7
    replace o4 := o4.below b7
    clear b7 i6 D6
    go_wp2_with fail
    refine (ref_runs_all a n cap l w7 i7).mono ?_
    rintro e w8 ⟨a8, q8, c8, rfl, o8, b8⟩
    have D8 := D7.trans (b8.mono D7.size)
    have i8 := i7.below b8
    replace o1 := o1.below b8
    replace o2 := o2.below b8
    replace o3 := o3.below b8
    replace o4 := o4.below b8
    replace o7 := o7.below b8
    clear b8 i7 D7
    go_wp2_with fail
    refine (mov_all a n cap l w8 i8).mono ?_
    rintro e w9 ⟨rfl, b9⟩
    have D9 := D8.trans (b9.mono D8.size)
    have i9 := i8.below b9
    replace o1 := o1.below b9
    replace o2 := o2.below b9
    replace o3 := o3.below b9
    replace o4 := o4.below b9
    replace o7 := o7.below b9
    replace o8 := o8.below b9
    clear b9 i8 D8
    go_wp2_with fail
    refine (ref_mov_all a n cap l w9 i9).mono ?_
    rintro e wA ⟨rfl, bA⟩
    have DA := D9.trans (bA.mono D9.size)
    have iA := i9.below bA
    replace o1 := o1.below bA
    replace o2 := o2.below bA
    replace o3 := o3.below bA
    replace o4 := o4.below bA
    replace o7 := o7.below bA
    replace o8 := o8.below bA
    clear bA i9 D9
    generalize tooLong n = E at *
    generalize upTo n (inv l n : Int) 0 = N1 at *
    generalize upTo n (movesN l) 0 = N2 at *
    generalize upTo n (movesE l) 4 = N3 at *
    go_wp2_with fail
    refine (equal_any a1 a2 q1 c1 q2 c2 _ _ wA o1 o2).mono ?_
    rintro e wB ⟨rfl, bB⟩
    have DB := DA.trans (bB.below _)
    have iB := iA.drews bB
    replace o3 := o3.drews bB
    replace o4 := o4.drews bB
    replace o7 := o7.drews bB
    replace o8 := o8.drews bB
    clear bB iA DA o1 o2
    rw [decide_eq_true rfl]
    have HP := Lib.hid (permutation_any a n cap l)
    have HQ := Lib.hid (ref_permutation_any a n cap l)
    generalize permB l = pb at *
    go_wp2_with fail
    refine (samelists_any a3 a4 q3 c3 q4 c4 _ _ wB o3 o4).mono ?_
    rintro e wC ⟨rfl, bC⟩
    have DC := DB.trans (bC.below _)
    have iC := iB.drews bC
    replace o7 := o7.drews bC
    replace o8 := o8.drews bC
    clear bC iB DB o3 o4
    rw [decide_eq_true rfl]
    go_wp2_with fail
    refine (samelists_any a7 a8 q7 c7 q8 c8 _ _ wC o7 o8).mono ?_
    rintro e wD ⟨rfl, bD⟩
    have DD := DC.trans (bD.below _)
    have iD := iC.drews bD
    clear bD iC DC o7 o8
    rw [decide_eq_true rfl]
    go_wp2_with fail
    refine (HP.out wD iD).mono ?_
    rintro e wE ⟨rfl, bE⟩
    have DE := DD.trans (bE.mono DD.size)
    have iE := iD.below bE
    clear bE iD DD
    go_wp2_with fail
    refine (HQ.out wE iE).mono ?_
    rintro e wF ⟨rfl, bF⟩
    have DF := DE.trans (bF.mono DE.size)
    clear bF iE DE
    have epb : (pb == pb) = true := by simp
    go_wp2_with (go_at_call 11; refine (awake_any _).mono ?_; rintro e w' ⟨rfl, hb⟩)
    go_ret
    exact ⟨rfl, DF.trans (hb.mono DF.size)⟩
end Go.Proofs.Ytdkokpehcmcnpaa
