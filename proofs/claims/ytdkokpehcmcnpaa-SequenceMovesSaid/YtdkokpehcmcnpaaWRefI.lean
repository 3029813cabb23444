/- The reference's Increasing; Moves and its reference. -/
import Derived.Test.YtdkokpehcmcnpaaWRefA
import Derived.Test.YtdkokpehcmcnpaaWIncr
import Derived.Test.YtdkokpehcmcnpaaWPerm
namespace Go.Proofs.Ytdkokpehcmcnpaa
open Go.RowKit

theorem ones_of {l L : List Int} {n : Nat} (hn : n = l.length) (hl : L.length = n) (h : ∀ j, j < n → L[j]?.getD 0 = 1) : L = ones l := by
  apply List.ext_getElem (by simp [ones]; omega)
  intro i a b
  have := h i (by omega)
  simpa [List.getElem?_eq_getElem, a, ones] using this
theorem ones_i64 (l : List Int) : ∀ x ∈ ones l, I64 x := fun x hx => by
  have : x = 1 := List.eq_of_mem_replicate hx
  subst this; exact I64.small (by omega) (by omega)

set_option maxHeartbeats 1000000 in
theorem ref_increasing_any (a : Option Addr) (n cap : Nat) (l : List Int) (w : World) (h : Ints w a n cap l) (hm : n ≤ 1024) :
    Calls Try.prog 15 #[.slice a n cap] w fun e w' => ∃ (a' : Option Addr) (q cap' : Nat), e = .returned (.tuple #[.slice a' q cap', .int .i64 0]) ∧ OwnI w' w.heap.size a' q cap' (lis l) ∧ Below w.heap.size w w' := by
  have H := Lib.hid h.len
  have h8 := h.bound
  obtain ⟨i0, hi, hz0, hz1, hz2⟩ := info_parts Try.infoInt
  go_enter Try.func15, Try.ntmps15
  go_wp2_with (at_make; refine wpList_make_full _ rfl _ _ 22 rfl w.heap.size 3 i0 (.int .i64 0) 1 Try.underlying22 hi hz0 hz1 .i64 .i64 n n n rfl rfl rfl rfl (by rw [hz2]; omega) (by unfold maxLen; omega) (Nat.le_refl _) ?_; intro w1 hrow hg)
  have h1 : Below w.heap.size w w1 := (Below.refl _ w).grown hg (Nat.le_refl _) (by simp)
  have hr1 : OwnI w1 w.heap.size (some ⟨w.heap.size, 0, none⟩) n n (List.replicate n 0) := OwnI.made (by simpa using hrow)
  clear hrow hg
  go_loopw [5] (fun i wr => ∃ (k : Nat) (L : List Int), k ≤ n ∧ i = .int .i64 k ∧ Hid (∀ j, j < k → L[j]?.getD 0 = 1) ∧ OwnI wr w.heap.size (some ⟨w.heap.size, 0, none⟩) n n L ∧ Below w.heap.size w wr) (fun i _ => n - (intOf i).toNat)
  case atStart => exact ⟨0, _, Nat.zero_le _, rfl, fun j hj => by omega, hr1, h1⟩
  case round =>
    clear hr1 h1 w1
    obtain ⟨k, L, hk, rfl, hL, ho, hB⟩ := hrel
    by_cases hlt : k < n
    · have c1 := ho.cell k hlt
      have f1 := ho.free k
      have hll := ho.len
      have HLL := Lib.hid hll
      clear hll
      go_wp2
      go_roundw
      case rel =>
        exact ⟨k + 1, L.set k 1, by omega, by go_num, fun j hj => by
          by_cases e : j = k
          · rw [e, List.getElem?_set_self (by rw [← HLL.out]; exact hlt)]; rfl
          · rw [List.getElem?_set_ne (fun x => e x.symm)]; exact hL.out j (by omega), ho.stored k 1, hB.setCell (Nat.le_refl _) _⟩
      case measure => simp [intOf]; omega
    · obtain rfl : k = n := by omega
      have hones : L = ones l := ones_of H.out ho.len.symm hL.out
      have HV : Ints wr (some ⟨w.heap.size, 0, none⟩) k k (ones l) := by
        have := ho.ints h8 (by rw [hones]; exact ones_i64 l)
        rwa [hones] at this
      have HLt : Hid (Light (ones l) k) := by rw [H.out]; exact ones_light l
      clear hones
      have hsz := hB.size
      go_wp2_with (go_at_call 47; refine (first_any a _ k cap k l (ones l) wr (h.below hB) HV hm HLt.out).mono ?_; rintro e w2 ⟨S, a', q, cap', rfl, hS, hO, hb⟩)
      go_ret2
      refine ⟨a', q, cap', rfl, ?_, hB.trans (hb.mono hsz)⟩
      rw [hS.unique (sums_spec l (ones l)), H.out] at hO
      exact hO.mono hsz
set_option maxHeartbeats 400000 in
theorem ref_increasing_long (a : Option Addr) (n cap : Nat) (w : World) (hm : 1024 < n) :
    Calls Try.prog 15 #[.slice a n cap] w fun e w' => e = .returned (.tuple #[.slice none 0 0, .int .i64 4]) ∧ w' = w := by
  go_enter Try.func15, Try.ntmps15
  go_wp2
  go_ret2
  exact ⟨rfl, rfl⟩

/-- The least number of moves, and the error. -/
def movesN (l : List Int) : Int := if permB l then (l.length : Int) - (lis l).length else 0
def movesE (l : List Int) : Int := if permB l then 0 else 8
theorem lis_le (l : List Int) : (lis l).length ≤ l.length := heavy_length _ _

set_option maxHeartbeats 400000 in
theorem moves_any (a : Option Addr) (n cap : Nat) (l : List Int) (w : World) (h : Ints w a n cap l) (hm : n ≤ 1024) :
    Calls Try.prog 21 #[.slice a n cap] w fun e w' => e = .returned (.tuple #[.int .i64 (movesN l), .int .i64 (movesE l)]) ∧ Below w.heap.size w w' := by
  have H := Lib.hid h.len
  have h8 := h.bound
  have hll := lis_le l
  have HLL := Lib.hid hll
  clear hll
  go_enter Try.func21, Try.ntmps21
  go_wp2_with fail
  refine (increasing_any a n cap l w h hm).mono ?_
  rintro e w1 ⟨a', q, cap', rfl, ho, hB⟩
  have hI := h.below hB
  have hql := ho.len
  have HQ := Lib.hid hql
  clear hql
  have hqn : q ≤ n := by rw [HQ.out, H.out]; exact HLL.out
  have hsz := hB.size
  cases hp : permB l with
  | true =>
    have P : ∀ w : World, Ints w a n cap l → Calls Try.prog 25 #[.slice a n cap] w fun e w' => e = .returned (.bool true) ∧ Below w.heap.size w w' := fun w hw => by rw [← hp]; exact permutation_any a n cap l w hw
    have HP := Lib.hid P
    have E1 : Hid (movesN l = (n : Int) - q) := by show movesN l = _; rw [movesN, hp, if_pos rfl, H.out, HQ.out]
    have E2 : Hid (movesE l = 0) := by show movesE l = _; rw [movesE, hp]; rfl
    clear P hp
    go_wp2_with (go_at_call 25; refine (HP.out w1 hI).mono ?_; rintro e w2 ⟨rfl, hb⟩)
    go_ret2
    exact ⟨by rw [E1.out, E2.out]; rfl, hB.trans (hb.mono hsz)⟩
  | false =>
    have P : ∀ w : World, Ints w a n cap l → Calls Try.prog 25 #[.slice a n cap] w fun e w' => e = .returned (.bool false) ∧ Below w.heap.size w w' := fun w hw => by rw [← hp]; exact permutation_any a n cap l w hw
    have HP := Lib.hid P
    have E1 : Hid (movesN l = 0) := by show movesN l = _; rw [movesN, hp]; rfl
    have E2 : Hid (movesE l = 8) := by show movesE l = _; rw [movesE, hp]; rfl
    clear P hp
    go_wp2_with (go_at_call 25; refine (HP.out w1 hI).mono ?_; rintro e w2 ⟨rfl, hb⟩)
    go_ret2
    exact ⟨by rw [E1.out, E2.out]; rfl, hB.trans (hb.mono hsz)⟩

set_option maxHeartbeats 400000 in
theorem ref_moves_any (a : Option Addr) (n cap : Nat) (l : List Int) (w : World) (h : Ints w a n cap l) (hm : n ≤ 1024) :
    Calls Try.prog 22 #[.slice a n cap] w fun e w' => e = .returned (.tuple #[.int .i64 (movesN l), .int .i64 (movesE l)]) ∧ Below w.heap.size w w' := by
  have H := Lib.hid h.len
  have h8 := h.bound
  have hll := lis_le l
  have HLL := Lib.hid hll
  clear hll
  go_enter Try.func22, Try.ntmps22
  cases hp : permB l with
  | true =>
    have P : ∀ w : World, Ints w a n cap l → Calls Try.prog 26 #[.slice a n cap] w fun e w' => e = .returned (.bool true) ∧ Below w.heap.size w w' := fun w hw => by rw [← hp]; exact ref_permutation_any a n cap l w hw
    have HP := Lib.hid P
    have E1 : Hid (movesN l = (n : Int) - (lis l).length) := by show movesN l = _; rw [movesN, hp, if_pos rfl, H.out]
    have E2 : Hid (movesE l = 0) := by show movesE l = _; rw [movesE, hp]; rfl
    clear P hp
    go_wp2_with fail
    refine (HP.out w h).mono ?_
    rintro e w2 ⟨rfl, hb⟩
    go_wp2_with fail
    refine (ref_increasing_any a n cap l w2 (h.below hb) hm).mono ?_
    rintro e w1 ⟨a', q, cap', rfl, ho, hB⟩
    have hql := ho.len
    have HQ := Lib.hid hql
    clear hql
    have hqn : q ≤ n := by rw [HQ.out, H.out]; exact HLL.out
    have hsz := hb.size
    go_wp2
    go_ret2
    exact ⟨by rw [E1.out, E2.out, ← HQ.out]; rfl, hb.trans (hB.mono hsz)⟩
  | false =>
    have P : ∀ w : World, Ints w a n cap l → Calls Try.prog 26 #[.slice a n cap] w fun e w' => e = .returned (.bool false) ∧ Below w.heap.size w w' := fun w hw => by rw [← hp]; exact ref_permutation_any a n cap l w hw
    have HP := Lib.hid P
    have E1 : Hid (movesN l = 0) := by show movesN l = _; rw [movesN, hp]; rfl
    have E2 : Hid (movesE l = 8) := by show movesE l = _; rw [movesE, hp]; rfl
    clear P hp
    go_wp2_with fail
    refine (HP.out w h).mono ?_
    rintro e w2 ⟨rfl, hb⟩
    go_wp2
    go_ret2
    exact ⟨by rw [E1.out, E2.out]; rfl, hb⟩
set_option maxHeartbeats 400000 in
theorem moves_long (a : Option Addr) (n cap : Nat) (w : World) (hm : 1024 < n) :
    Calls Try.prog 21 #[.slice a n cap] w fun e w' => e = .returned (.tuple #[.int .i64 0, .int .i64 4]) ∧ w' = w := by
  go_enter Try.func21, Try.ntmps21
  go_wp2_with (go_at_call 14; refine (increasing_long a n cap w hm).mono ?_; rintro e w1 ⟨rfl, rfl⟩)
  go_ret2
  exact ⟨rfl, rfl⟩
set_option maxHeartbeats 400000 in
theorem ref_moves_long (a : Option Addr) (n cap : Nat) (w : World) (hm : 1024 < n) :
    Calls Try.prog 22 #[.slice a n cap] w fun e w' => e = .returned (.tuple #[.int .i64 0, .int .i64 4]) ∧ w' = w := by
  go_enter Try.func22, Try.ntmps22
  go_wp2
  go_ret2
  exact ⟨rfl, rfl⟩
end Go.Proofs.Ytdkokpehcmcnpaa
