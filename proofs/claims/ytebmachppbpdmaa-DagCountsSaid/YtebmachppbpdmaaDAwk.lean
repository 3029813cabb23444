/- awake: the example of the chapter. -/
import Derived.Test.YtebmachppbpdmaaDSh
import Derived.Test.YtebmachppbpdmaaDFine
import Derived.Test.YtebmachppbpdmaaEqA
namespace Go.Proofs.Ytebmachppbpdmaa
open Go.RowKit

def awkL : List Lk := [(0, 1, 2), (0, 2, 5), (1, 2, 3), (2, 3, 1)]
theorem awk_p : pots awkL 4 3 = [6, 4, 1, 0] := by decide
theorem awk_c : cntN 4 awkL 0 3 = 2 := by decide
theorem awk_k : chk2 4 awkL 0 3 = 0 := by decide
theorem awk_k3 : chk2 4 awkL 3 3 = 0 := by decide
theorem awk_sc : shCost 4 awkL 0 3 = 6 := by decide
theorem awk_se : shErr 4 awkL 0 3 = 0 := by decide
theorem awk_sp : ShPath 4 awkL 0 3 [0, 2, 3] := by
  unfold ShPath
  rw [if_pos (by decide)]
  show GPath awkL (pots awkL 4 3) 3 0 [0, 2, 3]
  rw [awk_p]
  exact ⟨by decide, 0, rfl, ⟨by decide, by decide, by decide⟩, by decide, 2, rfl, ⟨by decide, by decide, by decide⟩, by decide, 3, rfl, ⟨by decide, by decide, by decide⟩, rfl⟩
theorem awk_links (w : World) : Links (w.alloc (.cells #[.int .i64 0, .int .i64 1, .int .i64 2, .int .i64 0, .int .i64 2, .int .i64 5, .int .i64 1, .int .i64 2, .int .i64 3, .int .i64 2, .int .i64 3, .int .i64 1] 36)) (some ⟨w.heap.size, 0, none⟩) 4 4 awkL := by
  refine ⟨rfl, by omega, by omega, ?_, fun j hj => ⟨w.heap.size, 0, rfl, ?_⟩⟩
  · intro x hx
    have : ∀ x ∈ awkL, (0 ≤ x.1 ∧ x.1 ≤ 10) ∧ (0 ≤ x.2.1 ∧ x.2.1 ≤ 10) ∧ 0 ≤ x.2.2 ∧ x.2.2 ≤ 10 := by decide
    have := this x hx
    exact ⟨I64.small (by omega) (by omega), I64.small (by omega) (by omega), I64.small (by omega) (by omega)⟩
  · have : j = 0 ∨ j = 1 ∨ j = 2 ∨ j = 3 := by omega
    rcases this with rfl | rfl | rfl | rfl <;> refine ⟨?_, ?_, ?_⟩ <;> (rw [World.cell?_alloc_at _ _ _ _ rfl]; rfl)
theorem lit_ints (w : World) (xs : List Int) (n : Nat) (hn : n = xs.length) (h8 : n * 8 ≤ 140737488355328) (hx : ∀ x ∈ xs, 0 ≤ x ∧ x ≤ 1000) : Ints (w.alloc (.cells (xs.map (Value.int .i64)).toArray 3)) (some ⟨w.heap.size, 0, none⟩) n n xs := by
  have ho : OwnI (w.alloc (.cells (xs.map (Value.int .i64)).toArray 3)) 0 (some ⟨w.heap.size, 0, none⟩) n n xs :=
    ⟨hn, by have := World.ownsRow_lit (base := 0) (e := 3) (size := 1) w (xs.map (Value.int .i64)).toArray n (Nat.zero_le _) (by unfold maxLen; omega) (by simp [hn]); simpa using this⟩
  exact ho.ints h8 (fun x h => I64.small (by have := hx x h; omega) (by have := hx x h; omega))
set_option maxHeartbeats 1000000 in
theorem awake_any (w : World) : Calls Try.prog 12 #[] w fun e w' => e = .returned (.bool true) ∧ Below w.heap.size w w' := by
  go_enter Try.func12, Try.ntmps12
  go_wp2_with fail
  have h1 := awk_links w
  have b1 : Below w.heap.size w (w.alloc (.cells #[.int .i64 0, .int .i64 1, .int .i64 2, .int .i64 0, .int .i64 2, .int .i64 5, .int .i64 1, .int .i64 2, .int .i64 3, .int .i64 2, .int .i64 3, .int .i64 1] 36)) := (Below.refl _ w).alloc (Nat.le_refl _) _
  generalize w.alloc (.cells #[.int .i64 0, .int .i64 1, .int .i64 2, .int .i64 0, .int .i64 2, .int .i64 5, .int .i64 1, .int .i64 2, .int .i64 3, .int .i64 2, .int .i64 3, .int .i64 1] 36) = w1 at *
  have b1s := b1.size
  refine (shortest_any 4 _ 4 4 0 3 awkL w1 h1 (I64.small (by omega) (by omega)) (I64.small (by omega) (by omega))).mono ?_
  rintro e w2 ⟨a2, q2, c2, r, rfl, i2, sp, b2⟩
  obtain rfl := sp.unique awk_sp
  rw [awk_sc, awk_se]
  have h2 := h1.below b2
  clear sp
  go_wp2_with fail
  refine (potentials_any 4 _ 4 4 3 awkL w2 h2 (I64.small (by omega) (by omega))).mono ?_
  rintro e w3 ⟨a3, q3, c3, rfl, i3, b3⟩
  rw [awk_k3]
  rw [awk_k3, if_pos rfl, show (4 : Int).toNat = 4 from rfl, show (3 : Int).toNat = 3 from rfl, awk_p] at i3
  have h3 := h2.below b3
  go_wp2_with fail
  refine (count_any 4 _ 4 4 0 3 awkL w3 h3 (I64.small (by omega) (by omega)) (I64.small (by omega) (by omega))).mono ?_
  rintro e w4 ⟨rfl, b4⟩
  rw [awk_k, awk_c]
  have i2' := (i2.below b3).below b4
  have i3' := i3.below b4
  have bw : Below w.heap.size w w4 := b1.trans ((b2.trans ((b3.trans (b4.mono b3.size)).mono b2.size)).mono b1s)
  clear h1 h2 h3 b1 b2 b3 b4 i2 i3
  go_wp2_with fail
  have l1 : Ints (w4.alloc (.cells #[.int .i64 0, .int .i64 2, .int .i64 3] 3)) (some ⟨w4.heap.size, 0, none⟩) 3 3 [0, 2, 3] := lit_ints w4 [0, 2, 3] 3 rfl (by omega) (by decide)
  have bl : Below w4.heap.size w4 (w4.alloc (.cells #[.int .i64 0, .int .i64 2, .int .i64 3] 3)) := (Below.refl _ w4).alloc (Nat.le_refl _) _
  refine (equal_any _ _ _ _ _ _ _ _ _ (i2'.below bl) l1).mono ?_
  rintro e w5 ⟨rfl, q5⟩
  have i3b := (i3'.below bl).drews q5
  have bw5 : Below w.heap.size w w5 := bw.trans ((bl.mono bw.size).trans (q5.below _))
  clear l1 bl i2' i3' bw q5
  rw [show decide (([0, 2, 3] : List Int) = [0, 2, 3]) = true from by decide]
  go_wp2_with fail
  have l1 : Ints (w5.alloc (.cells #[.int .i64 6, .int .i64 4, .int .i64 1, .int .i64 0] 3)) (some ⟨w5.heap.size, 0, none⟩) 4 4 [6, 4, 1, 0] := lit_ints w5 [6, 4, 1, 0] 4 rfl (by omega) (by decide)
  have bl : Below w5.heap.size w5 (w5.alloc (.cells #[.int .i64 6, .int .i64 4, .int .i64 1, .int .i64 0] 3)) := (Below.refl _ w5).alloc (Nat.le_refl _) _
  refine (equal_any _ _ _ _ _ _ _ _ _ (i3b.below bl) l1).mono ?_
  rintro e w6 ⟨rfl, q6⟩
  have bw6 : Below w.heap.size w w6 := bw5.trans ((bl.mono bw5.size).trans (q6.below _))
  clear l1 bl i3b bw5 q6
  rw [show decide (([6, 4, 1, 0] : List Int) = [6, 4, 1, 0]) = true from by decide]
  go_wp2
  go_ret
  exact ⟨rfl, bw6⟩
end Go.Proofs.Ytebmachppbpdmaa
