/- awake: the examples of the chapter. -/
import Derived.Test.YtdkokpehcmcnpaaWIncr
import Derived.Test.YtdkokpehcmcnpaaWCover
import Derived.Test.YtdkokpehcmcnpaaWRuns
import Derived.Test.YtdkokpehcmcnpaaWInv
import Derived.Test.YtdkokpehcmcnpaaWEq
namespace Go.Proofs.Ytdkokpehcmcnpaa
open Go.RowKit

theorem run_max4_zero (P : Program) (ts : Array TypeId) (t : TypeId) (w : World) : (Builtin.max_ ts t #[.int .i64 0, .int .i64 0, .int .i64 0, .int .i64 0]).run P w = .ok (.int .i64 0) w := by
  simp [Builtin.max_, Builtin.max2]
attribute [local go_sem] run_max4_zero

theorem lit_ints (w : World) (xs : List Int) (n : Nat) (hn : n = xs.length) (h8 : n * 8 ≤ 140737488355328) (hx : ∀ x ∈ xs, I64 x) : Ints (w.alloc (.cells (xs.map (Value.int .i64)).toArray 3)) (some ⟨w.heap.size, 0, none⟩) n n xs := by
  have ho : OwnI (w.alloc (.cells (xs.map (Value.int .i64)).toArray 3)) 0 (some ⟨w.heap.size, 0, none⟩) n n xs :=
    ⟨hn, by have := World.ownsRow_lit (base := 0) (e := 3) (size := 1) w (xs.map (Value.int .i64)).toArray n (Nat.zero_le _) (by unfold maxLen; omega) (by simp [hn]); simpa using this⟩
  exact ho.ints h8 hx
theorem small_i64 {xs : List Int} (h : ∀ x ∈ xs, 0 ≤ x ∧ x ≤ 1000) : ∀ x ∈ xs, I64 x := fun x hx => I64.small (by have := h x hx; omega) (by have := h x hx; omega)
/-- A literal of slices that are there. -/
theorem lit_intss (w : World) (rs : List (Option Addr × Nat × Nat)) (ll : List (List Int)) (n : Nat) (hn : n = rs.length) (hl : n = ll.length) (h8 : n * 24 ≤ 140737488355328)
    (h : ∀ (j : Nat) (r : Option Addr × Nat × Nat), rs[j]? = some r → Ints w r.1 r.2.1 r.2.2 (ll[j]?.getD [])) :
    Intss (w.alloc (.cells (rs.map (fun r => Value.slice r.1 r.2.1 r.2.2)).toArray 22)) (some ⟨w.heap.size, 0, none⟩) n n ll := by
  refine ⟨hl, Nat.le_refl _, h8, fun j hj => ?_⟩
  obtain ⟨r, hr⟩ : ∃ r, rs[j]? = some r := ⟨_, List.getElem?_eq_getElem (by omega)⟩
  refine ⟨w.heap.size, 0, r.1, r.2.1, r.2.2, rfl, ?_, (h j r hr).alloc _⟩
  rw [Nat.zero_add, World.cell?_alloc_at _ _ _ _ rfl]
  simp [hr]

theorem two_i64 {x y : Int} (hx : 0 ≤ x ∧ x ≤ 1000) (hy : 0 ≤ y ∧ y ≤ 1000) : ∀ z ∈ [x, y], I64 z := small_i64 (by simp; omega)
theorem lit_two (w : World) (x y z u v : Int) (hx : 0 ≤ x ∧ x ≤ 1000) (hy : 0 ≤ y ∧ y ≤ 1000) (hz : 0 ≤ z ∧ z ≤ 1000) (hu : 0 ≤ u ∧ u ≤ 1000) (hv : 0 ≤ v ∧ v ≤ 1000) :
    Intss ((((w.alloc (.cells #[.int .i64 x, .int .i64 y] 3)).alloc (.cells #[.int .i64 z] 3)).alloc (.cells #[.int .i64 u, .int .i64 v] 3)).alloc
      (.cells #[.slice (some ⟨w.heap.size, 0, none⟩) 2 2, .slice (some ⟨w.heap.size + 1, 0, none⟩) 1 1, .slice (some ⟨w.heap.size + 1 + 1, 0, none⟩) 2 2] 22)) (some ⟨w.heap.size + 1 + 1 + 1, 0, none⟩) 3 3 [[x, y], [z], [u, v]] := by
  have h1 := ((lit_ints w [x, y] 2 rfl (by omega) (two_i64 hx hy)).alloc (.cells #[.int .i64 z] 3)).alloc (.cells #[.int .i64 u, .int .i64 v] 3)
  have h2 := (lit_ints (w.alloc (.cells #[.int .i64 x, .int .i64 y] 3)) [z] 1 rfl (by omega) (small_i64 (by simp; omega))).alloc (.cells #[.int .i64 u, .int .i64 v] 3)
  have h3 := lit_ints ((w.alloc (.cells #[.int .i64 x, .int .i64 y] 3)).alloc (.cells #[.int .i64 z] 3)) [u, v] 2 rfl (by omega) (two_i64 hu hv)
  simp only [World.size_alloc] at h2 h3
  have := lit_intss (((w.alloc (.cells #[.int .i64 x, .int .i64 y] 3)).alloc (.cells #[.int .i64 z] 3)).alloc (.cells #[.int .i64 u, .int .i64 v] 3)) [(some ⟨w.heap.size, 0, none⟩, 2, 2), (some ⟨w.heap.size + 1, 0, none⟩, 1, 1), (some ⟨w.heap.size + 1 + 1, 0, none⟩, 2, 2)] [[x, y], [z], [u, v]] 3 rfl rfl (by omega)
    (fun j r hr => by
      match j, hr with
      | 0, hr => cases hr; exact h1
      | 1, hr => cases hr; exact h2
      | 2, hr => cases hr; exact h3)
  simpa using this
theorem lit_two' (w : World) (x y u v : Int) (hx : 0 ≤ x ∧ x ≤ 1000) (hy : 0 ≤ y ∧ y ≤ 1000) (hu : 0 ≤ u ∧ u ≤ 1000) (hv : 0 ≤ v ∧ v ≤ 1000) :
    Intss (((w.alloc (.cells #[.int .i64 x, .int .i64 y] 3)).alloc (.cells #[.int .i64 u, .int .i64 v] 3)).alloc
      (.cells #[.slice (some ⟨w.heap.size, 0, none⟩) 2 2, .slice (some ⟨w.heap.size + 1, 0, none⟩) 2 2] 22)) (some ⟨w.heap.size + 1 + 1, 0, none⟩) 2 2 [[x, y], [u, v]] := by
  have h1 := (lit_ints w [x, y] 2 rfl (by omega) (two_i64 hx hy)).alloc (.cells #[.int .i64 u, .int .i64 v] 3)
  have h3 := lit_ints (w.alloc (.cells #[.int .i64 x, .int .i64 y] 3)) [u, v] 2 rfl (by omega) (two_i64 hu hv)
  simp only [World.size_alloc] at h3
  have := lit_intss ((w.alloc (.cells #[.int .i64 x, .int .i64 y] 3)).alloc (.cells #[.int .i64 u, .int .i64 v] 3)) [(some ⟨w.heap.size, 0, none⟩, 2, 2), (some ⟨w.heap.size + 1, 0, none⟩, 2, 2)] [[x, y], [u, v]] 2 rfl rfl (by omega)
    (fun j r hr => by
      match j, hr with
      | 0, hr => cases hr; exact h1
      | 1, hr => cases hr; exact h3)
  simpa using this
theorem awk_l : lis [3, 1, 2, 5, 4] = [1, 2, 3] := by decide
theorem awk_c : cover [3, 1, 2, 5, 4] 5 = [[0, 1], [2], [3, 4]] := by decide
theorem awk_r : runsL [3, 4, 5, 9, 10] = [[0, 3], [3, 2]] := by decide
theorem awk_i : inv [3, 1, 2, 5, 4] 5 = 3 := by decide
theorem small_rows {ll : List (List Int)} (h : ∀ s ∈ ll, s.length ≤ 1000 ∧ ∀ x ∈ s, 0 ≤ x ∧ x ≤ 1000) : ∀ s ∈ ll, s.length * 8 ≤ 140737488355328 ∧ ∀ x ∈ s, I64 x := fun s hs => ⟨by have := (h s hs).1; omega, small_i64 (h s hs).2⟩
set_option maxHeartbeats 1000000 in
theorem awake_any (w : World) : Calls Try.prog 11 #[] w fun e w' => e = .returned (.bool true) ∧ Below w.heap.size w w' := by
  have s1 : ∀ x ∈ ([3, 1, 2, 5, 4] : List Int), I64 x := small_i64 (by decide)
  have s2 : ∀ x ∈ ([3, 4, 5, 9, 10] : List Int), I64 x := small_i64 (by decide)
  go_enter Try.func11, Try.ntmps11
  go_wp2_with fail
  have B0 := (Below.refl w.heap.size w).alloc (Nat.le_refl _) (.cells #[.int .i64 3, .int .i64 1, .int .i64 2, .int .i64 5, .int .i64 4] 3)
  refine (increasing_any (some ⟨w.heap.size, 0, none⟩) 5 5 [3, 1, 2, 5, 4] _ (lit_ints w [3, 1, 2, 5, 4] 5 rfl (by omega) s1) (by omega)).mono ?_
  rintro e w1 ⟨a1, q1, c1, rfl, o1, b1⟩
  go_wp2_with fail
  refine (cover_any (some ⟨w1.heap.size, 0, none⟩) 5 5 [3, 1, 2, 5, 4] _ (lit_ints w1 [3, 1, 2, 5, 4] 5 rfl (by omega) s1) (by omega)).mono ?_
  rintro e w2 ⟨a2, q2, c2, rfl, o2, b2⟩
  go_wp2_with fail
  refine (inversions_any (some ⟨w2.heap.size, 0, none⟩) 5 5 [3, 1, 2, 5, 4] _ (lit_ints w2 [3, 1, 2, 5, 4] 5 rfl (by omega) s1) (by omega)).mono ?_
  rintro e w3 ⟨rfl, b3⟩
  go_wp2_with fail
  refine (runs_any (some ⟨w3.heap.size, 0, none⟩) 5 5 [3, 4, 5, 9, 10] _ (lit_ints w3 [3, 4, 5, 9, 10] 5 rfl (by omega) s2) (by omega)).mono ?_
  rintro e w4 ⟨a4, q4, c4, rfl, o4, b4⟩
  have i1 := (((((o1.ints (by have := o1.len; have := heavy_length [3, 1, 2, 5, 4] (ones [3, 1, 2, 5, 4]); simp at this; have h' : q1 = (heavy [3, 1, 2, 5, 4] (ones [3, 1, 2, 5, 4])).length := o1.len; omega) (heavy_i64 _ _ (by decide))).alloc _).below b2).alloc _).drews b3).alloc _ |>.below b4
  have i2 := (((o2.intss (by rw [o2.len, awk_c]; decide) (by rw [awk_c]; exact small_rows (by decide))).alloc _).drews b3).alloc _ |>.below b4
  have i4 := o4.intss (by rw [o4.len, awk_r]; decide) (by rw [awk_r]; exact small_rows (by decide))
  rw [awk_l] at i1
  rw [awk_c] at i2
  rw [awk_r] at i4
  go_wp2_with fail
  refine (equal_any a1 _ q1 c1 3 3 _ [1, 2, 3] _ (i1.alloc _) (lit_ints w4 [1, 2, 3] 3 rfl (by omega) (small_i64 (by decide)))).mono ?_
  rintro e w5 ⟨rfl, b5⟩
  have B5 : Below w.heap.size w w5 := (((((((((B0.trans (b1.mono (by simp))).alloc (by have := b1.size; simp at this; omega) _)).trans (b2.mono (by have := b1.size; simp at this ⊢; omega))).alloc (by have := b1.size; have := b2.size; simp at *; omega) _).trans (b3.below _)).alloc (by have := b1.size; have := b2.size; have := (b3.below 0).size; simp at *; omega) _).trans (b4.mono (by have := b1.size; have := b2.size; have := (b3.below 0).size; simp at *; omega))).alloc (by have := b1.size; have := b2.size; have := (b3.below 0).size; have := b4.size; simp at *; omega) _).trans (b5.below _)
  have hs5 := B5.size
  have j2 := (i2.alloc _).drews b5
  have j4 := (i4.alloc _).drews b5
  clear i1 i2 i4 b1 b2 b3 b4 b5 o1 o2 o4 B0
  go_wp2_with fail
  have L1 := lit_two w5 0 1 2 3 4 (by omega) (by omega) (by omega) (by omega) (by omega)
  refine (samelists_any a2 _ q2 c2 3 3 _ [[0, 1], [2], [3, 4]] _ ((((j2.alloc _).alloc _).alloc _).alloc _) L1).mono ?_
  rintro e w6 ⟨rfl, b6⟩
  have hi : ((inv [3, 1, 2, 5, 4] 5 : Nat) : Int) = 3 := by rw [awk_i]; rfl
  have k4 := ((((j4.alloc _).alloc _).alloc _).alloc _).drews b6
  rw [hi]
  clear hi
  go_wp2_with fail
  have L2 := lit_two' w6 0 3 3 2 (by omega) (by omega) (by omega) (by omega)
  refine (samelists_any a4 _ q4 c4 2 2 _ [[0, 3], [3, 2]] _ (((k4.alloc _).alloc _).alloc _) L2).mono ?_
  rintro e w7 ⟨rfl, b7⟩
  go_wp2_with fail
  go_ret
  refine ⟨rfl, ?_⟩
  have b6s := (b6.below 0).size
  have e6 : Below w.heap.size w w6 := ((((B5.alloc hs5 _).alloc (by simp; omega) _).alloc (by simp; omega) _).alloc (by simp; omega) _).trans (b6.below _)
  exact (((e6.alloc e6.size _).alloc (by have := e6.size; simp; omega) _).alloc (by have := e6.size; simp; omega) _).trans (b7.below _)
end Go.Proofs.Ytdkokpehcmcnpaa
