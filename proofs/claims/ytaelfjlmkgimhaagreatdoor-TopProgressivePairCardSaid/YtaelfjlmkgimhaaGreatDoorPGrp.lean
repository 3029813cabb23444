/- pairwise: the table; what stands at a place. -/
import Derived.Test.YtaelfjlmkgimhaaGreatDoorPPlc
set_option linter.unusedVariables false
set_option linter.unusedSimpArgs false
namespace Go.Proofs.YtaelfjlmkgimhaaGreatDoor
open Go.RowKit

set_option maxRecDepth 100000 in
set_option maxHeartbeats 1000000 in
theorem at_any (g N M i k ro : Nat) (z : Int) (w : World) (h1 : w.cell? ⟨g, i, none⟩ = some (.slice (some ⟨ro, 0, none⟩) M M)) (h2 : w.cell? ⟨ro, k, none⟩ = some (.int .i64 z)) (hi : i < N) (hk : k < M) :
    Calls Tryz.prog 30 #[.slice (some ⟨g, 0, none⟩) N N, .int .i64 (i : Int), .int .i64 (k : Int)] w fun e w' => e = .returned (.int .i64 z) ∧ w = w' := by
  go_enter Tryz.func30, Tryz.ntmps30
  go_wp2
  go_ret
  exact ⟨rfl, rfl⟩
/-- The least of numbers; of none, 0. -/
def minN : List Nat → Nat
  | [] => 0
  | x :: xs => xs.foldl min x
theorem minN_snoc {l : List Nat} (h : l ≠ []) (x : Nat) : minN (l ++ [x]) = min (minN l) x := by
  cases l with
  | nil => exact absurd rfl h
  | cons y ys => show (ys ++ [x]).foldl min y = _; rw [List.foldl_append]; rfl
theorem minN_one (x : Nat) : minN [x] = x := rfl
/-- What the moves cost, each with what stands behind it. -/
def mvC (T : Nat → Nat → Nat) (i k : Nat) (l : List Mv) : List Nat := l.map fun mv => mv.2.2 + T (i + mv.1) (k + mv.2.1)
def mvN (T : Nat → Nat → Nat) (i k : Nat) (l : List Mv) : Nat := minN (mvC T i k l)
theorem mvN_snoc {T : Nat → Nat → Nat} {i k : Nat} {l : List Mv} {x : Mv} (h : l ≠ []) : mvN T i k (l ++ [x]) = min (mvN T i k l) (x.2.2 + T (i + x.1) (k + x.2.1)) := by
  unfold mvN mvC
  rw [List.map_append, List.map_singleton, minN_snoc (by simpa using h)]
theorem mvN_one {T : Nat → Nat → Nat} {i k : Nat} {x : Mv} : mvN T i k [x] = x.2.2 + T (i + x.1) (k + x.2.1) := rfl
/-- The least cost of the rests. -/
def tabS (c : Cst) (l r : List Tok) (i k : Nat) : Nat := tab (pT c) (gT c) (gT c) l r i k
theorem mvN_tab {c : Cst} {l r : List Tok} {T : Nat → Nat → Nat} {i k : Nat} (hi : i ≤ l.length) (hk : k ≤ r.length)
    (h11 : i < l.length → k < r.length → T (i + 1) (k + 1) = tabS c l r (i + 1) (k + 1)) (h10 : i < l.length → T (i + 1) k = tabS c l r (i + 1) k) (h01 : k < r.length → T i (k + 1) = tabS c l r i (k + 1)) :
    mvN T i k (mvs c l[i]? r[k]?) = tabS c l r i k := by
  by_cases hil : i < l.length
  · obtain ⟨x, hx⟩ : ∃ x, l[i]? = some x := ⟨_, List.getElem?_eq_getElem hil⟩
    by_cases hkr : k < r.length
    · obtain ⟨y, hy⟩ : ∃ y, r[k]? = some y := ⟨_, List.getElem?_eq_getElem hkr⟩
      rw [hx, hy]
      have e := tab_11 (pT c) (gT c) (gT c) hx hy
      show min (min (pT c x y + T (i + 1) (k + 1)) (gT c x + T (i + 1) k)) (gT c y + T i (k + 1)) = _
      rw [h11 hil hkr, h10 hil, h01 hkr]
      unfold tabS
      omega
    · rw [hx, List.getElem?_eq_none (by omega)]
      have e := tab_10 (pT c) (gT c) (gT c) hx (b := r) (k := k) (by omega)
      show gT c x + T (i + 1) k = _
      rw [h10 hil]
      unfold tabS
      omega
  · by_cases hkr : k < r.length
    · obtain ⟨y, hy⟩ : ∃ y, r[k]? = some y := ⟨_, List.getElem?_eq_getElem hkr⟩
      rw [hy, List.getElem?_eq_none (by omega)]
      have e := tab_01 (pT c) (gT c) (gT c) (a := l) (i := i) (by omega) hy
      show gT c y + T i (k + 1) = _
      rw [h01 hkr]
      unfold tabS
      omega
    · rw [List.getElem?_eq_none (by omega), List.getElem?_eq_none (by omega)]
      exact (tab_00 (pT c) (gT c) (gT c) (by omega) (by omega)).symm
theorem mvs_bound {c : Cst} (hc : c.ok) (x y : Option Tok) : ∀ mv ∈ mvs c x y, mv.1 ≤ 1 ∧ mv.2.1 ≤ 1 ∧ mv.2.2 ≤ 1000 ∧ (mv.1 = 1 → x.isSome = true) ∧ (mv.2.1 = 1 → y.isSome = true) := by
  intro mv h
  cases x with
  | none =>
    cases y with
    | none => cases h
    | some y =>
      have := gT_le hc y
      simp only [mvs, List.mem_singleton] at h; subst h; simp; omega
  | some x =>
    have := gT_le hc x
    cases y with
    | none => simp only [mvs, List.mem_singleton] at h; subst h; simp; omega
    | some y =>
      have := gT_le hc y
      have := pT_le hc x y
      simp only [mvs, List.mem_cons, List.not_mem_nil, or_false] at h
      rcases h with rfl | rfl | rfl <;> simp <;> omega
theorem mvN_le {c : Cst} (hc : c.ok) {T : Nat → Nat → Nat} {B i k : Nat} (hT : ∀ i k, T i k ≤ B) (x y : Option Tok) : mvN T i k (mvs c x y) ≤ 1000 + B := by
  cases x with
  | none =>
    cases y with
    | none => exact Nat.zero_le _
    | some y => have := gT_le hc y; have := hT (i + 0) (k + 1); show gT c y + T (i + 0) (k + 1) ≤ _; omega
  | some x =>
    have h1 := gT_le hc x
    cases y with
    | none => have := hT (i + 1) (k + 0); show gT c x + T (i + 1) (k + 0) ≤ _; omega
    | some y =>
      have := hT (i + 1) (k + 0)
      show min (min (pT c x y + T (i + 1) (k + 1)) (gT c x + T (i + 1) (k + 0))) (gT c y + T (i + 0) (k + 1)) ≤ _
      omega
theorem own_same {W W' : World} {B b : Nat} {row : Option Nat} {cs : Array Value} {t : TypeId} {fr : Nat × Nat} (h : W.heap[b]? = some (.cells cs t fr)) (hg : W.grownBy W' row) (hr : ∀ r, row = some r → B ≤ r ∧ ∃ o : Obj, W.heap[r]? = some o ∧ o.isCells = false) : W'.heap[b]? = W.heap[b]? := (cells_own h hg hr).trans h.symm
theorem Tbl.own {W W' : World} {B B' g N M j : Nat} {rows : Nat → Nat} {T : Nat → Nat → Int} {row : Option Nat} (h : Tbl W B g N M j rows T) (hg : W.grownBy W' row) (hr : ∀ r, row = some r → B' ≤ r ∧ ∃ o : Obj, W.heap[r]? = some o ∧ o.isCells = false) : Tbl W' B g N M j rows T :=
  h.same (own_same h.outer hg hr) fun i hi => own_same (h.inner i hi) hg hr
end Go.Proofs.YtaelfjlmkgimhaaGreatDoor
