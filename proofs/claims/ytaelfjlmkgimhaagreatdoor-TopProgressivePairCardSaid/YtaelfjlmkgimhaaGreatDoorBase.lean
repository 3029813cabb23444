/- What slices of ints and slices of these read as in a world, and how such readings are carried to later worlds. -/
import Derived.Test.YtaelfjlmkgimhaaGreatDoorRows
import Derived.WalkKit
import Derived.WalkSpells
import Derived.WalkLawsBesides
import Derived.Deep.QuietTactic
import Derived.BigQuiet
import Derived.Lib.Hide
import Derived.OneCell
set_option linter.unusedVariables false
set_option linter.unusedSimpArgs false
namespace Go.Proofs.YtaelfjlmkgimhaaGreatDoor
open Go.RowKit

theorem Tryz.infoInt : (Tryz.prog.info? 3).map (fun i => (i.zero, i.size, i.bytes)) = some (some (.int .i64 0), 1, 8) := by kernel_rfl

/-- The number fits an int. -/
def I64 (x : Int) : Prop := -9223372036854775808 ≤ x ∧ x ≤ 9223372036854775807

theorem I64.wf {x : Int} (h : I64 x) : (Lit.int .i64 x).wf = true := WalkArith.wf_i64 h
theorem I64.of_wf {x : Int} (h : (Lit.int .i64 x).wf = true) : I64 x := by
  simp [Lit.wf, IntKind.min, IntKind.max, IntKind.signed, IntKind.bits] at h
  exact ⟨by omega, by omega⟩
theorem I64.zero : I64 0 := ⟨by decide, by decide⟩
theorem I64.small {x : Int} (h0 : -1073741824 ≤ x) (h1 : x ≤ 1099511627776) : I64 x := ⟨by omega, by omega⟩

/-- The slice value 'a n cap' reads as the list l of ints. -/
def Ints (w : World) (a : Option Addr) (n cap : Nat) (l : List Int) : Prop :=
  n = l.length ∧ n ≤ cap ∧ n * 8 ≤ 140737488355328 ∧ (∀ x ∈ l, I64 x) ∧
    ∀ j, j < n → ∃ b off, a = some ⟨b, off, none⟩ ∧ w.cell? ⟨b, off + j, none⟩ = some (.int .i64 (l[j]?.getD 0))

namespace Ints
variable {w w' : World} {a : Option Addr} {n cap : Nat} {l : List Int}
theorem len (h : Ints w a n cap l) : n = l.length := h.1
theorem le (h : Ints w a n cap l) : n ≤ cap := h.2.1
theorem bound (h : Ints w a n cap l) : n * 8 ≤ 140737488355328 := h.2.2.1
theorem i64 (h : Ints w a n cap l) (j : Nat) : I64 (l[j]?.getD 0) := by
  by_cases hj : j < l.length
  · rw [List.getElem?_eq_getElem hj]; exact h.2.2.2.1 _ (List.getElem_mem hj)
  · rw [List.getElem?_eq_none (by omega)]; exact I64.zero
theorem at_ (h : Ints w a n cap l) (hn : 0 < n) : ∃ b off, a = some ⟨b, off, none⟩ ∧ b < w.heap.size ∧ Hid (∀ j, j < n → w.cell? ⟨b, off + j, none⟩ = some (.int .i64 (l[j]?.getD 0))) := by
  obtain ⟨b, off, e, hc⟩ := h.2.2.2.2 0 hn
  refine ⟨b, off, e, World.block_lt_of_cell? _ _ hc, fun j hj => ?_⟩
  obtain ⟨b', off', e', hc'⟩ := h.2.2.2.2 j hj
  rw [e] at e'; cases e'
  exact hc'
theorem below (h : Ints w a n cap l) (hb : Below w.heap.size w w') : Ints w' a n cap l := by
  obtain ⟨h1, h2, h3, h4, h5⟩ := h
  refine ⟨h1, h2, h3, h4, fun j hj => ?_⟩
  obtain ⟨b, off, e, hc⟩ := h5 j hj
  exact ⟨b, off, e, cell_later hb hc⟩
theorem kept {row : Option Nat} (h : Ints w a n cap l) (hg : w.grownBy w' row) (hr : n = 0 ∨ ∀ x, a = some x → some x.block ≠ row) : Ints w' a n cap l := by
  obtain ⟨h1, h2, h3, h4, h5⟩ := h
  refine ⟨h1, h2, h3, h4, fun j hj => ?_⟩
  obtain ⟨b, off, e, hc⟩ := h5 j hj
  exact ⟨b, off, e, hg.cell hc (by exact (hr.resolve_left (by omega)) ⟨b, off, none⟩ e)⟩
theorem drewN (h : Ints w a n cap l) (q : Nat) : Ints (w.drewN q) a n cap l := h.below (below_drewN (Below.refl _ _) q)
theorem drew (h : Ints w a n cap l) : Ints w.drew a n cap l := h.below (Below.refl _ _).drew
theorem nil (w : World) : Ints w none 0 0 [] := ⟨rfl, Nat.le_refl _, by omega, by simp, fun j hj => by omega⟩
theorem alloc (h : Ints w a n cap l) (o : Obj) : Ints (w.alloc o) a n cap l := h.below ((Below.refl _ _).alloc (Nat.le_refl _) _)
end Ints

/-- The slice value 'a n cap' reads as a list of lists of ints. -/
def Intss (w : World) (a : Option Addr) (n cap : Nat) (ll : List (List Int)) : Prop :=
  n = ll.length ∧ n ≤ cap ∧ n * 24 ≤ 140737488355328 ∧
    ∀ j, j < n → ∃ b off a' n' c', a = some ⟨b, off, none⟩ ∧ w.cell? ⟨b, off + j, none⟩ = some (.slice a' n' c') ∧ Ints w a' n' c' (ll[j]?.getD [])

namespace Intss
variable {w w' : World} {a : Option Addr} {n cap : Nat} {l : List (List Int)}
theorem len (h : Intss w a n cap l) : n = l.length := h.1
theorem le (h : Intss w a n cap l) : n ≤ cap := h.2.1
theorem bound (h : Intss w a n cap l) : n * 24 ≤ 140737488355328 := h.2.2.1
theorem at_ (h : Intss w a n cap l) (hn : 0 < n) : ∃ b off, a = some ⟨b, off, none⟩ ∧ b < w.heap.size ∧ Hid (∀ j, j < n → ∃ a' n' c', w.cell? ⟨b, off + j, none⟩ = some (.slice a' n' c') ∧ Ints w a' n' c' (l[j]?.getD [])) := by
  obtain ⟨b, off, _, _, _, e, hc, _⟩ := h.2.2.2 0 hn
  refine ⟨b, off, e, World.block_lt_of_cell? _ _ hc, fun j hj => ?_⟩
  obtain ⟨b', off', a', n', c', e', hc', hi⟩ := h.2.2.2 j hj
  rw [e] at e'; cases e'
  exact ⟨_, _, _, hc', hi⟩
theorem below (h : Intss w a n cap l) (hb : Below w.heap.size w w') : Intss w' a n cap l := by
  obtain ⟨h1, h2, h3, h5⟩ := h
  refine ⟨h1, h2, h3, fun j hj => ?_⟩
  obtain ⟨b, off, a', n', c', e, hc, hi⟩ := h5 j hj
  exact ⟨b, off, a', n', c', e, cell_later hb hc, hi.below hb⟩
theorem drewN (h : Intss w a n cap l) (q : Nat) : Intss (w.drewN q) a n cap l := h.below (below_drewN (Below.refl _ _) q)
theorem drew (h : Intss w a n cap l) : Intss w.drew a n cap l := h.below (Below.refl _ _).drew
theorem alloc (h : Intss w a n cap l) (o : Obj) : Intss (w.alloc o) a n cap l := h.below ((Below.refl _ _).alloc (Nat.le_refl _) _)
theorem nil (w : World) : Intss w none 0 0 [] := ⟨rfl, Nat.le_refl _, by omega, fun j hj => by omega⟩
end Intss

theorem go_max (a b : Int) : (if a < b then b else a) = max a b := by
  rw [Int.max_def]; split <;> split <;> omega
theorem drewN_below (w : World) (q : Nat) (B : Nat) : Below B w (w.drewN q) := below_drewN (Below.refl _ _) q

/-- w' is w after some draws. -/
def Drew (w w' : World) : Prop := ∃ q, w' = w.drewN q
namespace Drew
theorem refl (w : World) : Drew w w := ⟨0, rfl⟩
theorem drewN {w w' : World} (h : Drew w w') (n : Nat) : Drew w (w'.drewN n) := by
  obtain ⟨q, rfl⟩ := h; exact ⟨q + n, World.drewN_drewN _ _ _⟩
theorem drew {w w' : World} (h : Drew w w') : Drew w w'.drew := h.drewN 1
theorem trans {a b c : World} (h : Drew a b) (k : Drew b c) : Drew a c := by
  obtain ⟨q, rfl⟩ := k; exact h.drewN q
theorem below {w w' : World} (h : Drew w w') (B : Nat) : Below B w w' := by
  obtain ⟨q, rfl⟩ := h; exact drewN_below _ _ _
theorem free {w w' : World} (h : Drew w w') {a : Addr} (hf : w.frozen? a = false) : w'.frozen? a = false := by
  obtain ⟨q, rfl⟩ := h; exact hf
theorem quiet {P : Program} {f : FuncId} {args : Array Value} {w : World} {n : Nat} {v : Value}
    (h : Calls P f args (w.drewN n) fun e w' => e = .returned v ∧ Drew (w.drewN n) w') : Calls P f args (w.drewN n) fun e w'' => e = .returned v ∧ ∃ m, w'' = w.drewN m :=
  Calls.quiet_of (h.mono fun _ _ ⟨he, hd⟩ => ⟨he, hd⟩)
end Drew
theorem Ints.drews {w w' : World} {a : Option Addr} {n cap : Nat} {l : List Int} (h : Ints w a n cap l) (hd : Drew w w') : Ints w' a n cap l := h.below (hd.below _)
theorem Intss.drews {w w' : World} {a : Option Addr} {n cap : Nat} {l : List (List Int)} (h : Intss w a n cap l) (hd : Drew w w') : Intss w' a n cap l := h.below (hd.below _)

/-- The slice value 'a n cap' is the call's own (its block is B or behind it), and reads as l. -/
def OwnI (w : World) (B : Nat) (a : Option Addr) (n cap : Nat) (l : List Int) : Prop :=
  n = l.length ∧ w.ownsRow B 3 1 (.slice a n cap) n (l.map (Value.int .i64))

theorem cell_row {w : World} {g j : Nat} {cur : Array Value} {e : TypeId} {fr : Nat × Nat} (h : w.heap[g]? = some (.cells cur e fr)) : w.cell? ⟨g, j, none⟩ = cur[j]? := by
  simp [World.cell?, h]

theorem ownsRow_below {w w' : World} {B : Nat} {e : TypeId} {size : Nat} {v : Value} {n : Nat} {xs : List Value} (h : w.ownsRow B e size v n xs) (hb : Below w.heap.size w w') : w'.ownsRow B e size v n xs := by
  refine ⟨h.1, ?_⟩
  rcases h.2 with h0 | ⟨g, cap', cur, hv, hB, hg, hrest⟩
  · exact .inl h0
  · exact .inr ⟨g, cap', cur, hv, hB, by rw [hb.block g (Array.getElem?_eq_some_iff.1 hg).1]; exact hg, hrest⟩

theorem own_shape {w : World} {B : Nat} {e : TypeId} {size : Nat} {v : Value} {n : Nat} {xs : List Value} (h : w.ownsRow B e size v (n + 1) xs) : ∃ a c, v = .slice a (n + 1) c := by
  rcases h.2 with ⟨rfl, h0⟩ | ⟨g, c', cur, rfl, _⟩
  · omega
  · exact ⟨_, _, rfl⟩
theorem below_keeps {w w' : World} {B g : Nat} (h : Below B w w') (hg : g < B) (j : Nat) : w'.frozen? ⟨g, j, none⟩ = w.frozen? ⟨g, j, none⟩ := h.frozen (p := ⟨g, j, none⟩) hg

namespace OwnI
variable {w w' : World} {B g : Nat} {a : Option Addr} {n cap : Nat} {l : List Int}
theorem nil (w : World) (B : Nat) : OwnI w B none 0 0 [] := ⟨rfl, World.ownsRow_nil _ _ _ _⟩
theorem len (h : OwnI w B a n cap l) : n = l.length := h.1
theorem at_ (h : OwnI w B a n cap l) (hn : 0 < n) : ∃ g, a = some ⟨g, 0, none⟩ ∧ B ≤ g ∧ g < w.heap.size ∧ n ≤ cap ∧ w.frozen? ⟨g, 0, none⟩ = false ∧ Hid (∀ j, j < n → w.cell? ⟨g, j, none⟩ = some (.int .i64 (l[j]?.getD 0))) := by
  obtain ⟨h1, h2, h3⟩ := h
  rcases h3 with ⟨_, h0⟩ | ⟨g, cap', cur, hv, hb, hg, hc, hm, hs, ht⟩
  · omega
  · cases hv
    refine ⟨g, rfl, hb, (Array.getElem?_eq_some_iff.1 hg).1, hc, by simp [World.frozen?, hg], fun j hj => ?_⟩
    rw [cell_row hg]
    have : (cur.toList.take (n * 1))[j]? = (l.map (Value.int .i64))[j]? := by rw [ht]
    rw [List.getElem?_take] at this
    simp only [Nat.mul_one, hj, if_true, Array.getElem?_toList] at this
    rw [this]
    simp [List.getElem?_eq_getElem (show j < l.length by omega)]
theorem cap_le (h : OwnI w B a n cap l) : n ≤ cap := by
  rcases h.2.2 with ⟨hv, h0⟩ | ⟨g, cap', cur, hv, hb, hg, hc, _⟩
  · omega
  · cases hv; exact hc
theorem ints (h : OwnI w B a n cap l) (hn : n * 8 ≤ 140737488355328) (hl : ∀ x ∈ l, I64 x) : Ints w a n cap l := by
  refine ⟨h.1, h.cap_le, hn, hl, fun j hj => ?_⟩
  obtain ⟨g, rfl, _, _, _, _, hc⟩ := h.at_ (by omega)
  exact ⟨g, 0, rfl, by rw [Nat.zero_add]; exact hc.out j hj⟩
theorem below (h : OwnI w B a n cap l) (hb : Below w.heap.size w w') : OwnI w' B a n cap l := by
  refine ⟨h.1, h.2.1, ?_⟩
  rcases h.2.2 with h0 | ⟨g, cap', cur, hv, hB, hg, hrest⟩
  · exact .inl h0
  · exact .inr ⟨g, cap', cur, hv, hB, by rw [hb.block g (Array.getElem?_eq_some_iff.1 hg).1]; exact hg, hrest⟩
theorem alloc (h : OwnI w B a n cap l) (o : Obj) : OwnI (w.alloc o) B a n cap l := h.below ((Below.refl _ _).alloc (Nat.le_refl _) _)
theorem drew (h : OwnI w B a n cap l) : OwnI w.drew B a n cap l := h
theorem drewN (h : OwnI w B a n cap l) (q : Nat) : OwnI (w.drewN q) B a n cap l := h
theorem kept {row : Option Nat} (h : OwnI w B a n cap l) (hg : w.grownBy w' row) (hr : ∀ x, a = some x → some x.block ≠ row) : OwnI w' B a n cap l := by
  refine ⟨h.1, h.2.kept hg ?_⟩
  cases a with
  | none => exact .inl rfl
  | some x => exact .inr (hr x rfl)
theorem mono {B' : Nat} (h : OwnI w B a n cap l) (hB : B' ≤ B) : OwnI w B' a n cap l := by
  refine ⟨h.1, h.2.1, ?_⟩
  rcases h.2.2 with h0 | ⟨g, cap', cur, hv, hb, hrest⟩
  · exact .inl h0
  · exact .inr ⟨g, cap', cur, hv, Nat.le_trans hB hb, hrest⟩
theorem cell (h : OwnI w B (some ⟨g, 0, none⟩) n cap l) : ∀ j, j < n → w.cell? ⟨g, j, none⟩ = some (.int .i64 (l[j]?.getD 0)) := by
  intro j hj
  obtain ⟨g', e, _, _, _, _, hc⟩ := h.at_ (by omega)
  cases e
  exact hc.out j hj
theorem free (h : OwnI w B (some ⟨g, 0, none⟩) n cap l) (j : Nat) : w.frozen? ⟨g, j, none⟩ = false := h.2.frozenAt j
theorem stored (h : OwnI w B (some ⟨g, 0, none⟩) n cap l) (j : Nat) (v : Int) : OwnI (w.setCell ⟨g, j, none⟩ (.int .i64 v)) B (some ⟨g, 0, none⟩) n cap (l.set j v) :=
  ⟨by simpa using h.1, by rw [List.map_set]; exact (h.2.stored j _).1⟩
theorem made (h : w.ownsRow B 3 1 (.slice a n cap) n (madeCells (Value.int .i64 0).cells (n * 1)).toList) : OwnI w B a n cap (List.replicate n 0) := by
  refine ⟨by simp, ?_⟩
  rw [List.map_replicate]
  have e : (madeCells (Value.int .i64 0).cells (n * 1)).toList = List.replicate n (Value.int .i64 0) := by
    rw [Nat.mul_one]; exact toList_madeCells_one _ _
  rw [← e]; exact h
/-- A literal of one element. -/
theorem lit1 (w : World) (B : Nat) (x : Int) (hB : B ≤ w.heap.size) : OwnI (w.alloc (.cells #[.int .i64 x] 3)) B (some ⟨w.heap.size, 0, none⟩) 1 1 [x] :=
  ⟨rfl, World.ownsRow_lit w #[.int .i64 x] 1 hB (by unfold maxLen; omega) rfl⟩
theorem lit2 (w : World) (B : Nat) (x y : Int) (hB : B ≤ w.heap.size) : OwnI (w.alloc (.cells #[.int .i64 x, .int .i64 y] 3)) B (some ⟨w.heap.size, 0, none⟩) 2 2 [x, y] :=
  ⟨rfl, World.ownsRow_lit w #[.int .i64 x, .int .i64 y] 2 hB (by unfold maxLen; omega) rfl⟩
/-- Behind an append. -/
theorem appended {v : Value} {m : List Int} (h : w.ownsRow B 3 1 v (n + m.length) (l.map (Value.int .i64) ++ m.map (Value.int .i64))) (hn : n = l.length) : ∃ a' cap', v = .slice a' (n + m.length) cap' ∧ OwnI w B a' (n + m.length) cap' (l ++ m) := by
  have h' := h
  rcases h.2 with ⟨rfl, h0⟩ | ⟨g, cap', cur, rfl, _⟩
  · refine ⟨none, 0, by rw [h0], by simp [hn], ?_⟩
    rw [List.map_append]; rw [h0]; rw [h0] at h'; exact h'
  · exact ⟨_, _, rfl, by simp [hn], by rw [List.map_append]; exact h'⟩
end OwnI

end Go.Proofs.YtaelfjlmkgimhaaGreatDoor
