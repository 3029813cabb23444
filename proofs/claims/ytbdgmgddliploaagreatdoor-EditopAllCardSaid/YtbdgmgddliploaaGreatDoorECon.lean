/- slices.Index, slices.Contains over operations. -/
import Derived.Test.YtbdgmgddliploaaGreatDoorESam3
import Derived.Test.YtbdgmgddliploaaGreatDoorEApl
import Derived.Test.YtbdgmgddliploaaGreatDoorEAplR
set_option linter.unusedVariables false
set_option linter.unusedSimpArgs false
namespace Go.Proofs.YtbdgmgddliploaaGreatDoor
open Go.RowKit

theorem mem_drop_iff {α : Type} {l : List α} {k : Nat} {u o : α} (h : l[k]? = some u) : o ∈ l.drop k ↔ o = u ∨ o ∈ l.drop (k + 1) := by
  obtain ⟨hl, e⟩ := List.getElem?_eq_some_iff.1 h
  rw [List.drop_eq_getElem_cons hl, e, List.mem_cons]
set_option maxRecDepth 100000 in
set_option maxHeartbeats 2000000 in
theorem index_op (S : Nat → Prop) (a : Option Addr) (n c : Nat) (l : List Op) (o : Op) (w : World) (h : Opsq S w a n c l) :
    Calls Tryz.prog 56 #[.slice a n c, o.val] w fun e w' => ∃ i : Int, e = .returned (.int .i64 i) ∧ decide (0 ≤ i) = decide (o ∈ l) ∧ Below w.heap.size w w' := by
  have hL := h.bound
  have HN := Lib.hid h.len
  have hE : Hid (decide (o ∈ l) = decide (o ∈ l.drop 0)) := rfl
  generalize hR : decide (o ∈ l) = R at *
  clear hR
  obtain ⟨v1, v2, v3, v4, v5⟩ := o
  change Calls _ _ #[_, .agg #[.int .i64 v1, .string v2, .int .i64 v3, .int .i64 v4, .string v5]] _ _
  have hb0 : Below w.heap.size w (w.alloc (.cells #[.int .i64 v1, .string v2, .int .i64 v3, .int .i64 v4, .string v5] 28)) := (Below.refl _ _).alloc (Nat.le_refl _) _
  obtain ⟨o0, o1, o2, o3, o4⟩ := box_cells5 (World.alloc_heap_new w (.cells #[.int .i64 v1, .string v2, .int .i64 v3, .int .i64 v4, .string v5] 28))
  have h' := h.below rOpn_ok hb0
  clear h
  have HB := Lib.hid hb0
  clear hb0
  go_enter Tryz.func56, Tryz.ntmps56
  go_wp2
  generalize w.alloc (.cells #[.int .i64 v1, .string v2, .int .i64 v3, .int .i64 v4, .string v5] 28) = W1 at *
  go_loopw [8] (fun i wr => ∃ (k : Nat), i = .int .i64 k ∧ k ≤ n ∧ Hid (R = decide (⟨v1, v2, v3, v4, v5⟩ ∈ l.drop k)) ∧ Drew W1 wr) (fun i _ => n - (intOf i).toNat)
  case atStart => exact ⟨0, rfl, Nat.zero_le _, hE.out, Drew.refl _⟩
  case round =>
    obtain ⟨k, rfl, hk, hx, hd⟩ := hrel
    have o0 := cell_later (hd.below W1.heap.size) o0
    have o1 := cell_later (hd.below W1.heap.size) o1
    have o2 := cell_later (hd.below W1.heap.size) o2
    have o3 := cell_later (hd.below W1.heap.size) o3
    have o4 := cell_later (hd.below W1.heap.size) o4
    by_cases hkl : k < n
    · obtain ⟨u, b1, p1, hu, -, ea, -, -, hI1, d0⟩ := (h'.below rOpn_ok (hd.below _)).op hkl
      subst ea
      have hst := mem_drop_iff (o := (⟨v1, v2, v3, v4, v5⟩ : Op)) hu
      by_cases he : (⟨v1, v2, v3, v4, v5⟩ : Op) = u
      · have HR : Hid (R = true) := by show _ = _; rw [hx.out]; exact decide_eq_true (hst.2 (.inl he))
        obtain ⟨u1, u2, u3, u4, u5⟩ := u
        obtain ⟨d1, d2, d3, d4, d5⟩ := d0
        dsimp only at d1 d2 d3 d4 d5
        have hq : ∀ W, (binOp .eql 28 (.agg #[.int .i64 v1, .string v2, .int .i64 v3, .int .i64 v4, .string v5]) (.agg #[.int .i64 u1, .string u2, .int .i64 u3, .int .i64 u4, .string u5])).run Tryz.prog W = .ok (.bool true) W := fun W => (op_eql W ⟨v1, v2, v3, v4, v5⟩ ⟨u1, u2, u3, u4, u5⟩).trans (by rw [decide_eq_true he])
        clear hx hu hst he
        go_wp2
        go_quiet (fail)
        go_wp2
        go_ret
        exact ⟨k, by first | rfl | go_num, by rw [HR.out]; simp, HB.out.trans ((hd.drewN _).below _)⟩
      · have HN2 : Hid (R = decide (⟨v1, v2, v3, v4, v5⟩ ∈ l.drop (k + 1))) := by show _ = _; rw [hx.out, decide_eq_decide]; exact hst.trans ⟨fun q => q.resolve_left he, .inr⟩
        obtain ⟨u1, u2, u3, u4, u5⟩ := u
        obtain ⟨d1, d2, d3, d4, d5⟩ := d0
        dsimp only at d1 d2 d3 d4 d5
        have hq : ∀ W, (binOp .eql 28 (.agg #[.int .i64 v1, .string v2, .int .i64 v3, .int .i64 v4, .string v5]) (.agg #[.int .i64 u1, .string u2, .int .i64 u3, .int .i64 u4, .string u5])).run Tryz.prog W = .ok (.bool false) W := fun W => (op_eql W ⟨v1, v2, v3, v4, v5⟩ ⟨u1, u2, u3, u4, u5⟩).trans (by rw [decide_eq_false he])
        clear hx hu hst he
        go_wp2
        go_quiet (fail)
        go_wp2
        go_roundw
        case rel => exact ⟨k + 1, by go_num, by omega, HN2.out, hd.drewN _⟩
        case measure => simp [intOf]; omega
    · have HR : Hid (R = false) := by show _ = _; rw [hx.out, List.drop_of_length_le (by rw [← HN.out]; omega)]; simp
      clear hx
      go_wp2
      go_ret
      exact ⟨-1, rfl, by rw [HR.out]; rfl, HB.out.trans (hd.below _)⟩
set_option maxRecDepth 100000 in
theorem contains_op (S : Nat → Prop) (a : Option Addr) (n c : Nat) (l : List Op) (o : Op) (w : World) (h : Opsq S w a n c l) :
    Calls Tryz.prog 23 #[.slice a n c, o.val] w fun e w' => e = .returned (.bool (decide (o ∈ l))) ∧ Below w.heap.size w w' := by
  obtain ⟨v1, v2, v3, v4, v5⟩ := o
  have hb0 : Below w.heap.size w (w.alloc (.cells #[.int .i64 v1, .string v2, .int .i64 v3, .int .i64 v4, .string v5] 28)) := (Below.refl _ _).alloc (Nat.le_refl _) _
  have F := Lib.hid (index_op S a n c l ⟨v1, v2, v3, v4, v5⟩ _ (h.below rOpn_ok hb0))
  obtain ⟨o0, o1, o2, o3, o4⟩ := box_cells5 (World.alloc_heap_new w (.cells #[.int .i64 v1, .string v2, .int .i64 v3, .int .i64 v4, .string v5] 28))
  change Calls _ _ #[_, .agg #[.int .i64 v1, .string v2, .int .i64 v3, .int .i64 v4, .string v5]] _ _
  change Hid (Calls _ _ #[_, .agg #[.int .i64 v1, .string v2, .int .i64 v3, .int .i64 v4, .string v5]] _ _) at F
  generalize decide ((⟨v1, v2, v3, v4, v5⟩ : Op) ∈ l) = R at *
  clear h
  go_enter Tryz.func23, Tryz.ntmps23
  go_wp2_with fail
  generalize w.alloc (.cells #[.int .i64 v1, .string v2, .int .i64 v3, .int .i64 v4, .string v5] 28) = W1 at *
  refine F.out.mono ?_
  rintro e w' ⟨i, rfl, hi, hb'⟩
  go_wp2
  go_ret
  exact ⟨by rw [← hi]; simp, hb0.trans (hb'.mono hb0.size)⟩
end Go.Proofs.YtbdgmgddliploaaGreatDoor
