/- transcript.right: the error of a node, by kinds (printed by gen_trgt.py). -/
import Derived.Test.YtbjanlmnmeegnaaDoorTRgt
set_option linter.unusedVariables false
set_option linter.unusedSimpArgs false
namespace Go.Proofs.YtbjanlmnmeegnaaDoor
open Go.RowKit Go.Shelf

set_option maxRecDepth 100000 in
set_option maxHeartbeats 4000000 in
theorem right_8 (t : ByteArray) (nn : Int) (ax : Option Addr) (cx : Nat) (lx : List Vl) (d : Nat) (tx : Bool) (w : World) (ht : t.size ≤ 60000) (hE : TEnv w) :
    Calls Tryd.prog 13 #[.agg #[.int .i64 8, .string t, .int .i64 nn, .slice ax lx.length cx, .int .i64 (d : Int), .bool tx]] w (RgtP (rgtP 8 t nn (lx.map Vl.er) d tx) w) := by
  have HCK := Lib.hid (fun W => checkS_any t W (by omega))
  have HWK := Lib.hid (fun W => isWord_any t W)
  have HNK := Lib.hid (fun W => isName_any t W)
  have hs1 : ((w.alloc (.cells #[.int .i64 8, .string t, .int .i64 nn, .slice ax lx.length cx, .int .i64 (d : Int), .bool tx] 39))).heap.size = w.heap.size + 1 := by simp
  have hb1 : Below w.heap.size w (w.alloc (.cells #[.int .i64 8, .string t, .int .i64 nn, .slice ax lx.length cx, .int .i64 (d : Int), .bool tx] 39)) := (Below.refl _ _).alloc (Nat.le_refl _) _
  have HB2 : Hid (Below w.heap.size w ((w.alloc (.cells #[.int .i64 8, .string t, .int .i64 nn, .slice ax lx.length cx, .int .i64 (d : Int), .bool tx] 39)).alloc (.cells #[.int .i64 8, .string t, .int .i64 nn, .slice ax lx.length cx] 37))) := hb1.alloc hb1.size _
  have hz2 : Below ((w.alloc (.cells #[.int .i64 8, .string t, .int .i64 nn, .slice ax lx.length cx, .int .i64 (d : Int), .bool tx] 39))).heap.size (w.alloc (.cells #[.int .i64 8, .string t, .int .i64 nn, .slice ax lx.length cx, .int .i64 (d : Int), .bool tx] 39)) ((w.alloc (.cells #[.int .i64 8, .string t, .int .i64 nn, .slice ax lx.length cx, .int .i64 (d : Int), .bool tx] 39)).alloc (.cells #[.int .i64 8, .string t, .int .i64 nn, .slice ax lx.length cx] 37)) := (Below.refl _ _).alloc (Nat.le_refl _) _
  have HPB2 : Hid ((((w.alloc (.cells #[.int .i64 8, .string t, .int .i64 nn, .slice ax lx.length cx, .int .i64 (d : Int), .bool tx] 39)).alloc (.cells #[.int .i64 8, .string t, .int .i64 nn, .slice ax lx.length cx] 37))).heap[w.heap.size]? = some (.cells #[.int .i64 8, .string t, .int .i64 nn, .slice ax lx.length cx, .int .i64 (d : Int), .bool tx] 39 (0, 0))) := (hz2.block _ (by omega)).trans (World.alloc_heap_new w _)
  have HXB2 : Hid ((((w.alloc (.cells #[.int .i64 8, .string t, .int .i64 nn, .slice ax lx.length cx, .int .i64 (d : Int), .bool tx] 39)).alloc (.cells #[.int .i64 8, .string t, .int .i64 nn, .slice ax lx.length cx] 37))).heap[w.heap.size + 1]? = some (.cells #[.int .i64 8, .string t, .int .i64 nn, .slice ax lx.length cx] 37 (0, 0))) := by have := World.alloc_heap_new (w.alloc (.cells #[.int .i64 8, .string t, .int .i64 nn, .slice ax lx.length cx, .int .i64 (d : Int), .bool tx] 39)) (.cells #[.int .i64 8, .string t, .int .i64 nn, .slice ax lx.length cx] 37); rw [hs1] at this; exact this
  have hE2 := hE.below HB2.out
  clear hs1 hb1 hz2 hE ht
  go_enter Tryd.func13, Tryd.ntmps13
  have hiff : rgtP 8 t nn (lx.map Vl.er) d tx ↔ t.size = 0 ∧ lx ≠ [] ∧ 1 ≤ nn ∧ nn ≤ 8 := by
    simp only [rgtP, fitF, Ck, Wk, Nk]
    simp
    try (constructor <;> (intro h; simp_all))
  have f0 : (((w.alloc (.cells #[.int .i64 8, .string t, .int .i64 nn, .slice ax lx.length cx, .int .i64 (d : Int), .bool tx] 39)).alloc (.cells #[.int .i64 8, .string t, .int .i64 nn, .slice ax lx.length cx] 37))).cell? ⟨0, 32, none⟩ = some (.string ⟨#[97, 100, 100]⟩) := forms_at hE2 32
  have f1 : (((w.alloc (.cells #[.int .i64 8, .string t, .int .i64 nn, .slice ax lx.length cx, .int .i64 (d : Int), .bool tx] 39)).alloc (.cells #[.int .i64 8, .string t, .int .i64 nn, .slice ax lx.length cx] 37))).cell? ⟨0, 33, none⟩ = some (.bool false) := forms_at hE2 33
  have f2 : (((w.alloc (.cells #[.int .i64 8, .string t, .int .i64 nn, .slice ax lx.length cx, .int .i64 (d : Int), .bool tx] 39)).alloc (.cells #[.int .i64 8, .string t, .int .i64 nn, .slice ax lx.length cx] 37))).cell? ⟨0, 34, none⟩ = some (.bool true) := forms_at hE2 34
  have f3 : (((w.alloc (.cells #[.int .i64 8, .string t, .int .i64 nn, .slice ax lx.length cx, .int .i64 (d : Int), .bool tx] 39)).alloc (.cells #[.int .i64 8, .string t, .int .i64 nn, .slice ax lx.length cx] 37))).cell? ⟨0, 35, none⟩ = some (.bool true) := forms_at hE2 35
  have HBZ : Hid (Below w.heap.size w (((w.alloc (.cells #[.int .i64 8, .string t, .int .i64 nn, .slice ax lx.length cx, .int .i64 (d : Int), .bool tx] 39)).alloc (.cells #[.int .i64 8, .string t, .int .i64 nn, .slice ax lx.length cx] 37)).alloc (.cells #[.string ⟨#[97, 100, 100]⟩, .bool false, .bool true, .bool true] 46))) := HB2.out.alloc HB2.out.size _
  clear hE2
  by_cases hq : t.size = 0
  · obtain rfl := empty_of hq
    have ht0 := hq
    clear hq
    by_cases hq : lx ≠ []
    · have a3 : 0 < lx.length := List.length_pos_iff.2 hq
      have a4 : ((lx.length : Int) == 0) = false := beq_false_of_ne (by omega)
      have a5 : decide (lx.length = 0) = false := by rw [decide_eq_false_iff_not]; omega
      have a6 : (lx.length == 0) = false := beq_false_of_ne (by omega)
      clear a3
      have hpsne := hq
      clear hq
      by_cases hq : 1 ≤ nn
      · have a7 : decide (nn < 1) = false := by simp; omega
        have hnlo := hq
        clear hq
        by_cases hq : nn ≤ 8
        · have a8 : decide (nn > 8) = false := by simp; omega
          have a9 : decide (8 < nn) = false := by simp; omega
          have hn8 := hq
          clear hq
          have HP : Hid (rgtP 8 ⟨#[]⟩ nn (lx.map Vl.er) d tx) := by
            show rgtP _ _ _ _ _ _
            rw [hiff]
            exact ⟨(by first | assumption | rfl), hpsne, hnlo, hn8⟩
          clear hiff ht0 hpsne hnlo hn8
          go_wp2
          go_ret
          exact rgt_yes HP.out HBZ.out
        · have HP : Hid (¬ rgtP 8 ⟨#[]⟩ nn (lx.map Vl.er) d tx) := by
            show ¬ rgtP _ _ _ _ _ _
            rw [hiff]
            intro h
            exact hq h.2.2.2
          have a8 : decide (nn > 8) = true := by simp; omega
          have a9 : decide (8 < nn) = true := by simp; omega
          clear hiff hq ht0 hpsne hnlo
          go_wp2
          go_ret
          exact rgt_no (by decide) HP.out HBZ.out
      · have HP : Hid (¬ rgtP 8 ⟨#[]⟩ nn (lx.map Vl.er) d tx) := by
          show ¬ rgtP _ _ _ _ _ _
          rw [hiff]
          intro h
          exact hq h.2.2.1
        have a7 : decide (nn < 1) = true := by simp; omega
        clear hiff hq ht0 hpsne
        go_wp2
        go_ret
        exact rgt_no (by decide) HP.out HBZ.out
    · have HP : Hid (¬ rgtP 8 ⟨#[]⟩ nn (lx.map Vl.er) d tx) := by
        show ¬ rgtP _ _ _ _ _ _
        rw [hiff]
        intro h
        exact hq h.2.1
      have a3 : lx.length = 0 := by rw [Classical.byContradiction hq]; rfl
      have a4 : ((lx.length : Int) == 0) = true := beq_iff_eq.2 (by omega)
      have a5 : decide (lx.length = 0) = true := by rw [decide_eq_true_eq]; omega
      have a6 : (lx.length == 0) = true := beq_iff_eq.2 (by omega)
      clear a3
      clear hiff hq ht0
      go_wp2
      go_ret
      exact rgt_no (by decide) HP.out HBZ.out
  · have HP : Hid (¬ rgtP 8 t nn (lx.map Vl.er) d tx) := by
      show ¬ rgtP _ _ _ _ _ _
      rw [hiff]
      intro h
      exact hq h.1
    have a2 := isEmpty_ne hq
    clear hiff hq
    go_wp2
    go_ret
    exact rgt_no (by decide) HP.out HBZ.out
set_option maxRecDepth 100000 in
set_option maxHeartbeats 4000000 in
theorem right_9 (t : ByteArray) (nn : Int) (ax : Option Addr) (cx : Nat) (lx : List Vl) (d : Nat) (tx : Bool) (w : World) (ht : t.size ≤ 60000) (hE : TEnv w) :
    Calls Tryd.prog 13 #[.agg #[.int .i64 9, .string t, .int .i64 nn, .slice ax lx.length cx, .int .i64 (d : Int), .bool tx]] w (RgtP (rgtP 9 t nn (lx.map Vl.er) d tx) w) := by
  have HCK := Lib.hid (fun W => checkS_any t W (by omega))
  have HWK := Lib.hid (fun W => isWord_any t W)
  have HNK := Lib.hid (fun W => isName_any t W)
  have hs1 : ((w.alloc (.cells #[.int .i64 9, .string t, .int .i64 nn, .slice ax lx.length cx, .int .i64 (d : Int), .bool tx] 39))).heap.size = w.heap.size + 1 := by simp
  have hb1 : Below w.heap.size w (w.alloc (.cells #[.int .i64 9, .string t, .int .i64 nn, .slice ax lx.length cx, .int .i64 (d : Int), .bool tx] 39)) := (Below.refl _ _).alloc (Nat.le_refl _) _
  have HB2 : Hid (Below w.heap.size w ((w.alloc (.cells #[.int .i64 9, .string t, .int .i64 nn, .slice ax lx.length cx, .int .i64 (d : Int), .bool tx] 39)).alloc (.cells #[.int .i64 9, .string t, .int .i64 nn, .slice ax lx.length cx] 37))) := hb1.alloc hb1.size _
  have hz2 : Below ((w.alloc (.cells #[.int .i64 9, .string t, .int .i64 nn, .slice ax lx.length cx, .int .i64 (d : Int), .bool tx] 39))).heap.size (w.alloc (.cells #[.int .i64 9, .string t, .int .i64 nn, .slice ax lx.length cx, .int .i64 (d : Int), .bool tx] 39)) ((w.alloc (.cells #[.int .i64 9, .string t, .int .i64 nn, .slice ax lx.length cx, .int .i64 (d : Int), .bool tx] 39)).alloc (.cells #[.int .i64 9, .string t, .int .i64 nn, .slice ax lx.length cx] 37)) := (Below.refl _ _).alloc (Nat.le_refl _) _
  have HPB2 : Hid ((((w.alloc (.cells #[.int .i64 9, .string t, .int .i64 nn, .slice ax lx.length cx, .int .i64 (d : Int), .bool tx] 39)).alloc (.cells #[.int .i64 9, .string t, .int .i64 nn, .slice ax lx.length cx] 37))).heap[w.heap.size]? = some (.cells #[.int .i64 9, .string t, .int .i64 nn, .slice ax lx.length cx, .int .i64 (d : Int), .bool tx] 39 (0, 0))) := (hz2.block _ (by omega)).trans (World.alloc_heap_new w _)
  have HXB2 : Hid ((((w.alloc (.cells #[.int .i64 9, .string t, .int .i64 nn, .slice ax lx.length cx, .int .i64 (d : Int), .bool tx] 39)).alloc (.cells #[.int .i64 9, .string t, .int .i64 nn, .slice ax lx.length cx] 37))).heap[w.heap.size + 1]? = some (.cells #[.int .i64 9, .string t, .int .i64 nn, .slice ax lx.length cx] 37 (0, 0))) := by have := World.alloc_heap_new (w.alloc (.cells #[.int .i64 9, .string t, .int .i64 nn, .slice ax lx.length cx, .int .i64 (d : Int), .bool tx] 39)) (.cells #[.int .i64 9, .string t, .int .i64 nn, .slice ax lx.length cx] 37); rw [hs1] at this; exact this
  have hE2 := hE.below HB2.out
  clear hs1 hb1 hz2 hE ht
  go_enter Tryd.func13, Tryd.ntmps13
  have hiff : rgtP 9 t nn (lx.map Vl.er) d tx ↔ t.size = 0 ∧ lx ≠ [] ∧ 1 ≤ nn ∧ nn ≤ 8 := by
    simp only [rgtP, fitF, Ck, Wk, Nk]
    simp
    try (constructor <;> (intro h; simp_all))
  have f0 : (((w.alloc (.cells #[.int .i64 9, .string t, .int .i64 nn, .slice ax lx.length cx, .int .i64 (d : Int), .bool tx] 39)).alloc (.cells #[.int .i64 9, .string t, .int .i64 nn, .slice ax lx.length cx] 37))).cell? ⟨0, 36, none⟩ = some (.string ⟨#[100, 101, 108]⟩) := forms_at hE2 36
  have f1 : (((w.alloc (.cells #[.int .i64 9, .string t, .int .i64 nn, .slice ax lx.length cx, .int .i64 (d : Int), .bool tx] 39)).alloc (.cells #[.int .i64 9, .string t, .int .i64 nn, .slice ax lx.length cx] 37))).cell? ⟨0, 37, none⟩ = some (.bool false) := forms_at hE2 37
  have f2 : (((w.alloc (.cells #[.int .i64 9, .string t, .int .i64 nn, .slice ax lx.length cx, .int .i64 (d : Int), .bool tx] 39)).alloc (.cells #[.int .i64 9, .string t, .int .i64 nn, .slice ax lx.length cx] 37))).cell? ⟨0, 38, none⟩ = some (.bool true) := forms_at hE2 38
  have f3 : (((w.alloc (.cells #[.int .i64 9, .string t, .int .i64 nn, .slice ax lx.length cx, .int .i64 (d : Int), .bool tx] 39)).alloc (.cells #[.int .i64 9, .string t, .int .i64 nn, .slice ax lx.length cx] 37))).cell? ⟨0, 39, none⟩ = some (.bool true) := forms_at hE2 39
  have HBZ : Hid (Below w.heap.size w (((w.alloc (.cells #[.int .i64 9, .string t, .int .i64 nn, .slice ax lx.length cx, .int .i64 (d : Int), .bool tx] 39)).alloc (.cells #[.int .i64 9, .string t, .int .i64 nn, .slice ax lx.length cx] 37)).alloc (.cells #[.string ⟨#[100, 101, 108]⟩, .bool false, .bool true, .bool true] 46))) := HB2.out.alloc HB2.out.size _
  clear hE2
  by_cases hq : t.size = 0
  · obtain rfl := empty_of hq
    have ht0 := hq
    clear hq
    by_cases hq : lx ≠ []
    · have a3 : 0 < lx.length := List.length_pos_iff.2 hq
      have a4 : ((lx.length : Int) == 0) = false := beq_false_of_ne (by omega)
      have a5 : decide (lx.length = 0) = false := by rw [decide_eq_false_iff_not]; omega
      have a6 : (lx.length == 0) = false := beq_false_of_ne (by omega)
      clear a3
      have hpsne := hq
      clear hq
      by_cases hq : 1 ≤ nn
      · have a7 : decide (nn < 1) = false := by simp; omega
        have hnlo := hq
        clear hq
        by_cases hq : nn ≤ 8
        · have a8 : decide (nn > 8) = false := by simp; omega
          have a9 : decide (8 < nn) = false := by simp; omega
          have hn8 := hq
          clear hq
          have HP : Hid (rgtP 9 ⟨#[]⟩ nn (lx.map Vl.er) d tx) := by
            show rgtP _ _ _ _ _ _
            rw [hiff]
            exact ⟨(by first | assumption | rfl), hpsne, hnlo, hn8⟩
          clear hiff ht0 hpsne hnlo hn8
          go_wp2
          go_ret
          exact rgt_yes HP.out HBZ.out
        · have HP : Hid (¬ rgtP 9 ⟨#[]⟩ nn (lx.map Vl.er) d tx) := by
            show ¬ rgtP _ _ _ _ _ _
            rw [hiff]
            intro h
            exact hq h.2.2.2
          have a8 : decide (nn > 8) = true := by simp; omega
          have a9 : decide (8 < nn) = true := by simp; omega
          clear hiff hq ht0 hpsne hnlo
          go_wp2
          go_ret
          exact rgt_no (by decide) HP.out HBZ.out
      · have HP : Hid (¬ rgtP 9 ⟨#[]⟩ nn (lx.map Vl.er) d tx) := by
          show ¬ rgtP _ _ _ _ _ _
          rw [hiff]
          intro h
          exact hq h.2.2.1
        have a7 : decide (nn < 1) = true := by simp; omega
        clear hiff hq ht0 hpsne
        go_wp2
        go_ret
        exact rgt_no (by decide) HP.out HBZ.out
    · have HP : Hid (¬ rgtP 9 ⟨#[]⟩ nn (lx.map Vl.er) d tx) := by
        show ¬ rgtP _ _ _ _ _ _
        rw [hiff]
        intro h
        exact hq h.2.1
      have a3 : lx.length = 0 := by rw [Classical.byContradiction hq]; rfl
      have a4 : ((lx.length : Int) == 0) = true := beq_iff_eq.2 (by omega)
      have a5 : decide (lx.length = 0) = true := by rw [decide_eq_true_eq]; omega
      have a6 : (lx.length == 0) = true := beq_iff_eq.2 (by omega)
      clear a3
      clear hiff hq ht0
      go_wp2
      go_ret
      exact rgt_no (by decide) HP.out HBZ.out
  · have HP : Hid (¬ rgtP 9 t nn (lx.map Vl.er) d tx) := by
      show ¬ rgtP _ _ _ _ _ _
      rw [hiff]
      intro h
      exact hq h.1
    have a2 := isEmpty_ne hq
    clear hiff hq
    go_wp2
    go_ret
    exact rgt_no (by decide) HP.out HBZ.out
end Go.Proofs.YtbjanlmnmeegnaaDoor
