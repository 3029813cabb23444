/- transcript.right: the error of a node, by kinds (printed by gen_trgt.py). -/
import Derived.Test.YtbjanlmnmeegnaaDoorTRgt
set_option linter.unusedVariables false
set_option linter.unusedSimpArgs false
namespace Go.Proofs.YtbjanlmnmeegnaaDoor
open Go.RowKit Go.Shelf

set_option maxRecDepth 100000 in
set_option maxHeartbeats 4000000 in
theorem right_5 (t : ByteArray) (nn : Int) (ax : Option Addr) (cx : Nat) (lx : List Vl) (d : Nat) (tx : Bool) (w : World) (ht : t.size ≤ 60000) (hE : TEnv w) :
    Calls Tryd.prog 13 #[.agg #[.int .i64 5, .string t, .int .i64 nn, .slice ax lx.length cx, .int .i64 (d : Int), .bool tx]] w (RgtP (rgtP 5 t nn (lx.map Vl.er) d tx) w) := by
  have HCK := Lib.hid (fun W => checkS_any t W (by omega))
  have HWK := Lib.hid (fun W => isWord_any t W)
  have HNK := Lib.hid (fun W => isName_any t W)
  have hs1 : ((w.alloc (.cells #[.int .i64 5, .string t, .int .i64 nn, .slice ax lx.length cx, .int .i64 (d : Int), .bool tx] 39))).heap.size = w.heap.size + 1 := by simp
  have hb1 : Below w.heap.size w (w.alloc (.cells #[.int .i64 5, .string t, .int .i64 nn, .slice ax lx.length cx, .int .i64 (d : Int), .bool tx] 39)) := (Below.refl _ _).alloc (Nat.le_refl _) _
  have HB2 : Hid (Below w.heap.size w ((w.alloc (.cells #[.int .i64 5, .string t, .int .i64 nn, .slice ax lx.length cx, .int .i64 (d : Int), .bool tx] 39)).alloc (.cells #[.int .i64 5, .string t, .int .i64 nn, .slice ax lx.length cx] 37))) := hb1.alloc hb1.size _
  have hz2 : Below ((w.alloc (.cells #[.int .i64 5, .string t, .int .i64 nn, .slice ax lx.length cx, .int .i64 (d : Int), .bool tx] 39))).heap.size (w.alloc (.cells #[.int .i64 5, .string t, .int .i64 nn, .slice ax lx.length cx, .int .i64 (d : Int), .bool tx] 39)) ((w.alloc (.cells #[.int .i64 5, .string t, .int .i64 nn, .slice ax lx.length cx, .int .i64 (d : Int), .bool tx] 39)).alloc (.cells #[.int .i64 5, .string t, .int .i64 nn, .slice ax lx.length cx] 37)) := (Below.refl _ _).alloc (Nat.le_refl _) _
  have HPB2 : Hid ((((w.alloc (.cells #[.int .i64 5, .string t, .int .i64 nn, .slice ax lx.length cx, .int .i64 (d : Int), .bool tx] 39)).alloc (.cells #[.int .i64 5, .string t, .int .i64 nn, .slice ax lx.length cx] 37))).heap[w.heap.size]? = some (.cells #[.int .i64 5, .string t, .int .i64 nn, .slice ax lx.length cx, .int .i64 (d : Int), .bool tx] 39 (0, 0))) := (hz2.block _ (by omega)).trans (World.alloc_heap_new w _)
  have HXB2 : Hid ((((w.alloc (.cells #[.int .i64 5, .string t, .int .i64 nn, .slice ax lx.length cx, .int .i64 (d : Int), .bool tx] 39)).alloc (.cells #[.int .i64 5, .string t, .int .i64 nn, .slice ax lx.length cx] 37))).heap[w.heap.size + 1]? = some (.cells #[.int .i64 5, .string t, .int .i64 nn, .slice ax lx.length cx] 37 (0, 0))) := by have := World.alloc_heap_new (w.alloc (.cells #[.int .i64 5, .string t, .int .i64 nn, .slice ax lx.length cx, .int .i64 (d : Int), .bool tx] 39)) (.cells #[.int .i64 5, .string t, .int .i64 nn, .slice ax lx.length cx] 37); rw [hs1] at this; exact this
  have hE2 := hE.below HB2.out
  clear hs1 hb1 hz2 hE ht
  go_enter Tryd.func13, Tryd.ntmps13
  have hiff : rgtP 5 t nn (lx.map Vl.er) d tx ↔ t.size = 0 ∧ nn = 0 ∧ lx = [] := by
    simp only [rgtP, fitF, Ck, Wk, Nk]
    simp
    try (constructor <;> (intro h; simp_all))
  have f0 : (((w.alloc (.cells #[.int .i64 5, .string t, .int .i64 nn, .slice ax lx.length cx, .int .i64 (d : Int), .bool tx] 39)).alloc (.cells #[.int .i64 5, .string t, .int .i64 nn, .slice ax lx.length cx] 37))).cell? ⟨0, 20, none⟩ = some (.string ⟨#[118]⟩) := forms_at hE2 20
  have f1 : (((w.alloc (.cells #[.int .i64 5, .string t, .int .i64 nn, .slice ax lx.length cx, .int .i64 (d : Int), .bool tx] 39)).alloc (.cells #[.int .i64 5, .string t, .int .i64 nn, .slice ax lx.length cx] 37))).cell? ⟨0, 21, none⟩ = some (.bool false) := forms_at hE2 21
  have f2 : (((w.alloc (.cells #[.int .i64 5, .string t, .int .i64 nn, .slice ax lx.length cx, .int .i64 (d : Int), .bool tx] 39)).alloc (.cells #[.int .i64 5, .string t, .int .i64 nn, .slice ax lx.length cx] 37))).cell? ⟨0, 22, none⟩ = some (.bool false) := forms_at hE2 22
  have f3 : (((w.alloc (.cells #[.int .i64 5, .string t, .int .i64 nn, .slice ax lx.length cx, .int .i64 (d : Int), .bool tx] 39)).alloc (.cells #[.int .i64 5, .string t, .int .i64 nn, .slice ax lx.length cx] 37))).cell? ⟨0, 23, none⟩ = some (.bool false) := forms_at hE2 23
  have HBZ : Hid (Below w.heap.size w (((w.alloc (.cells #[.int .i64 5, .string t, .int .i64 nn, .slice ax lx.length cx, .int .i64 (d : Int), .bool tx] 39)).alloc (.cells #[.int .i64 5, .string t, .int .i64 nn, .slice ax lx.length cx] 37)).alloc (.cells #[.string ⟨#[118]⟩, .bool false, .bool false, .bool false] 46))) := HB2.out.alloc HB2.out.size _
  clear hE2
  by_cases hq : t.size = 0
  · obtain rfl := empty_of hq
    have ht0 := hq
    clear hq
    by_cases hq : nn = 0
    · subst hq
      have hq : (0 : Int) = 0 := rfl
      have hn0 := hq
      clear hq
      by_cases hq : lx = []
      · have a3 : lx.length = 0 := by rw [hq]; rfl
        have a4 : decide ((lx.length : Int) > 0) = false := by rw [decide_eq_false_iff_not]; omega
        have a5 : decide (0 < lx.length) = false := by rw [decide_eq_false_iff_not]; omega
        clear a3
        have hps0 := hq
        clear hq
        have HP : Hid (rgtP 5 ⟨#[]⟩ 0 (lx.map Vl.er) d tx) := by
          show rgtP _ _ _ _ _ _
          rw [hiff]
          exact ⟨(by first | assumption | rfl), (by first | assumption | rfl), hps0⟩
        clear hiff ht0 hn0 hps0
        go_wp2
        go_ret
        exact rgt_yes HP.out HBZ.out
      · have HP : Hid (¬ rgtP 5 ⟨#[]⟩ 0 (lx.map Vl.er) d tx) := by
          show ¬ rgtP _ _ _ _ _ _
          rw [hiff]
          intro h
          exact hq h.2.2
        have a3 : 0 < lx.length := List.length_pos_iff.2 hq
        have a4 : decide ((lx.length : Int) > 0) = true := by rw [decide_eq_true_eq]; omega
        have a5 : decide (0 < lx.length) = true := by rw [decide_eq_true_eq]; omega
        clear a3
        clear hiff hq ht0 hn0
        go_wp2
        go_ret
        exact rgt_no (by decide) HP.out HBZ.out
    · have HP : Hid (¬ rgtP 5 ⟨#[]⟩ nn (lx.map Vl.er) d tx) := by
        show ¬ rgtP _ _ _ _ _ _
        rw [hiff]
        intro h
        exact hq h.2.1
      have a1 : ((nn : Int) == 0) = false := by simpa using hq
      clear hiff ht0
      go_wp2
      go_ret
      exact rgt_no (by decide) HP.out HBZ.out
  · have HP : Hid (¬ rgtP 5 t nn (lx.map Vl.er) d tx) := by
      show ¬ rgtP _ _ _ _ _ _
      rw [hiff]
      intro h
      exact hq h.1
    have a2 := isEmpty_ne hq
    clear hiff hq
    go_wp2
    go_ret
    exact rgt_no (by decide) HP.out HBZ.out
set_option maxRecDepth 100000 in
set_option maxHeartbeats 4000000 in
theorem right_6 (t : ByteArray) (nn : Int) (ax : Option Addr) (cx : Nat) (lx : List Vl) (d : Nat) (tx : Bool) (w : World) (ht : t.size ≤ 60000) (hE : TEnv w) :
    Calls Tryd.prog 13 #[.agg #[.int .i64 6, .string t, .int .i64 nn, .slice ax lx.length cx, .int .i64 (d : Int), .bool tx]] w (RgtP (rgtP 6 t nn (lx.map Vl.er) d tx) w) := by
  have HCK := Lib.hid (fun W => checkS_any t W (by omega))
  have HWK := Lib.hid (fun W => isWord_any t W)
  have HNK := Lib.hid (fun W => isName_any t W)
  have hs1 : ((w.alloc (.cells #[.int .i64 6, .string t, .int .i64 nn, .slice ax lx.length cx, .int .i64 (d : Int), .bool tx] 39))).heap.size = w.heap.size + 1 := by simp
  have hb1 : Below w.heap.size w (w.alloc (.cells #[.int .i64 6, .string t, .int .i64 nn, .slice ax lx.length cx, .int .i64 (d : Int), .bool tx] 39)) := (Below.refl _ _).alloc (Nat.le_refl _) _
  have HB2 : Hid (Below w.heap.size w ((w.alloc (.cells #[.int .i64 6, .string t, .int .i64 nn, .slice ax lx.length cx, .int .i64 (d : Int), .bool tx] 39)).alloc (.cells #[.int .i64 6, .string t, .int .i64 nn, .slice ax lx.length cx] 37))) := hb1.alloc hb1.size _
  have hz2 : Below ((w.alloc (.cells #[.int .i64 6, .string t, .int .i64 nn, .slice ax lx.length cx, .int .i64 (d : Int), .bool tx] 39))).heap.size (w.alloc (.cells #[.int .i64 6, .string t, .int .i64 nn, .slice ax lx.length cx, .int .i64 (d : Int), .bool tx] 39)) ((w.alloc (.cells #[.int .i64 6, .string t, .int .i64 nn, .slice ax lx.length cx, .int .i64 (d : Int), .bool tx] 39)).alloc (.cells #[.int .i64 6, .string t, .int .i64 nn, .slice ax lx.length cx] 37)) := (Below.refl _ _).alloc (Nat.le_refl _) _
  have HPB2 : Hid ((((w.alloc (.cells #[.int .i64 6, .string t, .int .i64 nn, .slice ax lx.length cx, .int .i64 (d : Int), .bool tx] 39)).alloc (.cells #[.int .i64 6, .string t, .int .i64 nn, .slice ax lx.length cx] 37))).heap[w.heap.size]? = some (.cells #[.int .i64 6, .string t, .int .i64 nn, .slice ax lx.length cx, .int .i64 (d : Int), .bool tx] 39 (0, 0))) := (hz2.block _ (by omega)).trans (World.alloc_heap_new w _)
  have HXB2 : Hid ((((w.alloc (.cells #[.int .i64 6, .string t, .int .i64 nn, .slice ax lx.length cx, .int .i64 (d : Int), .bool tx] 39)).alloc (.cells #[.int .i64 6, .string t, .int .i64 nn, .slice ax lx.length cx] 37))).heap[w.heap.size + 1]? = some (.cells #[.int .i64 6, .string t, .int .i64 nn, .slice ax lx.length cx] 37 (0, 0))) := by have := World.alloc_heap_new (w.alloc (.cells #[.int .i64 6, .string t, .int .i64 nn, .slice ax lx.length cx, .int .i64 (d : Int), .bool tx] 39)) (.cells #[.int .i64 6, .string t, .int .i64 nn, .slice ax lx.length cx] 37); rw [hs1] at this; exact this
  have hE2 := hE.below HB2.out
  clear hs1 hb1 hz2 hE ht
  go_enter Tryd.func13, Tryd.ntmps13
  have hiff : rgtP 6 t nn (lx.map Vl.er) d tx ↔ t.size = 0 ∧ lx = [] ∧ 1 ≤ nn ∧ nn ≤ 64 := by
    simp only [rgtP, fitF, Ck, Wk, Nk]
    simp
    try (constructor <;> (intro h; simp_all))
  have f0 : (((w.alloc (.cells #[.int .i64 6, .string t, .int .i64 nn, .slice ax lx.length cx, .int .i64 (d : Int), .bool tx] 39)).alloc (.cells #[.int .i64 6, .string t, .int .i64 nn, .slice ax lx.length cx] 37))).cell? ⟨0, 24, none⟩ = some (.string ⟨#[103, 97, 112]⟩) := forms_at hE2 24
  have f1 : (((w.alloc (.cells #[.int .i64 6, .string t, .int .i64 nn, .slice ax lx.length cx, .int .i64 (d : Int), .bool tx] 39)).alloc (.cells #[.int .i64 6, .string t, .int .i64 nn, .slice ax lx.length cx] 37))).cell? ⟨0, 25, none⟩ = some (.bool false) := forms_at hE2 25
  have f2 : (((w.alloc (.cells #[.int .i64 6, .string t, .int .i64 nn, .slice ax lx.length cx, .int .i64 (d : Int), .bool tx] 39)).alloc (.cells #[.int .i64 6, .string t, .int .i64 nn, .slice ax lx.length cx] 37))).cell? ⟨0, 26, none⟩ = some (.bool true) := forms_at hE2 26
  have f3 : (((w.alloc (.cells #[.int .i64 6, .string t, .int .i64 nn, .slice ax lx.length cx, .int .i64 (d : Int), .bool tx] 39)).alloc (.cells #[.int .i64 6, .string t, .int .i64 nn, .slice ax lx.length cx] 37))).cell? ⟨0, 27, none⟩ = some (.bool false) := forms_at hE2 27
  have HBZ : Hid (Below w.heap.size w (((w.alloc (.cells #[.int .i64 6, .string t, .int .i64 nn, .slice ax lx.length cx, .int .i64 (d : Int), .bool tx] 39)).alloc (.cells #[.int .i64 6, .string t, .int .i64 nn, .slice ax lx.length cx] 37)).alloc (.cells #[.string ⟨#[103, 97, 112]⟩, .bool false, .bool true, .bool false] 46))) := HB2.out.alloc HB2.out.size _
  clear hE2
  by_cases hq : t.size = 0
  · obtain rfl := empty_of hq
    have ht0 := hq
    clear hq
    by_cases hq : lx = []
    · have a3 : lx.length = 0 := by rw [hq]; rfl
      have a4 : decide ((lx.length : Int) > 0) = false := by rw [decide_eq_false_iff_not]; omega
      have a5 : decide (0 < lx.length) = false := by rw [decide_eq_false_iff_not]; omega
      clear a3
      have hps0 := hq
      clear hq
      by_cases hq : 1 ≤ nn
      · have a7 : decide (nn < 1) = false := by simp; omega
        have hnlo := hq
        clear hq
        by_cases hq : nn ≤ 64
        · have a8 : decide (nn > 64) = false := by simp; omega
          have a9 : decide (64 < nn) = false := by simp; omega
          have hn64 := hq
          clear hq
          have HP : Hid (rgtP 6 ⟨#[]⟩ nn (lx.map Vl.er) d tx) := by
            show rgtP _ _ _ _ _ _
            rw [hiff]
            exact ⟨(by first | assumption | rfl), hps0, hnlo, hn64⟩
          clear hiff ht0 hps0 hnlo hn64
          go_wp2
          go_ret
          exact rgt_yes HP.out HBZ.out
        · have HP : Hid (¬ rgtP 6 ⟨#[]⟩ nn (lx.map Vl.er) d tx) := by
            show ¬ rgtP _ _ _ _ _ _
            rw [hiff]
            intro h
            exact hq h.2.2.2
          have a8 : decide (nn > 64) = true := by simp; omega
          have a9 : decide (64 < nn) = true := by simp; omega
          clear hiff hq ht0 hps0 hnlo
          go_wp2
          go_ret
          exact rgt_no (by decide) HP.out HBZ.out
      · have HP : Hid (¬ rgtP 6 ⟨#[]⟩ nn (lx.map Vl.er) d tx) := by
          show ¬ rgtP _ _ _ _ _ _
          rw [hiff]
          intro h
          exact hq h.2.2.1
        have a7 : decide (nn < 1) = true := by simp; omega
        clear hiff hq ht0 hps0
        go_wp2
        go_ret
        exact rgt_no (by decide) HP.out HBZ.out
    · have HP : Hid (¬ rgtP 6 ⟨#[]⟩ nn (lx.map Vl.er) d tx) := by
        show ¬ rgtP _ _ _ _ _ _
        rw [hiff]
        intro h
        exact hq h.2.1
      have a3 : 0 < lx.length := List.length_pos_iff.2 hq
      have a4 : decide ((lx.length : Int) > 0) = true := by rw [decide_eq_true_eq]; omega
      have a5 : decide (0 < lx.length) = true := by rw [decide_eq_true_eq]; omega
      clear a3
      clear hiff hq ht0
      go_wp2
      go_ret
      exact rgt_no (by decide) HP.out HBZ.out
  · have HP : Hid (¬ rgtP 6 t nn (lx.map Vl.er) d tx) := by
      show ¬ rgtP _ _ _ _ _ _
      rw [hiff]
      intro h
      exact hq h.1
    have a2 := isEmpty_ne hq
    clear hiff hq
    go_wp2
    go_ret
    exact rgt_no (by decide) HP.out HBZ.out
set_option maxRecDepth 100000 in
set_option maxHeartbeats 4000000 in
theorem right_7 (t : ByteArray) (nn : Int) (ax : Option Addr) (cx : Nat) (lx : List Vl) (d : Nat) (tx : Bool) (w : World) (ht : t.size ≤ 60000) (hE : TEnv w) :
    Calls Tryd.prog 13 #[.agg #[.int .i64 7, .string t, .int .i64 nn, .slice ax lx.length cx, .int .i64 (d : Int), .bool tx]] w (RgtP (rgtP 7 t nn (lx.map Vl.er) d tx) w) := by
  have HCK := Lib.hid (fun W => checkS_any t W (by omega))
  have HWK := Lib.hid (fun W => isWord_any t W)
  have HNK := Lib.hid (fun W => isName_any t W)
  have hs1 : ((w.alloc (.cells #[.int .i64 7, .string t, .int .i64 nn, .slice ax lx.length cx, .int .i64 (d : Int), .bool tx] 39))).heap.size = w.heap.size + 1 := by simp
  have hb1 : Below w.heap.size w (w.alloc (.cells #[.int .i64 7, .string t, .int .i64 nn, .slice ax lx.length cx, .int .i64 (d : Int), .bool tx] 39)) := (Below.refl _ _).alloc (Nat.le_refl _) _
  have HB2 : Hid (Below w.heap.size w ((w.alloc (.cells #[.int .i64 7, .string t, .int .i64 nn, .slice ax lx.length cx, .int .i64 (d : Int), .bool tx] 39)).alloc (.cells #[.int .i64 7, .string t, .int .i64 nn, .slice ax lx.length cx] 37))) := hb1.alloc hb1.size _
  have hz2 : Below ((w.alloc (.cells #[.int .i64 7, .string t, .int .i64 nn, .slice ax lx.length cx, .int .i64 (d : Int), .bool tx] 39))).heap.size (w.alloc (.cells #[.int .i64 7, .string t, .int .i64 nn, .slice ax lx.length cx, .int .i64 (d : Int), .bool tx] 39)) ((w.alloc (.cells #[.int .i64 7, .string t, .int .i64 nn, .slice ax lx.length cx, .int .i64 (d : Int), .bool tx] 39)).alloc (.cells #[.int .i64 7, .string t, .int .i64 nn, .slice ax lx.length cx] 37)) := (Below.refl _ _).alloc (Nat.le_refl _) _
  have HPB2 : Hid ((((w.alloc (.cells #[.int .i64 7, .string t, .int .i64 nn, .slice ax lx.length cx, .int .i64 (d : Int), .bool tx] 39)).alloc (.cells #[.int .i64 7, .string t, .int .i64 nn, .slice ax lx.length cx] 37))).heap[w.heap.size]? = some (.cells #[.int .i64 7, .string t, .int .i64 nn, .slice ax lx.length cx, .int .i64 (d : Int), .bool tx] 39 (0, 0))) := (hz2.block _ (by omega)).trans (World.alloc_heap_new w _)
  have HXB2 : Hid ((((w.alloc (.cells #[.int .i64 7, .string t, .int .i64 nn, .slice ax lx.length cx, .int .i64 (d : Int), .bool tx] 39)).alloc (.cells #[.int .i64 7, .string t, .int .i64 nn, .slice ax lx.length cx] 37))).heap[w.heap.size + 1]? = some (.cells #[.int .i64 7, .string t, .int .i64 nn, .slice ax lx.length cx] 37 (0, 0))) := by have := World.alloc_heap_new (w.alloc (.cells #[.int .i64 7, .string t, .int .i64 nn, .slice ax lx.length cx, .int .i64 (d : Int), .bool tx] 39)) (.cells #[.int .i64 7, .string t, .int .i64 nn, .slice ax lx.length cx] 37); rw [hs1] at this; exact this
  have hE2 := hE.below HB2.out
  clear hs1 hb1 hz2 hE ht
  go_enter Tryd.func13, Tryd.ntmps13
  have hiff : rgtP 7 t nn (lx.map Vl.er) d tx ↔ t.size = 0 ∧ nn = 0 ∧ lx ≠ [] := by
    simp only [rgtP, fitF, Ck, Wk, Nk]
    simp
    try (constructor <;> (intro h; simp_all))
  have f0 : (((w.alloc (.cells #[.int .i64 7, .string t, .int .i64 nn, .slice ax lx.length cx, .int .i64 (d : Int), .bool tx] 39)).alloc (.cells #[.int .i64 7, .string t, .int .i64 nn, .slice ax lx.length cx] 37))).cell? ⟨0, 28, none⟩ = some (.string ⟨#[117, 110, 99, 108, 101, 97, 114]⟩) := forms_at hE2 28
  have f1 : (((w.alloc (.cells #[.int .i64 7, .string t, .int .i64 nn, .slice ax lx.length cx, .int .i64 (d : Int), .bool tx] 39)).alloc (.cells #[.int .i64 7, .string t, .int .i64 nn, .slice ax lx.length cx] 37))).cell? ⟨0, 29, none⟩ = some (.bool false) := forms_at hE2 29
  have f2 : (((w.alloc (.cells #[.int .i64 7, .string t, .int .i64 nn, .slice ax lx.length cx, .int .i64 (d : Int), .bool tx] 39)).alloc (.cells #[.int .i64 7, .string t, .int .i64 nn, .slice ax lx.length cx] 37))).cell? ⟨0, 30, none⟩ = some (.bool false) := forms_at hE2 30
  have f3 : (((w.alloc (.cells #[.int .i64 7, .string t, .int .i64 nn, .slice ax lx.length cx, .int .i64 (d : Int), .bool tx] 39)).alloc (.cells #[.int .i64 7, .string t, .int .i64 nn, .slice ax lx.length cx] 37))).cell? ⟨0, 31, none⟩ = some (.bool true) := forms_at hE2 31
  have HBZ : Hid (Below w.heap.size w (((w.alloc (.cells #[.int .i64 7, .string t, .int .i64 nn, .slice ax lx.length cx, .int .i64 (d : Int), .bool tx] 39)).alloc (.cells #[.int .i64 7, .string t, .int .i64 nn, .slice ax lx.length cx] 37)).alloc (.cells #[.string ⟨#[117, 110, 99, 108, 101, 97, 114]⟩, .bool false, .bool false, .bool true] 46))) := HB2.out.alloc HB2.out.size _
  clear hE2
  by_cases hq : t.size = 0
  · obtain rfl := empty_of hq
    have ht0 := hq
    clear hq
    by_cases hq : nn = 0
    · subst hq
      have hq : (0 : Int) = 0 := rfl
      have hn0 := hq
      clear hq
      by_cases hq : lx ≠ []
      · have a3 : 0 < lx.length := List.length_pos_iff.2 hq
        have a4 : ((lx.length : Int) == 0) = false := beq_false_of_ne (by omega)
        have a5 : decide (lx.length = 0) = false := by rw [decide_eq_false_iff_not]; omega
        have a6 : (lx.length == 0) = false := beq_false_of_ne (by omega)
        clear a3
        have hpsne := hq
        clear hq
        have HP : Hid (rgtP 7 ⟨#[]⟩ 0 (lx.map Vl.er) d tx) := by
          show rgtP _ _ _ _ _ _
          rw [hiff]
          exact ⟨(by first | assumption | rfl), (by first | assumption | rfl), hpsne⟩
        clear hiff ht0 hn0 hpsne
        go_wp2
        go_ret
        exact rgt_yes HP.out HBZ.out
      · have HP : Hid (¬ rgtP 7 ⟨#[]⟩ 0 (lx.map Vl.er) d tx) := by
          show ¬ rgtP _ _ _ _ _ _
          rw [hiff]
          intro h
          exact hq h.2.2
        have a3 : lx.length = 0 := by rw [Classical.byContradiction hq]; rfl
        have a4 : ((lx.length : Int) == 0) = true := beq_iff_eq.2 (by omega)
        have a5 : decide (lx.length = 0) = true := by rw [decide_eq_true_eq]; omega
        have a6 : (lx.length == 0) = true := beq_iff_eq.2 (by omega)
        clear a3
        clear hiff hq ht0 hn0
        go_wp2
        go_ret
        exact rgt_no (by decide) HP.out HBZ.out
    · have HP : Hid (¬ rgtP 7 ⟨#[]⟩ nn (lx.map Vl.er) d tx) := by
        show ¬ rgtP _ _ _ _ _ _
        rw [hiff]
        intro h
        exact hq h.2.1
      have a1 : ((nn : Int) == 0) = false := by simpa using hq
      clear hiff ht0
      go_wp2
      go_ret
      exact rgt_no (by decide) HP.out HBZ.out
  · have HP : Hid (¬ rgtP 7 t nn (lx.map Vl.er) d tx) := by
      show ¬ rgtP _ _ _ _ _ _
      rw [hiff]
      intro h
      exact hq h.1
    have a2 := isEmpty_ne hq
    clear hiff hq
    go_wp2
    go_ret
    exact rgt_no (by decide) HP.out HBZ.out
end Go.Proofs.YtbjanlmnmeegnaaDoor
