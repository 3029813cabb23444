/- transcript.right: the error of a node, by kinds (printed by gen_trgt.py). -/
import Derived.Test.YtbjanlmnmeegnaaDoorTRgt
set_option linter.unusedVariables false
set_option linter.unusedSimpArgs false
namespace Go.Proofs.YtbjanlmnmeegnaaDoor
open Go.RowKit Go.Shelf

set_option maxRecDepth 100000 in
set_option maxHeartbeats 4000000 in
theorem right_10 (t : ByteArray) (nn : Int) (ax : Option Addr) (cx : Nat) (lx : List Vl) (d : Nat) (tx : Bool) (w : World) (ht : t.size ≤ 60000) (hE : TEnv w) :
    Calls Tryd.prog 13 #[.agg #[.int .i64 10, .string t, .int .i64 nn, .slice ax lx.length cx, .int .i64 (d : Int), .bool tx]] w (RgtP (rgtP 10 t nn (lx.map Vl.er) d tx) w) := by
  have HCK := Lib.hid (fun W => checkS_any t W (by omega))
  have HWK := Lib.hid (fun W => isWord_any t W)
  have HNK := Lib.hid (fun W => isName_any t W)
  have hs1 : ((w.alloc (.cells #[.int .i64 10, .string t, .int .i64 nn, .slice ax lx.length cx, .int .i64 (d : Int), .bool tx] 39))).heap.size = w.heap.size + 1 := by simp
  have hb1 : Below w.heap.size w (w.alloc (.cells #[.int .i64 10, .string t, .int .i64 nn, .slice ax lx.length cx, .int .i64 (d : Int), .bool tx] 39)) := (Below.refl _ _).alloc (Nat.le_refl _) _
  have HB2 : Hid (Below w.heap.size w ((w.alloc (.cells #[.int .i64 10, .string t, .int .i64 nn, .slice ax lx.length cx, .int .i64 (d : Int), .bool tx] 39)).alloc (.cells #[.int .i64 10, .string t, .int .i64 nn, .slice ax lx.length cx] 37))) := hb1.alloc hb1.size _
  have hz2 : Below ((w.alloc (.cells #[.int .i64 10, .string t, .int .i64 nn, .slice ax lx.length cx, .int .i64 (d : Int), .bool tx] 39))).heap.size (w.alloc (.cells #[.int .i64 10, .string t, .int .i64 nn, .slice ax lx.length cx, .int .i64 (d : Int), .bool tx] 39)) ((w.alloc (.cells #[.int .i64 10, .string t, .int .i64 nn, .slice ax lx.length cx, .int .i64 (d : Int), .bool tx] 39)).alloc (.cells #[.int .i64 10, .string t, .int .i64 nn, .slice ax lx.length cx] 37)) := (Below.refl _ _).alloc (Nat.le_refl _) _
  have HPB2 : Hid ((((w.alloc (.cells #[.int .i64 10, .string t, .int .i64 nn, .slice ax lx.length cx, .int .i64 (d : Int), .bool tx] 39)).alloc (.cells #[.int .i64 10, .string t, .int .i64 nn, .slice ax lx.length cx] 37))).heap[w.heap.size]? = some (.cells #[.int .i64 10, .string t, .int .i64 nn, .slice ax lx.length cx, .int .i64 (d : Int), .bool tx] 39 (0, 0))) := (hz2.block _ (by omega)).trans (World.alloc_heap_new w _)
  have HXB2 : Hid ((((w.alloc (.cells #[.int .i64 10, .string t, .int .i64 nn, .slice ax lx.length cx, .int .i64 (d : Int), .bool tx] 39)).alloc (.cells #[.int .i64 10, .string t, .int .i64 nn, .slice ax lx.length cx] 37))).heap[w.heap.size + 1]? = some (.cells #[.int .i64 10, .string t, .int .i64 nn, .slice ax lx.length cx] 37 (0, 0))) := by have := World.alloc_heap_new (w.alloc (.cells #[.int .i64 10, .string t, .int .i64 nn, .slice ax lx.length cx, .int .i64 (d : Int), .bool tx] 39)) (.cells #[.int .i64 10, .string t, .int .i64 nn, .slice ax lx.length cx] 37); rw [hs1] at this; exact this
  have hE2 := hE.below HB2.out
  clear hs1 hb1 hz2 hE ht
  go_enter Tryd.func13, Tryd.ntmps13
  have hiff : rgtP 10 t nn (lx.map Vl.er) d tx ↔ nn = 0 ∧ lx ≠ [] ∧ isWordP t = true := by
    simp only [rgtP, fitF, Ck, Wk, Nk]
    simp
    try (constructor <;> (intro h; simp_all))
  have f0 : (((w.alloc (.cells #[.int .i64 10, .string t, .int .i64 nn, .slice ax lx.length cx, .int .i64 (d : Int), .bool tx] 39)).alloc (.cells #[.int .i64 10, .string t, .int .i64 nn, .slice ax lx.length cx] 37))).cell? ⟨0, 40, none⟩ = some (.string ⟨#[97, 98]⟩) := forms_at hE2 40
  have f1 : (((w.alloc (.cells #[.int .i64 10, .string t, .int .i64 nn, .slice ax lx.length cx, .int .i64 (d : Int), .bool tx] 39)).alloc (.cells #[.int .i64 10, .string t, .int .i64 nn, .slice ax lx.length cx] 37))).cell? ⟨0, 41, none⟩ = some (.bool true) := forms_at hE2 41
  have f2 : (((w.alloc (.cells #[.int .i64 10, .string t, .int .i64 nn, .slice ax lx.length cx, .int .i64 (d : Int), .bool tx] 39)).alloc (.cells #[.int .i64 10, .string t, .int .i64 nn, .slice ax lx.length cx] 37))).cell? ⟨0, 42, none⟩ = some (.bool false) := forms_at hE2 42
  have f3 : (((w.alloc (.cells #[.int .i64 10, .string t, .int .i64 nn, .slice ax lx.length cx, .int .i64 (d : Int), .bool tx] 39)).alloc (.cells #[.int .i64 10, .string t, .int .i64 nn, .slice ax lx.length cx] 37))).cell? ⟨0, 43, none⟩ = some (.bool true) := forms_at hE2 43
  have HBZ : Hid (Below w.heap.size w (((w.alloc (.cells #[.int .i64 10, .string t, .int .i64 nn, .slice ax lx.length cx, .int .i64 (d : Int), .bool tx] 39)).alloc (.cells #[.int .i64 10, .string t, .int .i64 nn, .slice ax lx.length cx] 37)).alloc (.cells #[.string ⟨#[97, 98]⟩, .bool true, .bool false, .bool true] 46))) := HB2.out.alloc HB2.out.size _
  have hs2 : (((w.alloc (.cells #[.int .i64 10, .string t, .int .i64 nn, .slice ax lx.length cx, .int .i64 (d : Int), .bool tx] 39)).alloc (.cells #[.int .i64 10, .string t, .int .i64 nn, .slice ax lx.length cx] 37))).heap.size = w.heap.size + 2 := by simp
  have hz3 : Below (((w.alloc (.cells #[.int .i64 10, .string t, .int .i64 nn, .slice ax lx.length cx, .int .i64 (d : Int), .bool tx] 39)).alloc (.cells #[.int .i64 10, .string t, .int .i64 nn, .slice ax lx.length cx] 37))).heap.size ((w.alloc (.cells #[.int .i64 10, .string t, .int .i64 nn, .slice ax lx.length cx, .int .i64 (d : Int), .bool tx] 39)).alloc (.cells #[.int .i64 10, .string t, .int .i64 nn, .slice ax lx.length cx] 37)) (((w.alloc (.cells #[.int .i64 10, .string t, .int .i64 nn, .slice ax lx.length cx, .int .i64 (d : Int), .bool tx] 39)).alloc (.cells #[.int .i64 10, .string t, .int .i64 nn, .slice ax lx.length cx] 37)).alloc (.cells #[.string ⟨#[97, 98]⟩, .bool true, .bool false, .bool true] 46)) := (Below.refl _ _).alloc (Nat.le_refl _) _
  have HFB : Hid (((((w.alloc (.cells #[.int .i64 10, .string t, .int .i64 nn, .slice ax lx.length cx, .int .i64 (d : Int), .bool tx] 39)).alloc (.cells #[.int .i64 10, .string t, .int .i64 nn, .slice ax lx.length cx] 37)).alloc (.cells #[.string ⟨#[97, 98]⟩, .bool true, .bool false, .bool true] 46))).heap[w.heap.size + 2]? = some (.cells #[.string ⟨#[97, 98]⟩, .bool true, .bool false, .bool true] 46 (0, 0))) := by have := World.alloc_heap_new ((w.alloc (.cells #[.int .i64 10, .string t, .int .i64 nn, .slice ax lx.length cx, .int .i64 (d : Int), .bool tx] 39)).alloc (.cells #[.int .i64 10, .string t, .int .i64 nn, .slice ax lx.length cx] 37)) (.cells #[.string ⟨#[97, 98]⟩, .bool true, .bool false, .bool true] 46); rw [hs2] at this; exact this
  have HXB : Hid (((((w.alloc (.cells #[.int .i64 10, .string t, .int .i64 nn, .slice ax lx.length cx, .int .i64 (d : Int), .bool tx] 39)).alloc (.cells #[.int .i64 10, .string t, .int .i64 nn, .slice ax lx.length cx] 37)).alloc (.cells #[.string ⟨#[97, 98]⟩, .bool true, .bool false, .bool true] 46))).heap[w.heap.size + 1]? = some (.cells #[.int .i64 10, .string t, .int .i64 nn, .slice ax lx.length cx] 37 (0, 0))) := (hz3.block _ (by omega)).trans HXB2.out
  have HPB : Hid (((((w.alloc (.cells #[.int .i64 10, .string t, .int .i64 nn, .slice ax lx.length cx, .int .i64 (d : Int), .bool tx] 39)).alloc (.cells #[.int .i64 10, .string t, .int .i64 nn, .slice ax lx.length cx] 37)).alloc (.cells #[.string ⟨#[97, 98]⟩, .bool true, .bool false, .bool true] 46))).heap[w.heap.size]? = some (.cells #[.int .i64 10, .string t, .int .i64 nn, .slice ax lx.length cx, .int .i64 (d : Int), .bool tx] 39 (0, 0))) := (hz3.block _ (by omega)).trans HPB2.out
  have hs3 : ((((w.alloc (.cells #[.int .i64 10, .string t, .int .i64 nn, .slice ax lx.length cx, .int .i64 (d : Int), .bool tx] 39)).alloc (.cells #[.int .i64 10, .string t, .int .i64 nn, .slice ax lx.length cx] 37)).alloc (.cells #[.string ⟨#[97, 98]⟩, .bool true, .bool false, .bool true] 46))).heap.size = w.heap.size + 3 := by simp
  have HFL : Hid (w.heap.size + 2 < ((((w.alloc (.cells #[.int .i64 10, .string t, .int .i64 nn, .slice ax lx.length cx, .int .i64 (d : Int), .bool tx] 39)).alloc (.cells #[.int .i64 10, .string t, .int .i64 nn, .slice ax lx.length cx] 37)).alloc (.cells #[.string ⟨#[97, 98]⟩, .bool true, .bool false, .bool true] 46))).heap.size) := by show _ < _; omega
  have HXL : Hid (w.heap.size + 1 < ((((w.alloc (.cells #[.int .i64 10, .string t, .int .i64 nn, .slice ax lx.length cx, .int .i64 (d : Int), .bool tx] 39)).alloc (.cells #[.int .i64 10, .string t, .int .i64 nn, .slice ax lx.length cx] 37)).alloc (.cells #[.string ⟨#[97, 98]⟩, .bool true, .bool false, .bool true] 46))).heap.size) := by show _ < _; omega
  have HPL : Hid (w.heap.size < ((((w.alloc (.cells #[.int .i64 10, .string t, .int .i64 nn, .slice ax lx.length cx, .int .i64 (d : Int), .bool tx] 39)).alloc (.cells #[.int .i64 10, .string t, .int .i64 nn, .slice ax lx.length cx] 37)).alloc (.cells #[.string ⟨#[97, 98]⟩, .bool true, .bool false, .bool true] 46))).heap.size) := by show _ < _; omega
  clear hs2 hz3 hs3
  clear hE2
  by_cases hq : nn = 0
  · subst hq
    have hq : (0 : Int) = 0 := rfl
    have hn0 := hq
    clear hq
    by_cases hq : lx ≠ []
    · have a3 : 0 < lx.length := List.length_pos_iff.2 hq
      have a4 : ((lx.length : Int) == 0) = false := beq_false_of_ne (by omega)
      have a5 : decide (lx.length = 0) = false := by rw [decide_eq_false_iff_not]; omega
      have a6 : (lx.length == 0) = false := beq_false_of_ne (by omega)
      clear a3
      have hpsne := hq
      clear hq
      by_cases hq : isWordP t = true
      · have b5 : isWordP t = true := by simpa using hq
        have hwd := hq
        clear hq
        have HP : Hid (rgtP 10 t 0 (lx.map Vl.er) d tx) := by
          show rgtP _ _ _ _ _ _
          rw [hiff]
          exact ⟨(by first | assumption | rfl), hpsne, hwd⟩
        clear hiff hn0 hpsne hwd
        go_wp2_with fail
        refine ((HWK.out _).mono ?_)
        rintro e w4 ⟨rfl, hst4⟩
        rw [b5]
        have HB4 := Lib.hid (HBZ.out.trans (hst4.mono HBZ.out.size))
        have y2 := hst4.block _ HXL.out |>.trans HXB.out
        obtain ⟨x0, x1, x2, x3, fx⟩ := box_cells4 y2
        have y3 := hst4.block _ HPL.out |>.trans HPB.out
        obtain ⟨p0, p1, p2, p3, p4, p5⟩ := box_cells6 y3
        have y4 := hst4.block _ HFL.out |>.trans HFB.out
        obtain ⟨f0, f1, f2, f3, ff⟩ := box_cells4 y4
        clear y2 y3 y4 hst4
        go_wp2
        go_ret
        exact rgt_yes HP.out HB4.out
      · have HP : Hid (¬ rgtP 10 t 0 (lx.map Vl.er) d tx) := by
          show ¬ rgtP _ _ _ _ _ _
          rw [hiff]
          intro h
          exact hq h.2.2
        have b5 : isWordP t = false := by simpa using hq
        clear hiff hq hn0 hpsne
        go_wp2_with fail
        refine ((HWK.out _).mono ?_)
        rintro e w4 ⟨rfl, hst4⟩
        rw [b5]
        have HB4 := Lib.hid (HBZ.out.trans (hst4.mono HBZ.out.size))
        have y2 := hst4.block _ HXL.out |>.trans HXB.out
        obtain ⟨x0, x1, x2, x3, fx⟩ := box_cells4 y2
        have y3 := hst4.block _ HPL.out |>.trans HPB.out
        obtain ⟨p0, p1, p2, p3, p4, p5⟩ := box_cells6 y3
        have y4 := hst4.block _ HFL.out |>.trans HFB.out
        obtain ⟨f0, f1, f2, f3, ff⟩ := box_cells4 y4
        clear y2 y3 y4 hst4
        go_wp2
        go_ret
        exact rgt_no (by decide) HP.out HB4.out
    · have HP : Hid (¬ rgtP 10 t 0 (lx.map Vl.er) d tx) := by
        show ¬ rgtP _ _ _ _ _ _
        rw [hiff]
        intro h
        exact hq h.2.1
      have a3 : lx.length = 0 := by rw [Classical.byContradiction hq]; rfl
      have a4 : ((lx.length : Int) == 0) = true := beq_iff_eq.2 (by omega)
      have a5 : decide (lx.length = 0) = true := by rw [decide_eq_true_eq]; omega
      have a6 : (lx.length == 0) = true := beq_iff_eq.2 (by omega)
      clear a3
      clear hiff hq hn0
      go_wp2
      go_ret
      exact rgt_no (by decide) HP.out HBZ.out
  · have HP : Hid (¬ rgtP 10 t nn (lx.map Vl.er) d tx) := by
      show ¬ rgtP _ _ _ _ _ _
      rw [hiff]
      intro h
      exact hq h.1
    have a1 : ((nn : Int) == 0) = false := by simpa using hq
    clear hiff 
    go_wp2
    go_ret
    exact rgt_no (by decide) HP.out HBZ.out
set_option maxRecDepth 100000 in
set_option maxHeartbeats 4000000 in
theorem right_11 (t : ByteArray) (nn : Int) (ax : Option Addr) (cx : Nat) (lx : List Vl) (d : Nat) (tx : Bool) (w : World) (ht : t.size ≤ 60000) (hE : TEnv w) :
    Calls Tryd.prog 13 #[.agg #[.int .i64 11, .string t, .int .i64 nn, .slice ax lx.length cx, .int .i64 (d : Int), .bool tx]] w (RgtP (rgtP 11 t nn (lx.map Vl.er) d tx) w) := by
  have HCK := Lib.hid (fun W => checkS_any t W (by omega))
  have HWK := Lib.hid (fun W => isWord_any t W)
  have HNK := Lib.hid (fun W => isName_any t W)
  have hs1 : ((w.alloc (.cells #[.int .i64 11, .string t, .int .i64 nn, .slice ax lx.length cx, .int .i64 (d : Int), .bool tx] 39))).heap.size = w.heap.size + 1 := by simp
  have hb1 : Below w.heap.size w (w.alloc (.cells #[.int .i64 11, .string t, .int .i64 nn, .slice ax lx.length cx, .int .i64 (d : Int), .bool tx] 39)) := (Below.refl _ _).alloc (Nat.le_refl _) _
  have HB2 : Hid (Below w.heap.size w ((w.alloc (.cells #[.int .i64 11, .string t, .int .i64 nn, .slice ax lx.length cx, .int .i64 (d : Int), .bool tx] 39)).alloc (.cells #[.int .i64 11, .string t, .int .i64 nn, .slice ax lx.length cx] 37))) := hb1.alloc hb1.size _
  have hz2 : Below ((w.alloc (.cells #[.int .i64 11, .string t, .int .i64 nn, .slice ax lx.length cx, .int .i64 (d : Int), .bool tx] 39))).heap.size (w.alloc (.cells #[.int .i64 11, .string t, .int .i64 nn, .slice ax lx.length cx, .int .i64 (d : Int), .bool tx] 39)) ((w.alloc (.cells #[.int .i64 11, .string t, .int .i64 nn, .slice ax lx.length cx, .int .i64 (d : Int), .bool tx] 39)).alloc (.cells #[.int .i64 11, .string t, .int .i64 nn, .slice ax lx.length cx] 37)) := (Below.refl _ _).alloc (Nat.le_refl _) _
  have HPB2 : Hid ((((w.alloc (.cells #[.int .i64 11, .string t, .int .i64 nn, .slice ax lx.length cx, .int .i64 (d : Int), .bool tx] 39)).alloc (.cells #[.int .i64 11, .string t, .int .i64 nn, .slice ax lx.length cx] 37))).heap[w.heap.size]? = some (.cells #[.int .i64 11, .string t, .int .i64 nn, .slice ax lx.length cx, .int .i64 (d : Int), .bool tx] 39 (0, 0))) := (hz2.block _ (by omega)).trans (World.alloc_heap_new w _)
  have HXB2 : Hid ((((w.alloc (.cells #[.int .i64 11, .string t, .int .i64 nn, .slice ax lx.length cx, .int .i64 (d : Int), .bool tx] 39)).alloc (.cells #[.int .i64 11, .string t, .int .i64 nn, .slice ax lx.length cx] 37))).heap[w.heap.size + 1]? = some (.cells #[.int .i64 11, .string t, .int .i64 nn, .slice ax lx.length cx] 37 (0, 0))) := by have := World.alloc_heap_new (w.alloc (.cells #[.int .i64 11, .string t, .int .i64 nn, .slice ax lx.length cx, .int .i64 (d : Int), .bool tx] 39)) (.cells #[.int .i64 11, .string t, .int .i64 nn, .slice ax lx.length cx] 37); rw [hs1] at this; exact this
  have hE2 := hE.below HB2.out
  clear hs1 hb1 hz2 hE ht
  go_enter Tryd.func13, Tryd.ntmps13
  have hiff : rgtP 11 t nn (lx.map Vl.er) d tx ↔ nn = 0 ∧ lx ≠ [] ∧ isNameP t = true := by
    simp only [rgtP, fitF, Ck, Wk, Nk]
    simp
    try (constructor <;> (intro h; simp_all))
  have f0 : (((w.alloc (.cells #[.int .i64 11, .string t, .int .i64 nn, .slice ax lx.length cx, .int .i64 (d : Int), .bool tx] 39)).alloc (.cells #[.int .i64 11, .string t, .int .i64 nn, .slice ax lx.length cx] 37))).cell? ⟨0, 44, none⟩ = some (.string ⟨#[110, 97, 109, 101]⟩) := forms_at hE2 44
  have f1 : (((w.alloc (.cells #[.int .i64 11, .string t, .int .i64 nn, .slice ax lx.length cx, .int .i64 (d : Int), .bool tx] 39)).alloc (.cells #[.int .i64 11, .string t, .int .i64 nn, .slice ax lx.length cx] 37))).cell? ⟨0, 45, none⟩ = some (.bool true) := forms_at hE2 45
  have f2 : (((w.alloc (.cells #[.int .i64 11, .string t, .int .i64 nn, .slice ax lx.length cx, .int .i64 (d : Int), .bool tx] 39)).alloc (.cells #[.int .i64 11, .string t, .int .i64 nn, .slice ax lx.length cx] 37))).cell? ⟨0, 46, none⟩ = some (.bool false) := forms_at hE2 46
  have f3 : (((w.alloc (.cells #[.int .i64 11, .string t, .int .i64 nn, .slice ax lx.length cx, .int .i64 (d : Int), .bool tx] 39)).alloc (.cells #[.int .i64 11, .string t, .int .i64 nn, .slice ax lx.length cx] 37))).cell? ⟨0, 47, none⟩ = some (.bool true) := forms_at hE2 47
  have HBZ : Hid (Below w.heap.size w (((w.alloc (.cells #[.int .i64 11, .string t, .int .i64 nn, .slice ax lx.length cx, .int .i64 (d : Int), .bool tx] 39)).alloc (.cells #[.int .i64 11, .string t, .int .i64 nn, .slice ax lx.length cx] 37)).alloc (.cells #[.string ⟨#[110, 97, 109, 101]⟩, .bool true, .bool false, .bool true] 46))) := HB2.out.alloc HB2.out.size _
  clear hE2
  by_cases hq : nn = 0
  · subst hq
    have hq : (0 : Int) = 0 := rfl
    have hn0 := hq
    clear hq
    by_cases hq : lx ≠ []
    · have a3 : 0 < lx.length := List.length_pos_iff.2 hq
      have a4 : ((lx.length : Int) == 0) = false := beq_false_of_ne (by omega)
      have a5 : decide (lx.length = 0) = false := by rw [decide_eq_false_iff_not]; omega
      have a6 : (lx.length == 0) = false := beq_false_of_ne (by omega)
      clear a3
      have hpsne := hq
      clear hq
      by_cases hq : isNameP t = true
      · have b5 : isNameP t = true := by simpa using hq
        have hnm := hq
        clear hq
        have HP : Hid (rgtP 11 t 0 (lx.map Vl.er) d tx) := by
          show rgtP _ _ _ _ _ _
          rw [hiff]
          exact ⟨(by first | assumption | rfl), hpsne, hnm⟩
        clear hiff hn0 hpsne hnm
        go_wp2_with fail
        refine ((HNK.out _).mono ?_)
        rintro e w4 ⟨rfl, rfl⟩
        rw [b5]
        go_wp2
        go_ret
        exact rgt_yes HP.out HBZ.out
      · have HP : Hid (¬ rgtP 11 t 0 (lx.map Vl.er) d tx) := by
          show ¬ rgtP _ _ _ _ _ _
          rw [hiff]
          intro h
          exact hq h.2.2
        have b5 : isNameP t = false := by simpa using hq
        clear hiff hq hn0 hpsne
        go_wp2_with fail
        refine ((HNK.out _).mono ?_)
        rintro e w4 ⟨rfl, rfl⟩
        rw [b5]
        go_wp2
        go_ret
        exact rgt_no (by decide) HP.out HBZ.out
    · have HP : Hid (¬ rgtP 11 t 0 (lx.map Vl.er) d tx) := by
        show ¬ rgtP _ _ _ _ _ _
        rw [hiff]
        intro h
        exact hq h.2.1
      have a3 : lx.length = 0 := by rw [Classical.byContradiction hq]; rfl
      have a4 : ((lx.length : Int) == 0) = true := beq_iff_eq.2 (by omega)
      have a5 : decide (lx.length = 0) = true := by rw [decide_eq_true_eq]; omega
      have a6 : (lx.length == 0) = true := beq_iff_eq.2 (by omega)
      clear a3
      clear hiff hq hn0
      go_wp2
      go_ret
      exact rgt_no (by decide) HP.out HBZ.out
  · have HP : Hid (¬ rgtP 11 t nn (lx.map Vl.er) d tx) := by
      show ¬ rgtP _ _ _ _ _ _
      rw [hiff]
      intro h
      exact hq h.1
    have a1 : ((nn : Int) == 0) = false := by simpa using hq
    clear hiff 
    go_wp2
    go_ret
    exact rgt_no (by decide) HP.out HBZ.out
end Go.Proofs.YtbjanlmnmeegnaaDoor
