/- transcript.right: the error of a node, by kinds (printed by gen_trgt.py). -/
import Derived.Test.YtbjanlmnmeegnaaDoorTRgt
set_option linter.unusedVariables false
set_option linter.unusedSimpArgs false
namespace Go.Proofs.YtbjanlmnmeegnaaDoor
open Go.RowKit Go.Shelf

set_option maxRecDepth 100000 in
set_option maxHeartbeats 4000000 in
theorem right_1 (t : ByteArray) (nn : Int) (ax : Option Addr) (cx : Nat) (lx : List Vl) (d : Nat) (tx : Bool) (w : World) (ht : t.size ≤ 60000) (hE : TEnv w) :
    Calls Tryd.prog 13 #[.agg #[.int .i64 1, .string t, .int .i64 nn, .slice ax lx.length cx, .int .i64 (d : Int), .bool tx]] w (RgtP (rgtP 1 t nn (lx.map Vl.er) d tx) w) := by
  have HCK := Lib.hid (fun W => checkS_any t W (by omega))
  have HWK := Lib.hid (fun W => isWord_any t W)
  have HNK := Lib.hid (fun W => isName_any t W)
  have hs1 : ((w.alloc (.cells #[.int .i64 1, .string t, .int .i64 nn, .slice ax lx.length cx, .int .i64 (d : Int), .bool tx] 39))).heap.size = w.heap.size + 1 := by simp
  have hb1 : Below w.heap.size w (w.alloc (.cells #[.int .i64 1, .string t, .int .i64 nn, .slice ax lx.length cx, .int .i64 (d : Int), .bool tx] 39)) := (Below.refl _ _).alloc (Nat.le_refl _) _
  have HB2 : Hid (Below w.heap.size w ((w.alloc (.cells #[.int .i64 1, .string t, .int .i64 nn, .slice ax lx.length cx, .int .i64 (d : Int), .bool tx] 39)).alloc (.cells #[.int .i64 1, .string t, .int .i64 nn, .slice ax lx.length cx] 37))) := hb1.alloc hb1.size _
  have hz2 : Below ((w.alloc (.cells #[.int .i64 1, .string t, .int .i64 nn, .slice ax lx.length cx, .int .i64 (d : Int), .bool tx] 39))).heap.size (w.alloc (.cells #[.int .i64 1, .string t, .int .i64 nn, .slice ax lx.length cx, .int .i64 (d : Int), .bool tx] 39)) ((w.alloc (.cells #[.int .i64 1, .string t, .int .i64 nn, .slice ax lx.length cx, .int .i64 (d : Int), .bool tx] 39)).alloc (.cells #[.int .i64 1, .string t, .int .i64 nn, .slice ax lx.length cx] 37)) := (Below.refl _ _).alloc (Nat.le_refl _) _
  have HPB2 : Hid ((((w.alloc (.cells #[.int .i64 1, .string t, .int .i64 nn, .slice ax lx.length cx, .int .i64 (d : Int), .bool tx] 39)).alloc (.cells #[.int .i64 1, .string t, .int .i64 nn, .slice ax lx.length cx] 37))).heap[w.heap.size]? = some (.cells #[.int .i64 1, .string t, .int .i64 nn, .slice ax lx.length cx, .int .i64 (d : Int), .bool tx] 39 (0, 0))) := (hz2.block _ (by omega)).trans (World.alloc_heap_new w _)
  have HXB2 : Hid ((((w.alloc (.cells #[.int .i64 1, .string t, .int .i64 nn, .slice ax lx.length cx, .int .i64 (d : Int), .bool tx] 39)).alloc (.cells #[.int .i64 1, .string t, .int .i64 nn, .slice ax lx.length cx] 37))).heap[w.heap.size + 1]? = some (.cells #[.int .i64 1, .string t, .int .i64 nn, .slice ax lx.length cx] 37 (0, 0))) := by have := World.alloc_heap_new (w.alloc (.cells #[.int .i64 1, .string t, .int .i64 nn, .slice ax lx.length cx, .int .i64 (d : Int), .bool tx] 39)) (.cells #[.int .i64 1, .string t, .int .i64 nn, .slice ax lx.length cx] 37); rw [hs1] at this; exact this
  have hE2 := hE.below HB2.out
  clear hs1 hb1 hz2 hE ht
  go_enter Tryd.func13, Tryd.ntmps13
  have hiff : rgtP 1 t nn (lx.map Vl.er) d tx ↔ nn = 0 ∧ lx = [] ∧ t.size ≠ 0 ∧ chkS t = 0 ∧ tx = false := by
    simp only [rgtP, fitF, Ck, Wk, Nk]
    simp
    try (constructor <;> (intro h; simp_all))
  have f0 : (((w.alloc (.cells #[.int .i64 1, .string t, .int .i64 nn, .slice ax lx.length cx, .int .i64 (d : Int), .bool tx] 39)).alloc (.cells #[.int .i64 1, .string t, .int .i64 nn, .slice ax lx.length cx] 37))).cell? ⟨0, 4, none⟩ = some (.string ⟨#[]⟩) := forms_at hE2 4
  have f1 : (((w.alloc (.cells #[.int .i64 1, .string t, .int .i64 nn, .slice ax lx.length cx, .int .i64 (d : Int), .bool tx] 39)).alloc (.cells #[.int .i64 1, .string t, .int .i64 nn, .slice ax lx.length cx] 37))).cell? ⟨0, 5, none⟩ = some (.bool true) := forms_at hE2 5
  have f2 : (((w.alloc (.cells #[.int .i64 1, .string t, .int .i64 nn, .slice ax lx.length cx, .int .i64 (d : Int), .bool tx] 39)).alloc (.cells #[.int .i64 1, .string t, .int .i64 nn, .slice ax lx.length cx] 37))).cell? ⟨0, 6, none⟩ = some (.bool false) := forms_at hE2 6
  have f3 : (((w.alloc (.cells #[.int .i64 1, .string t, .int .i64 nn, .slice ax lx.length cx, .int .i64 (d : Int), .bool tx] 39)).alloc (.cells #[.int .i64 1, .string t, .int .i64 nn, .slice ax lx.length cx] 37))).cell? ⟨0, 7, none⟩ = some (.bool false) := forms_at hE2 7
  have HBZ : Hid (Below w.heap.size w (((w.alloc (.cells #[.int .i64 1, .string t, .int .i64 nn, .slice ax lx.length cx, .int .i64 (d : Int), .bool tx] 39)).alloc (.cells #[.int .i64 1, .string t, .int .i64 nn, .slice ax lx.length cx] 37)).alloc (.cells #[.string ⟨#[]⟩, .bool true, .bool false, .bool false] 46))) := HB2.out.alloc HB2.out.size _
  have hs2 : (((w.alloc (.cells #[.int .i64 1, .string t, .int .i64 nn, .slice ax lx.length cx, .int .i64 (d : Int), .bool tx] 39)).alloc (.cells #[.int .i64 1, .string t, .int .i64 nn, .slice ax lx.length cx] 37))).heap.size = w.heap.size + 2 := by simp
  have hz3 : Below (((w.alloc (.cells #[.int .i64 1, .string t, .int .i64 nn, .slice ax lx.length cx, .int .i64 (d : Int), .bool tx] 39)).alloc (.cells #[.int .i64 1, .string t, .int .i64 nn, .slice ax lx.length cx] 37))).heap.size ((w.alloc (.cells #[.int .i64 1, .string t, .int .i64 nn, .slice ax lx.length cx, .int .i64 (d : Int), .bool tx] 39)).alloc (.cells #[.int .i64 1, .string t, .int .i64 nn, .slice ax lx.length cx] 37)) (((w.alloc (.cells #[.int .i64 1, .string t, .int .i64 nn, .slice ax lx.length cx, .int .i64 (d : Int), .bool tx] 39)).alloc (.cells #[.int .i64 1, .string t, .int .i64 nn, .slice ax lx.length cx] 37)).alloc (.cells #[.string ⟨#[]⟩, .bool true, .bool false, .bool false] 46)) := (Below.refl _ _).alloc (Nat.le_refl _) _
  have HFB : Hid (((((w.alloc (.cells #[.int .i64 1, .string t, .int .i64 nn, .slice ax lx.length cx, .int .i64 (d : Int), .bool tx] 39)).alloc (.cells #[.int .i64 1, .string t, .int .i64 nn, .slice ax lx.length cx] 37)).alloc (.cells #[.string ⟨#[]⟩, .bool true, .bool false, .bool false] 46))).heap[w.heap.size + 2]? = some (.cells #[.string ⟨#[]⟩, .bool true, .bool false, .bool false] 46 (0, 0))) := by have := World.alloc_heap_new ((w.alloc (.cells #[.int .i64 1, .string t, .int .i64 nn, .slice ax lx.length cx, .int .i64 (d : Int), .bool tx] 39)).alloc (.cells #[.int .i64 1, .string t, .int .i64 nn, .slice ax lx.length cx] 37)) (.cells #[.string ⟨#[]⟩, .bool true, .bool false, .bool false] 46); rw [hs2] at this; exact this
  have HXB : Hid (((((w.alloc (.cells #[.int .i64 1, .string t, .int .i64 nn, .slice ax lx.length cx, .int .i64 (d : Int), .bool tx] 39)).alloc (.cells #[.int .i64 1, .string t, .int .i64 nn, .slice ax lx.length cx] 37)).alloc (.cells #[.string ⟨#[]⟩, .bool true, .bool false, .bool false] 46))).heap[w.heap.size + 1]? = some (.cells #[.int .i64 1, .string t, .int .i64 nn, .slice ax lx.length cx] 37 (0, 0))) := (hz3.block _ (by omega)).trans HXB2.out
  have HPB : Hid (((((w.alloc (.cells #[.int .i64 1, .string t, .int .i64 nn, .slice ax lx.length cx, .int .i64 (d : Int), .bool tx] 39)).alloc (.cells #[.int .i64 1, .string t, .int .i64 nn, .slice ax lx.length cx] 37)).alloc (.cells #[.string ⟨#[]⟩, .bool true, .bool false, .bool false] 46))).heap[w.heap.size]? = some (.cells #[.int .i64 1, .string t, .int .i64 nn, .slice ax lx.length cx, .int .i64 (d : Int), .bool tx] 39 (0, 0))) := (hz3.block _ (by omega)).trans HPB2.out
  have hs3 : ((((w.alloc (.cells #[.int .i64 1, .string t, .int .i64 nn, .slice ax lx.length cx, .int .i64 (d : Int), .bool tx] 39)).alloc (.cells #[.int .i64 1, .string t, .int .i64 nn, .slice ax lx.length cx] 37)).alloc (.cells #[.string ⟨#[]⟩, .bool true, .bool false, .bool false] 46))).heap.size = w.heap.size + 3 := by simp
  have HFL : Hid (w.heap.size + 2 < ((((w.alloc (.cells #[.int .i64 1, .string t, .int .i64 nn, .slice ax lx.length cx, .int .i64 (d : Int), .bool tx] 39)).alloc (.cells #[.int .i64 1, .string t, .int .i64 nn, .slice ax lx.length cx] 37)).alloc (.cells #[.string ⟨#[]⟩, .bool true, .bool false, .bool false] 46))).heap.size) := by show _ < _; omega
  have HXL : Hid (w.heap.size + 1 < ((((w.alloc (.cells #[.int .i64 1, .string t, .int .i64 nn, .slice ax lx.length cx, .int .i64 (d : Int), .bool tx] 39)).alloc (.cells #[.int .i64 1, .string t, .int .i64 nn, .slice ax lx.length cx] 37)).alloc (.cells #[.string ⟨#[]⟩, .bool true, .bool false, .bool false] 46))).heap.size) := by show _ < _; omega
  have HPL : Hid (w.heap.size < ((((w.alloc (.cells #[.int .i64 1, .string t, .int .i64 nn, .slice ax lx.length cx, .int .i64 (d : Int), .bool tx] 39)).alloc (.cells #[.int .i64 1, .string t, .int .i64 nn, .slice ax lx.length cx] 37)).alloc (.cells #[.string ⟨#[]⟩, .bool true, .bool false, .bool false] 46))).heap.size) := by show _ < _; omega
  clear hs2 hz3 hs3
  clear hE2
  by_cases hq : nn = 0
  · subst hq
    have hq : (0 : Int) = 0 := rfl
    have hn0 := hq
    clear hq
    by_cases hq : lx = []
    · have a3 : lx.length = 0 := by rw [hq]; rfl
      have a4 : decide ((lx.length : Int) > 0) = false := by rw [decide_eq_false_iff_not]; omega
      have a5 : decide (0 < lx.length) = false := by rw [decide_eq_false_iff_not]; omega
      clear a3
      have hps0 := hq
      clear hq
      by_cases hq : t.size ≠ 0
      · have a2 := isEmpty_ne hq
        have htne := hq
        clear hq
        by_cases hq : chkS t = 0
        · have hchk := hq
          clear hq
          by_cases hq : tx = false
          · subst hq
            have hq : False = False := rfl
            have htx := hq
            clear hq
            have HP : Hid (rgtP 1 t 0 (lx.map Vl.er) d false) := by
              show rgtP _ _ _ _ _ _
              rw [hiff]
              exact ⟨(by first | assumption | rfl), hps0, htne, hchk, (by first | assumption | rfl)⟩
            clear hiff hn0 hps0 htne htx
            go_wp2_with fail
            refine ((HCK.out _).mono ?_)
            rintro e w4 ⟨rfl, hst4⟩
            first | rw [hchk] | (generalize chkS t = ce at *)
            have HB4 := Lib.hid (HBZ.out.trans (hst4.mono HBZ.out.size))
            have y2 := hst4.block _ HXL.out |>.trans HXB.out
            obtain ⟨x0, x1, x2, x3, fx⟩ := box_cells4 y2
            have y3 := hst4.block _ HPL.out |>.trans HPB.out
            obtain ⟨p0, p1, p2, p3, p4, p5⟩ := box_cells6 y3
            have y4 := hst4.block _ HFL.out |>.trans HFB.out
            obtain ⟨f0, f1, f2, f3, ff⟩ := box_cells4 y4
            clear y2 y3 y4 hst4
            go_wp2
            go_ret
            exact rgt_yes HP.out HB4.out
          · have HP : Hid (¬ rgtP 1 t 0 (lx.map Vl.er) d tx) := by
              show ¬ rgtP _ _ _ _ _ _
              rw [hiff]
              intro h
              exact hq h.2.2.2.2
            obtain rfl : tx = true := by simpa using hq
            clear hiff hn0 hps0 htne
            go_wp2_with fail
            refine ((HCK.out _).mono ?_)
            rintro e w4 ⟨rfl, hst4⟩
            first | rw [hchk] | (generalize chkS t = ce at *)
            have HB4 := Lib.hid (HBZ.out.trans (hst4.mono HBZ.out.size))
            have y2 := hst4.block _ HXL.out |>.trans HXB.out
            obtain ⟨x0, x1, x2, x3, fx⟩ := box_cells4 y2
            have y3 := hst4.block _ HPL.out |>.trans HPB.out
            obtain ⟨p0, p1, p2, p3, p4, p5⟩ := box_cells6 y3
            have y4 := hst4.block _ HFL.out |>.trans HFB.out
            obtain ⟨f0, f1, f2, f3, ff⟩ := box_cells4 y4
            clear y2 y3 y4 hst4
            go_wp2
            go_ret
            exact rgt_no (by decide) HP.out HB4.out
        · have HP : Hid (¬ rgtP 1 t 0 (lx.map Vl.er) d tx) := by
            show ¬ rgtP _ _ _ _ _ _
            rw [hiff]
            intro h
            exact hq h.2.2.2.1
          have b4 : ((chkS t : Int) == 0) = false := by simpa using hq
          clear hiff hq hn0 hps0 htne
          go_wp2_with fail
          refine ((HCK.out _).mono ?_)
          rintro e w4 ⟨rfl, hst4⟩
          first | rw [hchk] | (generalize chkS t = ce at *)
          have HB4 := Lib.hid (HBZ.out.trans (hst4.mono HBZ.out.size))
          have y2 := hst4.block _ HXL.out |>.trans HXB.out
          obtain ⟨x0, x1, x2, x3, fx⟩ := box_cells4 y2
          have y3 := hst4.block _ HPL.out |>.trans HPB.out
          obtain ⟨p0, p1, p2, p3, p4, p5⟩ := box_cells6 y3
          have y4 := hst4.block _ HFL.out |>.trans HFB.out
          obtain ⟨f0, f1, f2, f3, ff⟩ := box_cells4 y4
          clear y2 y3 y4 hst4
          go_wp2
          go_ret
          exact rgt_no (by decide) HP.out HB4.out
      · have HP : Hid (¬ rgtP 1 t 0 (lx.map Vl.er) d tx) := by
          show ¬ rgtP _ _ _ _ _ _
          rw [hiff]
          intro h
          exact hq h.2.2.1
        have a2 : t.toList.isEmpty = true := by rw [empty_of (Classical.byContradiction hq)]; simp
        clear hiff hq hn0 hps0
        go_wp2
        go_ret
        exact rgt_no (by decide) HP.out HBZ.out
    · have HP : Hid (¬ rgtP 1 t 0 (lx.map Vl.er) d tx) := by
        show ¬ rgtP _ _ _ _ _ _
        rw [hiff]
        intro h
        exact hq h.2.1
      have a3 : 0 < lx.length := List.length_pos_iff.2 hq
      have a4 : decide ((lx.length : Int) > 0) = true := by rw [decide_eq_true_eq]; omega
      have a5 : decide (0 < lx.length) = true := by rw [decide_eq_true_eq]; omega
      clear a3
      clear hiff hq hn0
      go_wp2
      go_ret
      exact rgt_no (by decide) HP.out HBZ.out
  · have HP : Hid (¬ rgtP 1 t nn (lx.map Vl.er) d tx) := by
      show ¬ rgtP _ _ _ _ _ _
      rw [hiff]
      intro h
      exact hq h.1
    have a1 : ((nn : Int) == 0) = false := by simpa using hq
    clear hiff 
    go_wp2
    go_ret
    exact rgt_no (by decide) HP.out HBZ.out
set_option maxRecDepth 100000 in
set_option maxHeartbeats 4000000 in
theorem right_2 (t : ByteArray) (nn : Int) (ax : Option Addr) (cx : Nat) (lx : List Vl) (d : Nat) (tx : Bool) (w : World) (ht : t.size ≤ 60000) (hE : TEnv w) :
    Calls Tryd.prog 13 #[.agg #[.int .i64 2, .string t, .int .i64 nn, .slice ax lx.length cx, .int .i64 (d : Int), .bool tx]] w (RgtP (rgtP 2 t nn (lx.map Vl.er) d tx) w) := by
  have HCK := Lib.hid (fun W => checkS_any t W (by omega))
  have HWK := Lib.hid (fun W => isWord_any t W)
  have HNK := Lib.hid (fun W => isName_any t W)
  have hs1 : ((w.alloc (.cells #[.int .i64 2, .string t, .int .i64 nn, .slice ax lx.length cx, .int .i64 (d : Int), .bool tx] 39))).heap.size = w.heap.size + 1 := by simp
  have hb1 : Below w.heap.size w (w.alloc (.cells #[.int .i64 2, .string t, .int .i64 nn, .slice ax lx.length cx, .int .i64 (d : Int), .bool tx] 39)) := (Below.refl _ _).alloc (Nat.le_refl _) _
  have HB2 : Hid (Below w.heap.size w ((w.alloc (.cells #[.int .i64 2, .string t, .int .i64 nn, .slice ax lx.length cx, .int .i64 (d : Int), .bool tx] 39)).alloc (.cells #[.int .i64 2, .string t, .int .i64 nn, .slice ax lx.length cx] 37))) := hb1.alloc hb1.size _
  have hz2 : Below ((w.alloc (.cells #[.int .i64 2, .string t, .int .i64 nn, .slice ax lx.length cx, .int .i64 (d : Int), .bool tx] 39))).heap.size (w.alloc (.cells #[.int .i64 2, .string t, .int .i64 nn, .slice ax lx.length cx, .int .i64 (d : Int), .bool tx] 39)) ((w.alloc (.cells #[.int .i64 2, .string t, .int .i64 nn, .slice ax lx.length cx, .int .i64 (d : Int), .bool tx] 39)).alloc (.cells #[.int .i64 2, .string t, .int .i64 nn, .slice ax lx.length cx] 37)) := (Below.refl _ _).alloc (Nat.le_refl _) _
  have HPB2 : Hid ((((w.alloc (.cells #[.int .i64 2, .string t, .int .i64 nn, .slice ax lx.length cx, .int .i64 (d : Int), .bool tx] 39)).alloc (.cells #[.int .i64 2, .string t, .int .i64 nn, .slice ax lx.length cx] 37))).heap[w.heap.size]? = some (.cells #[.int .i64 2, .string t, .int .i64 nn, .slice ax lx.length cx, .int .i64 (d : Int), .bool tx] 39 (0, 0))) := (hz2.block _ (by omega)).trans (World.alloc_heap_new w _)
  have HXB2 : Hid ((((w.alloc (.cells #[.int .i64 2, .string t, .int .i64 nn, .slice ax lx.length cx, .int .i64 (d : Int), .bool tx] 39)).alloc (.cells #[.int .i64 2, .string t, .int .i64 nn, .slice ax lx.length cx] 37))).heap[w.heap.size + 1]? = some (.cells #[.int .i64 2, .string t, .int .i64 nn, .slice ax lx.length cx] 37 (0, 0))) := by have := World.alloc_heap_new (w.alloc (.cells #[.int .i64 2, .string t, .int .i64 nn, .slice ax lx.length cx, .int .i64 (d : Int), .bool tx] 39)) (.cells #[.int .i64 2, .string t, .int .i64 nn, .slice ax lx.length cx] 37); rw [hs1] at this; exact this
  have hE2 := hE.below HB2.out
  clear hs1 hb1 hz2 hE ht
  go_enter Tryd.func13, Tryd.ntmps13
  have hiff : rgtP 2 t nn (lx.map Vl.er) d tx ↔ t.size = 0 ∧ nn = 0 ∧ lx = [] := by
    simp only [rgtP, fitF, Ck, Wk, Nk]
    simp
    try (constructor <;> (intro h; simp_all))
  have f0 : (((w.alloc (.cells #[.int .i64 2, .string t, .int .i64 nn, .slice ax lx.length cx, .int .i64 (d : Int), .bool tx] 39)).alloc (.cells #[.int .i64 2, .string t, .int .i64 nn, .slice ax lx.length cx] 37))).cell? ⟨0, 8, none⟩ = some (.string ⟨#[108, 98]⟩) := forms_at hE2 8
  have f1 : (((w.alloc (.cells #[.int .i64 2, .string t, .int .i64 nn, .slice ax lx.length cx, .int .i64 (d : Int), .bool tx] 39)).alloc (.cells #[.int .i64 2, .string t, .int .i64 nn, .slice ax lx.length cx] 37))).cell? ⟨0, 9, none⟩ = some (.bool false) := forms_at hE2 9
  have f2 : (((w.alloc (.cells #[.int .i64 2, .string t, .int .i64 nn, .slice ax lx.length cx, .int .i64 (d : Int), .bool tx] 39)).alloc (.cells #[.int .i64 2, .string t, .int .i64 nn, .slice ax lx.length cx] 37))).cell? ⟨0, 10, none⟩ = some (.bool false) := forms_at hE2 10
  have f3 : (((w.alloc (.cells #[.int .i64 2, .string t, .int .i64 nn, .slice ax lx.length cx, .int .i64 (d : Int), .bool tx] 39)).alloc (.cells #[.int .i64 2, .string t, .int .i64 nn, .slice ax lx.length cx] 37))).cell? ⟨0, 11, none⟩ = some (.bool false) := forms_at hE2 11
  have HBZ : Hid (Below w.heap.size w (((w.alloc (.cells #[.int .i64 2, .string t, .int .i64 nn, .slice ax lx.length cx, .int .i64 (d : Int), .bool tx] 39)).alloc (.cells #[.int .i64 2, .string t, .int .i64 nn, .slice ax lx.length cx] 37)).alloc (.cells #[.string ⟨#[108, 98]⟩, .bool false, .bool false, .bool false] 46))) := HB2.out.alloc HB2.out.size _
  clear hE2
  by_cases hq : t.size = 0
  · obtain rfl := empty_of hq
    have ht0 := hq
    clear hq
    by_cases hq : nn = 0
    · subst hq
      have hq : (0 : Int) = 0 := rfl
      have hn0 := hq
      clear hq
      by_cases hq : lx = []
      · have a3 : lx.length = 0 := by rw [hq]; rfl
        have a4 : decide ((lx.length : Int) > 0) = false := by rw [decide_eq_false_iff_not]; omega
        have a5 : decide (0 < lx.length) = false := by rw [decide_eq_false_iff_not]; omega
        clear a3
        have hps0 := hq
        clear hq
        have HP : Hid (rgtP 2 ⟨#[]⟩ 0 (lx.map Vl.er) d tx) := by
          show rgtP _ _ _ _ _ _
          rw [hiff]
          exact ⟨(by first | assumption | rfl), (by first | assumption | rfl), hps0⟩
        clear hiff ht0 hn0 hps0
        go_wp2
        go_ret
        exact rgt_yes HP.out HBZ.out
      · have HP : Hid (¬ rgtP 2 ⟨#[]⟩ 0 (lx.map Vl.er) d tx) := by
          show ¬ rgtP _ _ _ _ _ _
          rw [hiff]
          intro h
          exact hq h.2.2
        have a3 : 0 < lx.length := List.length_pos_iff.2 hq
        have a4 : decide ((lx.length : Int) > 0) = true := by rw [decide_eq_true_eq]; omega
        have a5 : decide (0 < lx.length) = true := by rw [decide_eq_true_eq]; omega
        clear a3
        clear hiff hq ht0 hn0
        go_wp2
        go_ret
        exact rgt_no (by decide) HP.out HBZ.out
    · have HP : Hid (¬ rgtP 2 ⟨#[]⟩ nn (lx.map Vl.er) d tx) := by
        show ¬ rgtP _ _ _ _ _ _
        rw [hiff]
        intro h
        exact hq h.2.1
      have a1 : ((nn : Int) == 0) = false := by simpa using hq
      clear hiff ht0
      go_wp2
      go_ret
      exact rgt_no (by decide) HP.out HBZ.out
  · have HP : Hid (¬ rgtP 2 t nn (lx.map Vl.er) d tx) := by
      show ¬ rgtP _ _ _ _ _ _
      rw [hiff]
      intro h
      exact hq h.1
    have a2 := isEmpty_ne hq
    clear hiff hq
    go_wp2
    go_ret
    exact rgt_no (by decide) HP.out HBZ.out
set_option maxRecDepth 100000 in
set_option maxHeartbeats 4000000 in
theorem right_3 (t : ByteArray) (nn : Int) (ax : Option Addr) (cx : Nat) (lx : List Vl) (d : Nat) (tx : Bool) (w : World) (ht : t.size ≤ 60000) (hE : TEnv w) :
    Calls Tryd.prog 13 #[.agg #[.int .i64 3, .string t, .int .i64 nn, .slice ax lx.length cx, .int .i64 (d : Int), .bool tx]] w (RgtP (rgtP 3 t nn (lx.map Vl.er) d tx) w) := by
  have HCK := Lib.hid (fun W => checkS_any t W (by omega))
  have HWK := Lib.hid (fun W => isWord_any t W)
  have HNK := Lib.hid (fun W => isName_any t W)
  have hs1 : ((w.alloc (.cells #[.int .i64 3, .string t, .int .i64 nn, .slice ax lx.length cx, .int .i64 (d : Int), .bool tx] 39))).heap.size = w.heap.size + 1 := by simp
  have hb1 : Below w.heap.size w (w.alloc (.cells #[.int .i64 3, .string t, .int .i64 nn, .slice ax lx.length cx, .int .i64 (d : Int), .bool tx] 39)) := (Below.refl _ _).alloc (Nat.le_refl _) _
  have HB2 : Hid (Below w.heap.size w ((w.alloc (.cells #[.int .i64 3, .string t, .int .i64 nn, .slice ax lx.length cx, .int .i64 (d : Int), .bool tx] 39)).alloc (.cells #[.int .i64 3, .string t, .int .i64 nn, .slice ax lx.length cx] 37))) := hb1.alloc hb1.size _
  have hz2 : Below ((w.alloc (.cells #[.int .i64 3, .string t, .int .i64 nn, .slice ax lx.length cx, .int .i64 (d : Int), .bool tx] 39))).heap.size (w.alloc (.cells #[.int .i64 3, .string t, .int .i64 nn, .slice ax lx.length cx, .int .i64 (d : Int), .bool tx] 39)) ((w.alloc (.cells #[.int .i64 3, .string t, .int .i64 nn, .slice ax lx.length cx, .int .i64 (d : Int), .bool tx] 39)).alloc (.cells #[.int .i64 3, .string t, .int .i64 nn, .slice ax lx.length cx] 37)) := (Below.refl _ _).alloc (Nat.le_refl _) _
  have HPB2 : Hid ((((w.alloc (.cells #[.int .i64 3, .string t, .int .i64 nn, .slice ax lx.length cx, .int .i64 (d : Int), .bool tx] 39)).alloc (.cells #[.int .i64 3, .string t, .int .i64 nn, .slice ax lx.length cx] 37))).heap[w.heap.size]? = some (.cells #[.int .i64 3, .string t, .int .i64 nn, .slice ax lx.length cx, .int .i64 (d : Int), .bool tx] 39 (0, 0))) := (hz2.block _ (by omega)).trans (World.alloc_heap_new w _)
  have HXB2 : Hid ((((w.alloc (.cells #[.int .i64 3, .string t, .int .i64 nn, .slice ax lx.length cx, .int .i64 (d : Int), .bool tx] 39)).alloc (.cells #[.int .i64 3, .string t, .int .i64 nn, .slice ax lx.length cx] 37))).heap[w.heap.size + 1]? = some (.cells #[.int .i64 3, .string t, .int .i64 nn, .slice ax lx.length cx] 37 (0, 0))) := by have := World.alloc_heap_new (w.alloc (.cells #[.int .i64 3, .string t, .int .i64 nn, .slice ax lx.length cx, .int .i64 (d : Int), .bool tx] 39)) (.cells #[.int .i64 3, .string t, .int .i64 nn, .slice ax lx.length cx] 37); rw [hs1] at this; exact this
  have hE2 := hE.below HB2.out
  clear hs1 hb1 hz2 hE ht
  go_enter Tryd.func13, Tryd.ntmps13
  have hiff : rgtP 3 t nn (lx.map Vl.er) d tx ↔ nn = 0 ∧ lx = [] ∧ isNameP t = true := by
    simp only [rgtP, fitF, Ck, Wk, Nk]
    simp
    try (constructor <;> (intro h; simp_all))
  have f0 : (((w.alloc (.cells #[.int .i64 3, .string t, .int .i64 nn, .slice ax lx.length cx, .int .i64 (d : Int), .bool tx] 39)).alloc (.cells #[.int .i64 3, .string t, .int .i64 nn, .slice ax lx.length cx] 37))).cell? ⟨0, 12, none⟩ = some (.string ⟨#[112, 98]⟩) := forms_at hE2 12
  have f1 : (((w.alloc (.cells #[.int .i64 3, .string t, .int .i64 nn, .slice ax lx.length cx, .int .i64 (d : Int), .bool tx] 39)).alloc (.cells #[.int .i64 3, .string t, .int .i64 nn, .slice ax lx.length cx] 37))).cell? ⟨0, 13, none⟩ = some (.bool true) := forms_at hE2 13
  have f2 : (((w.alloc (.cells #[.int .i64 3, .string t, .int .i64 nn, .slice ax lx.length cx, .int .i64 (d : Int), .bool tx] 39)).alloc (.cells #[.int .i64 3, .string t, .int .i64 nn, .slice ax lx.length cx] 37))).cell? ⟨0, 14, none⟩ = some (.bool false) := forms_at hE2 14
  have f3 : (((w.alloc (.cells #[.int .i64 3, .string t, .int .i64 nn, .slice ax lx.length cx, .int .i64 (d : Int), .bool tx] 39)).alloc (.cells #[.int .i64 3, .string t, .int .i64 nn, .slice ax lx.length cx] 37))).cell? ⟨0, 15, none⟩ = some (.bool false) := forms_at hE2 15
  have HBZ : Hid (Below w.heap.size w (((w.alloc (.cells #[.int .i64 3, .string t, .int .i64 nn, .slice ax lx.length cx, .int .i64 (d : Int), .bool tx] 39)).alloc (.cells #[.int .i64 3, .string t, .int .i64 nn, .slice ax lx.length cx] 37)).alloc (.cells #[.string ⟨#[112, 98]⟩, .bool true, .bool false, .bool false] 46))) := HB2.out.alloc HB2.out.size _
  clear hE2
  by_cases hq : nn = 0
  · subst hq
    have hq : (0 : Int) = 0 := rfl
    have hn0 := hq
    clear hq
    by_cases hq : lx = []
    · have a3 : lx.length = 0 := by rw [hq]; rfl
      have a4 : decide ((lx.length : Int) > 0) = false := by rw [decide_eq_false_iff_not]; omega
      have a5 : decide (0 < lx.length) = false := by rw [decide_eq_false_iff_not]; omega
      clear a3
      have hps0 := hq
      clear hq
      by_cases hq : isNameP t = true
      · have b5 : isNameP t = true := by simpa using hq
        have hnm := hq
        clear hq
        have HP : Hid (rgtP 3 t 0 (lx.map Vl.er) d tx) := by
          show rgtP _ _ _ _ _ _
          rw [hiff]
          exact ⟨(by first | assumption | rfl), hps0, hnm⟩
        clear hiff hn0 hps0 hnm
        go_wp2_with fail
        refine ((HNK.out _).mono ?_)
        rintro e w4 ⟨rfl, rfl⟩
        rw [b5]
        go_wp2
        go_ret
        exact rgt_yes HP.out HBZ.out
      · have HP : Hid (¬ rgtP 3 t 0 (lx.map Vl.er) d tx) := by
          show ¬ rgtP _ _ _ _ _ _
          rw [hiff]
          intro h
          exact hq h.2.2
        have b5 : isNameP t = false := by simpa using hq
        clear hiff hq hn0 hps0
        go_wp2_with fail
        refine ((HNK.out _).mono ?_)
        rintro e w4 ⟨rfl, rfl⟩
        rw [b5]
        go_wp2
        go_ret
        exact rgt_no (by decide) HP.out HBZ.out
    · have HP : Hid (¬ rgtP 3 t 0 (lx.map Vl.er) d tx) := by
        show ¬ rgtP _ _ _ _ _ _
        rw [hiff]
        intro h
        exact hq h.2.1
      have a3 : 0 < lx.length := List.length_pos_iff.2 hq
      have a4 : decide ((lx.length : Int) > 0) = true := by rw [decide_eq_true_eq]; omega
      have a5 : decide (0 < lx.length) = true := by rw [decide_eq_true_eq]; omega
      clear a3
      clear hiff hq hn0
      go_wp2
      go_ret
      exact rgt_no (by decide) HP.out HBZ.out
  · have HP : Hid (¬ rgtP 3 t nn (lx.map Vl.er) d tx) := by
      show ¬ rgtP _ _ _ _ _ _
      rw [hiff]
      intro h
      exact hq h.1
    have a1 : ((nn : Int) == 0) = false := by simpa using hq
    clear hiff 
    go_wp2
    go_ret
    exact rgt_no (by decide) HP.out HBZ.out
set_option maxRecDepth 100000 in
set_option maxHeartbeats 4000000 in
theorem right_4 (t : ByteArray) (nn : Int) (ax : Option Addr) (cx : Nat) (lx : List Vl) (d : Nat) (tx : Bool) (w : World) (ht : t.size ≤ 60000) (hE : TEnv w) :
    Calls Tryd.prog 13 #[.agg #[.int .i64 4, .string t, .int .i64 nn, .slice ax lx.length cx, .int .i64 (d : Int), .bool tx]] w (RgtP (rgtP 4 t nn (lx.map Vl.er) d tx) w) := by
  have HCK := Lib.hid (fun W => checkS_any t W (by omega))
  have HWK := Lib.hid (fun W => isWord_any t W)
  have HNK := Lib.hid (fun W => isName_any t W)
  have hs1 : ((w.alloc (.cells #[.int .i64 4, .string t, .int .i64 nn, .slice ax lx.length cx, .int .i64 (d : Int), .bool tx] 39))).heap.size = w.heap.size + 1 := by simp
  have hb1 : Below w.heap.size w (w.alloc (.cells #[.int .i64 4, .string t, .int .i64 nn, .slice ax lx.length cx, .int .i64 (d : Int), .bool tx] 39)) := (Below.refl _ _).alloc (Nat.le_refl _) _
  have HB2 : Hid (Below w.heap.size w ((w.alloc (.cells #[.int .i64 4, .string t, .int .i64 nn, .slice ax lx.length cx, .int .i64 (d : Int), .bool tx] 39)).alloc (.cells #[.int .i64 4, .string t, .int .i64 nn, .slice ax lx.length cx] 37))) := hb1.alloc hb1.size _
  have hz2 : Below ((w.alloc (.cells #[.int .i64 4, .string t, .int .i64 nn, .slice ax lx.length cx, .int .i64 (d : Int), .bool tx] 39))).heap.size (w.alloc (.cells #[.int .i64 4, .string t, .int .i64 nn, .slice ax lx.length cx, .int .i64 (d : Int), .bool tx] 39)) ((w.alloc (.cells #[.int .i64 4, .string t, .int .i64 nn, .slice ax lx.length cx, .int .i64 (d : Int), .bool tx] 39)).alloc (.cells #[.int .i64 4, .string t, .int .i64 nn, .slice ax lx.length cx] 37)) := (Below.refl _ _).alloc (Nat.le_refl _) _
  have HPB2 : Hid ((((w.alloc (.cells #[.int .i64 4, .string t, .int .i64 nn, .slice ax lx.length cx, .int .i64 (d : Int), .bool tx] 39)).alloc (.cells #[.int .i64 4, .string t, .int .i64 nn, .slice ax lx.length cx] 37))).heap[w.heap.size]? = some (.cells #[.int .i64 4, .string t, .int .i64 nn, .slice ax lx.length cx, .int .i64 (d : Int), .bool tx] 39 (0, 0))) := (hz2.block _ (by omega)).trans (World.alloc_heap_new w _)
  have HXB2 : Hid ((((w.alloc (.cells #[.int .i64 4, .string t, .int .i64 nn, .slice ax lx.length cx, .int .i64 (d : Int), .bool tx] 39)).alloc (.cells #[.int .i64 4, .string t, .int .i64 nn, .slice ax lx.length cx] 37))).heap[w.heap.size + 1]? = some (.cells #[.int .i64 4, .string t, .int .i64 nn, .slice ax lx.length cx] 37 (0, 0))) := by have := World.alloc_heap_new (w.alloc (.cells #[.int .i64 4, .string t, .int .i64 nn, .slice ax lx.length cx, .int .i64 (d : Int), .bool tx] 39)) (.cells #[.int .i64 4, .string t, .int .i64 nn, .slice ax lx.length cx] 37); rw [hs1] at this; exact this
  have hE2 := hE.below HB2.out
  clear hs1 hb1 hz2 hE ht
  go_enter Tryd.func13, Tryd.ntmps13
  have hiff : rgtP 4 t nn (lx.map Vl.er) d tx ↔ nn = 0 ∧ lx = [] ∧ isNameP t = true ∧ d = 0 := by
    simp only [rgtP, fitF, Ck, Wk, Nk]
    simp
    try (constructor <;> (intro h; simp_all))
  have f0 : (((w.alloc (.cells #[.int .i64 4, .string t, .int .i64 nn, .slice ax lx.length cx, .int .i64 (d : Int), .bool tx] 39)).alloc (.cells #[.int .i64 4, .string t, .int .i64 nn, .slice ax lx.length cx] 37))).cell? ⟨0, 16, none⟩ = some (.string ⟨#[115, 101, 99]⟩) := forms_at hE2 16
  have f1 : (((w.alloc (.cells #[.int .i64 4, .string t, .int .i64 nn, .slice ax lx.length cx, .int .i64 (d : Int), .bool tx] 39)).alloc (.cells #[.int .i64 4, .string t, .int .i64 nn, .slice ax lx.length cx] 37))).cell? ⟨0, 17, none⟩ = some (.bool true) := forms_at hE2 17
  have f2 : (((w.alloc (.cells #[.int .i64 4, .string t, .int .i64 nn, .slice ax lx.length cx, .int .i64 (d : Int), .bool tx] 39)).alloc (.cells #[.int .i64 4, .string t, .int .i64 nn, .slice ax lx.length cx] 37))).cell? ⟨0, 18, none⟩ = some (.bool false) := forms_at hE2 18
  have f3 : (((w.alloc (.cells #[.int .i64 4, .string t, .int .i64 nn, .slice ax lx.length cx, .int .i64 (d : Int), .bool tx] 39)).alloc (.cells #[.int .i64 4, .string t, .int .i64 nn, .slice ax lx.length cx] 37))).cell? ⟨0, 19, none⟩ = some (.bool false) := forms_at hE2 19
  have HBZ : Hid (Below w.heap.size w (((w.alloc (.cells #[.int .i64 4, .string t, .int .i64 nn, .slice ax lx.length cx, .int .i64 (d : Int), .bool tx] 39)).alloc (.cells #[.int .i64 4, .string t, .int .i64 nn, .slice ax lx.length cx] 37)).alloc (.cells #[.string ⟨#[115, 101, 99]⟩, .bool true, .bool false, .bool false] 46))) := HB2.out.alloc HB2.out.size _
  clear hE2
  by_cases hq : nn = 0
  · subst hq
    have hq : (0 : Int) = 0 := rfl
    have hn0 := hq
    clear hq
    by_cases hq : lx = []
    · have a3 : lx.length = 0 := by rw [hq]; rfl
      have a4 : decide ((lx.length : Int) > 0) = false := by rw [decide_eq_false_iff_not]; omega
      have a5 : decide (0 < lx.length) = false := by rw [decide_eq_false_iff_not]; omega
      clear a3
      have hps0 := hq
      clear hq
      by_cases hq : isNameP t = true
      · have b5 : isNameP t = true := by simpa using hq
        have hnm := hq
        clear hq
        by_cases hq : d = 0
        · have b1 : decide ((d : Int) > 0) = false := by simp; omega
          have b2 : decide (0 < d) = false := by simp; omega
          have hdep := hq
          clear hq
          have HP : Hid (rgtP 4 t 0 (lx.map Vl.er) d tx) := by
            show rgtP _ _ _ _ _ _
            rw [hiff]
            exact ⟨(by first | assumption | rfl), hps0, hnm, hdep⟩
          clear hiff hn0 hps0 hnm hdep
          go_wp2_with fail
          refine ((HNK.out _).mono ?_)
          rintro e w4 ⟨rfl, rfl⟩
          rw [b5]
          go_wp2
          go_ret
          exact rgt_yes HP.out HBZ.out
        · have HP : Hid (¬ rgtP 4 t 0 (lx.map Vl.er) d tx) := by
            show ¬ rgtP _ _ _ _ _ _
            rw [hiff]
            intro h
            exact hq h.2.2.2
          have b1 : decide ((d : Int) > 0) = true := by simp; omega
          have b2 : decide (0 < d) = true := by simp; omega
          clear hiff hq hn0 hps0 hnm
          go_wp2_with fail
          refine ((HNK.out _).mono ?_)
          rintro e w4 ⟨rfl, rfl⟩
          rw [b5]
          go_wp2
          go_ret
          exact rgt_no (by decide) HP.out HBZ.out
      · have HP : Hid (¬ rgtP 4 t 0 (lx.map Vl.er) d tx) := by
          show ¬ rgtP _ _ _ _ _ _
          rw [hiff]
          intro h
          exact hq h.2.2.1
        have b5 : isNameP t = false := by simpa using hq
        clear hiff hq hn0 hps0
        go_wp2_with fail
        refine ((HNK.out _).mono ?_)
        rintro e w4 ⟨rfl, rfl⟩
        rw [b5]
        go_wp2
        go_ret
        exact rgt_no (by decide) HP.out HBZ.out
    · have HP : Hid (¬ rgtP 4 t 0 (lx.map Vl.er) d tx) := by
        show ¬ rgtP _ _ _ _ _ _
        rw [hiff]
        intro h
        exact hq h.2.1
      have a3 : 0 < lx.length := List.length_pos_iff.2 hq
      have a4 : decide ((lx.length : Int) > 0) = true := by rw [decide_eq_true_eq]; omega
      have a5 : decide (0 < lx.length) = true := by rw [decide_eq_true_eq]; omega
      clear a3
      clear hiff hq hn0
      go_wp2
      go_ret
      exact rgt_no (by decide) HP.out HBZ.out
  · have HP : Hid (¬ rgtP 4 t nn (lx.map Vl.er) d tx) := by
      show ¬ rgtP _ _ _ _ _ _
      rw [hiff]
      intro h
      exact hq h.1
    have a1 : ((nn : Int) == 0) = false := by simpa using hq
    clear hiff 
    go_wp2
    go_ret
    exact rgt_no (by decide) HP.out HBZ.out
end Go.Proofs.YtbjanlmnmeegnaaDoor
