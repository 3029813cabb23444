/- CodecCanonical. -/
import Derived.Test.YtancjkaoocgeeaaDoorCAwk
import Derived.Test.YtancjkaoocgeeaaDoorCLawP
namespace Go.Proofs.YtancjkaoocgeeaaDoor
open Go.RowKit

set_option maxRecDepth 100000 in
set_option maxHeartbeats 4000000 in
theorem law_canonical (s : ByteArray) (w : World) (hE : Env w) :
    Calls Tryd.prog 4 #[.string s] w fun e w' => e = .returned (.bool true) ∧ Below w.heap.size w w' := by
  have HE := Lib.hid hE
  by_cases hs : 300 < s.size
  · have hsI : (300 : Int) < (s.size : Int) := by omega
    clear hE
    go_enter Tryd.func4, Tryd.ntmps4
    go_wp2_with (go_at_call 11; refine (awake_any _ HE.out).mono ?_; rintro e w2 ⟨rfl, b2⟩)
    go_ret
    exact ⟨rfl, b2⟩
  · have hsI : ¬ (300 : Int) < (s.size : Int) := by omega
    have D := Lib.hid (decode_any s (by omega) w hE)
    clear hE
    by_cases hd : (decode s.data.toList).2 = 0
    · have HC : Hid (encB (decode s.data.toList).1 = s.data.toList ∧ encE (decode s.data.toList).1 = 0) := decode_sound (v := (decode s.data.toList).1) (by rw [← hd])
      go_enter Tryd.func4, Tryd.ntmps4
      go_wp2_with fail
      refine D.out.mono ?_
      rintro e w2 ⟨S, v, he, hv, hr, hS, hb2⟩
      rw [hd] at he
      obtain ⟨k, nn, t, a, c, l⟩ := v
      change e = .returned (.tuple #[.agg #[.int .i64 k, .int .i64 nn, .string t, .slice a l.length c], .int .i64 0]) at he
      subst he
      have hb3 : Below w2.heap.size w2 (w2.alloc (.cells #[.int .i64 k, .int .i64 nn, .string t, .slice a l.length c] 24)) := (Below.refl _ _).alloc (Nat.le_refl _) _
      have hr3 := hr.below hb3
      have hb13 := hb2.trans (hb3.mono hb2.size)
      obtain ⟨d0, d1, d2, d3, -⟩ := box_cells (World.alloc_heap_new w2 (.cells #[.int .i64 k, .int .i64 nn, .string t, .slice a l.length c] 24))
      have hS3 : ∀ b, S b → b < (w2.alloc (.cells #[.int .i64 k, .int .i64 nn, .string t, .slice a l.length c] 24)).heap.size := fun b hb => Nat.lt_of_lt_of_le (hS b hb).2 hb3.size
      have EN := encode_A S _ _ hr3 hS3 (HE.out.below hb13)
      rw [hv, HC.out.1, HC.out.2, toArray_bytes] at EN
      dsimp only [Vl.val, Vl.cells, Vl.kind, Vl.num, Vl.text, Vl.sl, Vl.addr, Vl.items, Vl.cap] at EN
      have HEN := Lib.hid EN
      have HB := Lib.hid hb13
      clear hr hr3 hS hS3 hb3 hb13 hb2 EN hv hd D
      go_wp2_with fail
      generalize w2.alloc (.cells #[.int .i64 k, .int .i64 nn, .string t, .slice a l.length c] 24) = W3 at *
      refine HEN.out.mono ?_
      rintro e W4 ⟨rfl, hb4⟩
      have hb14 := HB.out.trans (hb4.mono HB.out.size)
      go_wp2_with (go_at_call 11; refine (awake_any _ (HE.out.below hb14)).mono ?_; rintro e W5 ⟨rfl, b5⟩)
      go_ret
      exact ⟨rfl, hb14.trans (b5.mono hb14.size)⟩
    · obtain ⟨h34, hz⟩ := decode_err hd
      have HZ := Lib.hid hz
      clear hd hz
      rcases h34 with h3 | h3
      all_goals
        have H3 := Lib.hid h3
        clear h3
        go_enter Tryd.func4, Tryd.ntmps4
        go_wp2_with fail
        refine D.out.mono ?_
        rintro e w2 ⟨S, v, he, hv, hr, hS, hb2⟩
        rw [H3.out] at he
        rw [HZ.out] at hv
        obtain ⟨k, nn, t, a, c, l⟩ := v
        first | change e = .returned (.tuple #[.agg #[.int .i64 k, .int .i64 nn, .string t, .slice a l.length c], .int .i64 3]) at he | change e = .returned (.tuple #[.agg #[.int .i64 k, .int .i64 nn, .string t, .slice a l.length c], .int .i64 4]) at he
        subst he
        have hb3 : Below w2.heap.size w2 (w2.alloc (.cells #[.int .i64 k, .int .i64 nn, .string t, .slice a l.length c] 24)) := (Below.refl _ _).alloc (Nat.le_refl _) _
        have hr3 := hr.below hb3
        have hb13 := hb2.trans (hb3.mono hb2.size)
        obtain ⟨d0, d1, d2, d3, -⟩ := box_cells (World.alloc_heap_new w2 (.cells #[.int .i64 k, .int .i64 nn, .string t, .slice a l.length c] 24))
        have SM := same_ref S (fun _ => False) _ (mkLeaf 0 0 ⟨#[]⟩) _ hr3 (rd_zero _ _)
        rw [hv, (sameV_iff _ _).2 (by rw [leaf_er]; rfl)] at SM
        dsimp only [Vl.val, Vl.cells, Vl.kind, Vl.num, Vl.text, Vl.sl, Vl.addr, Vl.items, Vl.cap] at SM
        have HSM := Lib.hid SM
        have HB := Lib.hid hb13
        clear hr hr3 hS hb3 hb13 hb2 SM hv D
        go_wp2_with fail
        generalize w2.alloc (.cells #[.int .i64 k, .int .i64 nn, .string t, .slice a l.length c] 24) = W3 at *
        refine HSM.out.mono ?_
        rintro e W4 ⟨rfl, hb4⟩
        have hb14 := HB.out.trans (hb4.mono HB.out.size)
        go_wp2_with (go_at_call 11; refine (awake_any _ (HE.out.below hb14)).mono ?_; rintro e W5 ⟨rfl, b5⟩)
        go_ret
        exact ⟨rfl, hb14.trans (b5.mono hb14.size)⟩
end Go.Proofs.YtancjkaoocgeeaaDoor
