/- awake, of the laws: always true. -/
import Derived.Test.YtancjkaoocgeeaaDoorCDecW
import Derived.Test.YtancjkaoocgeeaaDoorCGreat
import Derived.Test.YtancjkaoocgeeaaDoorCSamR
namespace Go.Proofs.YtancjkaoocgeeaaDoor
open Go.RowKit

def awV : V := .mk 3 0 ⟨#[]⟩ [.mk 1 7 ⟨#[]⟩ [], .mk 2 0 ⟨#[97, 98, 99]⟩ [], .mk 3 0 ⟨#[]⟩ []]
def awS : List UInt8 := [108, 105, 55, 59, 115, 51, 58, 97, 98, 99, 108, 101, 101]
theorem aw_chk : chkV awV = 0 := by kernel_rfl
theorem aw_siz : sizV awV = 4 := by kernel_rfl
theorem aw_encE : encE awV = 0 := by kernel_rfl
theorem aw_encB : encB awV = awS := by kernel_rfl
theorem aw_dec : decode awS = (awV, 0) := by kernel_rfl
theorem aw_dec2 : decode [105, 48, 55, 59] = (zeroV, 3) := by kernel_rfl
theorem cell_of_block {w : World} {b : Nat} {cs : Array Value} {t : Nat} {fr : Nat × Nat} (h : w.heap[b]? = some (.cells cs t fr)) {j : Nat} {v : Value} (hj : cs[j]? = some v) : w.cell? ⟨b, j, none⟩ = some v := by
  unfold World.cell?; rw [h]; exact hj
abbrev awL : List Vl := [mkInt 7, mkText ⟨#[97, 98, 99]⟩, mkList none 0 []]
abbrev awC : Array Value := #[.int .i64 1, .int .i64 7, .string ⟨#[]⟩, .slice none 0 0, .int .i64 2, .int .i64 0, .string ⟨#[97, 98, 99]⟩, .slice none 0 0, .int .i64 3, .int .i64 0, .string ⟨#[]⟩, .slice none 0 0]
theorem aw_vals {w : World} {b : Nat} {fr : Nat × Nat} (h : w.heap[b]? = some (.cells awC 24 fr)) : Vals (fun x => x = b) w (some ⟨b, 0, none⟩) 3 3 awL := by
  refine ⟨rfl, Nat.le_refl _, by omega, fun j v hj => ?_⟩
  have i7 : I64 7 := ⟨by decide, by decide⟩
  match j, hj with
  | 0, hj => cases hj; exact ⟨⟨b, 0, rfl, rfl, cell_of_block h rfl, cell_of_block h rfl, cell_of_block h rfl, cell_of_block h rfl⟩, rd_int i7⟩
  | 1, hj => cases hj; exact ⟨⟨b, 0, rfl, rfl, cell_of_block h rfl, cell_of_block h rfl, cell_of_block h rfl, cell_of_block h rfl⟩, rd_text (by decide)⟩
  | 2, hj => cases hj; exact ⟨⟨b, 0, rfl, rfl, cell_of_block h rfl, cell_of_block h rfl, cell_of_block h rfl, cell_of_block h rfl⟩, rd_list (Vals.nil _ _)⟩
set_option maxRecDepth 100000 in
set_option maxHeartbeats 8000000 in
theorem awake_any (w : World) (hE : Env w) : Calls Tryd.prog 11 #[] w fun e w' => e = .returned (.bool true) ∧ Below w.heap.size w w' := by
  have hb0 : Below w.heap.size w (w.alloc (.cells #[.int .i64 1, .int .i64 7, .string ⟨#[]⟩, .slice none 0 0, .int .i64 2, .int .i64 0, .string ⟨#[97, 98, 99]⟩, .slice none 0 0, .int .i64 3, .int .i64 0, .string ⟨#[]⟩, .slice none 0 0] 24)) := (Below.refl _ _).alloc (Nat.le_refl _) _
  have hb1 : Below w.heap.size w ((w.alloc (.cells #[.int .i64 1, .int .i64 7, .string ⟨#[]⟩, .slice none 0 0, .int .i64 2, .int .i64 0, .string ⟨#[97, 98, 99]⟩, .slice none 0 0, .int .i64 3, .int .i64 0, .string ⟨#[]⟩, .slice none 0 0] 24)).alloc (.cells #[.int .i64 3, .int .i64 0, .string ⟨#[]⟩, .slice (some ⟨w.heap.size, 0, none⟩) 3 3] 24)) := hb0.alloc hb0.size _
  have hv0 := aw_vals (World.alloc_heap_new w (.cells #[.int .i64 1, .int .i64 7, .string ⟨#[]⟩, .slice none 0 0, .int .i64 2, .int .i64 0, .string ⟨#[97, 98, 99]⟩, .slice none 0 0, .int .i64 3, .int .i64 0, .string ⟨#[]⟩, .slice none 0 0] 24))
  have hv1 := hv0.below ((Below.refl _ _).alloc (Nat.le_refl _) (.cells #[.int .i64 3, .int .i64 0, .string ⟨#[]⟩, .slice (some ⟨w.heap.size, 0, none⟩) 3 3] 24))
  have hr1 := rd_list (a := some ⟨w.heap.size, 0, none⟩) (c := 3) (l := awL) hv1
  obtain ⟨b0, b1, b2, b3, -⟩ := box_cells (World.alloc_heap_new (w.alloc (.cells #[.int .i64 1, .int .i64 7, .string ⟨#[]⟩, .slice none 0 0, .int .i64 2, .int .i64 0, .string ⟨#[97, 98, 99]⟩, .slice none 0 0, .int .i64 3, .int .i64 0, .string ⟨#[]⟩, .slice none 0 0] 24)) (.cells #[.int .i64 3, .int .i64 0, .string ⟨#[]⟩, .slice (some ⟨w.heap.size, 0, none⟩) 3 3] 24))
  have hs1 : w.heap.size < ((w.alloc (.cells #[.int .i64 1, .int .i64 7, .string ⟨#[]⟩, .slice none 0 0, .int .i64 2, .int .i64 0, .string ⟨#[97, 98, 99]⟩, .slice none 0 0, .int .i64 3, .int .i64 0, .string ⟨#[]⟩, .slice none 0 0] 24)).alloc (.cells #[.int .i64 3, .int .i64 0, .string ⟨#[]⟩, .slice (some ⟨w.heap.size, 0, none⟩) 3 3] 24)).heap.size := by simp; omega
  have hs0 : (w.alloc (.cells #[.int .i64 1, .int .i64 7, .string ⟨#[]⟩, .slice none 0 0, .int .i64 2, .int .i64 0, .string ⟨#[97, 98, 99]⟩, .slice none 0 0, .int .i64 3, .int .i64 0, .string ⟨#[]⟩, .slice none 0 0] 24)).heap.size = w.heap.size + 1 := by simp
  rw [hs0] at b0 b1 b2 b3
  have her : (mkList (some ⟨w.heap.size, 0, none⟩) 3 awL).er = awV := by rw [Vl.er, Vl.erL_map]; rfl
  have HE := Lib.hid hE
  have HB1 := Lib.hid hb1
  have HR1 := Lib.hid hr1
  have HER := Lib.hid her
  clear hb0 hv0 hv1 hr1 her hE hb1
  go_enter Tryd.func11, Tryd.ntmps11
  go_wp2_with fail
  generalize (w.alloc (.cells #[.int .i64 1, .int .i64 7, .string ⟨#[]⟩, .slice none 0 0, .int .i64 2, .int .i64 0, .string ⟨#[97, 98, 99]⟩, .slice none 0 0, .int .i64 3, .int .i64 0, .string ⟨#[]⟩, .slice none 0 0] 24)).alloc (.cells #[.int .i64 3, .int .i64 0, .string ⟨#[]⟩, .slice (some ⟨w.heap.size, 0, none⟩) 3 3] 24) = W1 at *
  obtain ⟨i0, i1, i2, i3⟩ : VAt W1 w.heap.size 0 (mkInt 7) := by
    obtain ⟨⟨b', o', e', -, hat⟩, -⟩ := (rd_iff.1 HR1.out).2.2.2.2.2.2 0 (mkInt 7) rfl
    cases e'
    exact hat
  change W1.cell? ⟨w.heap.size, 0, none⟩ = some (.int .i64 1) at i0
  change W1.cell? ⟨w.heap.size, 1, none⟩ = some (.int .i64 7) at i1
  change W1.cell? ⟨w.heap.size, 2, none⟩ = some (.string ⟨#[]⟩) at i2
  change W1.cell? ⟨w.heap.size, 3, none⟩ = some (.slice none 0 0) at i3
  have HEN : Hid (∀ W, Below W1.heap.size W1 W → Calls Tryd.prog 12 #[.agg #[.int .i64 3, .int .i64 0, .string ⟨#[]⟩, .slice (some ⟨w.heap.size, 0, none⟩) 3 3]] W fun e w' => e = .returned (.tuple #[.string ⟨#[108, 105, 55, 59, 115, 51, 58, 97, 98, 99, 108, 101, 101]⟩, .int .i64 0]) ∧ Below W.heap.size W w') := fun W hb => by
    have := encode_A _ _ W (HR1.out.below hb) (fun b hb' => by subst hb'; have := hb.size; omega) (HE.out.below (HB1.out.trans (hb.mono (Nat.le_of_lt hs1))))
    rw [HER.out, aw_encB, aw_encE] at this
    exact this
  have HSI : Hid (∀ W, Below W1.heap.size W1 W → Calls Tryd.prog 14 #[.agg #[.int .i64 3, .int .i64 0, .string ⟨#[]⟩, .slice (some ⟨w.heap.size, 0, none⟩) 3 3]] W fun e w' => e = .returned (.tuple #[.int .i64 4, .int .i64 0]) ∧ Below W.heap.size W w') := fun W hb => by
    have := size_any _ _ W (HR1.out.below hb)
    rw [HER.out, aw_siz, aw_chk] at this
    exact this
  have HDC : Hid (∀ W, Below W1.heap.size W1 W → Calls Tryd.prog 20 #[.string ⟨#[108, 105, 55, 59, 115, 51, 58, 97, 98, 99, 108, 101, 101]⟩] W fun e w' => ∃ (S : Nat → Prop) (v : Vl), e = .returned (.tuple #[v.val, .int .i64 0]) ∧ v.er = awV ∧ Rd S w' v ∧ Below W.heap.size W w') := fun W hb => by
    refine (decode_any ⟨#[108, 105, 55, 59, 115, 51, 58, 97, 98, 99, 108, 101, 101]⟩ (by decide) W (HE.out.below (HB1.out.trans (hb.mono (Nat.le_of_lt hs1))))).mono ?_
    rintro e w' ⟨S, v, he, hv, hr, -, hb'⟩
    change e = .returned (.tuple #[v.val, .int .i64 (decode awS).2]) at he
    change v.er = (decode awS).1 at hv
    rw [aw_dec] at he hv
    exact ⟨S, v, he, hv, hr, hb'⟩
  have HDD : Hid (∀ W, Below W1.heap.size W1 W → Calls Tryd.prog 20 #[.string ⟨#[105, 48, 55, 59]⟩] W fun e w' => ∃ (v : Vl), e = .returned (.tuple #[v.val, .int .i64 3]) ∧ Below W.heap.size W w') := fun W hb => by
    refine (decode_any ⟨#[105, 48, 55, 59]⟩ (by decide) W (HE.out.below (HB1.out.trans (hb.mono (Nat.le_of_lt hs1))))).mono ?_
    rintro e w' ⟨S, v, he, hv, hr, -, hb'⟩
    change e = .returned (.tuple #[v.val, .int .i64 (decode [105, 48, 55, 59]).2]) at he
    rw [aw_dec2] at he
    exact ⟨v, he, hb'⟩
  have HS7 : Hid (∀ W : World, Calls Tryd.prog 18 #[.agg #[.int .i64 1, .int .i64 7, .string ⟨#[]⟩, .slice none 0 0], .agg #[.int .i64 1, .int .i64 7, .string ⟨#[]⟩, .slice none 0 0]] W fun e w' => e = .returned (.bool true) ∧ Below W.heap.size W w') := fun W => by
    have i7 : I64 7 := ⟨by decide, by decide⟩
    have := same_any (fun _ => False) (fun _ => False) (mkInt 7) (mkInt 7) W (rd_int i7) (rd_int i7)
    rw [(sameV_iff _ _).2 rfl] at this
    exact this
  have HS8 : Hid (∀ W : World, Calls Tryd.prog 18 #[.agg #[.int .i64 1, .int .i64 7, .string ⟨#[]⟩, .slice none 0 0], .agg #[.int .i64 2, .int .i64 0, .string ⟨#[55]⟩, .slice none 0 0]] W fun e w' => e = .returned (.bool false) ∧ Below W.heap.size W w') := fun W => by
    have i7 : I64 7 := ⟨by decide, by decide⟩
    have := same_any (fun _ => False) (fun _ => False) (mkInt 7) (mkText ⟨#[55]⟩) W (rd_int i7) (rd_text (by decide))
    rw [show sameV (mkInt 7).er (mkText ⟨#[55]⟩).er = false by kernel_rfl] at this
    exact this
  have HI7 : Hid (∀ W : World, Calls Tryd.prog 23 #[.int .i64 7] W fun e w' => e = .returned (.agg #[.int .i64 1, .int .i64 7, .string ⟨#[]⟩, .slice none 0 0]) ∧ Below W.heap.size W w') := fun W => int_any 7 W
  have HT7 : Hid (∀ W : World, Calls Tryd.prog 25 #[.string ⟨#[55]⟩] W fun e w' => e = .returned (.agg #[.int .i64 2, .int .i64 0, .string ⟨#[55]⟩, .slice none 0 0]) ∧ Below W.heap.size W w') := fun W => text_any ⟨#[55]⟩ W
  refine (HEN.out _ (Below.refl _ _)).mono ?_
  rintro e W2 ⟨rfl, hb2⟩
  go_wp2_with fail
  refine (HDC.out _ hb2).mono ?_
  rintro e W3 ⟨S, v, he, hv, hr3, hb3⟩
  obtain ⟨k, nn, t, a, c, l⟩ := v
  change e = .returned (.tuple #[.agg #[.int .i64 k, .int .i64 nn, .string t, .slice a l.length c], .int .i64 0]) at he
  subst he
  have hb13 := hb2.trans (hb3.mono hb2.size)
  have hb4 : Below W3.heap.size W3 (W3.alloc (.cells #[.int .i64 k, .int .i64 nn, .string t, .slice a l.length c] 24)) := (Below.refl _ _).alloc (Nat.le_refl _) _
  have hr4 := hr3.below hb4
  have hb14 := hb13.trans (hb4.mono hb13.size)
  obtain ⟨d0, d1, d2, d3, -⟩ := box_cells (World.alloc_heap_new W3 (.cells #[.int .i64 k, .int .i64 nn, .string t, .slice a l.length c] 24))
  have hl4 : W1.heap.size ≤ W3.heap.size := hb13.size
  have a0 := cell_later hb14 b0
  have a1 := cell_later hb14 b1
  have a2 := cell_later hb14 b2
  have a3 := cell_later hb14 b3
  clear HEN HDC hb2 hb3 hb13 hr3 hb4
  go_wp2_with fail
  generalize W3.alloc (.cells #[.int .i64 k, .int .i64 nn, .string t, .slice a l.length c] 24) = W4 at *
  refine (HSI.out _ hb14).mono ?_
  rintro e W5 ⟨rfl, hb5⟩
  have hb15 := hb14.trans (hb5.mono hb14.size)
  go_wp2_with fail
  refine (HDD.out _ hb15).mono ?_
  rintro e W6 ⟨v, he, hb6⟩
  obtain ⟨k', nn', t', a', c', l'⟩ := v
  change e = .returned (.tuple #[.agg #[.int .i64 k', .int .i64 nn', .string t', .slice a' l'.length c'], .int .i64 3]) at he
  subst he
  have hb46 := hb5.trans (hb6.mono hb5.size)
  have hb47 : Below W4.heap.size W4 (W6.alloc (.cells #[.int .i64 k', .int .i64 nn', .string t', .slice a' l'.length c'] 24)) := hb46.alloc hb46.size _
  have hb17 := hb14.trans (hb47.mono hb14.size)
  have HR7 := Lib.hid (hr4.below hb47)
  have HR1' := Lib.hid (HR1.out.below hb17)
  have HSM : Hid (∀ W, Below (W6.alloc (.cells #[.int .i64 k', .int .i64 nn', .string t', .slice a' l'.length c'] 24)).heap.size (W6.alloc (.cells #[.int .i64 k', .int .i64 nn', .string t', .slice a' l'.length c'] 24)) W → Calls Tryd.prog 18 #[.agg #[.int .i64 k, .int .i64 nn, .string t, .slice a l.length c], .agg #[.int .i64 3, .int .i64 0, .string ⟨#[]⟩, .slice (some ⟨w.heap.size, 0, none⟩) 3 3]] W fun e w' => e = .returned (.bool true) ∧ Below W.heap.size W w') := fun W hb => by
    have := same_any _ _ _ _ W (HR7.out.below hb) (HR1'.out.below hb)
    rw [hv, HER.out, (sameV_iff _ _).2 rfl] at this
    exact this
  have d0' := cell_later hb47 d0
  have d1' := cell_later hb47 d1
  have d2' := cell_later hb47 d2
  have d3' := cell_later hb47 d3
  have a0' := cell_later hb17 b0
  have a1' := cell_later hb17 b1
  have a2' := cell_later hb17 b2
  have a3' := cell_later hb17 b3
  have i0' := cell_later hb17 i0
  have i1' := cell_later hb17 i1
  have i2' := cell_later hb17 i2
  have i3' := cell_later hb17 i3
  clear HSI HDD hb14 hb15 hb5 hb6 hb46 hb47 hr4 HR7 HR1 HR1' a0 a1 a2 a3 b0 b1 b2 b3 d0 d1 d2 d3 i0 i1 i2 i3 hv
  go_wp2_with fail
  generalize W6.alloc (.cells #[.int .i64 k', .int .i64 nn', .string t', .slice a' l'.length c'] 24) = W7 at *
  obtain ⟨X, Wf, hX, hS1, hS2⟩ := family (fun W => Below W7.heap.size W7 W) W7 (Below.refl _ _)
  have HS1 := Lib.hid hS1
  have HS2 := Lib.hid hS2
  have q0 := fun x => cell_later (hS1 x) d0'
  have q1 := fun x => cell_later (hS1 x) d1'
  have q2 := fun x => cell_later (hS1 x) d2'
  have q3 := fun x => cell_later (hS1 x) d3'
  have r0 := fun x => cell_later (hS1 x) a0'
  have r1 := fun x => cell_later (hS1 x) a1'
  have r2 := fun x => cell_later (hS1 x) a2'
  have r3 := fun x => cell_later (hS1 x) a3'
  have s0 := fun x => cell_later (hS1 x) i0'
  have s1 := fun x => cell_later (hS1 x) i1'
  have s2 := fun x => cell_later (hS1 x) i2'
  have s3 := fun x => cell_later (hS1 x) i3'
  clear hS1 hS2 d0' d1' d2' d3' a0' a1' a2' a3' i0' i1' i2' i3'
  refine wp_region_quiet (C := fun W => ∃ x, W = Wf x) (by kernel_rfl) (by kernel_rfl) (HS2.out _ (Below.refl _ _).drew) ?_
  simp only []
  repeat (go_big_quiet_step (fail))
  go_big_quiet_step ((go_at_call 18; refine (HSM.out _ (HS1.out _)).mono ?_; rintro e4 w4 ⟨rfl, hb4⟩; exact ⟨rfl, HS2.out _ ((HS1.out _).trans (hb4.mono (HS1.out _).size))⟩))
  repeat (go_big_quiet_step (fail))
  go_big_quiet_step ((go_at_call 23; refine (HI7.out _).mono ?_; rintro e4 w4 ⟨rfl, hb4⟩; exact ⟨rfl, HS2.out _ ((HS1.out _).trans (hb4.mono (HS1.out _).size))⟩))
  repeat (go_big_quiet_step (fail))
  go_big_quiet_step ((go_at_call 18; refine (HS7.out _).mono ?_; rintro e4 w4 ⟨rfl, hb4⟩; exact ⟨rfl, HS2.out _ ((HS1.out _).trans (hb4.mono (HS1.out _).size))⟩))
  repeat (go_big_quiet_step (fail))
  go_big_quiet_step ((go_at_call 23; refine (HI7.out _).mono ?_; rintro e4 w4 ⟨rfl, hb4⟩; exact ⟨rfl, HS2.out _ ((HS1.out _).trans (hb4.mono (HS1.out _).size))⟩))
  repeat (go_big_quiet_step (fail))
  go_big_quiet_step ((go_at_call 25; refine (HT7.out _).mono ?_; rintro e4 w4 ⟨rfl, hb4⟩; exact ⟨rfl, HS2.out _ ((HS1.out _).trans (hb4.mono (HS1.out _).size))⟩))
  repeat (go_big_quiet_step (fail))
  go_big_quiet_step ((go_at_call 18; refine (HS8.out _).mono ?_; rintro e4 w4 ⟨rfl, hb4⟩; exact ⟨rfl, HS2.out _ ((HS1.out _).trans (hb4.mono (HS1.out _).size))⟩))
  repeat (go_big_quiet_step (fail))
  refine wpQuiet_nil ?_
  rintro w5 ⟨x5, rfl⟩
  have hb5 := HS1.out x5
  generalize Wf x5 = w5 at *
  go_wp2
  go_ret
  exact ⟨rfl, HB1.out.trans (hb17.trans (hb5.mono hb17.size) |>.mono (Nat.le_of_lt hs1))⟩
end Go.Proofs.YtancjkaoocgeeaaDoor
