/- The chapter's example. -/
import Derived.Test.YtbjanlmnmeegnaaDoorTSta
set_option linter.unusedVariables false
set_option linter.unusedSimpArgs false
namespace Go.Proofs.YtbjanlmnmeegnaaDoor
open Go.RowKit Go.Shelf

def vT (s : ByteArray) : Vl := .mk 1 0 s none 0 []
def ndA : Nd := .mk 1 ⟨#[97]⟩ 0 []
def ndB : Nd := .mk 1 ⟨#[98]⟩ 0 []
def exN : List Nd := [.mk 9 ⟨#[]⟩ 1 [ndA], .mk 8 ⟨#[]⟩ 2 [ndB]]
theorem ex_vld : Vld exN := by
  refine ⟨?_, ?_⟩
  · simp [exN, ndA, ndB, fitL, fitN, fitF, Ck]
    exact ⟨by decide +kernel, by decide +kernel⟩
  · simp [exN, ndA, ndB, ordL, ordN, noText]
theorem ex_sml : Sml exN := by
  refine ⟨?_, ?_, ?_⟩
  · simp [exN, ndA, ndB, cntL, cntN]
  · simp [exN, ndA, ndB, dptL, dptN]
  · decide +kernel
theorem ex_0 : mergeL (resL 0 exN) = [ndA] := by
  simp [exN, ndA, ndB, resL, resN, brksL, brksN, mergeL, mergeN, cat]
  decide
theorem ex_2 : mergeL (resL 2 exN) = [ndB] := by
  simp [exN, ndA, ndB, resL, resN, brksL, brksN, mergeL, mergeN, cat]
  decide
set_option maxRecDepth 100000 in
theorem text_any (s : ByteArray) (w : World) : Calls Tryd.prog 15 #[.string s] w fun e w' => e = .returned (.slice (some ⟨w.heap.size, 0, none⟩) 1 1) ∧ w' = w.alloc (.cells #[.int .i64 1, .string s, .int .i64 0, .slice none 0 0] 37) := by
  go_enter Tryd.func15, Tryd.ntmps15
  go_wp2
  go_ret
  exact ⟨rfl, rfl⟩
theorem text_rd (S : Nat → Prop) (s : ByteArray) (hs : s.size ≤ 100) (w : World) : Rd S w (vT s) := rd_iff.2 ⟨(⟨by show (_ : Int) ≤ 1; decide, by show (1 : Int) ≤ _; decide⟩ : I64 1), (⟨by show (_ : Int) ≤ 0; decide, by show (0 : Int) ≤ _; decide⟩ : I64 0), by show s.size ≤ _; omega, Vals.nil _ _⟩
theorem text_vals (s : ByteArray) (hs : s.size ≤ 100) (w : World) : Vals (fun b => b = w.heap.size) (w.alloc (.cells #[.int .i64 1, .string s, .int .i64 0, .slice none 0 0] 37)) (some ⟨w.heap.size, 0, none⟩) 1 1 [vT s] :=
  (lit_one (S := fun _ => False) (x := vT s) (text_rd _ s hs w)).mono (fun b h _ => h.elim (fun q => q.1.elim) id)
set_option maxRecDepth 100000 in
set_option maxHeartbeats 4000000 in
/-- top11Awake. -/
theorem awake_any (w : World) (hE : TEnv w) : Calls Tryd.prog 6 #[] w fun e w' => e = .returned (.bool true) ∧ Below w.heap.size w w' := by
  have s1 : (w.alloc (.cells (#[.int .i64 1, .string ⟨#[97]⟩, .int .i64 0, .slice none 0 0] : Array Value) 37)).heap.size = w.heap.size + 1 := by simp
  have s2 : (((w.alloc (.cells (#[.int .i64 1, .string ⟨#[97]⟩, .int .i64 0, .slice none 0 0] : Array Value) 37)).alloc (.cells (#[.int .i64 1, .string ⟨#[98]⟩, .int .i64 0, .slice none 0 0] : Array Value) 37))).heap.size = w.heap.size + 2 := by simp
  have s3 : ((((w.alloc (.cells (#[.int .i64 1, .string ⟨#[97]⟩, .int .i64 0, .slice none 0 0] : Array Value) 37)).alloc (.cells (#[.int .i64 1, .string ⟨#[98]⟩, .int .i64 0, .slice none 0 0] : Array Value) 37)).alloc (.cells (#[.int .i64 9, .string ⟨#[]⟩, .int .i64 1, .slice (some ⟨w.heap.size, 0, none⟩) 1 1, .int .i64 8, .string ⟨#[]⟩, .int .i64 2, .slice (some ⟨w.heap.size + 1, 0, none⟩) 1 1] : Array Value) 37))).heap.size = w.heap.size + 3 := by simp
  have b1 : Below w.heap.size w (w.alloc (.cells (#[.int .i64 1, .string ⟨#[97]⟩, .int .i64 0, .slice none 0 0] : Array Value) 37)) := (Below.refl _ _).alloc (Nat.le_refl _) _
  have b12 : Below (w.alloc (.cells (#[.int .i64 1, .string ⟨#[97]⟩, .int .i64 0, .slice none 0 0] : Array Value) 37)).heap.size (w.alloc (.cells (#[.int .i64 1, .string ⟨#[97]⟩, .int .i64 0, .slice none 0 0] : Array Value) 37)) ((w.alloc (.cells (#[.int .i64 1, .string ⟨#[97]⟩, .int .i64 0, .slice none 0 0] : Array Value) 37)).alloc (.cells (#[.int .i64 1, .string ⟨#[98]⟩, .int .i64 0, .slice none 0 0] : Array Value) 37)) := (Below.refl _ _).alloc (Nat.le_refl _) _
  have b23 : Below (((w.alloc (.cells (#[.int .i64 1, .string ⟨#[97]⟩, .int .i64 0, .slice none 0 0] : Array Value) 37)).alloc (.cells (#[.int .i64 1, .string ⟨#[98]⟩, .int .i64 0, .slice none 0 0] : Array Value) 37))).heap.size ((w.alloc (.cells (#[.int .i64 1, .string ⟨#[97]⟩, .int .i64 0, .slice none 0 0] : Array Value) 37)).alloc (.cells (#[.int .i64 1, .string ⟨#[98]⟩, .int .i64 0, .slice none 0 0] : Array Value) 37)) (((w.alloc (.cells (#[.int .i64 1, .string ⟨#[97]⟩, .int .i64 0, .slice none 0 0] : Array Value) 37)).alloc (.cells (#[.int .i64 1, .string ⟨#[98]⟩, .int .i64 0, .slice none 0 0] : Array Value) 37)).alloc (.cells (#[.int .i64 9, .string ⟨#[]⟩, .int .i64 1, .slice (some ⟨w.heap.size, 0, none⟩) 1 1, .int .i64 8, .string ⟨#[]⟩, .int .i64 2, .slice (some ⟨w.heap.size + 1, 0, none⟩) 1 1] : Array Value) 37)) := (Below.refl _ _).alloc (Nat.le_refl _) _
  have b3 : Below w.heap.size w (((w.alloc (.cells (#[.int .i64 1, .string ⟨#[97]⟩, .int .i64 0, .slice none 0 0] : Array Value) 37)).alloc (.cells (#[.int .i64 1, .string ⟨#[98]⟩, .int .i64 0, .slice none 0 0] : Array Value) 37)).alloc (.cells (#[.int .i64 9, .string ⟨#[]⟩, .int .i64 1, .slice (some ⟨w.heap.size, 0, none⟩) 1 1, .int .i64 8, .string ⟨#[]⟩, .int .i64 2, .slice (some ⟨w.heap.size + 1, 0, none⟩) 1 1] : Array Value) 37)) := (b1.trans (b12.mono b1.size)).trans (b23.mono (by omega))
  have vA := ((text_vals ⟨#[97]⟩ (by decide) w).below b12).below b23
  have vB := (text_vals ⟨#[98]⟩ (by decide) (w.alloc (.cells (#[.int .i64 1, .string ⟨#[97]⟩, .int .i64 0, .slice none 0 0] : Array Value) 37))).below b23
  rw [s1] at vB
  have hblk := World.alloc_heap_new ((w.alloc (.cells (#[.int .i64 1, .string ⟨#[97]⟩, .int .i64 0, .slice none 0 0] : Array Value) 37)).alloc (.cells (#[.int .i64 1, .string ⟨#[98]⟩, .int .i64 0, .slice none 0 0] : Array Value) 37)) (.cells (#[.int .i64 9, .string ⟨#[]⟩, .int .i64 1, .slice (some ⟨w.heap.size, 0, none⟩) 1 1, .int .i64 8, .string ⟨#[]⟩, .int .i64 2, .slice (some ⟨w.heap.size + 1, 0, none⟩) 1 1] : Array Value) 37)
  rw [s2] at hblk
  have hV : Vals (fun b => b < ((((w.alloc (.cells (#[.int .i64 1, .string ⟨#[97]⟩, .int .i64 0, .slice none 0 0] : Array Value) 37)).alloc (.cells (#[.int .i64 1, .string ⟨#[98]⟩, .int .i64 0, .slice none 0 0] : Array Value) 37)).alloc (.cells (#[.int .i64 9, .string ⟨#[]⟩, .int .i64 1, .slice (some ⟨w.heap.size, 0, none⟩) 1 1, .int .i64 8, .string ⟨#[]⟩, .int .i64 2, .slice (some ⟨w.heap.size + 1, 0, none⟩) 1 1] : Array Value) 37))).heap.size) (((w.alloc (.cells (#[.int .i64 1, .string ⟨#[97]⟩, .int .i64 0, .slice none 0 0] : Array Value) 37)).alloc (.cells (#[.int .i64 1, .string ⟨#[98]⟩, .int .i64 0, .slice none 0 0] : Array Value) 37)).alloc (.cells (#[.int .i64 9, .string ⟨#[]⟩, .int .i64 1, .slice (some ⟨w.heap.size, 0, none⟩) 1 1, .int .i64 8, .string ⟨#[]⟩, .int .i64 2, .slice (some ⟨w.heap.size + 1, 0, none⟩) 1 1] : Array Value) 37)) (some ⟨w.heap.size + 1 + 1, 0, none⟩) 2 2 [.mk 9 1 ⟨#[]⟩ (some ⟨w.heap.size, 0, none⟩) 1 [vT ⟨#[97]⟩], .mk 8 2 ⟨#[]⟩ (some ⟨w.heap.size + 1, 0, none⟩) 1 [vT ⟨#[98]⟩]] := by
    refine ⟨rfl, Nat.le_refl _, by omega, fun j v hj => ?_⟩
    match j, hj with
    | 0, hj =>
      cases hj
      refine ⟨⟨_, 0, rfl, by rw [s3]; omega, ?_⟩, rd_iff.2 ⟨(⟨by show (_ : Int) ≤ 9; decide, by show (9 : Int) ≤ _; decide⟩ : I64 9), (⟨by show (_ : Int) ≤ 1; decide, by show (1 : Int) ≤ _; decide⟩ : I64 1), by show (⟨#[]⟩ : ByteArray).size ≤ _; decide, vA.mono (fun b h _ => by rw [s3, h]; omega)⟩⟩
      exact ⟨by rw [Lib.cell_of_heap hblk]; rfl, by rw [Lib.cell_of_heap hblk]; rfl, by rw [Lib.cell_of_heap hblk]; rfl, by rw [Lib.cell_of_heap hblk]; rfl⟩
    | 1, hj =>
      cases hj
      refine ⟨⟨_, 0, rfl, by rw [s3]; omega, ?_⟩, rd_iff.2 ⟨(⟨by show (_ : Int) ≤ 8; decide, by show (8 : Int) ≤ _; decide⟩ : I64 8), (⟨by show (_ : Int) ≤ 2; decide, by show (2 : Int) ≤ _; decide⟩ : I64 2), by show (⟨#[]⟩ : ByteArray).size ≤ _; decide, vB.mono (fun b h _ => by rw [s3, h]; omega)⟩⟩
      exact ⟨by rw [Lib.cell_of_heap hblk]; rfl, by rw [Lib.cell_of_heap hblk]; rfl, by rw [Lib.cell_of_heap hblk]; rfl, by rw [Lib.cell_of_heap hblk]; rfl⟩
  have hex : ([.mk 9 1 ⟨#[]⟩ (some ⟨w.heap.size, 0, none⟩) 1 [vT ⟨#[97]⟩], .mk 8 2 ⟨#[]⟩ (some ⟨w.heap.size + 1, 0, none⟩) 1 [vT ⟨#[98]⟩]] : List Vl).map Vl.er = exN := by
    simp [exN, ndA, ndB, vT, Vl.er, Vl.erL]
  have HST : Hid (∀ (h : Int) W, 0 ≤ h ∧ h ≤ 8 → Below ((((w.alloc (.cells (#[.int .i64 1, .string ⟨#[97]⟩, .int .i64 0, .slice none 0 0] : Array Value) 37)).alloc (.cells (#[.int .i64 1, .string ⟨#[98]⟩, .int .i64 0, .slice none 0 0] : Array Value) 37)).alloc (.cells (#[.int .i64 9, .string ⟨#[]⟩, .int .i64 1, .slice (some ⟨w.heap.size, 0, none⟩) 1 1, .int .i64 8, .string ⟨#[]⟩, .int .i64 2, .slice (some ⟨w.heap.size + 1, 0, none⟩) 1 1] : Array Value) 37))).heap.size (((w.alloc (.cells (#[.int .i64 1, .string ⟨#[97]⟩, .int .i64 0, .slice none 0 0] : Array Value) 37)).alloc (.cells (#[.int .i64 1, .string ⟨#[98]⟩, .int .i64 0, .slice none 0 0] : Array Value) 37)).alloc (.cells (#[.int .i64 9, .string ⟨#[]⟩, .int .i64 1, .slice (some ⟨w.heap.size, 0, none⟩) 1 1, .int .i64 8, .string ⟨#[]⟩, .int .i64 2, .slice (some ⟨w.heap.size + 1, 0, none⟩) 1 1] : Array Value) 37)) W → Calls Tryd.prog 8 #[.slice (some ⟨w.heap.size + 1 + 1, 0, none⟩) 2 2, .int .i64 h] W (TupP (fun b => b < ((((w.alloc (.cells (#[.int .i64 1, .string ⟨#[97]⟩, .int .i64 0, .slice none 0 0] : Array Value) 37)).alloc (.cells (#[.int .i64 1, .string ⟨#[98]⟩, .int .i64 0, .slice none 0 0] : Array Value) 37)).alloc (.cells (#[.int .i64 9, .string ⟨#[]⟩, .int .i64 1, .slice (some ⟨w.heap.size, 0, none⟩) 1 1, .int .i64 8, .string ⟨#[]⟩, .int .i64 2, .slice (some ⟨w.heap.size + 1, 0, none⟩) 1 1] : Array Value) 37))).heap.size) (mergeL (resL h exN)) W)) := fun h W hh hb => by
    have := State_any (fun b => b < ((((w.alloc (.cells (#[.int .i64 1, .string ⟨#[97]⟩, .int .i64 0, .slice none 0 0] : Array Value) 37)).alloc (.cells (#[.int .i64 1, .string ⟨#[98]⟩, .int .i64 0, .slice none 0 0] : Array Value) 37)).alloc (.cells (#[.int .i64 9, .string ⟨#[]⟩, .int .i64 1, .slice (some ⟨w.heap.size, 0, none⟩) 1 1, .int .i64 8, .string ⟨#[]⟩, .int .i64 2, .slice (some ⟨w.heap.size + 1, 0, none⟩) 1 1] : Array Value) 37))).heap.size) _ 2 2 _ h W hh (by rw [hex]; exact ex_sml) (by rw [hex]; exact ex_vld) (fun b hb' => Nat.lt_of_lt_of_le hb' hb.size) (hV.below hb) ((hE.below b3).below hb)
    rwa [hex] at this
  have HB3 := Lib.hid b3
  clear vA vB hblk hV hex s1 s2 s3 b1 b12 b23 hE b3
  go_enter Tryd.func6, Tryd.ntmps6
  go_wp2_with (go_at_call 15; refine (text_any _ _).mono ?_; rintro e w' ⟨rfl, rfl⟩)
  refine (HST.out 0 _ (by decide) (Below.refl _ _)).mono ?_
  rintro e w4 ⟨a0, n0, c0, us0, rfl, v0, e0, hb4⟩
  have HF2 := Lib.hid (HST.out 2 w4 (by decide) hb4)
  have HV0 := Lib.hid v0
  have HE0 := Lib.hid (e0.trans ex_0)
  have HB4 := Lib.hid hb4
  clear v0 e0 hb4 HST
  go_wp2_with fail
  refine HF2.out.mono ?_
  rintro e w5 ⟨a1, n1, c1, us1, rfl, v1, e1, hb5⟩
  have HB5 := Lib.hid (HB3.out.trans ((HB4.out.trans (hb5.mono HB4.out.size)).mono HB3.out.size))
  have HV0 := Lib.hid (HV0.out.below hb5)
  have HV1 := Lib.hid v1
  have HE1 := Lib.hid (e1.trans ex_2)
  have HS1 : Hid (∀ W, Below w5.heap.size w5 W → Calls Tryd.prog 9 #[.slice a0 n0 c0, .slice (some ⟨W.heap.size, 0, none⟩) 1 1] (W.alloc (.cells (#[.int .i64 1, .string ⟨#[97]⟩, .int .i64 0, .slice none 0 0] : Array Value) 37)) fun e w' => e = .returned (.bool true) ∧ Below (W.alloc (.cells (#[.int .i64 1, .string ⟨#[97]⟩, .int .i64 0, .slice none 0 0] : Array Value) 37)).heap.size (W.alloc (.cells (#[.int .i64 1, .string ⟨#[97]⟩, .int .i64 0, .slice none 0 0] : Array Value) 37)) w') := fun W hb => by
    have hbW : Below W.heap.size W (W.alloc (.cells (#[.int .i64 1, .string ⟨#[97]⟩, .int .i64 0, .slice none 0 0] : Array Value) 37)) := (Below.refl _ _).alloc (Nat.le_refl _) _
    exact same_yes 100 _ _ a0 (some ⟨W.heap.size, 0, none⟩) n0 c0 1 1 us0 [vT ⟨#[97]⟩] _ (by rw [HE0.out]; decide) ((HV0.out.below hb).below hbW) (text_vals ⟨#[97]⟩ (by decide) W) (by rw [HE0.out]; simp [vT, ndA, Vl.er, Vl.erL])
  have HS2 : Hid (∀ W, Below w5.heap.size w5 W → Calls Tryd.prog 9 #[.slice a1 n1 c1, .slice (some ⟨W.heap.size, 0, none⟩) 1 1] (W.alloc (.cells (#[.int .i64 1, .string ⟨#[98]⟩, .int .i64 0, .slice none 0 0] : Array Value) 37)) fun e w' => e = .returned (.bool true) ∧ Below (W.alloc (.cells (#[.int .i64 1, .string ⟨#[98]⟩, .int .i64 0, .slice none 0 0] : Array Value) 37)).heap.size (W.alloc (.cells (#[.int .i64 1, .string ⟨#[98]⟩, .int .i64 0, .slice none 0 0] : Array Value) 37)) w') := fun W hb => by
    have hbW : Below W.heap.size W (W.alloc (.cells (#[.int .i64 1, .string ⟨#[98]⟩, .int .i64 0, .slice none 0 0] : Array Value) 37)) := (Below.refl _ _).alloc (Nat.le_refl _) _
    exact same_yes 100 _ _ a1 (some ⟨W.heap.size, 0, none⟩) n1 c1 1 1 us1 [vT ⟨#[98]⟩] _ (by rw [HE1.out]; decide) ((HV1.out.below hb).below hbW) (text_vals ⟨#[98]⟩ (by decide) W) (by rw [HE1.out]; simp [vT, ndB, Vl.er, Vl.erL])
  clear hb5 v1 e1 HF2 HB3 HB4
  go_wp2_with (go_at_call 15; refine (text_any _ _).mono ?_; rintro e w' ⟨rfl, rfl⟩)
  refine (HS1.out _ (Below.refl _ _)).mono ?_
  rintro e w6 ⟨rfl, hb6⟩
  have hb56 : Below w5.heap.size w5 w6 := ((Below.refl _ _).alloc (Nat.le_refl _) _).trans (hb6.mono (by simp))
  have HB6 := Lib.hid hb56
  clear hb6 hb56 HS1
  go_wp2_with (go_at_call 15; refine (text_any _ _).mono ?_; rintro e w' ⟨rfl, rfl⟩)
  refine (HS2.out _ HB6.out).mono ?_
  rintro e w7 ⟨rfl, hb7⟩
  have HB7 : Hid (Below w.heap.size w w7) := HB5.out.trans ((HB6.out.trans (((Below.refl w6.heap.size w6).alloc (Nat.le_refl _) (.cells (#[.int .i64 1, .string ⟨#[98]⟩, .int .i64 0, .slice none 0 0] : Array Value) 37)).trans (hb7.mono (by simp)) |>.mono HB6.out.size)).mono HB5.out.size)
  clear hb7 HS2
  go_wp2
  go_ret
  exact ⟨rfl, HB7.out⟩
end Go.Proofs.YtbjanlmnmeegnaaDoor
