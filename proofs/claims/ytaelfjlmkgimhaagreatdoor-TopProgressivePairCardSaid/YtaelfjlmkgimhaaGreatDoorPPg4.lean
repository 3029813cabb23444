/- progressive.Order. -/
import Derived.Test.YtaelfjlmkgimhaaGreatDoorPPg3
set_option linter.unusedVariables false
set_option linter.unusedSimpArgs false
namespace Go.Proofs.YtaelfjlmkgimhaaGreatDoor
open Go.RowKit

set_option maxRecDepth 100000 in
set_option maxHeartbeats 4000000 in
theorem Order_any (S : Nat → Prop) (c : Cst) (a : Option Addr) (n cp : Nat) (l : List (List Tok)) (w : World) (h : Tokss S w a n cp l) (hv : VdL l) (hc : c.ok) (h2 : n = 2 ∨ n = 3) (hE : Env w) :
    Calls Tryz.prog 6 #[c.val, .slice a n cp] w fun e w' => ∃ a' c', e = .returned (.tuple #[.slice a' n c', .int .i64 0]) ∧ Nums (fun b => w.heap.size ≤ b) w' a' n c' (natI (ordF c l)) ∧ Below w.heap.size w w' := by
  have hb0 : Below w.heap.size w (w.alloc (.cells c.arr 23)) := (Below.refl _ _).alloc (Nat.le_refl _) _
  have HCK := Lib.hid (fun W (hW : Below w.heap.size w W) => prcheck_any S c a n cp l W (h.below (rSl_ok rTok_ok) hW) hv hc (hE.below hW))
  have HOR := Lib.hid (fun W (hW : Below w.heap.size w W) => order_any S c a n cp l W (h.below (rSl_ok rTok_ok) hW) hv hc h2 (hE.below hW))
  have hX := World.alloc_heap_new w (.cells c.arr 23)
  have HB0 := Lib.hid hb0
  clear h hv hc h2 hE hb0
  generalize ordF c l = O at *
  obtain ⟨cg, cn, cl, cm⟩ := c
  dsimp only [Cst.val, Cst.arr] at HCK HOR HB0 hX ⊢
  have hsA : (w.alloc (.cells #[.int .i64 cg, .int .i64 cn, .int .i64 cl, .int .i64 cm] 23)).heap.size = w.heap.size + 1 := by simp
  generalize hWA : w.alloc (.cells #[.int .i64 cg, .int .i64 cn, .int .i64 cl, .int .i64 cm] 23) = WA at *
  obtain ⟨k0, k1, k2, k3, -⟩ := box_cells4 hX
  have HX := Lib.hid hX
  have HSA := Lib.hid hsA
  clear hX hsA
  go_enter Tryz.func6, Tryz.ntmps6
  go_wp2_with (first | (go_at_call 21; refine (HCK.out _ HB0.out).mono ?_; rintro e w1 ⟨rfl, hb1⟩; obtain ⟨k0, k1, k2, k3, -⟩ := box_cells4 ((hb1.block w.heap.size (by have := HSA.out; omega)).trans HX.out); have HB1 := Lib.hid (HB0.out.trans (hb1.mono HB0.out.size)); clear hb1) | (go_at_call 22; refine (HOR.out _ HB1.out).mono ?_; rintro e w2 ⟨a', c', rfl, hN, hb2⟩; have HB2 := Lib.hid (HB1.out.trans (hb2.mono HB1.out.size)); have HN := Lib.hid (hN.mono rInt_ok (S' := fun b => w.heap.size ≤ b) (fun b q _ => Nat.le_trans HB1.out.size q)); clear hb2 hN))
  go_ret2
  exact ⟨a', c', rfl, HN.out, HB2.out⟩
end Go.Proofs.YtaelfjlmkgimhaaGreatDoor
