/- Print of one lemma, and the wakefulness of the law. -/
import Derived.Test.YtileoimcnhcfcaaDoorLFnd
set_option linter.unusedVariables false
set_option linter.unusedSimpArgs false
namespace Go.Proofs.YtileoimcnhcfcaaDoor
open Go.RowKit Go.Shelf

theorem Sq.lit {α : Type} {R : Rel α} {k s : Nat} {S : Nat → Prop} {W : World} {b : Nat} {t : TypeId} (cs : Array Value) (l : List α) (enc : α → List Value) (hh : W.heap[b]? = some (.cells cs t (0, 0))) (hc : cs.toList = l.flatMap enc)
    (henc : ∀ x, (enc x).length = k) (hb : S b) (hs : l.length * s ≤ 140737488355328) (hR : ∀ x ∈ l, R S W (enc x) x) : Sq R k s S W (some ⟨b, 0, none⟩) l.length l.length l := by
  refine ⟨rfl, Nat.le_refl _, hs, fun j x hj => ⟨b, 0, enc x, rfl, hb, (Array.getElem?_eq_some_iff.1 hh).1, henc x, fun i v hi => ?_, hR x (List.mem_of_getElem? hj)⟩⟩
  have hil : i < k := by rw [← henc x]; exact (List.getElem?_eq_some_iff.1 hi).1
  have h1 := flat_get henc l j x i hj hil
  rw [← hc, hi, Array.getElem?_toList] at h1
  have : W.cell? ⟨b, 0 + j * k + i, none⟩ = cs[0 + j * k + i]? := by simp [World.cell?, hh]
  rw [this, Nat.zero_add]; exact h1
theorem wrd_a : wrdP ⟨#[97]⟩ := .inl (by decide +kernel)
theorem wrd_b : wrdP ⟨#[98]⟩ := .inl (by decide +kernel)
set_option maxRecDepth 100000 in
set_option maxHeartbeats 2000000 in
theorem print_a (w : World) (hE : Env w) : Calls Tryd.prog 15 #[.agg #[.string ⟨#[97]⟩, .string ⟨#[]⟩, .int .i64 2]] w fun e w' => e = .returned (.tuple #[.string ⟨#[97, 35, 50]⟩, .int .i64 0]) ∧ Below w.heap.size w w' := by
  have hb1 : Below w.heap.size w (w.alloc (.cells #[.string ⟨#[97]⟩, .string ⟨#[]⟩, .int .i64 2] 34)) := (Below.refl _ _).alloc (Nat.le_refl _) _
  have hbx := World.alloc_heap_new w (.cells #[.string ⟨#[97]⟩, .string ⟨#[]⟩, .int .i64 2] 34)
  have hu : w.heap.size < (w.alloc (.cells #[.string ⟨#[97]⟩, .string ⟨#[]⟩, .int .i64 2] 34)).heap.size := by simp
  have HC := Lib.hid (Check_yes ⟨#[97]⟩ ⟨#[]⟩ 2 (w.alloc (.cells #[.string ⟨#[97]⟩, .string ⟨#[]⟩, .int .i64 2] 34)) wrd_a (.inl rfl) (by omega) (hE.below hb1))
  have HI : Hid (∀ W, Calls Tryd.prog 28 #[.int .i64 2] W fun e w' => e = .returned (.string ⟨#[50]⟩) ∧ w' = W) := fun W => by
    have h := Tryd.strconv_Itoa_small 2 (by omega) W
    rw [show (⟨(Lib.decDigits 2).toArray⟩ : ByteArray) = ⟨#[50]⟩ by decide +kernel] at h
    exact h
  have HB1 := Lib.hid hb1
  have HBX := Lib.hid hbx
  obtain ⟨x0, x1, x2, -⟩ := box_cells3 hbx
  clear hE hb1 hbx
  go_enter Tryd.func15, Tryd.ntmps15
  go_wp2_with fail
  refine HC.out.mono ?_
  rintro e w2 ⟨rfl, hb2⟩
  have HB := Lib.hid (HB1.out.trans (hb2.mono HB1.out.size))
  clear x0 x1 x2
  obtain ⟨x0, x1, x2, -⟩ := box_cells3 ((hb2.block _ hu).trans HBX.out)
  clear hb2
  go_wp2_with fail
  refine (HI.out _).mono ?_
  rintro e w3 ⟨rfl, rfl⟩
  go_wp2
  go_ret2
  exact ⟨rfl, HB.out⟩
set_option maxRecDepth 100000 in
set_option maxHeartbeats 2000000 in
theorem awake_any (w : World) (hE : Env w) : Calls Tryd.prog 6 #[] w fun e w' => e = .returned (.bool true) ∧ Below w.heap.size w w' := by
  have hb1 : Below w.heap.size w (w.alloc (.cells #[.string ⟨#[97]⟩, .string ⟨#[98]⟩, .string ⟨#[97]⟩] 9)) := (Below.refl _ _).alloc (Nat.le_refl _) _
  have hbx := World.alloc_heap_new w (.cells #[.string ⟨#[97]⟩, .string ⟨#[98]⟩, .string ⟨#[97]⟩] 9)
  have hu : w.heap.size < (w.alloc (.cells #[.string ⟨#[97]⟩, .string ⟨#[98]⟩, .string ⟨#[97]⟩] 9)).heap.size := by simp
  have hS : Strs (fun b => b = w.heap.size) (w.alloc (.cells #[.string ⟨#[97]⟩, .string ⟨#[98]⟩, .string ⟨#[97]⟩] 9)) (some ⟨w.heap.size, 0, none⟩) 3 3 [⟨#[97]⟩, ⟨#[98]⟩, ⟨#[97]⟩] :=
    Sq.lit (R := rStr) (k := 1) (s := 16) _ [⟨#[97]⟩, ⟨#[98]⟩, ⟨#[97]⟩] (fun s => [.string s]) hbx rfl (fun _ => rfl) rfl (by simp) (fun x hx => ⟨rfl, by simp at hx; rcases hx with rfl | rfl | rfl <;> decide⟩)
  have hOf := of_any _ _ _ _ _ 2 3 ⟨#[97]⟩ ⟨#[]⟩ _ hS (by omega) (fun s hs => by simp at hs; rcases hs with rfl | rfl | rfl; exact wrd_a; exact wrd_b; exact wrd_a) (by omega) (by omega) rfl (.inl ⟨rfl, rfl⟩) (fun b e => by omega) (hE.below hb1)
  rw [show numL [⟨#[97]⟩, ⟨#[98]⟩, ⟨#[97]⟩] ⟨#[97]⟩ ⟨#[]⟩ (2, 3 - 1) = 2 by decide +kernel] at hOf
  have HO := Lib.hid hOf
  have HP := Lib.hid (fun W (hb : Below w.heap.size w W) => print_a W (hE.below hb))
  have HB1 := Lib.hid hb1
  clear hE hb1 hbx hu hS hOf
  go_enter Tryd.func6, Tryd.ntmps6
  go_wp2_with fail
  refine HO.out.mono ?_
  rintro e w2 ⟨rfl, hb2⟩
  have hB := HB1.out.trans (hb2.mono HB1.out.size)
  have hb3 : Below w.heap.size w (w2.alloc (.cells #[.string ⟨#[97]⟩, .string ⟨#[]⟩, .int .i64 2] 34)) := hB.alloc hB.size _
  have hbx := World.alloc_heap_new w2 (.cells #[.string ⟨#[97]⟩, .string ⟨#[]⟩, .int .i64 2] 34)
  obtain ⟨x0, x1, x2, -⟩ := box_cells3 hbx
  have HB3 := Lib.hid hb3
  clear hb2 hb3 hbx hB
  go_wp2_with fail
  refine (HP.out _ HB3.out).mono ?_
  rintro e w4 ⟨rfl, hb4⟩
  have HB4 := Lib.hid (HB3.out.trans (hb4.mono HB3.out.size))
  clear hb4 x0 x1 x2
  go_wp2
  go_ret
  exact ⟨rfl, HB4.out⟩
end Go.Proofs.YtileoimcnhcfcaaDoor
