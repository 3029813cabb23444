/- tokencost.Check. -/
import Derived.Test.YtaelfjlmkgimhaaGreatDoorPTk2
set_option linter.unusedVariables false
set_option linter.unusedSimpArgs false
namespace Go.Proofs.YtaelfjlmkgimhaaGreatDoor
open Go.RowKit

theorem ckn_any (x : Int) (w : World) (h0 : 0 ≤ x) (h1 : x ≤ 1000) : Calls Tryz.prog 66 #[.int .i64 x] w fun e w' => e = .returned (.bool false) ∧ w = w' := by
  go_enter Tryz.func66, Tryz.ntmps66
  go_wp2
  go_ret
  exact ⟨ret_bool (by simp; omega), rfl⟩
set_option maxRecDepth 100000 in
set_option maxHeartbeats 2000000 in
theorem indexn_any (a : Option Addr) (n c : Nat) (l : List Int) (w : World) (h : Ints w a n c l) (hl : ∀ x ∈ l, 0 ≤ x ∧ x ≤ 1000) :
    Calls Tryz.prog 89 #[.slice a n c, .func (.func 66) #[] #[]] w fun e w' => e = .returned (.int .i64 (-1)) ∧ w = w' := by
  have HL := Lib.hid hl
  have HN := Lib.hid h.len
  have hL := h.bound
  clear hl
  go_enter Tryz.func89, Tryz.ntmps89
  go_wp2
  go_loop [8] (fun i => ∃ (j : Nat), i = .int .i64 j ∧ j ≤ n) (fun i => n - (intOf i).toNat)
  case atStart => exact ⟨0, rfl, Nat.zero_le _⟩
  case round =>
    obtain ⟨j, rfl, hj⟩ := hrel
    by_cases hlj : j < n
    · obtain ⟨b, off, rfl, -, hc⟩ := h.at_ (by omega)
      have c0 := hc.out j hlj
      have hx := HL.out (l[j]?.getD 0) (by rw [List.getElem?_eq_getElem (by rw [← HN.out]; exact hlj)]; exact List.getElem_mem _)
      generalize l[j]?.getD 0 = x at *
      have HF := Lib.hid (ckn_any x w hx.1 hx.2)
      clear hc
      go_wp2_with (go_at_call 66; refine HF.out.mono ?_; rintro e w' ⟨rfl, rfl⟩)
      go_round
      case rel => exact ⟨j + 1, by go_num, by omega⟩
      case measure => simp [intOf]; omega
    · go_wp2
      go_ret
      exact ⟨rfl, rfl⟩
theorem containsn_any (a : Option Addr) (n c : Nat) (l : List Int) (w : World) (h : Ints w a n c l) (hl : ∀ x ∈ l, 0 ≤ x ∧ x ≤ 1000) :
    Calls Tryz.prog 65 #[.slice a n c, .func (.func 66) #[] #[]] w fun e w' => e = .returned (.bool false) ∧ w = w' := by
  have F := Lib.hid (indexn_any a n c l w h hl)
  clear h hl
  go_enter Tryz.func65, Tryz.ntmps65
  go_wp2_with (go_at_call 89; refine F.out.mono ?_; rintro e w' ⟨rfl, rfl⟩)
  go_ret
  exact ⟨rfl, rfl⟩
set_option maxRecDepth 100000 in
set_option maxHeartbeats 2000000 in
theorem ccheck_any (c : Cst) (w : World) (h : c.ok) : Calls Tryz.prog 45 #[c.val] w fun e w' => e = .returned (.int .i64 0) ∧ Below w.heap.size w w' := by
  obtain ⟨cg, cn, cl, cm⟩ := c
  obtain ⟨h1, h2, h3, h4, h5⟩ := h
  dsimp only at h1 h2 h3 h4 h5
  have HH := Lib.hid (And.intro h1 (And.intro h2 (And.intro h3 h4)))
  clear h1 h2 h3 h4
  have hb : Below w.heap.size w ((w.alloc (.cells #[.int .i64 cg, .int .i64 cn, .int .i64 cl, .int .i64 cm] 23)).alloc (.cells #[.int .i64 cg, .int .i64 cn, .int .i64 cl, .int .i64 cm] 3)) := ((Below.refl _ _).alloc (Nat.le_refl _) _).alloc (by simp) _
  have HB := Lib.hid hb
  clear hb
  have hI : Ints ((w.alloc (.cells #[.int .i64 cg, .int .i64 cn, .int .i64 cl, .int .i64 cm] 23)).alloc (.cells #[.int .i64 cg, .int .i64 cn, .int .i64 cl, .int .i64 cm] 3)) (some ⟨w.heap.size + 1, 0, none⟩) 4 4 [cg, cn, cl, cm] := by
    have this := (⟨rfl, World.ownsRow_lit (w.alloc (.cells #[.int .i64 cg, .int .i64 cn, .int .i64 cl, .int .i64 cm] 23)) #[.int .i64 cg, .int .i64 cn, .int .i64 cl, .int .i64 cm] 4 (Nat.zero_le _) (by unfold maxLen; omega) rfl⟩ : OwnI ((w.alloc (.cells #[.int .i64 cg, .int .i64 cn, .int .i64 cl, .int .i64 cm] 23)).alloc (.cells #[.int .i64 cg, .int .i64 cn, .int .i64 cl, .int .i64 cm] 3)) 0 (some ⟨(w.alloc (.cells #[.int .i64 cg, .int .i64 cn, .int .i64 cl, .int .i64 cm] 23)).heap.size, 0, none⟩) 4 4 [cg, cn, cl, cm])
    rw [show (w.alloc (.cells #[.int .i64 cg, .int .i64 cn, .int .i64 cl, .int .i64 cm] 23)).heap.size = w.heap.size + 1 by simp] at this
    have hh := HH.out
    exact OwnI.ints this (by omega) (fun x hx => by simp at hx; exact ⟨by omega, by omega⟩)
  have HF := Lib.hid (containsn_any _ _ _ _ _ hI (fun x hx => by have hh := HH.out; simp at hx; omega))
  clear hI
  change Calls _ _ #[.agg #[.int .i64 cg, .int .i64 cn, .int .i64 cl, .int .i64 cm]] _ _
  go_enter Tryz.func45, Tryz.ntmps45
  go_wp2_with (go_at_call 65; refine HF.out.mono ?_; rintro e w' ⟨rfl, rfl⟩)
  go_ret
  exact ⟨rfl, HB.out⟩
end Go.Proofs.YtaelfjlmkgimhaaGreatDoor
