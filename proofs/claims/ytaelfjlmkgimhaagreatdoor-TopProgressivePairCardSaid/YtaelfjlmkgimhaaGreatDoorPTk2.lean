/- tokencost.Check, check, Pair, Gap. -/
import Derived.Test.YtaelfjlmkgimhaaGreatDoorPPb2
import Derived.Test.YtaelfjlmkgimhaaGreatDoorPVt
set_option linter.unusedVariables false
set_option linter.unusedSimpArgs false
namespace Go.Proofs.YtaelfjlmkgimhaaGreatDoor
open Go.RowKit

theorem vtok_any (t : Tok) (w : World) (hv : t.err = 0) (hE : Env w) : Calls Tryz.prog 54 #[t.val] w fun e w' => e = .returned (.int .i64 0) ∧ Below w.heap.size w w' := by
  have hs := vt_small hv
  have h := tok_any t.text t.norm t.page t.name t.line t.flags w ⟨by omega, by omega⟩ hE
  have e : Tok.err ⟨t.text, t.norm, t.page, t.line, t.flags, t.name⟩ = 0 := hv
  rw [e] at h
  exact h
set_option maxRecDepth 100000 in
set_option maxHeartbeats 1000000 in
theorem bad_tcost (t : Tok) (w : World) (hv : t.err = 0) (hE : Env w) : Calls Tryz.prog 99 #[t.val] w fun e w' => e = .returned (.bool false) ∧ Below w.heap.size w w' := by
  have HF := Lib.hid (fun W hW => vtok_any t W hv (hE.below hW))
  clear hv hE
  obtain ⟨tx, nm, pg, ln, fl, na⟩ := t
  dsimp only [Tok.val] at HF
  have hb0 : Below w.heap.size w (w.alloc (.cells #[.string tx, .string nm, .string pg, .int .i64 ln, .int .i64 fl, .string na] 47)) := (Below.refl _ _).alloc (Nat.le_refl _) _
  change Calls _ _ #[.agg #[.string tx, .string nm, .string pg, .int .i64 ln, .int .i64 fl, .string na]] _ _
  go_enter Tryz.func99, Tryz.ntmps99
  go_wp2_with (go_at_call 54; refine (HF.out _ hb0).mono ?_; rintro e w' ⟨rfl, hb'⟩)
  go_ret
  exact ⟨rfl, hb0.trans (hb'.mono hb0.size)⟩
set_option maxRecDepth 100000 in
set_option maxHeartbeats 2000000 in
theorem index_tcost (S : Nat → Prop) (a : Option Addr) (n c : Nat) (l : List Tok) (w : World) (h : Toks S w a n c l)
    (HF : ∀ t ∈ l, ∀ W, Below w.heap.size w W → Calls Tryz.prog 99 #[t.val] W fun e w' => e = .returned (.bool false) ∧ Below W.heap.size W w') :
    Calls Tryz.prog 34 #[.slice a n c, .func (.func 99) #[] #[]] w fun e w' => e = .returned (.int .i64 (-1)) ∧ Below w.heap.size w w' := by
  have HN := Lib.hid h.len
  have hL := h.bound
  have HSS := Lib.hid HF
  clear HF
  go_enter Tryz.func34, Tryz.ntmps34
  go_wp2
  go_loopw [8] (fun i wr => ∃ (j : Nat), i = .int .i64 j ∧ j ≤ n ∧ Below w.heap.size w wr) (fun i _ => n - (intOf i).toNat)
  case atStart => exact ⟨0, rfl, Nat.zero_le _, Below.refl _ _⟩
  case round =>
    obtain ⟨j, rfl, hj, hb⟩ := hrel
    by_cases hlj : j < n
    · obtain ⟨t, b, off, hu, hmem, rfl, -, hbl, -, ⟨c0, c1, c2, c3, c4, c5⟩⟩ := (h.below rTok_ok hb).tok hlj
      have HF := Lib.hid (HSS.out t hmem wr hb)
      clear hu hmem
      obtain ⟨tx, nm, pg, ln, fl, na⟩ := t
      dsimp only [Tok.val] at c0 c1 c2 c3 c4 c5 HF
      go_wp2_with (go_at_call 99; refine HF.out.mono ?_; rintro e w' ⟨rfl, hb'⟩)
      go_roundw
      case rel => exact ⟨j + 1, by go_num, by omega, hb.trans (hb'.mono hb.size)⟩
      case measure => simp [intOf]; omega
    · go_wp2
      go_ret
      exact ⟨rfl, hb⟩
theorem contains_tcost (S : Nat → Prop) (a : Option Addr) (n c : Nat) (l : List Tok) (w : World) (h : Toks S w a n c l)
    (HF : ∀ t ∈ l, ∀ W, Below w.heap.size w W → Calls Tryz.prog 99 #[t.val] W fun e w' => e = .returned (.bool false) ∧ Below W.heap.size W w') :
    Calls Tryz.prog 16 #[.slice a n c, .func (.func 99) #[] #[]] w fun e w' => e = .returned (.bool false) ∧ Below w.heap.size w w' := by
  have F := Lib.hid (index_tcost S a n c l w h HF)
  clear h HF
  go_enter Tryz.func16, Tryz.ntmps16
  go_wp2_with (go_at_call 34; refine F.out.mono ?_; rintro e w' ⟨rfl, hb'⟩)
  go_ret
  exact ⟨rfl, hb'⟩
set_option maxRecDepth 100000 in
set_option maxHeartbeats 1000000 in
theorem bad_pairw (t : Tok) (w : World) (hv : t.err = 0) (hE : Env w) : Calls Tryz.prog 53 #[t.val] w fun e w' => e = .returned (.bool false) ∧ Below w.heap.size w w' := by
  have HF := Lib.hid (fun W hW => vtok_any t W hv (hE.below hW))
  clear hv hE
  obtain ⟨tx, nm, pg, ln, fl, na⟩ := t
  dsimp only [Tok.val] at HF
  have hb0 : Below w.heap.size w (w.alloc (.cells #[.string tx, .string nm, .string pg, .int .i64 ln, .int .i64 fl, .string na] 47)) := (Below.refl _ _).alloc (Nat.le_refl _) _
  change Calls _ _ #[.agg #[.string tx, .string nm, .string pg, .int .i64 ln, .int .i64 fl, .string na]] _ _
  go_enter Tryz.func53, Tryz.ntmps53
  go_wp2_with (go_at_call 54; refine (HF.out _ hb0).mono ?_; rintro e w' ⟨rfl, hb'⟩)
  go_ret
  exact ⟨rfl, hb0.trans (hb'.mono hb0.size)⟩
set_option maxRecDepth 100000 in
set_option maxHeartbeats 2000000 in
theorem index_pairw (S : Nat → Prop) (a : Option Addr) (n c : Nat) (l : List Tok) (w : World) (h : Toks S w a n c l)
    (HF : ∀ t ∈ l, ∀ W, Below w.heap.size w W → Calls Tryz.prog 53 #[t.val] W fun e w' => e = .returned (.bool false) ∧ Below W.heap.size W w') :
    Calls Tryz.prog 34 #[.slice a n c, .func (.func 53) #[] #[]] w fun e w' => e = .returned (.int .i64 (-1)) ∧ Below w.heap.size w w' := by
  have HN := Lib.hid h.len
  have hL := h.bound
  have HSS := Lib.hid HF
  clear HF
  go_enter Tryz.func34, Tryz.ntmps34
  go_wp2
  go_loopw [8] (fun i wr => ∃ (j : Nat), i = .int .i64 j ∧ j ≤ n ∧ Below w.heap.size w wr) (fun i _ => n - (intOf i).toNat)
  case atStart => exact ⟨0, rfl, Nat.zero_le _, Below.refl _ _⟩
  case round =>
    obtain ⟨j, rfl, hj, hb⟩ := hrel
    by_cases hlj : j < n
    · obtain ⟨t, b, off, hu, hmem, rfl, -, hbl, -, ⟨c0, c1, c2, c3, c4, c5⟩⟩ := (h.below rTok_ok hb).tok hlj
      have HF := Lib.hid (HSS.out t hmem wr hb)
      clear hu hmem
      obtain ⟨tx, nm, pg, ln, fl, na⟩ := t
      dsimp only [Tok.val] at c0 c1 c2 c3 c4 c5 HF
      go_wp2_with (go_at_call 53; refine HF.out.mono ?_; rintro e w' ⟨rfl, hb'⟩)
      go_roundw
      case rel => exact ⟨j + 1, by go_num, by omega, hb.trans (hb'.mono hb.size)⟩
      case measure => simp [intOf]; omega
    · go_wp2
      go_ret
      exact ⟨rfl, hb⟩
theorem contains_pairw (S : Nat → Prop) (a : Option Addr) (n c : Nat) (l : List Tok) (w : World) (h : Toks S w a n c l)
    (HF : ∀ t ∈ l, ∀ W, Below w.heap.size w W → Calls Tryz.prog 53 #[t.val] W fun e w' => e = .returned (.bool false) ∧ Below W.heap.size W w') :
    Calls Tryz.prog 16 #[.slice a n c, .func (.func 53) #[] #[]] w fun e w' => e = .returned (.bool false) ∧ Below w.heap.size w w' := by
  have F := Lib.hid (index_pairw S a n c l w h HF)
  clear h HF
  go_enter Tryz.func16, Tryz.ntmps16
  go_wp2_with (go_at_call 34; refine F.out.mono ?_; rintro e w' ⟨rfl, hb'⟩)
  go_ret
  exact ⟨rfl, hb'⟩
set_option maxRecDepth 100000 in
set_option maxHeartbeats 1000000 in
theorem bad_progr (t : Tok) (w : World) (hv : t.err = 0) (hE : Env w) : Calls Tryz.prog 68 #[t.val] w fun e w' => e = .returned (.bool false) ∧ Below w.heap.size w w' := by
  have HF := Lib.hid (fun W hW => vtok_any t W hv (hE.below hW))
  clear hv hE
  obtain ⟨tx, nm, pg, ln, fl, na⟩ := t
  dsimp only [Tok.val] at HF
  have hb0 : Below w.heap.size w (w.alloc (.cells #[.string tx, .string nm, .string pg, .int .i64 ln, .int .i64 fl, .string na] 47)) := (Below.refl _ _).alloc (Nat.le_refl _) _
  change Calls _ _ #[.agg #[.string tx, .string nm, .string pg, .int .i64 ln, .int .i64 fl, .string na]] _ _
  go_enter Tryz.func68, Tryz.ntmps68
  go_wp2_with (go_at_call 54; refine (HF.out _ hb0).mono ?_; rintro e w' ⟨rfl, hb'⟩)
  go_ret
  exact ⟨rfl, hb0.trans (hb'.mono hb0.size)⟩
set_option maxRecDepth 100000 in
set_option maxHeartbeats 2000000 in
theorem index_progr (S : Nat → Prop) (a : Option Addr) (n c : Nat) (l : List Tok) (w : World) (h : Toks S w a n c l)
    (HF : ∀ t ∈ l, ∀ W, Below w.heap.size w W → Calls Tryz.prog 68 #[t.val] W fun e w' => e = .returned (.bool false) ∧ Below W.heap.size W w') :
    Calls Tryz.prog 34 #[.slice a n c, .func (.func 68) #[] #[]] w fun e w' => e = .returned (.int .i64 (-1)) ∧ Below w.heap.size w w' := by
  have HN := Lib.hid h.len
  have hL := h.bound
  have HSS := Lib.hid HF
  clear HF
  go_enter Tryz.func34, Tryz.ntmps34
  go_wp2
  go_loopw [8] (fun i wr => ∃ (j : Nat), i = .int .i64 j ∧ j ≤ n ∧ Below w.heap.size w wr) (fun i _ => n - (intOf i).toNat)
  case atStart => exact ⟨0, rfl, Nat.zero_le _, Below.refl _ _⟩
  case round =>
    obtain ⟨j, rfl, hj, hb⟩ := hrel
    by_cases hlj : j < n
    · obtain ⟨t, b, off, hu, hmem, rfl, -, hbl, -, ⟨c0, c1, c2, c3, c4, c5⟩⟩ := (h.below rTok_ok hb).tok hlj
      have HF := Lib.hid (HSS.out t hmem wr hb)
      clear hu hmem
      obtain ⟨tx, nm, pg, ln, fl, na⟩ := t
      dsimp only [Tok.val] at c0 c1 c2 c3 c4 c5 HF
      go_wp2_with (go_at_call 68; refine HF.out.mono ?_; rintro e w' ⟨rfl, hb'⟩)
      go_roundw
      case rel => exact ⟨j + 1, by go_num, by omega, hb.trans (hb'.mono hb.size)⟩
      case measure => simp [intOf]; omega
    · go_wp2
      go_ret
      exact ⟨rfl, hb⟩
theorem contains_progr (S : Nat → Prop) (a : Option Addr) (n c : Nat) (l : List Tok) (w : World) (h : Toks S w a n c l)
    (HF : ∀ t ∈ l, ∀ W, Below w.heap.size w W → Calls Tryz.prog 68 #[t.val] W fun e w' => e = .returned (.bool false) ∧ Below W.heap.size W w') :
    Calls Tryz.prog 16 #[.slice a n c, .func (.func 68) #[] #[]] w fun e w' => e = .returned (.bool false) ∧ Below w.heap.size w w' := by
  have F := Lib.hid (index_progr S a n c l w h HF)
  clear h HF
  go_enter Tryz.func16, Tryz.ntmps16
  go_wp2_with (go_at_call 34; refine F.out.mono ?_; rintro e w' ⟨rfl, hb'⟩)
  go_ret
  exact ⟨rfl, hb'⟩
set_option maxRecDepth 100000 in
set_option maxHeartbeats 1000000 in
theorem bad_multi (t : Tok) (w : World) (hv : t.err = 0) (hE : Env w) : Calls Tryz.prog 62 #[t.val] w fun e w' => e = .returned (.bool false) ∧ Below w.heap.size w w' := by
  have HF := Lib.hid (fun W hW => vtok_any t W hv (hE.below hW))
  clear hv hE
  obtain ⟨tx, nm, pg, ln, fl, na⟩ := t
  dsimp only [Tok.val] at HF
  have hb0 : Below w.heap.size w (w.alloc (.cells #[.string tx, .string nm, .string pg, .int .i64 ln, .int .i64 fl, .string na] 47)) := (Below.refl _ _).alloc (Nat.le_refl _) _
  change Calls _ _ #[.agg #[.string tx, .string nm, .string pg, .int .i64 ln, .int .i64 fl, .string na]] _ _
  go_enter Tryz.func62, Tryz.ntmps62
  go_wp2_with (go_at_call 54; refine (HF.out _ hb0).mono ?_; rintro e w' ⟨rfl, hb'⟩)
  go_ret
  exact ⟨rfl, hb0.trans (hb'.mono hb0.size)⟩
set_option maxRecDepth 100000 in
set_option maxHeartbeats 2000000 in
theorem index_multi (S : Nat → Prop) (a : Option Addr) (n c : Nat) (l : List Tok) (w : World) (h : Toks S w a n c l)
    (HF : ∀ t ∈ l, ∀ W, Below w.heap.size w W → Calls Tryz.prog 62 #[t.val] W fun e w' => e = .returned (.bool false) ∧ Below W.heap.size W w') :
    Calls Tryz.prog 34 #[.slice a n c, .func (.func 62) #[] #[]] w fun e w' => e = .returned (.int .i64 (-1)) ∧ Below w.heap.size w w' := by
  have HN := Lib.hid h.len
  have hL := h.bound
  have HSS := Lib.hid HF
  clear HF
  go_enter Tryz.func34, Tryz.ntmps34
  go_wp2
  go_loopw [8] (fun i wr => ∃ (j : Nat), i = .int .i64 j ∧ j ≤ n ∧ Below w.heap.size w wr) (fun i _ => n - (intOf i).toNat)
  case atStart => exact ⟨0, rfl, Nat.zero_le _, Below.refl _ _⟩
  case round =>
    obtain ⟨j, rfl, hj, hb⟩ := hrel
    by_cases hlj : j < n
    · obtain ⟨t, b, off, hu, hmem, rfl, -, hbl, -, ⟨c0, c1, c2, c3, c4, c5⟩⟩ := (h.below rTok_ok hb).tok hlj
      have HF := Lib.hid (HSS.out t hmem wr hb)
      clear hu hmem
      obtain ⟨tx, nm, pg, ln, fl, na⟩ := t
      dsimp only [Tok.val] at c0 c1 c2 c3 c4 c5 HF
      go_wp2_with (go_at_call 62; refine HF.out.mono ?_; rintro e w' ⟨rfl, hb'⟩)
      go_roundw
      case rel => exact ⟨j + 1, by go_num, by omega, hb.trans (hb'.mono hb.size)⟩
      case measure => simp [intOf]; omega
    · go_wp2
      go_ret
      exact ⟨rfl, hb⟩
theorem contains_multi (S : Nat → Prop) (a : Option Addr) (n c : Nat) (l : List Tok) (w : World) (h : Toks S w a n c l)
    (HF : ∀ t ∈ l, ∀ W, Below w.heap.size w W → Calls Tryz.prog 62 #[t.val] W fun e w' => e = .returned (.bool false) ∧ Below W.heap.size W w') :
    Calls Tryz.prog 16 #[.slice a n c, .func (.func 62) #[] #[]] w fun e w' => e = .returned (.bool false) ∧ Below w.heap.size w w' := by
  have F := Lib.hid (index_multi S a n c l w h HF)
  clear h HF
  go_enter Tryz.func16, Tryz.ntmps16
  go_wp2_with (go_at_call 34; refine F.out.mono ?_; rintro e w' ⟨rfl, hb'⟩)
  go_ret
  exact ⟨rfl, hb'⟩
end Go.Proofs.YtaelfjlmkgimhaaGreatDoor
