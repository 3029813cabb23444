/- progressive.check; multiway.sources. -/
import Derived.Test.YtaelfjlmkgimhaaGreatDoorPCs3
set_option linter.unusedVariables false
set_option linter.unusedSimpArgs false
namespace Go.Proofs.YtaelfjlmkgimhaaGreatDoor
open Go.RowKit

/-- Valid sources, not too many, not too long. -/
structure VdL (l : List (List Tok)) : Prop where
  n : l.length ≤ 32
  len : ∀ t ∈ l, t.length ≤ 16
  err : ∀ t ∈ l, ∀ x ∈ t, x.err = 0
set_option maxRecDepth 100000 in
set_option maxHeartbeats 2000000 in
theorem indexl_prog  (S : Nat → Prop) (a : Option Addr) (n c : Nat) (l : List (List Tok)) (w : World) (h : Tokss S w a n c l)
    (HF : ∀ t ∈ l, ∀ W a' n' c', Below w.heap.size w W → Toks S W a' n' c' t → Calls Tryz.prog 67 (#[.slice a' n' c']) W fun e w' => e = .returned (.bool false) ∧ Below W.heap.size W w') :
    Calls Tryz.prog 33 #[.slice a n c, .func (.func 67) #[] #[]] w fun e w' => e = .returned (.int .i64 (-1)) ∧ Below w.heap.size w w' := by
  have HN := Lib.hid h.len
  have hL := h.bound
  have HSS := Lib.hid HF
  clear HF
  go_enter Tryz.func33, Tryz.ntmps33
  go_wp2
  go_loopw [8] (fun i wr => ∃ (j : Nat), i = .int .i64 j ∧ j ≤ n ∧ Below w.heap.size w wr) (fun i _ => n - (intOf i).toNat)
  case atStart => exact ⟨0, rfl, Nat.zero_le _, Below.refl _ _⟩
  case round =>
    obtain ⟨j, rfl, hj, hb⟩ := hrel
    by_cases hlj : j < n
    · obtain ⟨r, b, off, a', n', c', hu, hmem, rfl, -, hbl, hr, c0⟩ := (h.below (rSl_ok rTok_ok) hb).row hlj
      have HF := Lib.hid (HSS.out r hmem wr a' n' c' hb hr)
      clear hu hmem hr
      go_wp2_with (go_at_call 67; refine HF.out.mono ?_; rintro e w' ⟨rfl, hb'⟩)
      go_roundw
      case rel => exact ⟨j + 1, by go_num, by omega, hb.trans (hb'.mono hb.size)⟩
      case measure => simp [intOf]; omega
    · go_wp2
      go_ret
      exact ⟨rfl, hb⟩
theorem containsl_prog  (S : Nat → Prop) (a : Option Addr) (n c : Nat) (l : List (List Tok)) (w : World) (h : Tokss S w a n c l)
    (HF : ∀ t ∈ l, ∀ W a' n' c', Below w.heap.size w W → Toks S W a' n' c' t → Calls Tryz.prog 67 (#[.slice a' n' c']) W fun e w' => e = .returned (.bool false) ∧ Below W.heap.size W w') :
    Calls Tryz.prog 14 #[.slice a n c, .func (.func 67) #[] #[]] w fun e w' => e = .returned (.bool false) ∧ Below w.heap.size w w' := by
  have F := Lib.hid (indexl_prog  S a n c l w h HF)
  clear h HF
  go_enter Tryz.func14, Tryz.ntmps14
  go_wp2_with (go_at_call 33; refine F.out.mono ?_; rintro e w' ⟨rfl, hb'⟩)
  go_ret
  exact ⟨rfl, hb'⟩
set_option maxRecDepth 100000 in
theorem ptoks1_any (S : Nat → Prop) (a : Option Addr) (n c : Nat) (l : List Tok) (w : World) (h : Toks S w a n c l) (hv : ∀ x ∈ l, x.err = 0) (hE : Env w) :
    Calls Tryz.prog 67 #[.slice a n c] w fun e w' => e = .returned (.bool false) ∧ Below w.heap.size w w' := by
  have F := Lib.hid (contains_progr S a n c l w h (fun t ht W hW => bad_progr t W (hv t ht) (hE.below hW)))
  clear h hv hE
  go_enter Tryz.func67, Tryz.ntmps67
  go_wp2_with (go_at_call 16; refine F.out.mono ?_; rintro e w' ⟨rfl, hb'⟩)
  go_ret
  exact ⟨rfl, hb'⟩
theorem ptoks_any (S : Nat → Prop) (a : Option Addr) (n c : Nat) (l : List (List Tok)) (w : World) (h : Tokss S w a n c l) (hv : VdL l) (hE : Env w) :
    Calls Tryz.prog 46 #[.slice a n c] w fun e w' => e = .returned (.int .i64 0) ∧ Below w.heap.size w w' := by
  have F := Lib.hid (containsl_prog S a n c l w h (fun t ht W a' n' c' hW ht' => ptoks1_any S a' n' c' t W ht' (hv.err t ht) (hE.below hW)))
  clear h hv hE
  go_enter Tryz.func46, Tryz.ntmps46
  go_wp2_with (go_at_call 14; refine F.out.mono ?_; rintro e w' ⟨rfl, hb'⟩)
  go_ret
  exact ⟨rfl, hb'⟩
set_option maxRecDepth 100000 in
set_option maxHeartbeats 2000000 in
theorem psrcs_any (S : Nat → Prop) (a : Option Addr) (n c : Nat) (l : List (List Tok)) (w : World) (h : Tokss S w a n c l) (hv : VdL l) :
    Calls Tryz.prog 44 #[.slice a n c] w fun e w' => e = .returned (.int .i64 0) ∧ w = w' := by
  have hn : n ≤ 32 := by rw [h.len]; exact hv.n
  have HV := Lib.hid hv
  have hL := h.bound
  clear hv
  go_enter Tryz.func44, Tryz.ntmps44
  go_wp2
  go_loop [10] (fun i => ∃ (j : Nat), i = .int .i64 j ∧ j ≤ n) (fun i => n - (intOf i).toNat)
  case atStart => exact ⟨0, rfl, Nat.zero_le _⟩
  case round =>
    obtain ⟨j, rfl, hj⟩ := hrel
    by_cases hlj : j < n
    · obtain ⟨r, b, off, a', n', c', hu, hmem, rfl, -, hbl, hr, c0⟩ := h.row hlj
      have hn' : n' ≤ 16 := by rw [hr.len]; exact HV.out.len r hmem
      clear hu hmem hr
      go_wp2
      go_round
      case rel => exact ⟨j + 1, by go_num, by omega⟩
      case measure => simp [intOf]; omega
    · go_wp2
      go_ret
      exact ⟨rfl, rfl⟩
set_option maxRecDepth 100000 in
set_option maxHeartbeats 2000000 in
theorem prcheck_any (S : Nat → Prop) (c : Cst) (a : Option Addr) (n cp : Nat) (l : List (List Tok)) (w : World) (h : Tokss S w a n cp l) (hv : VdL l) (hc : c.ok) (hE : Env w) :
    Calls Tryz.prog 21 #[c.val, .slice a n cp] w fun e w' => e = .returned (.int .i64 0) ∧ Below w.heap.size w w' := by
  have HS := Lib.hid (fun W (hW : Below w.heap.size w W) => psrcs_any S a n cp l W (h.below (rSl_ok rTok_ok) hW) hv)
  have HT := Lib.hid (fun W (hW : Below w.heap.size w W) => ptoks_any S a n cp l W (h.below (rSl_ok rTok_ok) hW) hv (hE.below hW))
  have HC := Lib.hid (fun W => ccheck_any c W hc)
  clear h hv hc hE
  obtain ⟨cg, cn, cl, cm⟩ := c
  dsimp only [Cst.val, Cst.arr] at HC ⊢
  have HB : Hid (w.heap.size ≤ (w.alloc (.cells #[.int .i64 cg, .int .i64 cn, .int .i64 cl, .int .i64 cm] 23)).heap.size ∧ Below w.heap.size w (w.alloc (.cells #[.int .i64 cg, .int .i64 cn, .int .i64 cl, .int .i64 cm] 23))) := ⟨by simp, (Below.refl _ _).alloc (Nat.le_refl _) _⟩
  go_enter Tryz.func21, Tryz.ntmps21
  go_wp2_with (first | (go_at_call 44; refine (HS.out _ HB.out.2).mono ?_; rintro e w1 ⟨rfl, rfl⟩) | (go_at_call 45; refine (HC.out _).mono ?_; rintro e w2 ⟨rfl, hb2⟩; replace HB := belowH HB hb2; clear hb2) | (go_at_call 46; refine (HT.out _ HB.out.2).mono ?_; rintro e w3 ⟨rfl, hb3⟩; replace HB := belowH HB hb3; clear hb3))
  go_ret
  exact ⟨rfl, HB.out.2⟩
set_option maxRecDepth 100000 in
set_option maxHeartbeats 2000000 in
theorem indexl_long  (S : Nat → Prop) (a : Option Addr) (n c : Nat) (l : List (List Tok)) (w : World) (h : Tokss S w a n c l)
    (HF : ∀ t ∈ l, ∀ W a' n' c', Below w.heap.size w W → Toks S W a' n' c' t → Calls Tryz.prog 73 (#[.slice a' n' c']) W fun e w' => e = .returned (.bool false) ∧ Below W.heap.size W w') :
    Calls Tryz.prog 33 #[.slice a n c, .func (.func 73) #[] #[]] w fun e w' => e = .returned (.int .i64 (-1)) ∧ Below w.heap.size w w' := by
  have HN := Lib.hid h.len
  have hL := h.bound
  have HSS := Lib.hid HF
  clear HF
  go_enter Tryz.func33, Tryz.ntmps33
  go_wp2
  go_loopw [8] (fun i wr => ∃ (j : Nat), i = .int .i64 j ∧ j ≤ n ∧ Below w.heap.size w wr) (fun i _ => n - (intOf i).toNat)
  case atStart => exact ⟨0, rfl, Nat.zero_le _, Below.refl _ _⟩
  case round =>
    obtain ⟨j, rfl, hj, hb⟩ := hrel
    by_cases hlj : j < n
    · obtain ⟨r, b, off, a', n', c', hu, hmem, rfl, -, hbl, hr, c0⟩ := (h.below (rSl_ok rTok_ok) hb).row hlj
      have HF := Lib.hid (HSS.out r hmem wr a' n' c' hb hr)
      clear hu hmem hr
      go_wp2_with (go_at_call 73; refine HF.out.mono ?_; rintro e w' ⟨rfl, hb'⟩)
      go_roundw
      case rel => exact ⟨j + 1, by go_num, by omega, hb.trans (hb'.mono hb.size)⟩
      case measure => simp [intOf]; omega
    · go_wp2
      go_ret
      exact ⟨rfl, hb⟩
theorem containsl_long  (S : Nat → Prop) (a : Option Addr) (n c : Nat) (l : List (List Tok)) (w : World) (h : Tokss S w a n c l)
    (HF : ∀ t ∈ l, ∀ W a' n' c', Below w.heap.size w W → Toks S W a' n' c' t → Calls Tryz.prog 73 (#[.slice a' n' c']) W fun e w' => e = .returned (.bool false) ∧ Below W.heap.size W w') :
    Calls Tryz.prog 14 #[.slice a n c, .func (.func 73) #[] #[]] w fun e w' => e = .returned (.bool false) ∧ Below w.heap.size w w' := by
  have F := Lib.hid (indexl_long  S a n c l w h HF)
  clear h HF
  go_enter Tryz.func14, Tryz.ntmps14
  go_wp2_with (go_at_call 33; refine F.out.mono ?_; rintro e w' ⟨rfl, hb'⟩)
  go_ret
  exact ⟨rfl, hb'⟩
theorem mlong_any (S : Nat → Prop) (a : Option Addr) (n c : Nat) (l : List Tok) (w : World) (h : Toks S w a n c l) (hl : l.length ≤ 16) :
    Calls Tryz.prog 73 #[.slice a n c] w fun e w' => e = .returned (.bool false) ∧ Below w.heap.size w w' := by
  have hn : n ≤ 16 := by rw [h.len]; exact hl
  clear h
  go_enter Tryz.func73, Tryz.ntmps73
  go_wp2
  go_ret
  exact ⟨ret_bool (by simp; omega), Below.refl _ _⟩
set_option maxRecDepth 100000 in
set_option maxHeartbeats 2000000 in
theorem msrcs_any (S : Nat → Prop) (a : Option Addr) (n c : Nat) (l : List (List Tok)) (w : World) (h : Tokss S w a n c l) (hv : VdL l) (h0 : 0 < n) :
    Calls Tryz.prog 52 #[.slice a n c] w fun e w' => e = .returned (.int .i64 0) ∧ Below w.heap.size w w' := by
  have hn : n ≤ 32 := by rw [h.len]; exact hv.n
  have F := Lib.hid (containsl_long S a n c l w h (fun t ht W a' n' c' hW ht' => mlong_any S a' n' c' t W ht' (hv.len t ht)))
  clear h hv
  have t1 : ((n : Int) == 0) = false := by rw [beq_eq_false_iff_ne]; omega
  have t2 : (n == 0) = false := by rw [beq_eq_false_iff_ne]; omega
  go_enter Tryz.func52, Tryz.ntmps52
  go_wp2_with (go_at_call 14; refine F.out.mono ?_; rintro e w' ⟨rfl, hb'⟩)
  go_ret
  exact ⟨rfl, hb'⟩
end Go.Proofs.YtaelfjlmkgimhaaGreatDoor
