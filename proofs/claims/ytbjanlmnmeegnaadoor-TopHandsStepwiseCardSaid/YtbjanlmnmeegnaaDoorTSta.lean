/- hands.State and hands.Advance. -/
import Derived.Test.YtbjanlmnmeegnaaDoorTChk
import Derived.Test.YtbjanlmnmeegnaaDoorTFur
import Derived.Test.YtbjanlmnmeegnaaDoorTFua
set_option linter.unusedVariables false
set_option linter.unusedSimpArgs false
namespace Go.Proofs.YtbjanlmnmeegnaaDoor
open Go.RowKit Go.Shelf

/-- Nodes of a size that is examined. -/
def Sml (l : List Nd) : Prop := cntL l ≤ 100 ∧ dptL l ≤ 10 ∧ bytL l ≤ 10000
/-- What State and Advance answer. -/
def TupP (S : Nat → Prop) (r : List Nd) (w : World) (e : Ending) (w' : World) : Prop :=
  ∃ a n c us, e = .returned (.tuple #[.slice a n c, .int .i64 0]) ∧ Vals (fun b => S b ∨ w.heap.size ≤ b) w' a n c us ∧ us.map Vl.er = r ∧ Below w.heap.size w w'
set_option maxRecDepth 100000 in
set_option maxHeartbeats 1000000 in
theorem State_any (S : Nat → Prop) (a : Option Addr) (n c : Nat) (vs : List Vl) (h : Int) (w : World) (hh : 0 ≤ h ∧ h ≤ 8) (hsm : Sml (vs.map Vl.er)) (hvd : Vld (vs.map Vl.er)) (hS : ∀ b, S b → b < w.heap.size) (hv : Vals S w a n c vs) (hE : TEnv w) :
    Calls Tryd.prog 8 #[.slice a n c, .int .i64 h] w (TupP S (mergeL (resL h (vs.map Vl.er))) w) := by
  have HC := Lib.hid (Check_any S a n c vs w hsm.1 hsm.2.1 hsm.2.2 hS hv hE)
  have HR : Hid (∀ W, Below w.heap.size w W → Calls Tryd.prog 17 #[.slice a n c, .int .i64 h] W (LstP S (mergeL (resL h (vs.map Vl.er))) W)) := fun W hb => resolved_any S a n c vs W h (by have := hsm.1; omega) (fit_okL _ _ hvd.1) (by have := hsm.2.2; omega) (fun b hb' => Nat.lt_of_lt_of_le (hS b hb') hb.size) (hv.below hb)
  have HVD := Lib.hid hvd
  clear hsm hvd hS hv hE
  go_enter Tryd.func8, Tryd.ntmps8
  go_wp2_with fail
  refine HC.out.mono ?_
  rintro e w2 ⟨c0, rfl, hc0, hst⟩
  obtain rfl : c0 = 0 := hc0.2 HVD.out
  have HF := Lib.hid (HR.out w2 hst)
  have HST := Lib.hid hst
  have t1 : decide (h < 0) = false := by simp; omega
  have t2 : decide (h > 8) = false := by simp; omega
  have t3 : decide (8 < h) = false := by simp; omega
  clear hc0 hst HC HR hh
  go_wp2_with fail
  refine HF.out.mono ?_
  rintro e w4 ⟨a3, n3, c3, ws, rfl, h1, h2, h3⟩
  have H1 := Lib.hid (h1.mono (S' := fun b => S b ∨ w.heap.size ≤ b) (fun b hs _ => hs.imp id (fun q => Nat.le_trans HST.out.size q)))
  have H2 := Lib.hid h2
  have H3 := Lib.hid (HST.out.trans (h3.mono HST.out.size))
  clear h1 h2 h3 HF
  go_wp2
  exact bodyPost_ret (results_tmp2 rfl _ _ _) rfl ⟨a3, n3, c3, ws, rfl, H1.out, H2.out, H3.out⟩
set_option maxRecDepth 100000 in
set_option maxHeartbeats 1000000 in
theorem Advance_any (S : Nat → Prop) (a : Option Addr) (n c : Nat) (vs : List Vl) (h : Int) (w : World) (hh : 0 ≤ h ∧ h ≤ 8) (hsm : Sml (vs.map Vl.er)) (hvd : Vld (vs.map Vl.er)) (hS : ∀ b, S b → b < w.heap.size) (hv : Vals S w a n c vs) (hE : TEnv w) :
    Calls Tryd.prog 7 #[.slice a n c, .int .i64 h] w (TupP S (mergeL (advL h (vs.map Vl.er))) w) := by
  have HC := Lib.hid (Check_any S a n c vs w hsm.1 hsm.2.1 hsm.2.2 hS hv hE)
  have HR : Hid (∀ W, Below w.heap.size w W → Calls Tryd.prog 16 #[.slice a n c, .int .i64 h] W (LstP S (mergeL (advL h (vs.map Vl.er))) W)) := fun W hb => advanced_any S a n c vs W h (by have := hsm.1; omega) (fit_okL _ _ hvd.1) (by have := hsm.2.2; omega) (fun b hb' => Nat.lt_of_lt_of_le (hS b hb') hb.size) (hv.below hb)
  have HVD := Lib.hid hvd
  clear hsm hvd hS hv hE
  go_enter Tryd.func7, Tryd.ntmps7
  go_wp2_with fail
  refine HC.out.mono ?_
  rintro e w2 ⟨c0, rfl, hc0, hst⟩
  obtain rfl : c0 = 0 := hc0.2 HVD.out
  have HF := Lib.hid (HR.out w2 hst)
  have HST := Lib.hid hst
  have t1 : decide (h < 0) = false := by simp; omega
  have t2 : decide (h > 8) = false := by simp; omega
  have t3 : decide (8 < h) = false := by simp; omega
  clear hc0 hst HC HR hh
  go_wp2_with fail
  refine HF.out.mono ?_
  rintro e w4 ⟨a3, n3, c3, ws, rfl, h1, h2, h3⟩
  have H1 := Lib.hid (h1.mono (S' := fun b => S b ∨ w.heap.size ≤ b) (fun b hs _ => hs.imp id (fun q => Nat.le_trans HST.out.size q)))
  have H2 := Lib.hid h2
  have H3 := Lib.hid (HST.out.trans (h3.mono HST.out.size))
  clear h1 h2 h3 HF
  go_wp2
  exact bodyPost_ret (results_tmp2 rfl _ _ _) rfl ⟨a3, n3, c3, ws, rfl, H1.out, H2.out, H3.out⟩
/-- Strings of words stay so. -/
theorem wordGo_append : ∀ (l r : List UInt8) (m : Bool), wordGo m l = true → wordGo false r = true → wordGo m (l ++ r) = true := by
  intro l
  induction l with
  | nil =>
    intro r m h1 h2
    cases m with
    | false => exact h2
    | true =>
      cases r with
      | nil => rfl
      | cons c r =>
        rw [List.nil_append]
        rw [wordGo] at h2 ⊢
        split
        · rename_i e; rw [if_pos e] at h2; simp at h2
        · rename_i e; rw [if_neg e] at h2; exact h2
  | cons c l ih =>
    intro r m h1 h2
    rw [List.cons_append]
    rw [wordGo] at h1 ⊢
    split
    · rename_i e
      rw [if_pos e] at h1
      simp only [Bool.and_eq_true] at h1 ⊢
      exact ⟨h1.1, ih r m h1.2 h2⟩
    · rename_i e
      rw [if_neg e] at h1
      split
      · rename_i e2; rw [if_pos e2] at h1; cases h1
      · rename_i e2; rw [if_neg e2] at h1; exact ih r _ h1 h2
end Go.Proofs.YtbjanlmnmeegnaaDoor
