/- transcript.Check. -/
import Derived.Test.YtbjanlmnmeegnaaDoorTPlc
set_option linter.unusedVariables false
set_option linter.unusedSimpArgs false
namespace Go.Proofs.YtbjanlmnmeegnaaDoor
open Go.RowKit Go.Shelf
attribute [local go_sem] Oper.semAt_some

set_option maxRecDepth 100000 in
theorem spend_any (b : Nat) (m : Int) (w : World) (hm : 1 ≤ m ∧ m ≤ 4096) (h : w.heap[b]? = some (.cells #[.int .i64 m] 3 (0, 0))) : Calls Tryd.prog 11 #[.pointer (some ⟨b, 0, none⟩)] w fun e w' => e = .returned (.bool true) ∧ w' = w.setCell ⟨b, 0, none⟩ (.int .i64 (m - 1)) := by
  have c1 := cell_of_one h
  have f1 : w.frozen? ⟨b, 0, none⟩ = false := Lib.frozen_of_heap h 0
  have c2 : (w.setCell ⟨b, 0, none⟩ (.int .i64 (m - 1))).cell? ⟨b, 0, none⟩ = some (.int .i64 (m - 1)) := by
    have h2 : (w.setCell ⟨b, 0, none⟩ (.int .i64 (m - 1))).heap[b]? = some (.cells #[.int .i64 (m - 1)] 3 (0, 0)) := by rw [heap_setCell_self h]; rfl
    exact cell_of_one h2
  have hm1 := hm.1
  have hm2 := hm.2
  have t1 : decide (m - 1 ≥ 0) = true := by simp; omega
  have t2 : decide (0 ≤ m - 1) = true := by simp; omega
  have t3 : decide (1 ≤ m) = true := by simp; omega
  go_enter Tryd.func11, Tryd.ntmps11
  go_wp2
  go_ret
  exact ⟨rfl, rfl⟩
/-- Nodes that are valid. -/
def Vld (l : List Nd) : Prop := fitL Ck Wk Nk false l ∧ ordL l
set_option maxRecDepth 100000 in
set_option maxHeartbeats 4000000 in
theorem Check_any (S : Nat → Prop) (a : Option Addr) (n c : Nat) (vs : List Vl) (w : World) (hc : cntL (vs.map Vl.er) ≤ 100) (hd : dptL (vs.map Vl.er) ≤ 10) (hby : bytL (vs.map Vl.er) ≤ 10000) (hS : ∀ b, S b → b < w.heap.size) (hv : Vals S w a n c vs) (hE : TEnv w) :
    Calls Tryd.prog 5 #[.slice a n c] w (RgtP (Vld (vs.map Vl.er)) w) := by
  have hb3 : Below w.heap.size w (((w.alloc (.cells #[.int .i64 0] 24)).alloc (.cells #[.int .i64 4096] 3)).alloc (.cells #[.func (.func 11) #[] #[.pointer (some ⟨(w.heap.size + 1), 0, none⟩)]] 26)) := (((Below.refl _ _).alloc (Nat.le_refl _) _).alloc (by simp) _).alloc (by simp; omega) _
  have hsA : ((((w.alloc (.cells #[.int .i64 0] 24)).alloc (.cells #[.int .i64 4096] 3)).alloc (.cells #[.func (.func 11) #[] #[.pointer (some ⟨(w.heap.size + 1), 0, none⟩)]] 26))).heap.size = w.heap.size + 3 := by simp
  obtain ⟨g0, g1, g2⟩ : ((((w.alloc (.cells #[.int .i64 0] 24)).alloc (.cells #[.int .i64 4096] 3)).alloc (.cells #[.func (.func 11) #[] #[.pointer (some ⟨(w.heap.size + 1), 0, none⟩)]] 26))).heap[w.heap.size]? = some (.cells #[.int .i64 0] 24 (0, 0)) ∧ ((((w.alloc (.cells #[.int .i64 0] 24)).alloc (.cells #[.int .i64 4096] 3)).alloc (.cells #[.func (.func 11) #[] #[.pointer (some ⟨(w.heap.size + 1), 0, none⟩)]] 26))).heap[(w.heap.size + 1)]? = some (.cells #[.int .i64 4096] 3 (0, 0)) ∧ ((((w.alloc (.cells #[.int .i64 0] 24)).alloc (.cells #[.int .i64 4096] 3)).alloc (.cells #[.func (.func 11) #[] #[.pointer (some ⟨(w.heap.size + 1), 0, none⟩)]] 26))).heap[(w.heap.size + 1 + 1)]? = some (.cells #[.func (.func 11) #[] #[.pointer (some ⟨(w.heap.size + 1), 0, none⟩)]] 26 (0, 0)) := by
    have h1 := World.alloc_heap_new w (.cells #[.int .i64 0] 24)
    have h2 := World.alloc_heap_new (w.alloc (.cells #[.int .i64 0] 24)) (.cells #[.int .i64 4096] 3)
    have h3 := World.alloc_heap_new ((w.alloc (.cells #[.int .i64 0] 24)).alloc (.cells #[.int .i64 4096] 3)) (.cells #[.func (.func 11) #[] #[.pointer (some ⟨(w.heap.size + 1), 0, none⟩)]] 26)
    rw [show (w.alloc (.cells #[.int .i64 0] 24)).heap.size = w.heap.size + 1 by simp] at h2
    rw [show ((w.alloc (.cells #[.int .i64 0] 24)).alloc (.cells #[.int .i64 4096] 3)).heap.size = w.heap.size + 2 by simp] at h3
    refine ⟨?_, ?_, h3⟩
    · rw [Below.heap_alloc _ _ _ (by simp; omega), Below.heap_alloc _ _ _ (by simp)]; exact h1
    · rw [Below.heap_alloc _ _ _ (by simp)]; exact h2
  have HV := Lib.hid hv
  have HS := Lib.hid hS
  have HE := Lib.hid hE
  have HC := Lib.hid hc
  have HDP := Lib.hid hd
  have HBY := Lib.hid hby
  have HLN := Lib.hid (vis_lenP 17 0 false vs)
  have HDE := Lib.hid (vis_dep 17 0 false vs)
  clear hc hd hby hS hv hE
  refine (callsIn_wide (n := 10)).1 ?_
  refine callsIn_of_wp_marks Tryd.func5 rfl trivial ?_ rfl
  simp only [Tryd.ntmps5, List.size_toArray, List.length_cons, List.length_nil, Nat.reduceAdd, Nat.reduceSub, Array.replicate_succ, Array.replicate_zero, List.push_toArray, List.append_toArray, List.nil_append, List.cons_append]
  gi_wp2_with (fail)
  refine ⟨trivial, ?_⟩
  refine (places_in _ _ a n c).mono ?_
  rintro e WL ⟨rfl, hWL⟩
  have hbL : Below ((((w.alloc (.cells #[.int .i64 0] 24)).alloc (.cells #[.int .i64 4096] 3)).alloc (.cells #[.func (.func 11) #[] #[.pointer (some ⟨(w.heap.size + 1), 0, none⟩)]] 26))).heap.size (((w.alloc (.cells #[.int .i64 0] 24)).alloc (.cells #[.int .i64 4096] 3)).alloc (.cells #[.func (.func 11) #[] #[.pointer (some ⟨(w.heap.size + 1), 0, none⟩)]] 26)) WL := by rw [hWL]; exact (Below.refl _ _).alloc (Nat.le_refl _) _
  have gv := World.alloc_heap_new (((w.alloc (.cells #[.int .i64 0] 24)).alloc (.cells #[.int .i64 4096] 3)).alloc (.cells #[.func (.func 11) #[] #[.pointer (some ⟨(w.heap.size + 1), 0, none⟩)]] 26)) (.cells #[.slice a n c] 22)
  rw [← hWL, hsA] at gv
  have hsL : WL.heap.size = w.heap.size + 4 := by rw [hWL]; simp
  replace g0 := (hbL.block _ (by omega)).trans g0
  replace g1 := (hbL.block _ (by omega)).trans g1
  replace g2 := (hbL.block _ (by omega)).trans g2
  have hbw := hb3.trans (hbL.mono hb3.size)
  rw [hsA]
  clear hWL hbL hb3 hsA
  gi_wp2
  have hVL : Vals (Out (fun b => b = (w.heap.size + 1))) WL a n c vs := ((HV.out.mono (S' := fun b => S b ∧ b < w.heap.size) (fun b h1 h2 => ⟨h1, h2⟩)).below hbw).mono (fun b h1 _ h3 => by have := h1.2; omega)
  have HSL := Lib.hid hsL
  have hcV := cell_of_one gv
  refine places_loop (n := 10) (by omega) (w.heap.size + 3) vs a n c (fun b => b = (w.heap.size + 1)) rfl hcV hVL (fun b hb => by omega) (by omega)
    (fun pre W => W.heap[w.heap.size]? = some (.cells #[.int .i64 0] 24 (0, 0)) ∧ W.heap[(w.heap.size + 1)]? = some (.cells #[.int .i64 (4096 - (pre.length : Int))] 3 (0, 0)) ∧ W.heap[(w.heap.size + 1 + 1)]? = some (.cells #[.func (.func 11) #[] #[.pointer (some ⟨(w.heap.size + 1), 0, none⟩)]] 26 (0, 0)) ∧ Below w.heap.size w W ∧ WL.heap.size ≤ W.heap.size)
    (fun _ _ _ => False) ?hI ?hIx ⟨g0, g1, g2, hbw, Nat.le_refl _⟩
    (fun y a' W => ∃ (bo : Nat), a' = { tmps := #[.slice a n c, undef, .pointer (some ⟨w.heap.size, 0, none⟩), .pointer (some ⟨(w.heap.size + 1), 0, none⟩), .pointer (some ⟨(w.heap.size + 1 + 1), 0, none⟩), .pointer (some ⟨bo, 0, none⟩), undef, undef, .func (.func 11) #[] #[.pointer (some ⟨(w.heap.size + 1), 0, none⟩)], .slice a n c, .func (.func 18) #[] #[.pointer (some ⟨w.heap.size + 3, 0, none⟩)], .agg #[.int .i64 y.1.2.1.kind, .string y.1.2.1.text, .int .i64 y.1.2.1.num, y.1.2.1.sl, .int .i64 (y.1.1 : Int), .bool y.1.2.2], undef, undef, undef, undef, undef, undef, undef, undef, undef, undef, undef, undef, undef, undef, undef, undef, undef, undef, undef, undef, undef, undef, undef, undef, undef, undef, undef], defers := [] } ∧ W.heap[bo]? = some (.cells #[.int .i64 y.1.2.1.kind, .string y.1.2.1.text, .int .i64 y.1.2.1.num, y.1.2.1.sl, .int .i64 (y.1.1 : Int), .bool y.1.2.2] 39 (0, 0)) ∧ WL.heap.size ≤ bo) ?hAx ?assign ?body ?done ?stop
  all_goals clear hsL
  case hI =>
    rintro pre W W' row ⟨g1, g2, g3, g4, g5⟩ hg hr
    exact ⟨cells_own g1 hg hr, cells_own g2 hg hr, cells_own g3 hg hr, g4.grown hg g4.size (fun r e => by have := (hr r e).1; have := HSL.out; omega), Nat.le_trans g5 hg.size⟩
  case hIx => rintro c' pre W W' row h; exact h.elim
  case hAx =>
    rintro y a' _ W W' row ⟨bo, e, h1, h2⟩ hg hr
    exact ⟨bo, e, cells_own h1 hg hr, h2⟩
  case assign =>
    rintro l0 pre y W K ⟨q1, q2, q3, q4, q5⟩ hK
    have hsl := HSL.out
    have hb1 : Below W.heap.size W (W.alloc (.cells #[.int .i64 y.1.2.1.kind, .string y.1.2.1.text, .int .i64 y.1.2.1.num, y.1.2.1.sl, .int .i64 (y.1.1 : Int), .bool y.1.2.2] 39)) := (Below.refl _ _).alloc (Nat.le_refl _) _
    have hKx := Lib.hid (hK _ _ (keepsFrom_below hb1) (KeepS.below hb1)
      ⟨(hb1.block _ (by omega)).trans q1, (hb1.block _ (by omega)).trans q2, (hb1.block _ (by omega)).trans q3, q4.trans (hb1.mono (by omega)), Nat.le_trans q5 hb1.size⟩ ⟨W.heap.size, rfl, World.alloc_heap_new W _, q5⟩)
    clear hsl
    obtain ⟨⟨yd, ⟨ky, ny, ty, ay, cy, ly⟩, ytx⟩, hy⟩ := y
    dsimp only [plEnc, Vl.val, Vl.cells, Vl.kind, Vl.num, Vl.text, Vl.sl, Vl.addr, Vl.items, Vl.cap] at hKx ⊢
    gi_wp2
    exact hKx.out
  case body =>
    rintro l0 pre y a0 W ⟨q1, q2, q3, q4, q5⟩ ⟨bo, rfl, h1, h2⟩ hlt
    have hsl := HSL.out
    have hpl : pre.length < 100 := by have := HLN.out; have := HC.out; rw [elsP_len] at hlt; omega
    have hyd : y.1.1 ≤ 10 := by have := (HDE.out y.1 y.2).2; have := HDP.out; omega
    have HSP := Lib.hid (spend_any (w.heap.size + 1) (4096 - (pre.length : Int)) W (by omega) q2)
    have HW2 : Hid ((W.setCell ⟨(w.heap.size + 1), 0, none⟩ (.int .i64 (4096 - (pre.length : Int) - 1))).heap[(w.heap.size + 1)]? = some (.cells #[.int .i64 (4096 - ((pre ++ [y]).length : Int))] 3 (0, 0))) := by
      show _ = _
      rw [heap_setCell_self q2, List.length_append]
      rw [show (4096 - (pre.length : Int) - 1) = 4096 - ((pre.length + [y].length : Nat) : Int) by simp; omega]
      rfl
    have HQ := Lib.hid (And.intro q1 (And.intro q3 (And.intro q4 q5)))
    have c3 := cell_of_one q3
    have hbo : bo ≠ (w.heap.size + 1) := by omega
    have HBO := Lib.hid (((heap_setCell_other (j := 0) (v := .int .i64 (4096 - (pre.length : Int) - 1)) hbo).trans h1))
    have HK1 : Hid (KeepS (Out (fun b => b = (w.heap.size + 1))) W (W.setCell ⟨(w.heap.size + 1), 0, none⟩ (.int .i64 (4096 - (pre.length : Int) - 1)))) := ⟨by simp [World.setCell], fun b cs t fr hb hc => by rw [heap_setCell_other hb]; exact hc⟩
    have HK2 : Hid (KeepsFrom WL.heap.size W (W.setCell ⟨(w.heap.size + 1), 0, none⟩ (.int .i64 (4096 - (pre.length : Int) - 1)))) := (KeepsOthers.setCell _ _ _).from _
    have HZ : Hid ((W.setCell ⟨(w.heap.size + 1), 0, none⟩ (.int .i64 (4096 - (pre.length : Int) - 1))).heap[w.heap.size]? = some (.cells #[.int .i64 0] 24 (0, 0)) ∧ (W.setCell ⟨(w.heap.size + 1), 0, none⟩ (.int .i64 (4096 - (pre.length : Int) - 1))).heap[(w.heap.size + 1 + 1)]? = some (.cells #[.func (.func 11) #[] #[.pointer (some ⟨(w.heap.size + 1), 0, none⟩)]] 26 (0, 0)) ∧ Below w.heap.size w (W.setCell ⟨(w.heap.size + 1), 0, none⟩ (.int .i64 (4096 - (pre.length : Int) - 1))) ∧ WL.heap.size ≤ (W.setCell ⟨(w.heap.size + 1), 0, none⟩ (.int .i64 (4096 - (pre.length : Int) - 1))).heap.size) :=
      ⟨by rw [heap_setCell_other (by omega)]; exact q1, by rw [heap_setCell_other (by omega)]; exact q3, below_setc q4 (by omega) _ _, by simpa [World.setCell] using q5⟩
    have t1 : decide ((y.1.1 : Int) ≥ 16) = false := by rw [decide_eq_false_iff_not]; omega
    have t2 : decide (16 ≤ (y.1.1 : Int)) = false := by rw [decide_eq_false_iff_not]; omega
    have t3 : decide (16 ≤ y.1.1) = false := by rw [decide_eq_false_iff_not]; omega
    obtain ⟨⟨yd, ⟨ky, ny, ty, ay, cy, ly⟩, ytx⟩, hy⟩ := y
    dsimp only [plEnc, Vl.val, Vl.cells, Vl.kind, Vl.num, Vl.text, Vl.sl, Vl.addr, Vl.items, Vl.cap] at h1 HBO t1 t2 t3 HW2 ⊢
    clear q1 q2 q3 q4 q5 hlt hyd hpl h1 h2 hsl hbo
    gi_wp2_with (fail)
    refine ⟨trivial, ?_⟩
    refine (callsIn_wide.2 HSP.out).mono ?_
    rintro e w' ⟨rfl, rfl⟩
    generalize W.setCell ⟨(w.heap.size + 1), 0, none⟩ (.int .i64 (4096 - (pre.length : Int) - 1)) = V at *
    obtain ⟨p0, p1, p2, p3, p4, p5⟩ := box_cells6 HBO.out
    gi_wp2
    exact ⟨HK2.out, HK1.out, HZ.out.1, HW2.out, HZ.out.2.1, HZ.out.2.2.1, HZ.out.2.2.2⟩
  case done =>
    rintro D W hD ⟨q1, -, -, q4, q5⟩ hd
    clear g0 g1 g2 hbw hVL gv hcV
    have hdl : D < W.heap.size := (Array.getElem?_eq_some_iff.1 hd).1
    gi_wp2_with (fail)
    refine ⟨trivial, ?_⟩
    refine (places_in _ _ a n c).mono ?_
    rintro e WM ⟨rfl, hWM⟩
    have hbM : Below W.heap.size W WM := by rw [hWM]; exact (Below.refl _ _).alloc (Nat.le_refl _) _
    have gv := World.alloc_heap_new W (.cells #[.slice a n c] 22)
    rw [← hWM] at gv
    have hsM : WM.heap.size = W.heap.size + 1 := by rw [hWM]; simp
    have hsl := HSL.out
    replace q1 := (hbM.block _ (by omega)).trans q1
    replace hd := (hbM.block _ hdl).trans hd
    have hbw := q4.trans (hbM.mono q4.size)
    clear hWM hbM q4
    gi_wp2
    have hVM : Vals (Out (fun _ => False)) WM a n c vs := ((HV.out.mono (S' := fun b => S b ∧ b < w.heap.size) (fun b h1 h2 => ⟨h1, h2⟩)).below hbw).mono (fun b _ _ h3 => h3)
    have HSM := Lib.hid hsM
    have hcV := cell_of_one gv
    have hwM := hbw.size
    refine places_loop (n := 10) (by omega) W.heap.size vs a n c (fun _ => False) rfl hcV hVM (fun b hb => hb.elim) (fun h => h)
      (fun pre V => V.heap[w.heap.size]? = some (.cells #[.int .i64 0] 24 (0, 0)) ∧ (∀ y ∈ pre, rgtX y.1) ∧ Below w.heap.size w V ∧ V.heap[D]? = some (.deferred (some [])) ∧ WM.heap.size ≤ V.heap.size)
      (fun c' pre V => c' = .ret ∧ (∃ q : Int, q ≠ 0 ∧ V.heap[w.heap.size]? = some (.cells #[.int .i64 q] 24 (0, 0))) ∧ (∃ y ∈ pre, ¬ rgtX y.1) ∧ Below w.heap.size w V ∧ V.heap[D]? = some (.deferred (some []))) ?hI2 ?hIx2 ⟨q1, (by simp), hbw, hd, Nat.le_refl _⟩
      (fun y a' V => ∃ (bo : Nat), a' = { tmps := #[.slice a n c, undef, .pointer (some ⟨w.heap.size, 0, none⟩), .pointer (some ⟨(w.heap.size + 1), 0, none⟩), .pointer (some ⟨(w.heap.size + 1 + 1), 0, none⟩), undef, .pointer (some ⟨bo, 0, none⟩), undef, .func (.func 11) #[] #[.pointer (some ⟨(w.heap.size + 1), 0, none⟩)], .slice a n c, .func (.func 18) #[] #[.pointer (some ⟨w.heap.size + 3, 0, none⟩)], undef, undef, undef, undef, undef, undef, undef, undef, undef, undef, undef, undef, undef, undef, undef, undef, .slice a n c, .func (.func 18) #[] #[.pointer (some ⟨W.heap.size, 0, none⟩)], .agg #[.int .i64 y.1.2.1.kind, .string y.1.2.1.text, .int .i64 y.1.2.1.num, y.1.2.1.sl, .int .i64 (y.1.1 : Int), .bool y.1.2.2], undef, undef, undef, undef, undef, undef, undef, undef, undef], defers := [] } ∧ V.heap[bo]? = some (.cells #[.int .i64 y.1.2.1.kind, .string y.1.2.1.text, .int .i64 y.1.2.1.num, y.1.2.1.sl, .int .i64 (y.1.1 : Int), .bool y.1.2.2] 39 (0, 0)) ∧ WM.heap.size ≤ bo) ?hAx2 ?assign2 ?body2 ?done2 ?stop2
    all_goals clear hsM
    case hI2 =>
      rintro pre V V' row ⟨g1, g2, g4, g3, g5⟩ hg hr
      exact ⟨cells_own g1 hg hr, g2, g4.grown hg g4.size (fun r e => by have := (hr r e).1; have := HSM.out; omega), (hg.block D (by have := HSM.out; omega) (fun e => by have := (hr D e.symm).1; have := HSM.out; omega)).trans g3, Nat.le_trans g5 hg.size⟩
    case hIx2 =>
      rintro c' pre V V' row ⟨rfl, ⟨q, hq, g1⟩, g2, g4, g3⟩ hg hr
      exact ⟨rfl, ⟨q, hq, cells_own g1 hg hr⟩, g2, g4.grown hg g4.size (fun r e => by have := (hr r e).1; have := HSM.out; omega), (hg.block D (Array.getElem?_eq_some_iff.1 g3).1 (fun e => by have := (hr D e.symm).1; have := HSM.out; omega)).trans g3⟩
    case hAx2 =>
      rintro y a' _ V V' row ⟨bo, e, h1, h2⟩ hg hr
      exact ⟨bo, e, cells_own h1 hg hr, h2⟩
    case assign2 =>
      rintro l0 pre y V K ⟨q1, q2, q3, q4, q5⟩ hK
      have hsm := HSM.out
      have hb1 : Below V.heap.size V (V.alloc (.cells #[.int .i64 y.1.2.1.kind, .string y.1.2.1.text, .int .i64 y.1.2.1.num, y.1.2.1.sl, .int .i64 (y.1.1 : Int), .bool y.1.2.2] 39)) := (Below.refl _ _).alloc (Nat.le_refl _) _
      have hKx := Lib.hid (hK _ _ (keepsFrom_below hb1) (KeepS.below hb1)
        ⟨(hb1.block _ (by omega)).trans q1, q2, q3.trans (hb1.mono (by omega)), (hb1.block _ (by omega)).trans q4, Nat.le_trans q5 hb1.size⟩ ⟨V.heap.size, rfl, World.alloc_heap_new V _, q5⟩)
      clear hsm hsl
      obtain ⟨⟨yd, ⟨ky, ny, ty, ay, cy, ly⟩, ytx⟩, hy⟩ := y
      dsimp only [plEnc, Vl.val, Vl.cells, Vl.kind, Vl.num, Vl.text, Vl.sl, Vl.addr, Vl.items, Vl.cap] at hKx ⊢
      gi_wp2
      exact hKx.out
    case body2 =>
      rintro l0 pre y a0 V ⟨q1, q2, q3, q4, q5⟩ ⟨bo, rfl, h1, h2⟩ hlt
      have HRG := Lib.hid (rgt_any y.1.2.1 y.1.1 y.1.2.2 V (by have := vis_txt 17 0 false vs y.1 y.2; have := HBY.out; omega) (HE.out.below q3))
      have HRX : Hid (rgtX y.1 ↔ rgtP y.1.2.1.kind y.1.2.1.text y.1.2.1.num (y.1.2.1.items.map Vl.er) y.1.1 y.1.2.2) := Iff.rfl
      have hsl := HSL.out
      have hsm := HSM.out
      have HQ := Lib.hid (And.intro q1 (And.intro q2 (And.intro q3 (And.intro q4 q5))))
      obtain ⟨p0, p1, p2, p3, p4, p5⟩ := box_cells6 h1
      generalize hPX : rgtX y.1 = PX at *
      have HPX := Lib.hid hPX
      clear hPX
      obtain ⟨⟨yd, ⟨ky, ny, ty, ay, cy, ly⟩, ytx⟩, hy⟩ := y
      dsimp only [plEnc, Vl.val, Vl.cells, Vl.kind, Vl.num, Vl.text, Vl.sl, Vl.addr, Vl.items, Vl.cap] at p0 p1 p2 p3 p4 p5 HRG HRX ⊢
      clear q1 q2 q3 q4 q5 hlt h1 h2
      gi_wp2_with (fail)
      refine ⟨trivial, ?_⟩
      refine (callsIn_wide.2 HRG.out).mono ?_
      rintro e V2 ⟨q, rfl, hq, hst⟩
      obtain ⟨q1, q2, q3, q4, q5⟩ := HQ.out
      have hst' := hst
      have k1 := (hst.block _ (by have := q3.size; omega)).trans q1
      have hs2 := hst.size
      have HQ2 := Lib.hid (And.intro k1 (And.intro (q3.trans (hst.mono q3.size)) (And.intro ((hst.block _ (by omega)).trans q4) (Nat.le_trans q5 hs2))))
      have HKF := Lib.hid (keepsFrom_below (B := WM.heap.size) hst)
      have HKS := Lib.hid (KeepS.below (S := Out (fun _ => False)) hst)
      have HQX := Lib.hid (hq.trans HRX.out.symm)
      clear hq hst hst' q1 q2 q3 q4 q5 p0 p1 p2 p3 p4 p5
      by_cases hq0 : q = 0
      · have t1 : ((q : Int) == 0) = true := by simp [hq0]
        have HY := Lib.hid (HQX.out.1 hq0)
        clear hq0
        gi_wp2
        refine ⟨HKF.out, HKS.out, HQ2.out.1, fun z hz => ?_, HQ2.out.2.1, HQ2.out.2.2.1, HQ2.out.2.2.2⟩
        rcases List.mem_append.1 hz with hz | hz
        · exact HQ.out.2.1 z hz
        · rw [List.mem_singleton.1 hz, HPX.out]; exact HY.out
      · have t1 : ((q : Int) == 0) = false := by simp [hq0]
        have HY : Hid (¬ PX) := fun h => hq0 (HQX.out.2 h)
        have HQ0 := Lib.hid hq0
        have f1 : V2.frozen? ⟨w.heap.size, 0, none⟩ = false := Lib.frozen_of_heap k1 0
        have c1 := cell_of_one k1
        have HX : Hid ((V2.setCell ⟨w.heap.size, 0, none⟩ (.int .i64 q)).heap[w.heap.size]? = some (.cells #[.int .i64 q] 24 (0, 0))) := by show _ = _; rw [heap_setCell_self k1]; rfl
        have HD3 : Hid ((V2.setCell ⟨w.heap.size, 0, none⟩ (.int .i64 q)).heap[D]? = some (.deferred (some []))) := by show _ = _; rw [heap_setCell_other (by omega)]; exact HQ2.out.2.2.1
        have HBB : Hid (Below w.heap.size w (V2.setCell ⟨w.heap.size, 0, none⟩ (.int .i64 q))) := below_setc HQ2.out.2.1 (Nat.le_refl _) _ _
        clear hq0 k1
        gi_wp2
        refine ⟨HKF.out.trans ((KeepsOthers.setCell _ _ _).from _), rfl, ⟨q, HQ0.out, HX.out⟩, ⟨_, List.mem_append_right _ (List.mem_singleton.2 rfl), by rw [HPX.out]; exact HY.out⟩, HBB.out, HD3.out⟩
    case done2 =>
      rintro D2 V hD2 ⟨q1, q2, q3, q4, q5⟩ hd2
      have hall := (rgt_all 17 vs (by have := HDP.out; omega)).1 (fun p hp => q2 ⟨p, hp⟩ (List.mem_attach _ _))
      have HALL : Hid (Vld (vs.map Vl.er)) := hall
      have hwg := wgt_bytL (vs.map Vl.er)
      have HMK := Lib.hid (marked_any (fun b => S b ∧ b < V.heap.size) a n c vs V (fit_kndL _ _ hall.1) (by have := HBY.out; have := HC.out; omega) (fun b hb => hb.2) ((HV.out.mono (S' := fun b => S b ∧ b < V.heap.size) (fun b h1 h2 => ⟨h1, Nat.lt_of_lt_of_le h2 q3.size⟩)).below q3) (HE.out.below q3))
      have HWG : Hid (wgtL (vs.map Vl.er) ≤ 65536) := by have := HBY.out; have := HC.out; show _ ≤ _; omega
      have hsl := HSL.out
      have hsm := HSM.out
      have HQ := Lib.hid (And.intro q1 (And.intro q3 (And.intro q4 (And.intro q5 hd2))))
      clear q1 q2 q3 q4 q5 hall hwg
      gi_wp2_with (fail)
      refine ⟨trivial, ?_⟩
      refine (callsIn_wide.2 HMK.out).mono ?_
      rintro e V2 ⟨s, rfl, hs, hst⟩
      obtain ⟨q1, q3, q4, q5, hd2⟩ := HQ.out
      have hsz : s.size ≤ 65536 := Nat.le_trans hs HWG.out
      have t1 : decide ((s.size : Int) > 65536) = false := by rw [decide_eq_false_iff_not]; omega
      have t2 : decide (65536 < (s.size : Int)) = false := by rw [decide_eq_false_iff_not]; omega
      have t3 : decide (65536 < s.size) = false := by rw [decide_eq_false_iff_not]; omega
      have k1 := (hst.block _ (by have := q3.size; omega)).trans q1
      have f1 : V2.frozen? ⟨w.heap.size, 0, none⟩ = false := Lib.frozen_of_heap k1 0
      have c1 := cell_of_one k1
      have HX : Hid ((V2.setCell ⟨w.heap.size, 0, none⟩ (.int .i64 0)).heap[w.heap.size]? = some (.cells #[.int .i64 0] 24 (0, 0)) ∧ Below w.heap.size w (V2.setCell ⟨w.heap.size, 0, none⟩ (.int .i64 0)) ∧ (V2.setCell ⟨w.heap.size, 0, none⟩ (.int .i64 0)).heap[D]? = some (.deferred (some [])) ∧ (V2.setCell ⟨w.heap.size, 0, none⟩ (.int .i64 0)).heap[D2]? = some (.deferred (some []))) := by
        refine ⟨by rw [heap_setCell_self k1]; rfl, below_setc (q3.trans (hst.mono q3.size)) (Nat.le_refl _) _ _, ?_, ?_⟩
        · rw [heap_setCell_other (by omega)]; exact (hst.block _ (Array.getElem?_eq_some_iff.1 q4).1).trans q4
        · rw [heap_setCell_other (by omega)]; exact (hst.block _ (Array.getElem?_eq_some_iff.1 hd2).1).trans hd2
      clear k1 q1 q3 q4 q5 hd2 hst hs
      gi_wp2
      refine leaves_marks (hi := w.heap.size) (by simp) (Φ := fun W => W.heap[w.heap.size]? = some (.cells #[.int .i64 0] 24 (0, 0)) ∧ Below w.heap.size w W) ?_ ?_ _ _ ⟨D2, rfl, by omega, HX.out.2.2.2, (by simp; omega), D, rfl, by omega, HX.out.2.2.1, (by simp), trivial⟩ ⟨HX.out.1, HX.out.2.1⟩
      · rintro W D ⟨h1, h3⟩ hD hd
        exact ⟨cells_putObj h1 hd rfl _, below_putObj h3 hD hd _⟩
      · rintro W ⟨h1, h3⟩
        have e1 := cell_of_one h1
        exact ⟨_, by simp [results, Tryd.results5, go_sem, e1], rgt_yes HALL.out h3⟩
    case stop2 =>
      rintro D2 c' pre V hD2 hpre ⟨rfl, ⟨q, hq, q1⟩, ⟨y, hy, hny⟩, q3, q4⟩ hd2
      have HNV : Hid (¬ Vld (vs.map Vl.er)) := fun h => hny ((rgt_all 17 vs (by have := HDP.out; omega)).2 h y.1 y.2)
      have hsl := HSL.out
      have hsm := HSM.out
      gi_wp2
      refine leaves_marks (hi := w.heap.size) (by simp) (Φ := fun W => W.heap[w.heap.size]? = some (.cells #[.int .i64 q] 24 (0, 0)) ∧ Below w.heap.size w W) ?_ ?_ _ _ ⟨D2, rfl, by omega, hd2, (by simp; omega), D, rfl, by omega, q4, (by simp), trivial⟩ ⟨q1, q3⟩
      · rintro W D ⟨h1, h3⟩ hD hd
        exact ⟨cells_putObj h1 hd rfl _, below_putObj h3 hD hd _⟩
      · rintro W ⟨h1, h3⟩
        have e1 := cell_of_one h1
        exact ⟨_, by simp [results, Tryd.results5, go_sem, e1], rgt_no hq HNV.out h3⟩
  case stop =>
    rintro D c' pre W hD hpre h; exact h.elim
end Go.Proofs.YtbjanlmnmeegnaaDoor
