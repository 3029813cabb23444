/- lemma.Of. -/
import Derived.Test.YtileoimcnhcfcaaDoorLPln
set_option linter.unusedVariables false
set_option linter.unusedSimpArgs false
namespace Go.Proofs.YtileoimcnhcfcaaDoor
open Go.RowKit Go.Shelf
attribute [local go_sem] Oper.semAt_some

theorem five_boxes (w : World) (A B C D E : Array Value) (ta tb tc td te : TypeId) : Below w.heap.size w (((((w.alloc (.cells A ta)).alloc (.cells B tb)).alloc (.cells C tc)).alloc (.cells D td)).alloc (.cells E te)) ∧ (((((w.alloc (.cells A ta)).alloc (.cells B tb)).alloc (.cells C tc)).alloc (.cells D td)).alloc (.cells E te)).heap.size = w.heap.size + 5 ∧
    (((((w.alloc (.cells A ta)).alloc (.cells B tb)).alloc (.cells C tc)).alloc (.cells D td)).alloc (.cells E te)).heap[w.heap.size]? = some (.cells A ta (0, 0)) ∧ (((((w.alloc (.cells A ta)).alloc (.cells B tb)).alloc (.cells C tc)).alloc (.cells D td)).alloc (.cells E te)).heap[w.heap.size + 1]? = some (.cells B tb (0, 0)) ∧
    (((((w.alloc (.cells A ta)).alloc (.cells B tb)).alloc (.cells C tc)).alloc (.cells D td)).alloc (.cells E te)).heap[w.heap.size + 1 + 1]? = some (.cells C tc (0, 0)) ∧ (((((w.alloc (.cells A ta)).alloc (.cells B tb)).alloc (.cells C tc)).alloc (.cells D td)).alloc (.cells E te)).heap[w.heap.size + 1 + 1 + 1]? = some (.cells D td (0, 0)) ∧
    (((((w.alloc (.cells A ta)).alloc (.cells B tb)).alloc (.cells C tc)).alloc (.cells D td)).alloc (.cells E te)).heap[w.heap.size + 1 + 1 + 1 + 1]? = some (.cells E te (0, 0)) := by
  have s : ∀ (w : World) (A : Array Value) (t : TypeId), (w.alloc (.cells A t)).heap.size = w.heap.size + 1 := fun w A t => by simp
  have hA := World.alloc_heap_new w (.cells A ta)
  have hB := World.alloc_heap_new (w.alloc (.cells A ta)) (.cells B tb)
  have hC := World.alloc_heap_new ((w.alloc (.cells A ta)).alloc (.cells B tb)) (.cells C tc)
  have hD := World.alloc_heap_new (((w.alloc (.cells A ta)).alloc (.cells B tb)).alloc (.cells C tc)) (.cells D td)
  have hE := World.alloc_heap_new ((((w.alloc (.cells A ta)).alloc (.cells B tb)).alloc (.cells C tc)).alloc (.cells D td)) (.cells E te)
  simp only [s] at hB hC hD hE
  refine ⟨((((Below.refl _ _).alloc (Nat.le_refl _) _).alloc (by simp) _).alloc (by simp; omega) _).alloc (by simp; omega) _ |>.alloc (by simp; omega) _, by simp only [s], ?_, ?_, ?_, ?_, hE⟩
  · rw [Below.heap_alloc _ _ _ (by simp only [s]; omega), Below.heap_alloc _ _ _ (by simp only [s]; omega), Below.heap_alloc _ _ _ (by simp only [s]; omega), Below.heap_alloc _ _ _ (by simp only [s]; omega)]; exact hA
  · rw [Below.heap_alloc _ _ _ (by simp only [s]; omega), Below.heap_alloc _ _ _ (by simp only [s]; omega), Below.heap_alloc _ _ _ (by simp only [s]; omega)]; exact hB
  · rw [Below.heap_alloc _ _ _ (by simp only [s]; omega), Below.heap_alloc _ _ _ (by simp only [s]; omega)]; exact hC
  · rw [Below.heap_alloc _ _ _ (by simp only [s]; omega)]; exact hD
theorem V1_facts {W V : World} {lb cb : Nat} {f l : ByteArray} {N M : Int} {tm ti : TypeId} (hV : V = W.setCell ⟨cb, 0, none⟩ (.int .i64 (M + 1))) (h1 : W.heap[lb]? = some (.cells #[.string f, .string l, .int .i64 N] tm (0, 0))) (h2 : W.heap[cb]? = some (.cells #[.int .i64 M] ti (0, 0))) (hne : lb ≠ cb) :
    V.heap[lb]? = some (.cells #[.string f, .string l, .int .i64 N] tm (0, 0)) ∧ V.heap[cb]? = some (.cells #[.int .i64 (M + 1)] ti (0, 0)) ∧ ∀ b, b ≠ cb → V.heap[b]? = W.heap[b]? := by
  subst hV
  exact ⟨by rw [heap_setCell_other hne _]; exact h1, by rw [heap_setCell_self h2]; rfl, fun b hb => heap_setCell_other hb _⟩
theorem X_facts {W V : World} {lb cb : Nat} {f l : ByteArray} {N M K : Int} {tm ti : TypeId} (hV : V = W.setCell ⟨lb, 2, none⟩ (.int .i64 K)) (h1 : W.heap[lb]? = some (.cells #[.string f, .string l, .int .i64 N] tm (0, 0))) (h2 : W.heap[cb]? = some (.cells #[.int .i64 M] ti (0, 0))) (hne : lb ≠ cb) :
    V.heap[lb]? = some (.cells #[.string f, .string l, .int .i64 K] tm (0, 0)) ∧ V.heap[cb]? = some (.cells #[.int .i64 M] ti (0, 0)) ∧ ∀ b, b ≠ lb → V.heap[b]? = W.heap[b]? := by
  subst hV
  exact ⟨by rw [heap_set_at h1]; rfl, by rw [heap_setCell_other hne.symm _]; exact h2, fun b hb => heap_setCell_other hb _⟩
theorem numF_pre {p : Nat × Nat} {l pre : List (Nat × Nat)} (hnd : l.Nodup) (hp : pre <+: l) (h0 : 0 < numF p pre) : numF p l = numF p pre := by
  have hm : p ∈ pre := Classical.byContradiction fun h => by rw [numF_no _ h] at h0; omega
  obtain ⟨k, hk, e⟩ := List.mem_iff_getElem.1 hm
  obtain ⟨r, rfl⟩ := hp
  rw [numF_at pre (List.nodup_append.1 hnd).1 k (by rw [List.getElem?_eq_getElem hk, e]), numF_at (pre ++ r) hnd k (by rw [List.getElem?_append_left hk, List.getElem?_eq_getElem hk, e])]
theorem three_set {w W : World} {B D N : Nat} {x y z : Value} {t : TypeId} (h : W.heap[B]? = some (.cells #[x, y, z] t (0, 0))) (hd : W.heap[D]? = some (.deferred (some []))) (hb : Below N w W) (hN : N ≤ B) (hne : D ≠ B) (x' y' z' : Value) :
    (((W.setCell ⟨B, 0, none⟩ x').setCell ⟨B, 1, none⟩ y').setCell ⟨B, 2, none⟩ z').heap[B]? = some (.cells #[x', y', z'] t (0, 0)) ∧ (((W.setCell ⟨B, 0, none⟩ x').setCell ⟨B, 1, none⟩ y').setCell ⟨B, 2, none⟩ z').heap[D]? = some (.deferred (some [])) ∧ Below N w (((W.setCell ⟨B, 0, none⟩ x').setCell ⟨B, 1, none⟩ y').setCell ⟨B, 2, none⟩ z') := by
  have h1 : (W.setCell ⟨B, 0, none⟩ x').heap[B]? = some (.cells #[x', y, z] t (0, 0)) := by rw [heap_set_at h]; rfl
  have h2 : ((W.setCell ⟨B, 0, none⟩ x').setCell ⟨B, 1, none⟩ y').heap[B]? = some (.cells #[x', y', z] t (0, 0)) := by rw [heap_set_at h1]; rfl
  refine ⟨by rw [heap_set_at h2]; rfl, by rw [heap_setCell_other hne _, heap_setCell_other hne _, heap_setCell_other hne _]; exact hd, below_setc (below_setc (below_setc hb hN _ _) hN _ _) hN _ _⟩
/-- What Of answers. -/
def OfP (f l : ByteArray) (N : Nat) (w : World) (e : Ending) (w' : World) : Prop := e = .returned (.tuple #[.agg #[.string f, .string l, .int .i64 (N : Int)], .int .i64 0]) ∧ Below w.heap.size w w'
/-- The number that Of gives. -/
def numL (ws : List ByteArray) (f l : ByteArray) (p : Nat × Nat) : Nat := if (occs ws f l).length = 1 then 0 else numF p (occs ws f l)
set_option maxRecDepth 100000 in
set_option maxHeartbeats 8000000 in
theorem of_any (S : Nat → Prop) (a : Option Addr) (n c : Nat) (ws : List ByteArray) (p q : Nat) (f lw : ByteArray) (w : World) (hv : Strs S w a n c ws) (hn : n ≤ 200) (hw : ∀ s ∈ ws, wrdP s) (hpq : p < q) (hq : q ≤ n) (hf : ws[p]? = some f)
    (hl : (q = p + 1 ∧ lw = ⟨#[]⟩) ∨ (p + 1 < q ∧ lw ≠ ⟨#[]⟩ ∧ ws[q - 1]? = some lw)) (hS : ∀ b, S b → b < w.heap.size) (hE : Env w) :
    Calls Tryd.prog 8 #[.slice a n c, .int .i64 (p : Int), .int .i64 (q : Int)] w (OfP f lw (numL ws f lw (p, q - 1)) w) := by
  have hbA : Below w.heap.size w (((w.alloc (.cells #[.int .i64 (p : Int)] 3)).alloc (.cells #[.int .i64 (q : Int)] 3)).alloc (.cells #[.string ⟨#[]⟩, .string ⟨#[]⟩, .int .i64 0] 34)) := (((Below.refl _ _).alloc (Nat.le_refl _) _).alloc (by simp) _).alloc (by simp; omega) _
  have hsA : ((((w.alloc (.cells #[.int .i64 (p : Int)] 3)).alloc (.cells #[.int .i64 (q : Int)] 3)).alloc (.cells #[.string ⟨#[]⟩, .string ⟨#[]⟩, .int .i64 0] 34))).heap.size = w.heap.size + 3 := by simp
  obtain ⟨g0, g1, g2⟩ : ((((w.alloc (.cells #[.int .i64 (p : Int)] 3)).alloc (.cells #[.int .i64 (q : Int)] 3)).alloc (.cells #[.string ⟨#[]⟩, .string ⟨#[]⟩, .int .i64 0] 34))).heap[w.heap.size]? = some (.cells #[.int .i64 (p : Int)] 3 (0, 0)) ∧ ((((w.alloc (.cells #[.int .i64 (p : Int)] 3)).alloc (.cells #[.int .i64 (q : Int)] 3)).alloc (.cells #[.string ⟨#[]⟩, .string ⟨#[]⟩, .int .i64 0] 34))).heap[(w.heap.size + 1)]? = some (.cells #[.int .i64 (q : Int)] 3 (0, 0)) ∧ ((((w.alloc (.cells #[.int .i64 (p : Int)] 3)).alloc (.cells #[.int .i64 (q : Int)] 3)).alloc (.cells #[.string ⟨#[]⟩, .string ⟨#[]⟩, .int .i64 0] 34))).heap[(w.heap.size + 1 + 1)]? = some (.cells #[.string ⟨#[]⟩, .string ⟨#[]⟩, .int .i64 0] 34 (0, 0)) := by
    have h1 := World.alloc_heap_new w (.cells #[.int .i64 (p : Int)] 3)
    have h2 := World.alloc_heap_new (w.alloc (.cells #[.int .i64 (p : Int)] 3)) (.cells #[.int .i64 (q : Int)] 3)
    have h3 := World.alloc_heap_new ((w.alloc (.cells #[.int .i64 (p : Int)] 3)).alloc (.cells #[.int .i64 (q : Int)] 3)) (.cells #[.string ⟨#[]⟩, .string ⟨#[]⟩, .int .i64 0] 34)
    rw [show (w.alloc (.cells #[.int .i64 (p : Int)] 3)).heap.size = w.heap.size + 1 by simp] at h2
    rw [show ((w.alloc (.cells #[.int .i64 (p : Int)] 3)).alloc (.cells #[.int .i64 (q : Int)] 3)).heap.size = w.heap.size + 1 + 1 by simp] at h3
    refine ⟨?_, ?_, h3⟩
    · rw [Below.heap_alloc _ _ _ (by simp; omega), Below.heap_alloc _ _ _ (by simp)]; exact h1
    · rw [Below.heap_alloc _ _ _ (by simp)]; exact h2
  have HCK := Lib.hid (check_yes S a n c ws (((w.alloc (.cells #[.int .i64 (p : Int)] 3)).alloc (.cells #[.int .i64 (q : Int)] 3)).alloc (.cells #[.string ⟨#[]⟩, .string ⟨#[]⟩, .int .i64 0] 34)) (hv.below rStr_ok hbA) (by omega) hw (hE.below hbA))
  have HV := Lib.hid hv
  have HS := Lib.hid hS
  have HBA := Lib.hid hbA
  have HG0 := Lib.hid g0
  have HG1 := Lib.hid g1
  have HG2 := Lib.hid g2
  have HSA := Lib.hid hsA
  have hpn : p < n := by omega
  obtain ⟨f', b, off, hu, -, ea, hSb, -, -, e0⟩ := hv.str hpn
  rw [hf] at hu
  cases hu
  subst ea
  have HE0 := Lib.hid e0
  have HQ1 : Hid (q - 1 < n) := by show _ < _; omega
  clear hv hE hS hbA hsA g0 g1 g2 e0 hw
  refine (callsIn_wide (n := 10)).1 ?_
  refine callsIn_of_wp_marks Tryd.func8 rfl trivial ?_ rfl
  simp only [Tryd.ntmps8, List.size_toArray, List.length_cons, List.length_nil, Nat.reduceAdd, Nat.reduceSub, Array.replicate_succ, Array.replicate_zero, List.push_toArray, List.append_toArray, List.nil_append, List.cons_append]
  gi_wp2_with (fail)
  refine ⟨trivial, ?_⟩
  refine (callsIn_wide.2 HCK.out).mono ?_
  rintro e w2 ⟨rfl, hst⟩
  have hB2 := HBA.out.trans (hst.mono HBA.out.size)
  have hs2 : w.heap.size + 3 ≤ w2.heap.size := by have := hst.size; have := HSA.out; omega
  have k0 := (hst.block _ (by have := HSA.out; omega)).trans HG0.out
  have k1 := (hst.block _ (by have := HSA.out; omega)).trans HG1.out
  have k2 := (hst.block _ (by have := HSA.out; omega)).trans HG2.out
  have c0 := cell_of_one k0
  have c1 := cell_of_one k1
  have ew := cell_later hB2 HE0.out
  have HB2 := Lib.hid hB2
  have HK0 := Lib.hid k0
  have HK1 := Lib.hid k1
  have HK2 := Lib.hid k2
  have t1 : decide ((p : Int) < 0) = false := by simp
  have t2 : decide ((p : Int) ≥ (q : Int)) = false := by simp; omega
  have t3 : decide (q ≤ p) = false := by simp; omega
  have t4 : decide ((q : Int) ≤ (p : Int)) = false := by simp; omega
  have t5 : decide ((q : Int) > (n : Int)) = false := by simp; omega
  have t6 : decide (n < q) = false := by simp; omega
  have t7 : decide ((n : Int) < (q : Int)) = false := by simp; omega
  clear hst k0 k1 k2 hB2 HCK HBA HSA HG0 HG1 HG2
  have hbx : Below w2.heap.size w2 (w2.alloc (.cells #[.string f, .string ⟨#[]⟩, .int .i64 0] 34)) := (Below.refl _ _).alloc (Nat.le_refl _) _
  have c0x := cell_later hbx c0
  have c1x := cell_later hbx c1
  have HBX := Lib.hid hbx
  clear hbx
  rcases hl with ⟨hqp, rfl⟩ | ⟨hqp, hlw, hlq⟩
  · have u1 : decide ((q : Int) - (p : Int) > 1) = false := by simp; omega
    have u2 : decide (1 < (q : Int) - (p : Int)) = false := by simp; omega
    have HQP := Lib.hid hqp
    clear hqp
    gi_wp2_with (fail)
    refine ⟨trivial, ?_⟩
    refine (occ_in _ _ _ _ _ _ _).mono ?_
    rintro e WL ⟨rfl, rfl⟩
    gi_wp2
    obtain ⟨hbL, hsL, gL, gC, cb1, cb2, cb3⟩ := five_boxes w2 #[.string f, .string ⟨#[]⟩, .int .i64 0] #[.int .i64 0] #[.slice (some ⟨b, off, none⟩) n c] #[.string f] #[.string ⟨#[]⟩] 34 3 22 9 9
    generalize hWL : (((((w2.alloc (.cells #[.string f, .string ⟨#[]⟩, .int .i64 0] 34)).alloc (.cells #[.int .i64 0] 3)).alloc (.cells #[.slice (some ⟨b, off, none⟩) n c] 22)).alloc (.cells #[.string f] 9)).alloc (.cells #[.string ⟨#[]⟩] 9)) = WL at *
    have k0 := (hbL.block _ (by omega)).trans HK0.out
    have k1 := (hbL.block _ (by omega)).trans HK1.out
    have k2 := (hbL.block _ (by omega)).trans HK2.out
    have hbw := HB2.out.trans (hbL.mono HB2.out.size)
    have hVL : Strs (fun b => ¬ (b = w2.heap.size ∨ b = (w2.heap.size + 1))) WL (some ⟨b, off, none⟩) n c ws := (HV.out.below rStr_ok hbw).mono rStr_ok (fun b h _ => by have := HS.out b h; omega)
    have HSL := Lib.hid hsL
    have HOL : Hid ((ocL ws f ⟨#[]⟩).length ≤ 200 * 201) := by
      show _ ≤ _
      rw [ocL_len]
      have := occ_len (ws := ws) (f := f) (l := ⟨#[]⟩) (by rw [← HV.out.len]; exact hn) ws.length
      have h2 : ws.length ≤ 200 := by rw [← HV.out.len]; exact hn
      exact Nat.le_trans this (Nat.mul_le_mul_right _ h2)
    clear hWL hbL c0 c1 ew c0x c1x t1 t2 t3 t4 t5 t6 t7
    refine occ_loop (n := 10) (by omega) (w2.heap.size + 1 + 1) (w2.heap.size + 1 + 1 + 1) (w2.heap.size + 1 + 1 + 1 + 1) ws f ⟨#[]⟩ (some ⟨b, off, none⟩) n c (fun b => b = w2.heap.size ∨ b = (w2.heap.size + 1)) rfl hVL (by omega) (cell_of_one cb1) (cell_of_one cb2) (cell_of_one cb3) (by omega) (by omega) (by omega)
      (fun pre W => W.heap[w2.heap.size]? = some (.cells #[.string f, .string ⟨#[]⟩, .int .i64 (numF (p, q - 1) (pre.map (·.1)) : Nat)] 34 (0, 0)) ∧ W.heap[(w2.heap.size + 1)]? = some (.cells #[.int .i64 (pre.length : Int)] 3 (0, 0)) ∧ W.heap[w.heap.size]? = some (.cells #[.int .i64 (p : Int)] 3 (0, 0)) ∧ W.heap[(w.heap.size + 1)]? = some (.cells #[.int .i64 (q : Int)] 3 (0, 0)) ∧ W.heap[(w.heap.size + 1 + 1)]? = some (.cells #[.string ⟨#[]⟩, .string ⟨#[]⟩, .int .i64 0] 34 (0, 0)) ∧ Below w.heap.size w W)
      (fun c' pre W => c' = .exit 0 ∧ (1 < pre.length ∧ 0 < numF (p, q - 1) (pre.map (·.1))) ∧ W.heap[w2.heap.size]? = some (.cells #[.string f, .string ⟨#[]⟩, .int .i64 (numF (p, q - 1) (pre.map (·.1)) : Nat)] 34 (0, 0)) ∧ W.heap[(w2.heap.size + 1)]? = some (.cells #[.int .i64 (pre.length : Int)] 3 (0, 0)) ∧ W.heap[(w.heap.size + 1 + 1)]? = some (.cells #[.string ⟨#[]⟩, .string ⟨#[]⟩, .int .i64 0] 34 (0, 0)) ∧ Below w.heap.size w W) ?hI ?hIx ⟨gL, gC, k0, k1, k2, hbw⟩
      (fun y a' _ => a' = { tmps := #[.slice (some ⟨b, off, none⟩) n c, .int .i64 (p : Int), .int .i64 (q : Int), undef, .pointer (some ⟨w.heap.size, 0, none⟩), .pointer (some ⟨(w.heap.size + 1), 0, none⟩), .pointer (some ⟨(w.heap.size + 1 + 1), 0, none⟩), .int .i64 0, .int .i64 0, .pointer (some ⟨w2.heap.size, 0, none⟩), .pointer (some ⟨(w2.heap.size + 1), 0, none⟩), .int .i64 (y.1.1 : Int), .int .i64 (y.1.2 : Int), .slice (some ⟨b, off, none⟩) n c, .int .i64 0, .int .i64 0, .bool false, undef, undef, .int .i64 (p : Int), .bool false, .bool false, .int .i64 (p : Int), .int .i64 (q : Int), .bool false, .bool false, .bool false, .int .i64 (q : Int), .slice (some ⟨b, off, none⟩) n c, .int .i64 (n : Int), .bool false, .bool false, undef, .slice (some ⟨b, off, none⟩) n c, .int .i64 (p : Int), .pointer (some ⟨b, off + p, none⟩), .string f, .agg #[.string f, .string ⟨#[]⟩, .int .i64 0], .int .i64 (q : Int), .int .i64 (p : Int), .int .i64 ((q : Int) - (p : Int)), .bool false, undef, undef, undef, undef, undef, undef, .slice (some ⟨b, off, none⟩) n c, .pointer (some ⟨w2.heap.size, 0, none⟩), .string f, .pointer (some ⟨w2.heap.size, 1, none⟩), .string ⟨#[]⟩, .func (.func 32) #[] #[.pointer (some ⟨w2.heap.size + 1 + 1, 0, none⟩), .pointer (some ⟨w2.heap.size + 1 + 1 + 1, 0, none⟩), .pointer (some ⟨w2.heap.size + 1 + 1 + 1 + 1, 0, none⟩)], .int .i64 (y.1.1 : Int), .int .i64 (y.1.2 : Int), undef, undef, undef, undef, undef, undef, undef, undef, undef, undef, undef, undef, undef, undef, undef, undef, undef, undef, undef, undef, undef, undef, undef, undef, undef, undef, undef, undef], defers := [] }) ?hAx ?assign ?body ?done ?stop
    all_goals clear hsL gL gC cb1 cb2 cb3 k0 k1 k2
    case hI =>
      rintro pre W W' row ⟨g1, g2, g3, g4, g5, g6⟩ hg hr
      exact ⟨cells_own g1 hg hr, cells_own g2 hg hr, cells_own g3 hg hr, cells_own g4 hg hr, cells_own g5 hg hr, g6.grown hg g6.size (fun r e => by have := (hr r e).1; have := HSL.out; omega)⟩
    case hIx =>
      rintro c' pre W W' row ⟨h0, h1, g1, g2, g5, g6⟩ hg hr
      exact ⟨h0, h1, cells_own g1 hg hr, cells_own g2 hg hr, cells_own g5 hg hr, g6.grown hg g6.size (fun r e => by have := (hr r e).1; have := HSL.out; omega)⟩
    case hAx =>
      rintro y a' _ W W' row h hg hr
      exact h
    case assign =>
      rintro l0 pre y W K h hK
      have hKx := hK _ W (keepsFrom_below (Below.refl _ _)) (KeepS.refl _ _) h rfl
      dsimp only [ocEnc] at hKx ⊢
      gi_wp2
      exact hKx
    case body =>
      rintro l0 pre y a0 W ⟨g1, g2, g3, g4, g5, g6⟩ rfl hlt
      have hpl : pre.length < 50000 := by have := HOL.out; omega
      obtain ⟨x0, x1, x2, fx⟩ := box_cells3 g1
      have cc := cell_of_one g2
      have fc : W.frozen? ⟨(w2.heap.size + 1), 0, none⟩ = false := Lib.frozen_of_heap g2 0
      have c0 := cell_of_one g3
      have c1 := cell_of_one g4
      have HNS : Hid (numF (p, q - 1) ((pre ++ [y]).map (·.1)) = if y.1 = (p, q - 1) then pre.length + 1 else numF (p, q - 1) (pre.map (·.1))) := by
        show _ = _
        rw [List.map_append, List.map_cons, List.map_nil, numF_snoc, List.length_map]
      have HNL : Hid (numF (p, q - 1) (pre.map (·.1)) ≤ pre.length) := by
        have := numF_le (p, q - 1) (pre.map (·.1))
        rw [List.length_map] at this; exact this
      have HLN : Hid ((pre ++ [y]).length = pre.length + 1) := by show _ = _; simp
      generalize numF (p, q - 1) (pre.map (·.1)) = N0 at *
      have hV := V1_facts (V := W.setCell ⟨(w2.heap.size + 1), 0, none⟩ (.int .i64 ((pre.length : Int) + 1))) rfl g1 g2 (by omega)
      obtain ⟨v1, v2, v3⟩ := hV
      have h3 : (W.setCell ⟨(w2.heap.size + 1), 0, none⟩ (.int .i64 ((pre.length : Int) + 1))).heap[w.heap.size]? = some (.cells #[.int .i64 (p : Int)] 3 (0, 0)) := by rw [v3 _ (by omega)]; exact g3
      have h4 : (W.setCell ⟨(w2.heap.size + 1), 0, none⟩ (.int .i64 ((pre.length : Int) + 1))).heap[(w.heap.size + 1)]? = some (.cells #[.int .i64 (q : Int)] 3 (0, 0)) := by rw [v3 _ (by omega)]; exact g4
      have h5 : (W.setCell ⟨(w2.heap.size + 1), 0, none⟩ (.int .i64 ((pre.length : Int) + 1))).heap[(w.heap.size + 1 + 1)]? = some (.cells #[.string ⟨#[]⟩, .string ⟨#[]⟩, .int .i64 0] 34 (0, 0)) := by rw [v3 _ (by omega)]; exact g5
      have h6 : Below w.heap.size w (W.setCell ⟨(w2.heap.size + 1), 0, none⟩ (.int .i64 ((pre.length : Int) + 1))) := below_setc g6 (by omega) _ _
      obtain ⟨z0, z1, z2, fz⟩ := box_cells3 v1
      have zc := cell_of_one v2
      have zp := cell_of_one h3
      have zq := cell_of_one h4
      have HV1 := Lib.hid (And.intro v1 (And.intro v2 (And.intro h3 (And.intro h4 (And.intro h5 h6)))))
      have HKF : Hid (KeepsFrom WL.heap.size W (W.setCell ⟨(w2.heap.size + 1), 0, none⟩ (.int .i64 ((pre.length : Int) + 1)))) := (KeepsOthers.setCell _ _ _).from _
      have HKS : Hid (KeepS (fun b => ¬ (b = w2.heap.size ∨ b = (w2.heap.size + 1))) W (W.setCell ⟨(w2.heap.size + 1), 0, none⟩ (.int .i64 ((pre.length : Int) + 1)))) := ⟨by simp [World.setCell], fun b cs t fr hb hc => by rw [heap_setCell_other (fun e => hb (.inr e)) _]; exact hc⟩
      have i1 : (1 : Int) ≤ (q : Int) := by omega
      clear v1 v2 v3 h3 h4 h5 h6 g1 g2 g3 g4 g5 g6 hlt
      have hyo : ∃ yi yk : Nat, y.1 = (yi, yk) := ⟨y.1.1, y.1.2, rfl⟩
      obtain ⟨yi, yk, hy⟩ := hyo
      rw [hy] at HNS ⊢
      dsimp only
      by_cases hyp : yi = p ∧ yk = q - 1
      · have s1 : ((yi : Int) == (p : Int)) = true := by simp [hyp.1]
        have s2 : ((yk : Int) == (q : Int) - 1) = true := by simp; omega
        have HN1 : Hid ((numF (p, q - 1) ((pre ++ [y]).map (·.1))) = pre.length + 1) := by show _ = _; rw [HNS.out, if_pos (by rw [hyp.1, hyp.2])]
        have HU : Hid ((W.setCell ⟨(w2.heap.size + 1), 0, none⟩ (.int .i64 ((pre.length : Int) + 1))).setCell ⟨w2.heap.size, 2, none⟩ (.int .i64 ((pre.length : Int) + 1)) = (W.setCell ⟨(w2.heap.size + 1), 0, none⟩ (.int .i64 ((pre.length : Int) + 1))).setCell ⟨w2.heap.size, 2, none⟩ (.int .i64 ((pre.length : Int) + 1))) := rfl
        have hX := X_facts (V := (W.setCell ⟨(w2.heap.size + 1), 0, none⟩ (.int .i64 ((pre.length : Int) + 1))).setCell ⟨w2.heap.size, 2, none⟩ (.int .i64 ((pre.length : Int) + 1))) rfl HV1.out.1 HV1.out.2.1 (by omega)
        obtain ⟨v1, v2, v3⟩ := hX
        obtain ⟨y0, y1, y2, fy⟩ := box_cells3 v1
        have yc := cell_of_one v2
        have HV2 : Hid (((W.setCell ⟨(w2.heap.size + 1), 0, none⟩ (.int .i64 ((pre.length : Int) + 1))).setCell ⟨w2.heap.size, 2, none⟩ (.int .i64 ((pre.length : Int) + 1))).heap[w2.heap.size]? = some (.cells #[.string f, .string ⟨#[]⟩, .int .i64 ((numF (p, q - 1) ((pre ++ [y]).map (·.1))) : Nat)] 34 (0, 0)) ∧ ((W.setCell ⟨(w2.heap.size + 1), 0, none⟩ (.int .i64 ((pre.length : Int) + 1))).setCell ⟨w2.heap.size, 2, none⟩ (.int .i64 ((pre.length : Int) + 1))).heap[(w2.heap.size + 1)]? = some (.cells #[.int .i64 ((pre ++ [y]).length : Int)] 3 (0, 0)) ∧ ((W.setCell ⟨(w2.heap.size + 1), 0, none⟩ (.int .i64 ((pre.length : Int) + 1))).setCell ⟨w2.heap.size, 2, none⟩ (.int .i64 ((pre.length : Int) + 1))).heap[w.heap.size]? = some (.cells #[.int .i64 (p : Int)] 3 (0, 0)) ∧ ((W.setCell ⟨(w2.heap.size + 1), 0, none⟩ (.int .i64 ((pre.length : Int) + 1))).setCell ⟨w2.heap.size, 2, none⟩ (.int .i64 ((pre.length : Int) + 1))).heap[(w.heap.size + 1)]? = some (.cells #[.int .i64 (q : Int)] 3 (0, 0)) ∧ ((W.setCell ⟨(w2.heap.size + 1), 0, none⟩ (.int .i64 ((pre.length : Int) + 1))).setCell ⟨w2.heap.size, 2, none⟩ (.int .i64 ((pre.length : Int) + 1))).heap[(w.heap.size + 1 + 1)]? = some (.cells #[.string ⟨#[]⟩, .string ⟨#[]⟩, .int .i64 0] 34 (0, 0)) ∧ Below w.heap.size w ((W.setCell ⟨(w2.heap.size + 1), 0, none⟩ (.int .i64 ((pre.length : Int) + 1))).setCell ⟨w2.heap.size, 2, none⟩ (.int .i64 ((pre.length : Int) + 1)))) := by
          refine ⟨by rw [v1, HN1.out]; simp, by rw [v2, HLN.out]; simp, ?_, ?_, ?_, below_setc HV1.out.2.2.2.2.2 (by omega) _ _⟩
          · rw [v3 _ (by omega)]; exact HV1.out.2.2.1
          · rw [v3 _ (by omega)]; exact HV1.out.2.2.2.1
          · rw [v3 _ (by omega)]; exact HV1.out.2.2.2.2.1
        have HKF2 := Lib.hid (HKF.out.trans ((KeepsOthers.setCell (W.setCell ⟨(w2.heap.size + 1), 0, none⟩ (.int .i64 ((pre.length : Int) + 1))) ⟨w2.heap.size, 2, none⟩ (.int .i64 ((pre.length : Int) + 1))).from WL.heap.size))
        have HKS2 : Hid (KeepS (fun b => ¬ (b = w2.heap.size ∨ b = (w2.heap.size + 1))) W ((W.setCell ⟨(w2.heap.size + 1), 0, none⟩ (.int .i64 ((pre.length : Int) + 1))).setCell ⟨w2.heap.size, 2, none⟩ (.int .i64 ((pre.length : Int) + 1)))) := HKS.out.trans ⟨by simp [World.setCell], fun b cs t fr hb hc => by rw [heap_setCell_other (fun e => hb (.inl e)) _]; exact hc⟩
        clear v1 v2 v3 hyp HU
        by_cases hp0 : pre.length = 0
        · have r1 : decide ((pre.length : Int) + 1 > 1) = false := decide_eq_false (by omega)
          have r2 : decide (1 < (pre.length : Int) + 1) = false := decide_eq_false (by omega)
          have HP0 := Lib.hid hp0
          clear hp0
          gi_wp2
          exact ⟨HKF2.out, HKS2.out, HV2.out⟩
        · have r1 : decide ((pre.length : Int) + 1 > 1) = true := decide_eq_true (by omega)
          have r2 : decide (1 < (pre.length : Int) + 1) = true := decide_eq_true (by omega)
          have r3 : decide ((pre.length : Int) + 1 > 0) = true := decide_eq_true (by omega)
          have r4 : decide (0 < (pre.length : Int) + 1) = true := decide_eq_true (by omega)
          have HP0 : Hid (1 < pre.length + 1) := by show _ < _; omega
          clear hp0
          gi_wp2
          exact ⟨HKF2.out, rfl, ⟨by rw [HLN.out]; exact HP0.out, by rw [HN1.out]; exact Nat.succ_pos _⟩, HV2.out.1, HV2.out.2.1, HV2.out.2.2.2.2⟩
      · have HN1 : Hid ((numF (p, q - 1) ((pre ++ [y]).map (·.1))) = N0) := by show _ = _; rw [HNS.out, if_neg (fun e => hyp (by cases e; exact ⟨rfl, rfl⟩))]
        have HV3 : Hid ((W.setCell ⟨(w2.heap.size + 1), 0, none⟩ (.int .i64 ((pre.length : Int) + 1))).heap[w2.heap.size]? = some (.cells #[.string f, .string ⟨#[]⟩, .int .i64 ((numF (p, q - 1) ((pre ++ [y]).map (·.1))) : Nat)] 34 (0, 0)) ∧ (W.setCell ⟨(w2.heap.size + 1), 0, none⟩ (.int .i64 ((pre.length : Int) + 1))).heap[(w2.heap.size + 1)]? = some (.cells #[.int .i64 ((pre ++ [y]).length : Int)] 3 (0, 0)) ∧ (W.setCell ⟨(w2.heap.size + 1), 0, none⟩ (.int .i64 ((pre.length : Int) + 1))).heap[w.heap.size]? = some (.cells #[.int .i64 (p : Int)] 3 (0, 0)) ∧ (W.setCell ⟨(w2.heap.size + 1), 0, none⟩ (.int .i64 ((pre.length : Int) + 1))).heap[(w.heap.size + 1)]? = some (.cells #[.int .i64 (q : Int)] 3 (0, 0)) ∧ (W.setCell ⟨(w2.heap.size + 1), 0, none⟩ (.int .i64 ((pre.length : Int) + 1))).heap[(w.heap.size + 1 + 1)]? = some (.cells #[.string ⟨#[]⟩, .string ⟨#[]⟩, .int .i64 0] 34 (0, 0)) ∧ Below w.heap.size w (W.setCell ⟨(w2.heap.size + 1), 0, none⟩ (.int .i64 ((pre.length : Int) + 1)))) := ⟨by rw [HN1.out]; exact HV1.out.1, by rw [HLN.out]; simpa using HV1.out.2.1, HV1.out.2.2⟩
        by_cases hyp1 : yi = p
        · have s1 : ((yi : Int) == (p : Int)) = true := by simp [hyp1]
          have s2 : ((yk : Int) == (q : Int) - 1) = false := by
            rw [beq_eq_false_iff_ne]; intro e; exact hyp ⟨hyp1, by omega⟩
          clear hyp hyp1
          by_cases hp0 : pre.length = 0
          · have r1 : decide ((pre.length : Int) + 1 > 1) = false := decide_eq_false (by omega)
            have r2 : decide (1 < (pre.length : Int) + 1) = false := decide_eq_false (by omega)
            have HP0 := Lib.hid hp0
            clear hp0
            gi_wp2
            exact ⟨HKF.out, HKS.out, HV3.out⟩
          · have r1 : decide ((pre.length : Int) + 1 > 1) = true := decide_eq_true (by omega)
            have r2 : decide (1 < (pre.length : Int) + 1) = true := decide_eq_true (by omega)
            have HP0 : Hid (1 < pre.length + 1) := by show _ < _; omega
            clear hp0
            by_cases hn0 : N0 = 0
            · have r3 : decide ((N0 : Int) > 0) = false := decide_eq_false (by omega)
              have r4 : decide (0 < (N0 : Int)) = false := decide_eq_false (by omega)
              have r5 : decide (0 < N0) = false := decide_eq_false (by omega)
              clear hn0
              gi_wp2
              exact ⟨HKF.out, HKS.out, HV3.out⟩
            · have r3 : decide ((N0 : Int) > 0) = true := decide_eq_true (by omega)
              have r4 : decide (0 < (N0 : Int)) = true := decide_eq_true (by omega)
              have r5 : decide (0 < N0) = true := decide_eq_true (by omega)
              have HPN : Hid (0 < N0) := by show _ < _; omega
              clear hn0
              gi_wp2
              exact ⟨HKF.out, rfl, ⟨by rw [HLN.out]; exact HP0.out, by rw [HN1.out]; exact HPN.out⟩, HV3.out.1, HV3.out.2.1, HV3.out.2.2.2.2⟩
        · have s1 : ((yi : Int) == (p : Int)) = false := by rw [beq_eq_false_iff_ne]; intro e; exact hyp1 (by omega)
          clear hyp hyp1
          by_cases hp0 : pre.length = 0
          · have r1 : decide ((pre.length : Int) + 1 > 1) = false := decide_eq_false (by omega)
            have r2 : decide (1 < (pre.length : Int) + 1) = false := decide_eq_false (by omega)
            have HP0 := Lib.hid hp0
            clear hp0
            gi_wp2
            exact ⟨HKF.out, HKS.out, HV3.out⟩
          · have r1 : decide ((pre.length : Int) + 1 > 1) = true := decide_eq_true (by omega)
            have r2 : decide (1 < (pre.length : Int) + 1) = true := decide_eq_true (by omega)
            have HP0 : Hid (1 < pre.length + 1) := by show _ < _; omega
            clear hp0
            by_cases hn0 : N0 = 0
            · have r3 : decide ((N0 : Int) > 0) = false := decide_eq_false (by omega)
              have r4 : decide (0 < (N0 : Int)) = false := decide_eq_false (by omega)
              have r5 : decide (0 < N0) = false := decide_eq_false (by omega)
              clear hn0
              gi_wp2
              exact ⟨HKF.out, HKS.out, HV3.out⟩
            · have r3 : decide ((N0 : Int) > 0) = true := decide_eq_true (by omega)
              have r4 : decide (0 < (N0 : Int)) = true := decide_eq_true (by omega)
              have r5 : decide (0 < N0) = true := decide_eq_true (by omega)
              have HPN : Hid (0 < N0) := by show _ < _; omega
              clear hn0
              gi_wp2
              exact ⟨HKF.out, rfl, ⟨by rw [HLN.out]; exact HP0.out, by rw [HN1.out]; exact HPN.out⟩, HV3.out.1, HV3.out.2.1, HV3.out.2.2.2.2⟩
    case done =>
      rintro D W hD ⟨g1, g2, g3, g4, g5, g6⟩ hd
      rw [ocL_len] at g2
      rw [all_map] at g1
      have HNL : Hid (numF (p, q - 1) (occs ws f ⟨#[]⟩) ≤ 40200) := by
        have h1 := numF_le (p, q - 1) (occs ws f ⟨#[]⟩)
        have h2 := HOL.out
        rw [ocL_len] at h2
        show _ ≤ _; omega
      have HNU : Hid (numL ws f ⟨#[]⟩ (p, q - 1) = if (occs ws f ⟨#[]⟩).length = 1 then 0 else numF (p, q - 1) (occs ws f ⟨#[]⟩)) := rfl
      generalize numL ws f ⟨#[]⟩ (p, q - 1) = NL at *
      generalize numF (p, q - 1) (occs ws f ⟨#[]⟩) = NF at *
      generalize (occs ws f ⟨#[]⟩).length = LE at *
      clear g3 g4
      by_cases hone : LE = 1
      · have r1 : ((LE : Int) == 1) = true := by simp [hone]
        have r2 : (LE == 1) = true := by simp [hone]
        have HN1 : Hid (NL = 0) := by show _ = _; rw [HNU.out, if_pos hone]
        clear hone
        obtain ⟨x0, x1, x2, fx⟩ := box_cells3 g1
        have cc := cell_of_one g2
        have hX := X_facts (V := W.setCell ⟨w2.heap.size, 2, none⟩ (.int .i64 0)) rfl g1 g2 (by omega)
        obtain ⟨v1, v2, v3⟩ := hX
        have v4 : (W.setCell ⟨w2.heap.size, 2, none⟩ (.int .i64 0)).heap[(w.heap.size + 1 + 1)]? = some (.cells #[.string ⟨#[]⟩, .string ⟨#[]⟩, .int .i64 0] 34 (0, 0)) := by rw [v3 _ (by omega)]; exact g5
        have v5 : (W.setCell ⟨w2.heap.size, 2, none⟩ (.int .i64 0)).heap[D]? = some (.deferred (some [])) := by rw [v3 _ (by have := HSL.out; omega)]; exact hd
        have v6 : Below w.heap.size w (W.setCell ⟨w2.heap.size, 2, none⟩ (.int .i64 0)) := below_setc g6 (by omega) _ _
        obtain ⟨y0, y1, y2, fy⟩ := box_cells3 v1
        obtain ⟨z0, z1, z2, fz⟩ := box_cells3 v4
        have HV := Lib.hid (And.intro v1 (And.intro v2 (And.intro v4 (And.intro v5 v6))))
        clear v1 v2 v3 v4 v5 v6 g1 g2 g5 g6 hd
        gi_wp2
        obtain ⟨h1, h2, h3⟩ := three_set HV.out.2.2.1 HV.out.2.2.2.1 HV.out.2.2.2.2 (by omega) (by have := HSL.out; omega) (.string f) (.string ⟨#[]⟩) (.int .i64 0)
        refine leaves_marks (hi := WL.heap.size) (by simp) (Φ := fun W => W.heap[(w.heap.size + 1 + 1)]? = some (.cells #[.string f, .string ⟨#[]⟩, .int .i64 (NL : Nat)] 34 (0, 0)) ∧ Below w.heap.size w W) ?_ ?_ _ _ (Marks.one hD h2) ⟨by rw [HN1.out]; exact h1, h3⟩
        · rintro W D ⟨h1, h3⟩ hD hd
          exact ⟨cells_putObj h1 hd rfl _, below_putObj h3 (by have := HSL.out; omega) hd _⟩
        · rintro W ⟨h1, h3⟩
          obtain ⟨m0, m1, m2, -⟩ := box_cells3 h1
          exact ⟨_, by simp [results, Tryd.results8, go_sem, m0, m1, m2], rfl, h3⟩
      · have r1 : ((LE : Int) == 1) = false := by rw [beq_eq_false_iff_ne]; omega
        have r2 : (LE == 1) = false := by rw [beq_eq_false_iff_ne]; exact hone
        have HN1 : Hid (NF = NL) := by show _ = _; rw [HNU.out, if_neg hone]
        clear hone
        obtain ⟨x0, x1, x2, fx⟩ := box_cells3 g1
        have cc := cell_of_one g2
        obtain ⟨z0, z1, z2, fz⟩ := box_cells3 g5
        have r3 : decide ((NF : Int) > 65536) = false := decide_eq_false (by have := HNL.out; omega)
        have r4 : decide (65536 < (NF : Int)) = false := decide_eq_false (by have := HNL.out; omega)
        have r5 : decide (65536 < NF) = false := decide_eq_false (by have := HNL.out; omega)
        have HV := Lib.hid (And.intro g1 (And.intro g2 (And.intro g5 (And.intro hd g6))))
        clear g1 g2 g5 g6 hd
        gi_wp2
        obtain ⟨h1, h2, h3⟩ := three_set HV.out.2.2.1 HV.out.2.2.2.1 HV.out.2.2.2.2 (by omega) (by have := HSL.out; omega) (.string f) (.string ⟨#[]⟩) (.int .i64 (NF : Nat))
        refine leaves_marks (hi := WL.heap.size) (by simp) (Φ := fun W => W.heap[(w.heap.size + 1 + 1)]? = some (.cells #[.string f, .string ⟨#[]⟩, .int .i64 (NL : Nat)] 34 (0, 0)) ∧ Below w.heap.size w W) ?_ ?_ _ _ (Marks.one hD h2) ⟨by rw [← HN1.out]; exact h1, h3⟩
        · rintro W D ⟨h1, h3⟩ hD hd
          exact ⟨cells_putObj h1 hd rfl _, below_putObj h3 (by have := HSL.out; omega) hd _⟩
        · rintro W ⟨h1, h3⟩
          obtain ⟨m0, m1, m2, -⟩ := box_cells3 h1
          exact ⟨_, by simp [results, Tryd.results8, go_sem, m0, m1, m2], rfl, h3⟩
    case stop =>
      rintro D c' pre W hD hpre ⟨rfl, h1, g1, g2, g5, g6⟩ hd
      have HNL : Hid (numF (p, q - 1) (pre.map (·.1)) ≤ 40200) := by
        have h2 := numF_le (p, q - 1) (pre.map (·.1))
        have h3 := hpre.length_le
        have h4 := HOL.out
        rw [List.length_map] at h2
        show _ ≤ _; omega
      have HN1 : Hid (numF (p, q - 1) (pre.map (·.1)) = numL ws f ⟨#[]⟩ (p, q - 1)) := by
        show _ = _
        have h2 := numF_pre (p := (p, q - 1)) (occ_nodup ws.length) (pre_map hpre) h1.2
        have h3 := (pre_map hpre).length_le
        rw [List.length_map] at h3
        rw [numL, if_neg (by omega)]; exact h2.symm
      have HPL : Hid (1 < pre.length) := h1.1
      generalize numL ws f ⟨#[]⟩ (p, q - 1) = NL at *
      generalize numF (p, q - 1) (pre.map (·.1)) = NF at *
      generalize pre.length = LE at *
      have r1 : ((LE : Int) == 1) = false := by rw [beq_eq_false_iff_ne]; have := HPL.out; omega
      have r2 : (LE == 1) = false := by rw [beq_eq_false_iff_ne]; have := HPL.out; omega
      clear hpre h1
      obtain ⟨x0, x1, x2, fx⟩ := box_cells3 g1
      have cc := cell_of_one g2
      obtain ⟨z0, z1, z2, fz⟩ := box_cells3 g5
      have r3 : decide ((NF : Int) > 65536) = false := decide_eq_false (by have := HNL.out; omega)
      have r4 : decide (65536 < (NF : Int)) = false := decide_eq_false (by have := HNL.out; omega)
      have r5 : decide (65536 < NF) = false := decide_eq_false (by have := HNL.out; omega)
      have HV := Lib.hid (And.intro g1 (And.intro g2 (And.intro g5 (And.intro hd g6))))
      clear g1 g2 g5 g6 hd
      gi_wp2
      obtain ⟨h1, h2, h3⟩ := three_set HV.out.2.2.1 HV.out.2.2.2.1 HV.out.2.2.2.2 (by omega) (by have := HSL.out; omega) (.string f) (.string ⟨#[]⟩) (.int .i64 (NF : Nat))
      refine leaves_marks (hi := WL.heap.size) (by simp) (Φ := fun W => W.heap[(w.heap.size + 1 + 1)]? = some (.cells #[.string f, .string ⟨#[]⟩, .int .i64 (NL : Nat)] 34 (0, 0)) ∧ Below w.heap.size w W) ?_ ?_ _ _ (Marks.one hD h2) ⟨by rw [← HN1.out]; exact h1, h3⟩
      · rintro W D ⟨h1, h3⟩ hD hd
        exact ⟨cells_putObj h1 hd rfl _, below_putObj h3 (by have := HSL.out; omega) hd _⟩
      · rintro W ⟨h1, h3⟩
        obtain ⟨m0, m1, m2, -⟩ := box_cells3 h1
        exact ⟨_, by simp [results, Tryd.results8, go_sem, m0, m1, m2], rfl, h3⟩
  · have u1 : decide ((q : Int) - (p : Int) > 1) = true := by simp; omega
    have u2 : decide (1 < (q : Int) - (p : Int)) = true := by simp; omega
    obtain ⟨l', b', off', hu, -, ea, -, -, -, e1⟩ := (HV.out.below rStr_ok HB2.out).str HQ1.out
    rw [hlq] at hu
    cases hu
    cases ea
    have e1x := cell_later HBX.out e1
    have i1 : (1 : Int) ≤ (q : Int) := by omega
    have i2 : (0 : Int) ≤ (q : Int) - 1 := by omega
    have i3 : ((q : Int) - 1).toNat = q - 1 := by omega
    have i4 : (q : Int) - 1 < (n : Int) := by omega
    gi_wp2_with (fail)
    refine ⟨trivial, ?_⟩
    refine (occ_in _ _ _ _ _ _ _).mono ?_
    rintro e WL ⟨rfl, rfl⟩
    gi_wp2
    obtain ⟨hbL, hsL, gL, gC, cb1, cb2, cb3⟩ := five_boxes w2 #[.string f, .string lw, .int .i64 0] #[.int .i64 0] #[.slice (some ⟨b, off, none⟩) n c] #[.string f] #[.string lw] 34 3 22 9 9
    generalize hWL : (((((w2.alloc (.cells #[.string f, .string lw, .int .i64 0] 34)).alloc (.cells #[.int .i64 0] 3)).alloc (.cells #[.slice (some ⟨b, off, none⟩) n c] 22)).alloc (.cells #[.string f] 9)).alloc (.cells #[.string lw] 9)) = WL at *
    have k0 := (hbL.block _ (by omega)).trans HK0.out
    have k1 := (hbL.block _ (by omega)).trans HK1.out
    have k2 := (hbL.block _ (by omega)).trans HK2.out
    have hbw := HB2.out.trans (hbL.mono HB2.out.size)
    have hVL : Strs (fun b => ¬ (b = w2.heap.size ∨ b = (w2.heap.size + 1))) WL (some ⟨b, off, none⟩) n c ws := (HV.out.below rStr_ok hbw).mono rStr_ok (fun b h _ => by have := HS.out b h; omega)
    have HSL := Lib.hid hsL
    have HOL : Hid ((ocL ws f lw).length ≤ 200 * 201) := by
      show _ ≤ _
      rw [ocL_len]
      have := occ_len (ws := ws) (f := f) (l := lw) (by rw [← HV.out.len]; exact hn) ws.length
      have h2 : ws.length ≤ 200 := by rw [← HV.out.len]; exact hn
      exact Nat.le_trans this (Nat.mul_le_mul_right _ h2)
    clear hWL hbL c0 c1 ew c0x c1x t1 t2 t3 t4 t5 t6 t7
    refine occ_loop (n := 10) (by omega) (w2.heap.size + 1 + 1) (w2.heap.size + 1 + 1 + 1) (w2.heap.size + 1 + 1 + 1 + 1) ws f lw (some ⟨b, off, none⟩) n c (fun b => b = w2.heap.size ∨ b = (w2.heap.size + 1)) rfl hVL (by omega) (cell_of_one cb1) (cell_of_one cb2) (cell_of_one cb3) (by omega) (by omega) (by omega)
      (fun pre W => W.heap[w2.heap.size]? = some (.cells #[.string f, .string lw, .int .i64 (numF (p, q - 1) (pre.map (·.1)) : Nat)] 34 (0, 0)) ∧ W.heap[(w2.heap.size + 1)]? = some (.cells #[.int .i64 (pre.length : Int)] 3 (0, 0)) ∧ W.heap[w.heap.size]? = some (.cells #[.int .i64 (p : Int)] 3 (0, 0)) ∧ W.heap[(w.heap.size + 1)]? = some (.cells #[.int .i64 (q : Int)] 3 (0, 0)) ∧ W.heap[(w.heap.size + 1 + 1)]? = some (.cells #[.string ⟨#[]⟩, .string ⟨#[]⟩, .int .i64 0] 34 (0, 0)) ∧ Below w.heap.size w W)
      (fun c' pre W => c' = .exit 0 ∧ (1 < pre.length ∧ 0 < numF (p, q - 1) (pre.map (·.1))) ∧ W.heap[w2.heap.size]? = some (.cells #[.string f, .string lw, .int .i64 (numF (p, q - 1) (pre.map (·.1)) : Nat)] 34 (0, 0)) ∧ W.heap[(w2.heap.size + 1)]? = some (.cells #[.int .i64 (pre.length : Int)] 3 (0, 0)) ∧ W.heap[(w.heap.size + 1 + 1)]? = some (.cells #[.string ⟨#[]⟩, .string ⟨#[]⟩, .int .i64 0] 34 (0, 0)) ∧ Below w.heap.size w W) ?hI ?hIx ⟨gL, gC, k0, k1, k2, hbw⟩
      (fun y a' _ => a' = { tmps := #[.slice (some ⟨b, off, none⟩) n c, .int .i64 (p : Int), .int .i64 (q : Int), undef, .pointer (some ⟨w.heap.size, 0, none⟩), .pointer (some ⟨(w.heap.size + 1), 0, none⟩), .pointer (some ⟨(w.heap.size + 1 + 1), 0, none⟩), .int .i64 0, .int .i64 0, .pointer (some ⟨w2.heap.size, 0, none⟩), .pointer (some ⟨(w2.heap.size + 1), 0, none⟩), .int .i64 (y.1.1 : Int), .int .i64 (y.1.2 : Int), .slice (some ⟨b, off, none⟩) n c, .int .i64 0, .int .i64 0, .bool false, undef, undef, .int .i64 (p : Int), .bool false, .bool false, .int .i64 (p : Int), .int .i64 (q : Int), .bool false, .bool false, .bool false, .int .i64 (q : Int), .slice (some ⟨b, off, none⟩) n c, .int .i64 (n : Int), .bool false, .bool false, undef, .slice (some ⟨b, off, none⟩) n c, .int .i64 (p : Int), .pointer (some ⟨b, off + p, none⟩), .string f, .agg #[.string f, .string ⟨#[]⟩, .int .i64 0], .int .i64 (q : Int), .int .i64 (p : Int), .int .i64 ((q : Int) - (p : Int)), .bool true, .slice (some ⟨b, off, none⟩) n c, .int .i64 (q : Int), .int .i64 ((q : Int) - 1), .pointer (some ⟨b, off + (q - 1), none⟩), .string lw, .pointer (some ⟨w2.heap.size, 1, none⟩), .slice (some ⟨b, off, none⟩) n c, .pointer (some ⟨w2.heap.size, 0, none⟩), .string f, .pointer (some ⟨w2.heap.size, 1, none⟩), .string lw, .func (.func 32) #[] #[.pointer (some ⟨w2.heap.size + 1 + 1, 0, none⟩), .pointer (some ⟨w2.heap.size + 1 + 1 + 1, 0, none⟩), .pointer (some ⟨w2.heap.size + 1 + 1 + 1 + 1, 0, none⟩)], .int .i64 (y.1.1 : Int), .int .i64 (y.1.2 : Int), undef, undef, undef, undef, undef, undef, undef, undef, undef, undef, undef, undef, undef, undef, undef, undef, undef, undef, undef, undef, undef, undef, undef, undef, undef, undef, undef, undef], defers := [] }) ?hAx ?assign ?body ?done ?stop
    all_goals clear hsL gL gC cb1 cb2 cb3 k0 k1 k2
    case hI =>
      rintro pre W W' row ⟨g1, g2, g3, g4, g5, g6⟩ hg hr
      exact ⟨cells_own g1 hg hr, cells_own g2 hg hr, cells_own g3 hg hr, cells_own g4 hg hr, cells_own g5 hg hr, g6.grown hg g6.size (fun r e => by have := (hr r e).1; have := HSL.out; omega)⟩
    case hIx =>
      rintro c' pre W W' row ⟨h0, h1, g1, g2, g5, g6⟩ hg hr
      exact ⟨h0, h1, cells_own g1 hg hr, cells_own g2 hg hr, cells_own g5 hg hr, g6.grown hg g6.size (fun r e => by have := (hr r e).1; have := HSL.out; omega)⟩
    case hAx =>
      rintro y a' _ W W' row h hg hr
      exact h
    case assign =>
      rintro l0 pre y W K h hK
      have hKx := hK _ W (keepsFrom_below (Below.refl _ _)) (KeepS.refl _ _) h rfl
      dsimp only [ocEnc] at hKx ⊢
      gi_wp2
      exact hKx
    case body =>
      rintro l0 pre y a0 W ⟨g1, g2, g3, g4, g5, g6⟩ rfl hlt
      have hpl : pre.length < 50000 := by have := HOL.out; omega
      obtain ⟨x0, x1, x2, fx⟩ := box_cells3 g1
      have cc := cell_of_one g2
      have fc : W.frozen? ⟨(w2.heap.size + 1), 0, none⟩ = false := Lib.frozen_of_heap g2 0
      have c0 := cell_of_one g3
      have c1 := cell_of_one g4
      have HNS : Hid (numF (p, q - 1) ((pre ++ [y]).map (·.1)) = if y.1 = (p, q - 1) then pre.length + 1 else numF (p, q - 1) (pre.map (·.1))) := by
        show _ = _
        rw [List.map_append, List.map_cons, List.map_nil, numF_snoc, List.length_map]
      have HNL : Hid (numF (p, q - 1) (pre.map (·.1)) ≤ pre.length) := by
        have := numF_le (p, q - 1) (pre.map (·.1))
        rw [List.length_map] at this; exact this
      have HLN : Hid ((pre ++ [y]).length = pre.length + 1) := by show _ = _; simp
      generalize numF (p, q - 1) (pre.map (·.1)) = N0 at *
      have hV := V1_facts (V := W.setCell ⟨(w2.heap.size + 1), 0, none⟩ (.int .i64 ((pre.length : Int) + 1))) rfl g1 g2 (by omega)
      obtain ⟨v1, v2, v3⟩ := hV
      have h3 : (W.setCell ⟨(w2.heap.size + 1), 0, none⟩ (.int .i64 ((pre.length : Int) + 1))).heap[w.heap.size]? = some (.cells #[.int .i64 (p : Int)] 3 (0, 0)) := by rw [v3 _ (by omega)]; exact g3
      have h4 : (W.setCell ⟨(w2.heap.size + 1), 0, none⟩ (.int .i64 ((pre.length : Int) + 1))).heap[(w.heap.size + 1)]? = some (.cells #[.int .i64 (q : Int)] 3 (0, 0)) := by rw [v3 _ (by omega)]; exact g4
      have h5 : (W.setCell ⟨(w2.heap.size + 1), 0, none⟩ (.int .i64 ((pre.length : Int) + 1))).heap[(w.heap.size + 1 + 1)]? = some (.cells #[.string ⟨#[]⟩, .string ⟨#[]⟩, .int .i64 0] 34 (0, 0)) := by rw [v3 _ (by omega)]; exact g5
      have h6 : Below w.heap.size w (W.setCell ⟨(w2.heap.size + 1), 0, none⟩ (.int .i64 ((pre.length : Int) + 1))) := below_setc g6 (by omega) _ _
      obtain ⟨z0, z1, z2, fz⟩ := box_cells3 v1
      have zc := cell_of_one v2
      have zp := cell_of_one h3
      have zq := cell_of_one h4
      have HV1 := Lib.hid (And.intro v1 (And.intro v2 (And.intro h3 (And.intro h4 (And.intro h5 h6)))))
      have HKF : Hid (KeepsFrom WL.heap.size W (W.setCell ⟨(w2.heap.size + 1), 0, none⟩ (.int .i64 ((pre.length : Int) + 1)))) := (KeepsOthers.setCell _ _ _).from _
      have HKS : Hid (KeepS (fun b => ¬ (b = w2.heap.size ∨ b = (w2.heap.size + 1))) W (W.setCell ⟨(w2.heap.size + 1), 0, none⟩ (.int .i64 ((pre.length : Int) + 1)))) := ⟨by simp [World.setCell], fun b cs t fr hb hc => by rw [heap_setCell_other (fun e => hb (.inr e)) _]; exact hc⟩
      have i1 : (1 : Int) ≤ (q : Int) := by omega
      clear v1 v2 v3 h3 h4 h5 h6 g1 g2 g3 g4 g5 g6 hlt
      have hyo : ∃ yi yk : Nat, y.1 = (yi, yk) := ⟨y.1.1, y.1.2, rfl⟩
      obtain ⟨yi, yk, hy⟩ := hyo
      rw [hy] at HNS ⊢
      dsimp only
      by_cases hyp : yi = p ∧ yk = q - 1
      · have s1 : ((yi : Int) == (p : Int)) = true := by simp [hyp.1]
        have s2 : ((yk : Int) == (q : Int) - 1) = true := by simp; omega
        have HN1 : Hid ((numF (p, q - 1) ((pre ++ [y]).map (·.1))) = pre.length + 1) := by show _ = _; rw [HNS.out, if_pos (by rw [hyp.1, hyp.2])]
        have HU : Hid ((W.setCell ⟨(w2.heap.size + 1), 0, none⟩ (.int .i64 ((pre.length : Int) + 1))).setCell ⟨w2.heap.size, 2, none⟩ (.int .i64 ((pre.length : Int) + 1)) = (W.setCell ⟨(w2.heap.size + 1), 0, none⟩ (.int .i64 ((pre.length : Int) + 1))).setCell ⟨w2.heap.size, 2, none⟩ (.int .i64 ((pre.length : Int) + 1))) := rfl
        have hX := X_facts (V := (W.setCell ⟨(w2.heap.size + 1), 0, none⟩ (.int .i64 ((pre.length : Int) + 1))).setCell ⟨w2.heap.size, 2, none⟩ (.int .i64 ((pre.length : Int) + 1))) rfl HV1.out.1 HV1.out.2.1 (by omega)
        obtain ⟨v1, v2, v3⟩ := hX
        obtain ⟨y0, y1, y2, fy⟩ := box_cells3 v1
        have yc := cell_of_one v2
        have HV2 : Hid (((W.setCell ⟨(w2.heap.size + 1), 0, none⟩ (.int .i64 ((pre.length : Int) + 1))).setCell ⟨w2.heap.size, 2, none⟩ (.int .i64 ((pre.length : Int) + 1))).heap[w2.heap.size]? = some (.cells #[.string f, .string lw, .int .i64 ((numF (p, q - 1) ((pre ++ [y]).map (·.1))) : Nat)] 34 (0, 0)) ∧ ((W.setCell ⟨(w2.heap.size + 1), 0, none⟩ (.int .i64 ((pre.length : Int) + 1))).setCell ⟨w2.heap.size, 2, none⟩ (.int .i64 ((pre.length : Int) + 1))).heap[(w2.heap.size + 1)]? = some (.cells #[.int .i64 ((pre ++ [y]).length : Int)] 3 (0, 0)) ∧ ((W.setCell ⟨(w2.heap.size + 1), 0, none⟩ (.int .i64 ((pre.length : Int) + 1))).setCell ⟨w2.heap.size, 2, none⟩ (.int .i64 ((pre.length : Int) + 1))).heap[w.heap.size]? = some (.cells #[.int .i64 (p : Int)] 3 (0, 0)) ∧ ((W.setCell ⟨(w2.heap.size + 1), 0, none⟩ (.int .i64 ((pre.length : Int) + 1))).setCell ⟨w2.heap.size, 2, none⟩ (.int .i64 ((pre.length : Int) + 1))).heap[(w.heap.size + 1)]? = some (.cells #[.int .i64 (q : Int)] 3 (0, 0)) ∧ ((W.setCell ⟨(w2.heap.size + 1), 0, none⟩ (.int .i64 ((pre.length : Int) + 1))).setCell ⟨w2.heap.size, 2, none⟩ (.int .i64 ((pre.length : Int) + 1))).heap[(w.heap.size + 1 + 1)]? = some (.cells #[.string ⟨#[]⟩, .string ⟨#[]⟩, .int .i64 0] 34 (0, 0)) ∧ Below w.heap.size w ((W.setCell ⟨(w2.heap.size + 1), 0, none⟩ (.int .i64 ((pre.length : Int) + 1))).setCell ⟨w2.heap.size, 2, none⟩ (.int .i64 ((pre.length : Int) + 1)))) := by
          refine ⟨by rw [v1, HN1.out]; simp, by rw [v2, HLN.out]; simp, ?_, ?_, ?_, below_setc HV1.out.2.2.2.2.2 (by omega) _ _⟩
          · rw [v3 _ (by omega)]; exact HV1.out.2.2.1
          · rw [v3 _ (by omega)]; exact HV1.out.2.2.2.1
          · rw [v3 _ (by omega)]; exact HV1.out.2.2.2.2.1
        have HKF2 := Lib.hid (HKF.out.trans ((KeepsOthers.setCell (W.setCell ⟨(w2.heap.size + 1), 0, none⟩ (.int .i64 ((pre.length : Int) + 1))) ⟨w2.heap.size, 2, none⟩ (.int .i64 ((pre.length : Int) + 1))).from WL.heap.size))
        have HKS2 : Hid (KeepS (fun b => ¬ (b = w2.heap.size ∨ b = (w2.heap.size + 1))) W ((W.setCell ⟨(w2.heap.size + 1), 0, none⟩ (.int .i64 ((pre.length : Int) + 1))).setCell ⟨w2.heap.size, 2, none⟩ (.int .i64 ((pre.length : Int) + 1)))) := HKS.out.trans ⟨by simp [World.setCell], fun b cs t fr hb hc => by rw [heap_setCell_other (fun e => hb (.inl e)) _]; exact hc⟩
        clear v1 v2 v3 hyp HU
        by_cases hp0 : pre.length = 0
        · have r1 : decide ((pre.length : Int) + 1 > 1) = false := decide_eq_false (by omega)
          have r2 : decide (1 < (pre.length : Int) + 1) = false := decide_eq_false (by omega)
          have HP0 := Lib.hid hp0
          clear hp0
          gi_wp2
          exact ⟨HKF2.out, HKS2.out, HV2.out⟩
        · have r1 : decide ((pre.length : Int) + 1 > 1) = true := decide_eq_true (by omega)
          have r2 : decide (1 < (pre.length : Int) + 1) = true := decide_eq_true (by omega)
          have r3 : decide ((pre.length : Int) + 1 > 0) = true := decide_eq_true (by omega)
          have r4 : decide (0 < (pre.length : Int) + 1) = true := decide_eq_true (by omega)
          have HP0 : Hid (1 < pre.length + 1) := by show _ < _; omega
          clear hp0
          gi_wp2
          exact ⟨HKF2.out, rfl, ⟨by rw [HLN.out]; exact HP0.out, by rw [HN1.out]; exact Nat.succ_pos _⟩, HV2.out.1, HV2.out.2.1, HV2.out.2.2.2.2⟩
      · have HN1 : Hid ((numF (p, q - 1) ((pre ++ [y]).map (·.1))) = N0) := by show _ = _; rw [HNS.out, if_neg (fun e => hyp (by cases e; exact ⟨rfl, rfl⟩))]
        have HV3 : Hid ((W.setCell ⟨(w2.heap.size + 1), 0, none⟩ (.int .i64 ((pre.length : Int) + 1))).heap[w2.heap.size]? = some (.cells #[.string f, .string lw, .int .i64 ((numF (p, q - 1) ((pre ++ [y]).map (·.1))) : Nat)] 34 (0, 0)) ∧ (W.setCell ⟨(w2.heap.size + 1), 0, none⟩ (.int .i64 ((pre.length : Int) + 1))).heap[(w2.heap.size + 1)]? = some (.cells #[.int .i64 ((pre ++ [y]).length : Int)] 3 (0, 0)) ∧ (W.setCell ⟨(w2.heap.size + 1), 0, none⟩ (.int .i64 ((pre.length : Int) + 1))).heap[w.heap.size]? = some (.cells #[.int .i64 (p : Int)] 3 (0, 0)) ∧ (W.setCell ⟨(w2.heap.size + 1), 0, none⟩ (.int .i64 ((pre.length : Int) + 1))).heap[(w.heap.size + 1)]? = some (.cells #[.int .i64 (q : Int)] 3 (0, 0)) ∧ (W.setCell ⟨(w2.heap.size + 1), 0, none⟩ (.int .i64 ((pre.length : Int) + 1))).heap[(w.heap.size + 1 + 1)]? = some (.cells #[.string ⟨#[]⟩, .string ⟨#[]⟩, .int .i64 0] 34 (0, 0)) ∧ Below w.heap.size w (W.setCell ⟨(w2.heap.size + 1), 0, none⟩ (.int .i64 ((pre.length : Int) + 1)))) := ⟨by rw [HN1.out]; exact HV1.out.1, by rw [HLN.out]; simpa using HV1.out.2.1, HV1.out.2.2⟩
        by_cases hyp1 : yi = p
        · have s1 : ((yi : Int) == (p : Int)) = true := by simp [hyp1]
          have s2 : ((yk : Int) == (q : Int) - 1) = false := by
            rw [beq_eq_false_iff_ne]; intro e; exact hyp ⟨hyp1, by omega⟩
          clear hyp hyp1
          by_cases hp0 : pre.length = 0
          · have r1 : decide ((pre.length : Int) + 1 > 1) = false := decide_eq_false (by omega)
            have r2 : decide (1 < (pre.length : Int) + 1) = false := decide_eq_false (by omega)
            have HP0 := Lib.hid hp0
            clear hp0
            gi_wp2
            exact ⟨HKF.out, HKS.out, HV3.out⟩
          · have r1 : decide ((pre.length : Int) + 1 > 1) = true := decide_eq_true (by omega)
            have r2 : decide (1 < (pre.length : Int) + 1) = true := decide_eq_true (by omega)
            have HP0 : Hid (1 < pre.length + 1) := by show _ < _; omega
            clear hp0
            by_cases hn0 : N0 = 0
            · have r3 : decide ((N0 : Int) > 0) = false := decide_eq_false (by omega)
              have r4 : decide (0 < (N0 : Int)) = false := decide_eq_false (by omega)
              have r5 : decide (0 < N0) = false := decide_eq_false (by omega)
              clear hn0
              gi_wp2
              exact ⟨HKF.out, HKS.out, HV3.out⟩
            · have r3 : decide ((N0 : Int) > 0) = true := decide_eq_true (by omega)
              have r4 : decide (0 < (N0 : Int)) = true := decide_eq_true (by omega)
              have r5 : decide (0 < N0) = true := decide_eq_true (by omega)
              have HPN : Hid (0 < N0) := by show _ < _; omega
              clear hn0
              gi_wp2
              exact ⟨HKF.out, rfl, ⟨by rw [HLN.out]; exact HP0.out, by rw [HN1.out]; exact HPN.out⟩, HV3.out.1, HV3.out.2.1, HV3.out.2.2.2.2⟩
        · have s1 : ((yi : Int) == (p : Int)) = false := by rw [beq_eq_false_iff_ne]; intro e; exact hyp1 (by omega)
          clear hyp hyp1
          by_cases hp0 : pre.length = 0
          · have r1 : decide ((pre.length : Int) + 1 > 1) = false := decide_eq_false (by omega)
            have r2 : decide (1 < (pre.length : Int) + 1) = false := decide_eq_false (by omega)
            have HP0 := Lib.hid hp0
            clear hp0
            gi_wp2
            exact ⟨HKF.out, HKS.out, HV3.out⟩
          · have r1 : decide ((pre.length : Int) + 1 > 1) = true := decide_eq_true (by omega)
            have r2 : decide (1 < (pre.length : Int) + 1) = true := decide_eq_true (by omega)
            have HP0 : Hid (1 < pre.length + 1) := by show _ < _; omega
            clear hp0
            by_cases hn0 : N0 = 0
            · have r3 : decide ((N0 : Int) > 0) = false := decide_eq_false (by omega)
              have r4 : decide (0 < (N0 : Int)) = false := decide_eq_false (by omega)
              have r5 : decide (0 < N0) = false := decide_eq_false (by omega)
              clear hn0
              gi_wp2
              exact ⟨HKF.out, HKS.out, HV3.out⟩
            · have r3 : decide ((N0 : Int) > 0) = true := decide_eq_true (by omega)
              have r4 : decide (0 < (N0 : Int)) = true := decide_eq_true (by omega)
              have r5 : decide (0 < N0) = true := decide_eq_true (by omega)
              have HPN : Hid (0 < N0) := by show _ < _; omega
              clear hn0
              gi_wp2
              exact ⟨HKF.out, rfl, ⟨by rw [HLN.out]; exact HP0.out, by rw [HN1.out]; exact HPN.out⟩, HV3.out.1, HV3.out.2.1, HV3.out.2.2.2.2⟩
    case done =>
      rintro D W hD ⟨g1, g2, g3, g4, g5, g6⟩ hd
      rw [ocL_len] at g2
      rw [all_map] at g1
      have HNL : Hid (numF (p, q - 1) (occs ws f lw) ≤ 40200) := by
        have h1 := numF_le (p, q - 1) (occs ws f lw)
        have h2 := HOL.out
        rw [ocL_len] at h2
        show _ ≤ _; omega
      have HNU : Hid (numL ws f lw (p, q - 1) = if (occs ws f lw).length = 1 then 0 else numF (p, q - 1) (occs ws f lw)) := rfl
      generalize numL ws f lw (p, q - 1) = NL at *
      generalize numF (p, q - 1) (occs ws f lw) = NF at *
      generalize (occs ws f lw).length = LE at *
      clear g3 g4
      by_cases hone : LE = 1
      · have r1 : ((LE : Int) == 1) = true := by simp [hone]
        have r2 : (LE == 1) = true := by simp [hone]
        have HN1 : Hid (NL = 0) := by show _ = _; rw [HNU.out, if_pos hone]
        clear hone
        obtain ⟨x0, x1, x2, fx⟩ := box_cells3 g1
        have cc := cell_of_one g2
        have hX := X_facts (V := W.setCell ⟨w2.heap.size, 2, none⟩ (.int .i64 0)) rfl g1 g2 (by omega)
        obtain ⟨v1, v2, v3⟩ := hX
        have v4 : (W.setCell ⟨w2.heap.size, 2, none⟩ (.int .i64 0)).heap[(w.heap.size + 1 + 1)]? = some (.cells #[.string ⟨#[]⟩, .string ⟨#[]⟩, .int .i64 0] 34 (0, 0)) := by rw [v3 _ (by omega)]; exact g5
        have v5 : (W.setCell ⟨w2.heap.size, 2, none⟩ (.int .i64 0)).heap[D]? = some (.deferred (some [])) := by rw [v3 _ (by have := HSL.out; omega)]; exact hd
        have v6 : Below w.heap.size w (W.setCell ⟨w2.heap.size, 2, none⟩ (.int .i64 0)) := below_setc g6 (by omega) _ _
        obtain ⟨y0, y1, y2, fy⟩ := box_cells3 v1
        obtain ⟨z0, z1, z2, fz⟩ := box_cells3 v4
        have HV := Lib.hid (And.intro v1 (And.intro v2 (And.intro v4 (And.intro v5 v6))))
        clear v1 v2 v3 v4 v5 v6 g1 g2 g5 g6 hd
        gi_wp2
        obtain ⟨h1, h2, h3⟩ := three_set HV.out.2.2.1 HV.out.2.2.2.1 HV.out.2.2.2.2 (by omega) (by have := HSL.out; omega) (.string f) (.string lw) (.int .i64 0)
        refine leaves_marks (hi := WL.heap.size) (by simp) (Φ := fun W => W.heap[(w.heap.size + 1 + 1)]? = some (.cells #[.string f, .string lw, .int .i64 (NL : Nat)] 34 (0, 0)) ∧ Below w.heap.size w W) ?_ ?_ _ _ (Marks.one hD h2) ⟨by rw [HN1.out]; exact h1, h3⟩
        · rintro W D ⟨h1, h3⟩ hD hd
          exact ⟨cells_putObj h1 hd rfl _, below_putObj h3 (by have := HSL.out; omega) hd _⟩
        · rintro W ⟨h1, h3⟩
          obtain ⟨m0, m1, m2, -⟩ := box_cells3 h1
          exact ⟨_, by simp [results, Tryd.results8, go_sem, m0, m1, m2], rfl, h3⟩
      · have r1 : ((LE : Int) == 1) = false := by rw [beq_eq_false_iff_ne]; omega
        have r2 : (LE == 1) = false := by rw [beq_eq_false_iff_ne]; exact hone
        have HN1 : Hid (NF = NL) := by show _ = _; rw [HNU.out, if_neg hone]
        clear hone
        obtain ⟨x0, x1, x2, fx⟩ := box_cells3 g1
        have cc := cell_of_one g2
        obtain ⟨z0, z1, z2, fz⟩ := box_cells3 g5
        have r3 : decide ((NF : Int) > 65536) = false := decide_eq_false (by have := HNL.out; omega)
        have r4 : decide (65536 < (NF : Int)) = false := decide_eq_false (by have := HNL.out; omega)
        have r5 : decide (65536 < NF) = false := decide_eq_false (by have := HNL.out; omega)
        have HV := Lib.hid (And.intro g1 (And.intro g2 (And.intro g5 (And.intro hd g6))))
        clear g1 g2 g5 g6 hd
        gi_wp2
        obtain ⟨h1, h2, h3⟩ := three_set HV.out.2.2.1 HV.out.2.2.2.1 HV.out.2.2.2.2 (by omega) (by have := HSL.out; omega) (.string f) (.string lw) (.int .i64 (NF : Nat))
        refine leaves_marks (hi := WL.heap.size) (by simp) (Φ := fun W => W.heap[(w.heap.size + 1 + 1)]? = some (.cells #[.string f, .string lw, .int .i64 (NL : Nat)] 34 (0, 0)) ∧ Below w.heap.size w W) ?_ ?_ _ _ (Marks.one hD h2) ⟨by rw [← HN1.out]; exact h1, h3⟩
        · rintro W D ⟨h1, h3⟩ hD hd
          exact ⟨cells_putObj h1 hd rfl _, below_putObj h3 (by have := HSL.out; omega) hd _⟩
        · rintro W ⟨h1, h3⟩
          obtain ⟨m0, m1, m2, -⟩ := box_cells3 h1
          exact ⟨_, by simp [results, Tryd.results8, go_sem, m0, m1, m2], rfl, h3⟩
    case stop =>
      rintro D c' pre W hD hpre ⟨rfl, h1, g1, g2, g5, g6⟩ hd
      have HNL : Hid (numF (p, q - 1) (pre.map (·.1)) ≤ 40200) := by
        have h2 := numF_le (p, q - 1) (pre.map (·.1))
        have h3 := hpre.length_le
        have h4 := HOL.out
        rw [List.length_map] at h2
        show _ ≤ _; omega
      have HN1 : Hid (numF (p, q - 1) (pre.map (·.1)) = numL ws f lw (p, q - 1)) := by
        show _ = _
        have h2 := numF_pre (p := (p, q - 1)) (occ_nodup ws.length) (pre_map hpre) h1.2
        have h3 := (pre_map hpre).length_le
        rw [List.length_map] at h3
        rw [numL, if_neg (by omega)]; exact h2.symm
      have HPL : Hid (1 < pre.length) := h1.1
      generalize numL ws f lw (p, q - 1) = NL at *
      generalize numF (p, q - 1) (pre.map (·.1)) = NF at *
      generalize pre.length = LE at *
      have r1 : ((LE : Int) == 1) = false := by rw [beq_eq_false_iff_ne]; have := HPL.out; omega
      have r2 : (LE == 1) = false := by rw [beq_eq_false_iff_ne]; have := HPL.out; omega
      clear hpre h1
      obtain ⟨x0, x1, x2, fx⟩ := box_cells3 g1
      have cc := cell_of_one g2
      obtain ⟨z0, z1, z2, fz⟩ := box_cells3 g5
      have r3 : decide ((NF : Int) > 65536) = false := decide_eq_false (by have := HNL.out; omega)
      have r4 : decide (65536 < (NF : Int)) = false := decide_eq_false (by have := HNL.out; omega)
      have r5 : decide (65536 < NF) = false := decide_eq_false (by have := HNL.out; omega)
      have HV := Lib.hid (And.intro g1 (And.intro g2 (And.intro g5 (And.intro hd g6))))
      clear g1 g2 g5 g6 hd
      gi_wp2
      obtain ⟨h1, h2, h3⟩ := three_set HV.out.2.2.1 HV.out.2.2.2.1 HV.out.2.2.2.2 (by omega) (by have := HSL.out; omega) (.string f) (.string lw) (.int .i64 (NF : Nat))
      refine leaves_marks (hi := WL.heap.size) (by simp) (Φ := fun W => W.heap[(w.heap.size + 1 + 1)]? = some (.cells #[.string f, .string lw, .int .i64 (NL : Nat)] 34 (0, 0)) ∧ Below w.heap.size w W) ?_ ?_ _ _ (Marks.one hD h2) ⟨by rw [← HN1.out]; exact h1, h3⟩
      · rintro W D ⟨h1, h3⟩ hD hd
        exact ⟨cells_putObj h1 hd rfl _, below_putObj h3 (by have := HSL.out; omega) hd _⟩
      · rintro W ⟨h1, h3⟩
        obtain ⟨m0, m1, m2, -⟩ := box_cells3 h1
        exact ⟨_, by simp [results, Tryd.results8, go_sem, m0, m1, m2], rfl, h3⟩
end Go.Proofs.YtileoimcnhcfcaaDoor
