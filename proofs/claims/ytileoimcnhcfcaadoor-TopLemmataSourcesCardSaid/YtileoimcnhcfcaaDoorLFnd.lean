/- lemma.Find. -/
import Derived.Test.YtileoimcnhcfcaaDoorLOf
set_option linter.unusedVariables false
set_option linter.unusedSimpArgs false
namespace Go.Proofs.YtileoimcnhcfcaaDoor
open Go.RowKit Go.Shelf
attribute [local go_sem] Oper.semAt_some

theorem six_boxes (w : World) (A B C D E G : Array Value) (ta tb tc td te tg : TypeId) : Below w.heap.size w ((((((w.alloc (.cells A ta)).alloc (.cells B tb)).alloc (.cells C tc)).alloc (.cells D td)).alloc (.cells E te)).alloc (.cells G tg)) ∧ ((((((w.alloc (.cells A ta)).alloc (.cells B tb)).alloc (.cells C tc)).alloc (.cells D td)).alloc (.cells E te)).alloc (.cells G tg)).heap.size = w.heap.size + 6 ∧
    ((((((w.alloc (.cells A ta)).alloc (.cells B tb)).alloc (.cells C tc)).alloc (.cells D td)).alloc (.cells E te)).alloc (.cells G tg)).heap[w.heap.size]? = some (.cells A ta (0, 0)) ∧ ((((((w.alloc (.cells A ta)).alloc (.cells B tb)).alloc (.cells C tc)).alloc (.cells D td)).alloc (.cells E te)).alloc (.cells G tg)).heap[w.heap.size + 1]? = some (.cells B tb (0, 0)) ∧
    ((((((w.alloc (.cells A ta)).alloc (.cells B tb)).alloc (.cells C tc)).alloc (.cells D td)).alloc (.cells E te)).alloc (.cells G tg)).heap[w.heap.size + 1 + 1]? = some (.cells C tc (0, 0)) ∧ ((((((w.alloc (.cells A ta)).alloc (.cells B tb)).alloc (.cells C tc)).alloc (.cells D td)).alloc (.cells E te)).alloc (.cells G tg)).heap[w.heap.size + 1 + 1 + 1]? = some (.cells D td (0, 0)) ∧
    ((((((w.alloc (.cells A ta)).alloc (.cells B tb)).alloc (.cells C tc)).alloc (.cells D td)).alloc (.cells E te)).alloc (.cells G tg)).heap[w.heap.size + 1 + 1 + 1 + 1]? = some (.cells E te (0, 0)) ∧ ((((((w.alloc (.cells A ta)).alloc (.cells B tb)).alloc (.cells C tc)).alloc (.cells D td)).alloc (.cells E te)).alloc (.cells G tg)).heap[w.heap.size + 1 + 1 + 1 + 1 + 1]? = some (.cells G tg (0, 0)) := by
  obtain ⟨h1, h2, h3, h4, h5, h6, h7⟩ := five_boxes w A B C D E ta tb tc td te
  have hG := World.alloc_heap_new (((((w.alloc (.cells A ta)).alloc (.cells B tb)).alloc (.cells C tc)).alloc (.cells D td)).alloc (.cells E te)) (.cells G tg)
  rw [h2] at hG
  refine ⟨h1.alloc (by omega) _, by simp, ?_, ?_, ?_, ?_, ?_, hG⟩
  all_goals (rw [Below.heap_alloc _ _ _ (by omega)]; assumption)
def fnM (N : Nat) {ws : List ByteArray} {f l : ByteArray} (pre : List (Oc ws f l)) : Nat × Nat := fndF N (pre.map (·.1))
theorem occ_snd {ws : List ByteArray} {f l : ByteArray} {x : Nat × Nat} (h : x ∈ occs ws f l) : x.2 < ws.length := by
  simp only [occs, occ, List.mem_flatMap, List.mem_range] at h
  obtain ⟨i, hi, hx⟩ := h
  unfold row at hx
  split at hx
  · split at hx
    · rw [List.mem_singleton.1 hx]; exact hi
    · exact (inn_mem.1 hx).2.2.1
  · cases hx
/-- What is left when the search ends. -/
theorem fnd_end {L pre : List (Nat × Nat)} {x : Nat × Nat} {k N : Nat} (hk : L[k]? = some x) (hN : N = if L.length = 1 then 0 else k + 1) (hp : pre <+: L) (he : pre = L ∨ max N 1 < pre.length) :
    pre.length ≠ 0 ∧ ¬ (N = 0 ∧ 1 < pre.length) ∧ (0 < N → pre.length ≠ 1 ∧ ¬ pre.length < N) ∧ fndF N pre = (x.1, x.2 + 1) := by
  have hkL := (List.getElem?_eq_some_iff.1 hk).1
  have hl := hp.length_le
  have hm : max N 1 - 1 < pre.length := by
    rcases he with he | he
    · rw [he]
      by_cases h1 : L.length = 1
      · rw [if_pos h1] at hN; omega
      · rw [if_neg h1] at hN; omega
    · omega
  have hat : pre[max N 1 - 1]? = some x := by
    obtain ⟨r, rfl⟩ := hp
    have hkk : max N 1 - 1 = k := by
      by_cases h1 : (pre ++ r).length = 1
      · rw [if_pos h1] at hN; omega
      · rw [if_neg h1] at hN; omega
    rw [← hk, ← hkk, List.getElem?_append_left hm]
  refine ⟨by omega, ?_, ?_, by rw [fndF, hat]⟩
  · rintro ⟨h0, h1⟩
    by_cases h2 : L.length = 1
    · omega
    · rw [if_neg h2] at hN; omega
  · intro h0
    by_cases h2 : L.length = 1
    · rw [if_pos h2] at hN; omega
    · rw [if_neg h2] at hN
      refine ⟨fun h1 => ?_, by omega⟩
      rcases he with he | he
      · exact h2 (he ▸ h1)
      · omega
set_option maxRecDepth 100000 in
set_option maxHeartbeats 8000000 in
theorem find_any (S : Nat → Prop) (a : Option Addr) (n c : Nat) (ws : List ByteArray) (x : Nat × Nat) (k N : Nat) (f lw : ByteArray) (w : World) (hv : Strs S w a n c ws) (hn : n ≤ 200) (hw : ∀ s ∈ ws, wrdP s) (hf : wrdP f)
    (hl : lw = ⟨#[]⟩ ∨ (lw.size ≠ 0 ∧ wrdP lw)) (hm : N ≤ 65536) (hk : (occs ws f lw)[k]? = some x) (hN : N = if (occs ws f lw).length = 1 then 0 else k + 1) (hS : ∀ b, S b → b < w.heap.size) (hE : Env w) :
    Calls Tryd.prog 9 #[.slice a n c, .agg #[.string f, .string lw, .int .i64 (N : Int)]] w fun e w' => e = .returned (.tuple #[.int .i64 (x.1 : Nat), .int .i64 ((x.2 : Int) + 1), .int .i64 0]) ∧ Below w.heap.size w w' := by
  have hbA : Below w.heap.size w (w.alloc (.cells #[.string f, .string lw, .int .i64 (N : Int)] 34)) := (Below.refl _ _).alloc (Nat.le_refl _) _
  have hsA : ((w.alloc (.cells #[.string f, .string lw, .int .i64 (N : Int)] 34))).heap.size = w.heap.size + 1 := by simp
  have g0 := World.alloc_heap_new w (.cells #[.string f, .string lw, .int .i64 (N : Int)] 34)
  have HCK := Lib.hid (check_yes S a n c ws (w.alloc (.cells #[.string f, .string lw, .int .i64 (N : Int)] 34)) (hv.below rStr_ok hbA) (by omega) hw (hE.below hbA))
  have HCL := Lib.hid (fun W (hb : Below w.heap.size w W) => Check_yes f lw N W hf hl hm (hE.below hb))
  have HV := Lib.hid hv
  have HS := Lib.hid hS
  have HBA := Lib.hid hbA
  have HG0 := Lib.hid g0
  have HSA := Lib.hid hsA
  have HK := Lib.hid hk
  have HN := Lib.hid hN
  clear hv hE hS hbA hsA g0 hw hf hl hk hN
  refine (callsIn_wide (n := 10)).1 ?_
  refine callsIn_of_wp_marks Tryd.func9 rfl trivial ?_ rfl
  simp only [Tryd.ntmps9, List.size_toArray, List.length_cons, List.length_nil, Nat.reduceAdd, Nat.reduceSub, Array.replicate_succ, Array.replicate_zero, List.push_toArray, List.append_toArray, List.nil_append, List.cons_append]
  gi_wp2_with (fail)
  refine ⟨trivial, ?_⟩
  refine (callsIn_wide.2 HCK.out).mono ?_
  rintro e w2 ⟨rfl, hst⟩
  have hB2 := HBA.out.trans (hst.mono HBA.out.size)
  have hs2 : w.heap.size + 1 ≤ w2.heap.size := by have := hst.size; have := HSA.out; omega
  have k0 := (hst.block _ (by have := HSA.out; omega)).trans HG0.out
  obtain ⟨x0, x1, x2, fx⟩ := box_cells3 k0
  have HB2 := Lib.hid hB2
  have HK0 := Lib.hid k0
  clear hst k0 hB2 HCK HBA HSA HG0
  gi_wp2_with (fail)
  refine ⟨trivial, ?_⟩
  refine (callsIn_wide.2 (HCL.out w2 HB2.out)).mono ?_
  rintro e w3 ⟨rfl, hst⟩
  have hB3 := HB2.out.trans (hst.mono HB2.out.size)
  have hs3 : w.heap.size + 1 ≤ w3.heap.size := by have := hst.size; omega
  have k0 := (hst.block _ (by omega)).trans HK0.out
  clear x0 x1 x2 fx
  have hbx : Below w3.heap.size w3 (((w3.alloc (.cells #[.int .i64 0] 3)).alloc (.cells #[.int .i64 0] 3)).alloc (.cells #[.int .i64 0] 3)) := (((Below.refl _ _).alloc (Nat.le_refl _) _).alloc (by simp) _).alloc (by simp; omega) _
  obtain ⟨x0, x1, x2, fx⟩ := box_cells3 ((hbx.block _ (by omega)).trans k0)
  have HB3 := Lib.hid hB3
  have HK3 := Lib.hid k0
  clear hst k0 hB3 hbx HB2 HK0 hs2
  gi_wp2_with (fail)
  refine ⟨trivial, ?_⟩
  refine (occ_in _ _ _ _ _ _ _).mono ?_
  rintro e WL ⟨rfl, rfl⟩
  gi_wp2
  obtain ⟨hbL, hsL, gF, gT, gC, cb1, cb2, cb3⟩ := six_boxes w3 #[.int .i64 0] #[.int .i64 0] #[.int .i64 0] #[.slice a n c] #[.string f] #[.string lw] 3 3 3 22 9 9
  generalize hWL : ((((((w3.alloc (.cells #[.int .i64 0] 3)).alloc (.cells #[.int .i64 0] 3)).alloc (.cells #[.int .i64 0] 3)).alloc (.cells #[.slice a n c] 22)).alloc (.cells #[.string f] 9)).alloc (.cells #[.string lw] 9)) = WL at *
  have k0 := (hbL.block _ (by omega)).trans HK3.out
  have hbw := HB3.out.trans (hbL.mono HB3.out.size)
  have hVL : Strs (fun b => ¬ (b = w3.heap.size ∨ b = (w3.heap.size + 1) ∨ b = (w3.heap.size + 1 + 1))) WL a n c ws := (HV.out.below rStr_ok hbw).mono rStr_ok (fun b h _ => by have := HS.out b h; omega)
  have HSL := Lib.hid hsL
  have HOL : Hid ((ocL ws f lw).length ≤ 200 * 201) := by
    show _ ≤ _
    rw [ocL_len]
    have := occ_len (ws := ws) (f := f) (l := lw) (by rw [← HV.out.len]; exact hn) ws.length
    have h2 : ws.length ≤ 200 := by rw [← HV.out.len]; exact hn
    exact Nat.le_trans this (Nat.mul_le_mul_right _ h2)
  clear hWL hbL x0 x1 x2 fx
  refine occ_loop (n := 10) (by omega) (w3.heap.size + 1 + 1 + 1) (w3.heap.size + 1 + 1 + 1 + 1) (w3.heap.size + 1 + 1 + 1 + 1 + 1) ws f lw a n c (fun b => b = w3.heap.size ∨ b = (w3.heap.size + 1) ∨ b = (w3.heap.size + 1 + 1)) rfl hVL (by omega) (cell_of_one cb1) (cell_of_one cb2) (cell_of_one cb3) (by omega) (by omega) (by omega)
    (fun pre W => W.heap[w3.heap.size]? = some (.cells #[.int .i64 ((fnM N pre).1 : Nat)] 3 (0, 0)) ∧ W.heap[(w3.heap.size + 1)]? = some (.cells #[.int .i64 ((fnM N pre).2 : Nat)] 3 (0, 0)) ∧ W.heap[(w3.heap.size + 1 + 1)]? = some (.cells #[.int .i64 (pre.length : Int)] 3 (0, 0)) ∧ W.heap[w.heap.size]? = some (.cells #[.string f, .string lw, .int .i64 (N : Int)] 34 (0, 0)) ∧ Below w.heap.size w W)
    (fun c' pre W => c' = .exit 0 ∧ max N 1 < pre.length ∧ W.heap[w3.heap.size]? = some (.cells #[.int .i64 ((fnM N pre).1 : Nat)] 3 (0, 0)) ∧ W.heap[(w3.heap.size + 1)]? = some (.cells #[.int .i64 ((fnM N pre).2 : Nat)] 3 (0, 0)) ∧ W.heap[(w3.heap.size + 1 + 1)]? = some (.cells #[.int .i64 (pre.length : Int)] 3 (0, 0)) ∧ W.heap[w.heap.size]? = some (.cells #[.string f, .string lw, .int .i64 (N : Int)] 34 (0, 0)) ∧ Below w.heap.size w W) ?hI ?hIx ⟨by rw [gF]; rfl, by rw [gT]; rfl, gC, k0, hbw⟩
    (fun y a' _ => a' = { tmps := #[.slice a n c, .agg #[.string f, .string lw, .int .i64 (N : Int)], undef, .pointer (some ⟨w.heap.size, 0, none⟩), .int .i64 0, .int .i64 0, .int .i64 0, .int .i64 0, .int .i64 0, .pointer (some ⟨w3.heap.size, 0, none⟩), .pointer (some ⟨(w3.heap.size + 1), 0, none⟩), .pointer (some ⟨(w3.heap.size + 1 + 1), 0, none⟩), .int .i64 (y.1.1 : Int), .int .i64 (y.1.2 : Int), .slice a n c, .int .i64 0, .int .i64 0, .bool false, undef, .agg #[.string f, .string lw, .int .i64 (N : Int)], .int .i64 0, .int .i64 0, .bool false, undef, .slice a n c, .pointer (some ⟨w.heap.size, 0, none⟩), .string f, .pointer (some ⟨w.heap.size, 1, none⟩), .string lw, .func (.func 32) #[] #[.pointer (some ⟨w3.heap.size + 1 + 1 + 1, 0, none⟩), .pointer (some ⟨w3.heap.size + 1 + 1 + 1 + 1, 0, none⟩), .pointer (some ⟨w3.heap.size + 1 + 1 + 1 + 1 + 1, 0, none⟩)], .int .i64 (y.1.1 : Int), .int .i64 (y.1.2 : Int), undef, undef, undef, undef, undef, undef, undef, undef, undef, undef, undef, undef, undef, undef, undef, undef, undef, undef, undef, undef, undef, undef, undef, undef, undef, undef, undef, undef, undef, undef, undef, undef, undef, undef, undef, undef, undef, undef, undef, undef, undef, undef], defers := [] }) ?hAx ?assign ?body ?done ?stop
  all_goals clear hsL gF gT gC cb1 cb2 cb3 k0
  case hI =>
    rintro pre W W' row ⟨g1, g2, g3, g4, g6⟩ hg hr
    exact ⟨cells_own g1 hg hr, cells_own g2 hg hr, cells_own g3 hg hr, cells_own g4 hg hr, g6.grown hg g6.size (fun r e => by have := (hr r e).1; have := HSL.out; omega)⟩
  case hIx =>
    rintro c' pre W W' row ⟨h0, h1, g1, g2, g3, g4, g6⟩ hg hr
    exact ⟨h0, h1, cells_own g1 hg hr, cells_own g2 hg hr, cells_own g3 hg hr, cells_own g4 hg hr, g6.grown hg g6.size (fun r e => by have := (hr r e).1; have := HSL.out; omega)⟩
  case hAx =>
    rintro y a' _ W W' row h hg hr
    exact h
  case assign =>
    rintro l0 pre y W K h hK
    have hKx := hK _ W (keepsFrom_below (Below.refl _ _)) (KeepS.refl _ _) h rfl
    dsimp only [ocEnc] at hKx ⊢
    gi_wp2
    exact hKx
  case body =>
    rintro l0 pre y a0 W ⟨g1, g2, g3, g4, g6⟩ rfl hlt
    have hpl : pre.length < 50000 := by have := HOL.out; omega
    have hyo : ∃ yi yk : Nat, y.1 = (yi, yk) := ⟨y.1.1, y.1.2, rfl⟩
    obtain ⟨yi, yk, hy⟩ := hyo
    have hyl : yk < 200 := by
      have := occ_snd y.2
      rw [hy, ← HV.out.len] at this
      dsimp only at this; omega
    have HNS : Hid (fnM N (pre ++ [y]) = if pre.length + 1 = max N 1 then (yi, yk + 1) else fnM N pre) := by
      show _ = _
      rw [fnM, List.map_append, List.map_cons, List.map_nil, fndF_snoc, List.length_map, hy]; rfl
    have HLN : Hid ((pre ++ [y]).length = pre.length + 1) := by show _ = _; simp
    rw [hy]
    dsimp only
    generalize fnM N pre = FP at *
    have cc := cell_of_one g3
    have fc : W.frozen? ⟨(w3.heap.size + 1 + 1), 0, none⟩ = false := Lib.frozen_of_heap g3 0
    have v1 : (W.setCell ⟨(w3.heap.size + 1 + 1), 0, none⟩ (.int .i64 ((pre.length : Int) + 1))).heap[w3.heap.size]? = some (.cells #[.int .i64 (FP.1 : Nat)] 3 (0, 0)) := by rw [heap_setCell_other (by omega) _]; exact g1
    have v2 : (W.setCell ⟨(w3.heap.size + 1 + 1), 0, none⟩ (.int .i64 ((pre.length : Int) + 1))).heap[(w3.heap.size + 1)]? = some (.cells #[.int .i64 (FP.2 : Nat)] 3 (0, 0)) := by rw [heap_setCell_other (by omega) _]; exact g2
    have v3 : (W.setCell ⟨(w3.heap.size + 1 + 1), 0, none⟩ (.int .i64 ((pre.length : Int) + 1))).heap[(w3.heap.size + 1 + 1)]? = some (.cells #[.int .i64 ((pre.length : Int) + 1)] 3 (0, 0)) := by rw [heap_setCell_self g3]; rfl
    have v4 : (W.setCell ⟨(w3.heap.size + 1 + 1), 0, none⟩ (.int .i64 ((pre.length : Int) + 1))).heap[w.heap.size]? = some (.cells #[.string f, .string lw, .int .i64 (N : Int)] 34 (0, 0)) := by rw [heap_setCell_other (by omega) _]; exact g4
    have v5 : Below w.heap.size w (W.setCell ⟨(w3.heap.size + 1 + 1), 0, none⟩ (.int .i64 ((pre.length : Int) + 1))) := below_setc g6 (by omega) _ _
    obtain ⟨z0, z1, z2, fz⟩ := box_cells3 v4
    have zc := cell_of_one v3
    have zf : (W.setCell ⟨(w3.heap.size + 1 + 1), 0, none⟩ (.int .i64 ((pre.length : Int) + 1))).frozen? ⟨w3.heap.size, 0, none⟩ = false := Lib.frozen_of_heap v1 0
    have u1 : ((W.setCell ⟨(w3.heap.size + 1 + 1), 0, none⟩ (.int .i64 ((pre.length : Int) + 1))).setCell ⟨w3.heap.size, 0, none⟩ (.int .i64 (yi : Int))).heap[w3.heap.size]? = some (.cells #[.int .i64 (yi : Int)] 3 (0, 0)) := by rw [heap_setCell_self v1]; rfl
    have u2 : ((W.setCell ⟨(w3.heap.size + 1 + 1), 0, none⟩ (.int .i64 ((pre.length : Int) + 1))).setCell ⟨w3.heap.size, 0, none⟩ (.int .i64 (yi : Int))).heap[(w3.heap.size + 1)]? = some (.cells #[.int .i64 (FP.2 : Nat)] 3 (0, 0)) := by rw [heap_setCell_other (by omega) _]; exact v2
    have u3 : ((W.setCell ⟨(w3.heap.size + 1 + 1), 0, none⟩ (.int .i64 ((pre.length : Int) + 1))).setCell ⟨w3.heap.size, 0, none⟩ (.int .i64 (yi : Int))).heap[(w3.heap.size + 1 + 1)]? = some (.cells #[.int .i64 ((pre.length : Int) + 1)] 3 (0, 0)) := by rw [heap_setCell_other (by omega) _]; exact v3
    have u4 : ((W.setCell ⟨(w3.heap.size + 1 + 1), 0, none⟩ (.int .i64 ((pre.length : Int) + 1))).setCell ⟨w3.heap.size, 0, none⟩ (.int .i64 (yi : Int))).heap[w.heap.size]? = some (.cells #[.string f, .string lw, .int .i64 (N : Int)] 34 (0, 0)) := by rw [heap_setCell_other (by omega) _]; exact v4
    have u5 : Below w.heap.size w ((W.setCell ⟨(w3.heap.size + 1 + 1), 0, none⟩ (.int .i64 ((pre.length : Int) + 1))).setCell ⟨w3.heap.size, 0, none⟩ (.int .i64 (yi : Int))) := below_setc v5 (by omega) _ _
    have uc := cell_of_one u2
    have vc := cell_of_one v1
    have uf : ((W.setCell ⟨(w3.heap.size + 1 + 1), 0, none⟩ (.int .i64 ((pre.length : Int) + 1))).setCell ⟨w3.heap.size, 0, none⟩ (.int .i64 (yi : Int))).frozen? ⟨(w3.heap.size + 1), 0, none⟩ = false := Lib.frozen_of_heap u2 0
    have t1 : (((W.setCell ⟨(w3.heap.size + 1 + 1), 0, none⟩ (.int .i64 ((pre.length : Int) + 1))).setCell ⟨w3.heap.size, 0, none⟩ (.int .i64 (yi : Int))).setCell ⟨(w3.heap.size + 1), 0, none⟩ (.int .i64 ((yk : Int) + 1))).heap[w3.heap.size]? = some (.cells #[.int .i64 (yi : Int)] 3 (0, 0)) := by rw [heap_setCell_other (by omega) _]; exact u1
    have t2 : (((W.setCell ⟨(w3.heap.size + 1 + 1), 0, none⟩ (.int .i64 ((pre.length : Int) + 1))).setCell ⟨w3.heap.size, 0, none⟩ (.int .i64 (yi : Int))).setCell ⟨(w3.heap.size + 1), 0, none⟩ (.int .i64 ((yk : Int) + 1))).heap[(w3.heap.size + 1)]? = some (.cells #[.int .i64 ((yk : Int) + 1)] 3 (0, 0)) := by rw [heap_setCell_self u2]; rfl
    have t3 : (((W.setCell ⟨(w3.heap.size + 1 + 1), 0, none⟩ (.int .i64 ((pre.length : Int) + 1))).setCell ⟨w3.heap.size, 0, none⟩ (.int .i64 (yi : Int))).setCell ⟨(w3.heap.size + 1), 0, none⟩ (.int .i64 ((yk : Int) + 1))).heap[(w3.heap.size + 1 + 1)]? = some (.cells #[.int .i64 ((pre.length : Int) + 1)] 3 (0, 0)) := by rw [heap_setCell_other (by omega) _]; exact u3
    have t4 : (((W.setCell ⟨(w3.heap.size + 1 + 1), 0, none⟩ (.int .i64 ((pre.length : Int) + 1))).setCell ⟨w3.heap.size, 0, none⟩ (.int .i64 (yi : Int))).setCell ⟨(w3.heap.size + 1), 0, none⟩ (.int .i64 ((yk : Int) + 1))).heap[w.heap.size]? = some (.cells #[.string f, .string lw, .int .i64 (N : Int)] 34 (0, 0)) := by rw [heap_setCell_other (by omega) _]; exact u4
    have t5 : Below w.heap.size w (((W.setCell ⟨(w3.heap.size + 1 + 1), 0, none⟩ (.int .i64 ((pre.length : Int) + 1))).setCell ⟨w3.heap.size, 0, none⟩ (.int .i64 (yi : Int))).setCell ⟨(w3.heap.size + 1), 0, none⟩ (.int .i64 ((yk : Int) + 1))) := below_setc u5 (by omega) _ _
    obtain ⟨q0, q1, q2, fq⟩ := box_cells3 t4
    have qc := cell_of_one t3
    have kp1 : KeepS (fun b => ¬ (b = w3.heap.size ∨ b = (w3.heap.size + 1) ∨ b = (w3.heap.size + 1 + 1))) W (W.setCell ⟨(w3.heap.size + 1 + 1), 0, none⟩ (.int .i64 ((pre.length : Int) + 1))) := ⟨by simp [World.setCell], fun b cs t fr hb hc => by rw [heap_setCell_other (fun e => hb (.inr (.inr e))) _]; exact hc⟩
    have kp2 : KeepS (fun b => ¬ (b = w3.heap.size ∨ b = (w3.heap.size + 1) ∨ b = (w3.heap.size + 1 + 1))) (W.setCell ⟨(w3.heap.size + 1 + 1), 0, none⟩ (.int .i64 ((pre.length : Int) + 1))) ((W.setCell ⟨(w3.heap.size + 1 + 1), 0, none⟩ (.int .i64 ((pre.length : Int) + 1))).setCell ⟨w3.heap.size, 0, none⟩ (.int .i64 (yi : Int))) := ⟨by simp [World.setCell], fun b cs t fr hb hc => by rw [heap_setCell_other (fun e => hb (.inl e)) _]; exact hc⟩
    have kp3 : KeepS (fun b => ¬ (b = w3.heap.size ∨ b = (w3.heap.size + 1) ∨ b = (w3.heap.size + 1 + 1))) ((W.setCell ⟨(w3.heap.size + 1 + 1), 0, none⟩ (.int .i64 ((pre.length : Int) + 1))).setCell ⟨w3.heap.size, 0, none⟩ (.int .i64 (yi : Int))) (((W.setCell ⟨(w3.heap.size + 1 + 1), 0, none⟩ (.int .i64 ((pre.length : Int) + 1))).setCell ⟨w3.heap.size, 0, none⟩ (.int .i64 (yi : Int))).setCell ⟨(w3.heap.size + 1), 0, none⟩ (.int .i64 ((yk : Int) + 1))) := ⟨by simp [World.setCell], fun b cs t fr hb hc => by rw [heap_setCell_other (fun e => hb (.inr (.inl e))) _]; exact hc⟩
    have HA := Lib.hid (And.intro v1 (And.intro v2 (And.intro v3 (And.intro v4 v5))))
    have HB := Lib.hid (And.intro t1 (And.intro t2 (And.intro t3 (And.intro t4 t5))))
    have HKA : Hid (KeepsFrom WL.heap.size W (W.setCell ⟨(w3.heap.size + 1 + 1), 0, none⟩ (.int .i64 ((pre.length : Int) + 1))) ∧ KeepS (fun b => ¬ (b = w3.heap.size ∨ b = (w3.heap.size + 1) ∨ b = (w3.heap.size + 1 + 1))) W (W.setCell ⟨(w3.heap.size + 1 + 1), 0, none⟩ (.int .i64 ((pre.length : Int) + 1)))) := ⟨(KeepsOthers.setCell _ _ _).from _, kp1⟩
    have HKB : Hid (KeepsFrom WL.heap.size W (((W.setCell ⟨(w3.heap.size + 1 + 1), 0, none⟩ (.int .i64 ((pre.length : Int) + 1))).setCell ⟨w3.heap.size, 0, none⟩ (.int .i64 (yi : Int))).setCell ⟨(w3.heap.size + 1), 0, none⟩ (.int .i64 ((yk : Int) + 1))) ∧ KeepS (fun b => ¬ (b = w3.heap.size ∨ b = (w3.heap.size + 1) ∨ b = (w3.heap.size + 1 + 1))) W (((W.setCell ⟨(w3.heap.size + 1 + 1), 0, none⟩ (.int .i64 ((pre.length : Int) + 1))).setCell ⟨w3.heap.size, 0, none⟩ (.int .i64 (yi : Int))).setCell ⟨(w3.heap.size + 1), 0, none⟩ (.int .i64 ((yk : Int) + 1)))) := ⟨(((KeepsOthers.setCell _ _ _).from _).trans ((KeepsOthers.setCell _ _ _).from _)).trans ((KeepsOthers.setCell _ _ _).from _), (kp1.trans kp2).trans kp3⟩
    clear v1 v2 v3 v4 v5 u1 u2 u3 u4 u5 t1 t2 t3 t4 t5 kp1 kp2 kp3 g1 g2 g3 g4 g6 hlt hy
    by_cases hc1 : pre.length + 1 = max N 1
    · have s1 : ((pre.length : Int) + 1 == max (N : Int) 1) = true := by rw [beq_iff_eq]; omega
      have r1 : decide ((pre.length : Int) + 1 > max (N : Int) 1) = false := decide_eq_false (by omega)
      have r2 : decide (max (N : Int) 1 < (pre.length : Int) + 1) = false := decide_eq_false (by omega)
      have HF : Hid (fnM N (pre ++ [y]) = (yi, yk + 1)) := by show _ = _; rw [HNS.out, if_pos hc1]
      have HE : Hid ((((W.setCell ⟨(w3.heap.size + 1 + 1), 0, none⟩ (.int .i64 ((pre.length : Int) + 1))).setCell ⟨w3.heap.size, 0, none⟩ (.int .i64 (yi : Int))).setCell ⟨(w3.heap.size + 1), 0, none⟩ (.int .i64 ((yk : Int) + 1))).heap[w3.heap.size]? = some (.cells #[.int .i64 ((fnM N (pre ++ [y])).1 : Nat)] 3 (0, 0)) ∧ (((W.setCell ⟨(w3.heap.size + 1 + 1), 0, none⟩ (.int .i64 ((pre.length : Int) + 1))).setCell ⟨w3.heap.size, 0, none⟩ (.int .i64 (yi : Int))).setCell ⟨(w3.heap.size + 1), 0, none⟩ (.int .i64 ((yk : Int) + 1))).heap[(w3.heap.size + 1)]? = some (.cells #[.int .i64 ((fnM N (pre ++ [y])).2 : Nat)] 3 (0, 0)) ∧ (((W.setCell ⟨(w3.heap.size + 1 + 1), 0, none⟩ (.int .i64 ((pre.length : Int) + 1))).setCell ⟨w3.heap.size, 0, none⟩ (.int .i64 (yi : Int))).setCell ⟨(w3.heap.size + 1), 0, none⟩ (.int .i64 ((yk : Int) + 1))).heap[(w3.heap.size + 1 + 1)]? = some (.cells #[.int .i64 ((pre ++ [y]).length : Int)] 3 (0, 0))) :=
        ⟨by rw [HF.out]; exact HB.out.1, by rw [HF.out]; exact HB.out.2.1, by rw [HLN.out]; exact HB.out.2.2.1⟩
      clear hc1
      gi_wp2
      exact ⟨HKB.out.1, HKB.out.2, HE.out.1, HE.out.2.1, HE.out.2.2, HB.out.2.2.2⟩
    · have s1 : ((pre.length : Int) + 1 == max (N : Int) 1) = false := by rw [beq_eq_false_iff_ne]; omega
      have HF : Hid (fnM N (pre ++ [y]) = FP) := by show _ = _; rw [HNS.out, if_neg hc1]
      have HE : Hid ((W.setCell ⟨(w3.heap.size + 1 + 1), 0, none⟩ (.int .i64 ((pre.length : Int) + 1))).heap[w3.heap.size]? = some (.cells #[.int .i64 ((fnM N (pre ++ [y])).1 : Nat)] 3 (0, 0)) ∧ (W.setCell ⟨(w3.heap.size + 1 + 1), 0, none⟩ (.int .i64 ((pre.length : Int) + 1))).heap[(w3.heap.size + 1)]? = some (.cells #[.int .i64 ((fnM N (pre ++ [y])).2 : Nat)] 3 (0, 0)) ∧ (W.setCell ⟨(w3.heap.size + 1 + 1), 0, none⟩ (.int .i64 ((pre.length : Int) + 1))).heap[(w3.heap.size + 1 + 1)]? = some (.cells #[.int .i64 ((pre ++ [y]).length : Int)] 3 (0, 0))) :=
        ⟨by rw [HF.out]; exact HA.out.1, by rw [HF.out]; exact HA.out.2.1, by rw [HLN.out]; exact HA.out.2.2.1⟩
      by_cases hc2 : max N 1 < pre.length + 1
      · have r1 : decide ((pre.length : Int) + 1 > max (N : Int) 1) = true := decide_eq_true (by omega)
        have r2 : decide (max (N : Int) 1 < (pre.length : Int) + 1) = true := decide_eq_true (by omega)
        have HC2 : Hid (max N 1 < pre.length + 1) := hc2
        clear hc1 hc2
        gi_wp2
        exact ⟨HKA.out.1, rfl, by rw [HLN.out]; exact HC2.out, HE.out.1, HE.out.2.1, HE.out.2.2, HA.out.2.2.2⟩
      · have r1 : decide ((pre.length : Int) + 1 > max (N : Int) 1) = false := decide_eq_false (by omega)
        have r2 : decide (max (N : Int) 1 < (pre.length : Int) + 1) = false := decide_eq_false (by omega)
        clear hc1 hc2
        gi_wp2
        exact ⟨HKA.out.1, HKA.out.2, HE.out.1, HE.out.2.1, HE.out.2.2, HA.out.2.2.2⟩
  case done =>
    rintro D W hD ⟨g1, g2, g3, g4, g6⟩ hd
    have hfe := fnd_end (pre := (ocL ws f lw).map (·.1)) HK.out HN.out (pre_map List.prefix_rfl) (.inl (all_map ws f lw))
    rw [List.length_map] at hfe
    have hLL : (ocL ws f lw).length < 50000 := by have := HOL.out; omega
    rw [show fnM N (ocL ws f lw) = (x.1, x.2 + 1) from hfe.2.2.2] at g1 g2
    generalize (ocL ws f lw).length = C at *
    obtain ⟨f1, f2, f3, -⟩ := hfe
    obtain ⟨x0, x1, x2, fx⟩ := box_cells3 g4
    have c1 := cell_of_one g1
    have c2 := cell_of_one g2
    have c3 := cell_of_one g3
    have HQ := Lib.hid (And.intro g6 hd)
    have t1 : ((C : Int) == 0) = false := by rw [beq_eq_false_iff_ne]; omega
    have t1' : (C == 0) = false := by rw [beq_eq_false_iff_ne]; omega
    clear g1 g2 g3 g4 g6 hd
    by_cases hN0 : N = 0
    · subst hN0
      have t2 : decide ((C : Int) > 1) = false := decide_eq_false (by omega)
      have t3 : decide (1 < (C : Int)) = false := decide_eq_false (by omega)
      have t4 : decide (1 < C) = false := decide_eq_false (by omega)
      clear f1 f2 f3
      gi_wp2_with (fail)
      refine wpIn_region_headQ 4 rfl (by kernel_rfl) (by kernel_rfl) ?_
      repeat (refine wpQuietIn_step (fun _ _ _ _ => trivial) (fun K hK => ?_); go_simp; (refine hK _ ?_; clear hK K))
      refine wpQuietIn_nil ?_
      rintro W2 ⟨nq, rfl⟩
      gi_wp2

      refine leaves_marks (hi := WL.heap.size) (by simp) (Φ := fun W => Below w.heap.size w W) ?_ ?_ _ _ (Marks.one hD (show (W.drewN nq).heap[D]? = some (.deferred (some [])) from HQ.out.2)) (below_drewN HQ.out.1 nq)
      · rintro W D h3 hD hd
        exact below_putObj h3 (by have := HSL.out; omega) hd _
      · rintro W h3
        exact ⟨.tuple #[.int .i64 (x.1 : Nat), .int .i64 ((x.2 : Int) + 1), .int .i64 0], by simp [results, Tryd.results9, go_sem], rfl, h3⟩
    · have t2 : ((N : Int) == 0) = false := by rw [beq_eq_false_iff_ne]; omega
      have t2' : (N == 0) = false := by rw [beq_eq_false_iff_ne]; omega
      have t3 : decide ((N : Int) > 0) = true := decide_eq_true (by omega)
      have t4 : decide (0 < (N : Int)) = true := decide_eq_true (by omega)
      have t5 : decide (0 < N) = true := decide_eq_true (by omega)
      have f4 := f3 (by omega)
      have t6 : ((C : Int) == 1) = false := by rw [beq_eq_false_iff_ne]; omega
      have t7 : (C == 1) = false := by rw [beq_eq_false_iff_ne]; omega
      have t8 : decide ((C : Int) < (N : Int)) = false := decide_eq_false (by omega)
      have t9 : decide (C < N) = false := decide_eq_false (by omega)
      clear f1 f2 f3 f4 hN0
      gi_wp2_with (fail)
      refine wpIn_region_headQ 4 rfl (by kernel_rfl) (by kernel_rfl) ?_
      repeat (refine wpQuietIn_step (fun _ _ _ _ => trivial) (fun K hK => ?_); go_simp; (refine hK _ ?_; clear hK K))
      refine wpQuietIn_nil ?_
      rintro W2 ⟨nq, rfl⟩
      gi_wp2

      refine leaves_marks (hi := WL.heap.size) (by simp) (Φ := fun W => Below w.heap.size w W) ?_ ?_ _ _ (Marks.one hD (show (W.drewN nq).heap[D]? = some (.deferred (some [])) from HQ.out.2)) (below_drewN HQ.out.1 nq)
      · rintro W D h3 hD hd
        exact below_putObj h3 (by have := HSL.out; omega) hd _
      · rintro W h3
        exact ⟨.tuple #[.int .i64 (x.1 : Nat), .int .i64 ((x.2 : Int) + 1), .int .i64 0], by simp [results, Tryd.results9, go_sem], rfl, h3⟩
  case stop =>
    rintro D c' pre W hD hpre ⟨rfl, h1, g1, g2, g3, g4, g6⟩ hd
    have hfe := fnd_end (pre := pre.map (·.1)) HK.out HN.out (pre_map hpre) (.inr (by rw [List.length_map]; exact h1))
    rw [List.length_map] at hfe
    have hLL : pre.length < 50000 := by have := HOL.out; have := hpre.length_le; omega
    rw [show fnM N pre = (x.1, x.2 + 1) from hfe.2.2.2] at g1 g2
    clear hpre h1
    generalize pre.length = C at *
    obtain ⟨f1, f2, f3, -⟩ := hfe
    obtain ⟨x0, x1, x2, fx⟩ := box_cells3 g4
    have c1 := cell_of_one g1
    have c2 := cell_of_one g2
    have c3 := cell_of_one g3
    have HQ := Lib.hid (And.intro g6 hd)
    have t1 : ((C : Int) == 0) = false := by rw [beq_eq_false_iff_ne]; omega
    have t1' : (C == 0) = false := by rw [beq_eq_false_iff_ne]; omega
    clear g1 g2 g3 g4 g6 hd
    by_cases hN0 : N = 0
    · subst hN0
      have t2 : decide ((C : Int) > 1) = false := decide_eq_false (by omega)
      have t3 : decide (1 < (C : Int)) = false := decide_eq_false (by omega)
      have t4 : decide (1 < C) = false := decide_eq_false (by omega)
      clear f1 f2 f3
      gi_wp2_with (fail)
      refine wpIn_region_headQ 4 rfl (by kernel_rfl) (by kernel_rfl) ?_
      repeat (refine wpQuietIn_step (fun _ _ _ _ => trivial) (fun K hK => ?_); go_simp; (refine hK _ ?_; clear hK K))
      refine wpQuietIn_nil ?_
      rintro W2 ⟨nq, rfl⟩
      gi_wp2

      refine leaves_marks (hi := WL.heap.size) (by simp) (Φ := fun W => Below w.heap.size w W) ?_ ?_ _ _ (Marks.one hD (show (W.drewN nq).heap[D]? = some (.deferred (some [])) from HQ.out.2)) (below_drewN HQ.out.1 nq)
      · rintro W D h3 hD hd
        exact below_putObj h3 (by have := HSL.out; omega) hd _
      · rintro W h3
        exact ⟨.tuple #[.int .i64 (x.1 : Nat), .int .i64 ((x.2 : Int) + 1), .int .i64 0], by simp [results, Tryd.results9, go_sem], rfl, h3⟩
    · have t2 : ((N : Int) == 0) = false := by rw [beq_eq_false_iff_ne]; omega
      have t2' : (N == 0) = false := by rw [beq_eq_false_iff_ne]; omega
      have t3 : decide ((N : Int) > 0) = true := decide_eq_true (by omega)
      have t4 : decide (0 < (N : Int)) = true := decide_eq_true (by omega)
      have t5 : decide (0 < N) = true := decide_eq_true (by omega)
      have f4 := f3 (by omega)
      have t6 : ((C : Int) == 1) = false := by rw [beq_eq_false_iff_ne]; omega
      have t7 : (C == 1) = false := by rw [beq_eq_false_iff_ne]; omega
      have t8 : decide ((C : Int) < (N : Int)) = false := decide_eq_false (by omega)
      have t9 : decide (C < N) = false := decide_eq_false (by omega)
      clear f1 f2 f3 f4 hN0
      gi_wp2_with (fail)
      refine wpIn_region_headQ 4 rfl (by kernel_rfl) (by kernel_rfl) ?_
      repeat (refine wpQuietIn_step (fun _ _ _ _ => trivial) (fun K hK => ?_); go_simp; (refine hK _ ?_; clear hK K))
      refine wpQuietIn_nil ?_
      rintro W2 ⟨nq, rfl⟩
      gi_wp2

      refine leaves_marks (hi := WL.heap.size) (by simp) (Φ := fun W => Below w.heap.size w W) ?_ ?_ _ _ (Marks.one hD (show (W.drewN nq).heap[D]? = some (.deferred (some [])) from HQ.out.2)) (below_drewN HQ.out.1 nq)
      · rintro W D h3 hD hd
        exact below_putObj h3 (by have := HSL.out; omega) hd _
      · rintro W h3
        exact ⟨.tuple #[.int .i64 (x.1 : Nat), .int .i64 ((x.2 : Int) + 1), .int .i64 0], by simp [results, Tryd.results9, go_sem], rfl, h3⟩
end Go.Proofs.YtileoimcnhcfcaaDoor
