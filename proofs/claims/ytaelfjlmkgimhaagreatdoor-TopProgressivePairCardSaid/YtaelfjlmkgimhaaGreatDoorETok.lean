/- charset.Check, charset.IsWord. -/
import Derived.Test.YtaelfjlmkgimhaaGreatDoorERef02
import Derived.Test.YtaelfjlmkgimhaaGreatDoorEGap
import Derived.Deep.QuietTactic
import Derived.BigQuiet
set_option linter.unusedVariables false
set_option linter.unusedSimpArgs false
namespace Go.Proofs.YtaelfjlmkgimhaaGreatDoor
open Go.RowKit Go.Shelf
attribute [local go_sem] Oper.semAt_some

theorem clusters_in (m : Nat) (w : World) (s : ByteArray) : CallsIn Fence.wide m Tryz.prog 103 #[.string s] w fun e w' => e = .returned (.func (.func 118) #[] #[.pointer (some ⟨w.heap.size, 0, none⟩)]) ∧ w' = w.alloc (.cells #[.string s] 9) := by
  refine callsIn_of_wp Tryz.func103 rfl trivial ?_ rfl
  simp only [Tryz.ntmps103, List.size_toArray, List.length_cons, List.length_nil, Nat.reduceAdd, Nat.reduceSub, Array.replicate_succ, Array.replicate_zero, List.push_toArray, List.append_toArray, List.nil_append, List.cons_append]
  gi_wp2
  go_ret
  exact ⟨rfl, rfl⟩
/-- A cluster whose first character may stand there. -/
def goodC (s : ByteArray) (x : Nat × Nat) : Bool := decide (bK s x.1 ≠ 0) && decide (bK s x.1 ≠ 2)
theorem clu_word (s : ByteArray) : ∀ k, k < s.size → wordGo false s.data.toList = ((cluTo s k).1.all (goodC s) && (goodC s ((cluTo s k).2, 0) && wordGo (decide (bK s (cluTo s k).2 = 1)) (s.data.toList.drop (k + 1))))
  | 0, h => by
    have := drop_cons s 0 h
    rw [List.drop_zero] at this
    conv => lhs; rw [this]
    rw [wordGo, bK_at h]
    simp only [cluTo, List.all_nil, Bool.true_and, goodC]
    by_cases e2 : bK s 0 = 2
    · rw [if_pos e2]; simp [e2]
    · by_cases e0 : bK s 0 = 0
      · rw [if_neg e2, if_pos e0]; simp [e0]
      · rw [if_neg e2, if_neg e0]
        by_cases e1 : bK s 0 = 1 <;> simp [e0, e2, e1]
  | k + 1, h => by
    rw [clu_word s k (by omega), drop_cons s (k + 1) h, wordGo, bK_at h]
    by_cases hs : k + 1 < s.size ∧ bK s (k + 1) = 2 ∧ bK s (cluTo s k).2 = 1
    · rw [clu_skip hs, if_pos hs.2.1, hs.2.2]; simp
    · have e : cluTo s (k + 1) = ((cluTo s k).1 ++ [((cluTo s k).2, k + 1)], k + 1) := by rw [cluTo, if_neg hs]
      rw [e]
      have hg : goodC s ((cluTo s k).2, k + 1) = goodC s ((cluTo s k).2, 0) := rfl
      simp only [List.all_append, List.all_cons, List.all_nil, Bool.and_true, hg]
      by_cases e2 : bK s (k + 1) = 2
      · rw [if_pos e2]
        have : decide (bK s (cluTo s k).2 = 1) = false := decide_eq_false fun e1 => hs ⟨h, e2, e1⟩
        rw [this]; simp [goodC, e2]
      · by_cases e0 : bK s (k + 1) = 0
        · rw [if_neg e2, if_pos e0]; simp [goodC, e0]
        · rw [if_neg e2, if_neg e0]; simp [goodC, e0, e2, Bool.and_assoc]
theorem clus_word (s : ByteArray) : wordGo false s.data.toList = (clus s).all (goodC s) := by
  by_cases h : s.size = 0
  · have : s.data.toList = [] := List.eq_nil_of_length_eq_zero (by simpa using h)
    rw [this, clus, h]; rfl
  · obtain ⟨k, hk⟩ : ∃ k, s.size = k + 1 := ⟨s.size - 1, by omega⟩
    have e : cluTo s (k + 1) = ((cluTo s k).1 ++ [((cluTo s k).2, k + 1)], k + 1) := by rw [cluTo, if_neg (by omega)]
    rw [clu_word s k (by omega), clus, hk, e, List.drop_of_length_le (by simp; omega)]
    have hg : goodC s ((cluTo s k).2, k + 1) = goodC s ((cluTo s k).2, 0) := rfl
    simp [wordGo, hg]
set_option maxRecDepth 100000 in
set_option maxHeartbeats 2000000 in
theorem checkS_any (s : ByteArray) (w : World) (hs : s.size ≤ 65536) : Calls Tryz.prog 92 #[.string s] w fun e w' => e = .returned (.int .i64 (chkS s)) ∧ Below w.heap.size w w' := by
  have HA := Lib.hid (fun m W => clusters_in m W s)
  have HE := Lib.hid (chkS_small hs)
  have HW := Lib.hid (clus_word s)
  refine (callsIn_wide (n := 10)).1 ?_
  refine callsIn_of_wp_marks Tryz.func92 rfl trivial ?_ rfl
  simp only [Tryz.ntmps92, List.size_toArray, List.length_cons, List.length_nil, Nat.reduceAdd, Nat.reduceSub, Array.replicate_succ, Array.replicate_zero, List.push_toArray, List.append_toArray, List.nil_append, List.cons_append]
  gi_wp2_with (fail)
  refine ⟨trivial, ?_⟩
  refine (HA.out _ _).mono ?_
  rintro e w' ⟨rfl, rfl⟩
  gi_wp2
  have hbL : Below w.heap.size w ((w.alloc (.cells #[.int .i64 0] 28)).alloc (.cells #[.string s] 9)) := ((Below.refl _ w).alloc (Nat.le_refl _) _).alloc (by simp) _
  have hr0 : ((w.alloc (.cells #[.int .i64 0] 28)).alloc (.cells #[.string s] 9)).heap[w.heap.size]? = some (.cells #[.int .i64 0] 28 (0, 0)) := by
    rw [Below.heap_alloc _ _ _ (by simp)]; exact World.alloc_heap_new _ _
  have hc0 : ((w.alloc (.cells #[.int .i64 0] 28)).alloc (.cells #[.string s] 9)).cell? ⟨w.heap.size + 1, 0, none⟩ = some (.string s) := by
    have := World.alloc_heap_new (w.alloc (.cells #[.int .i64 0] 28)) (.cells #[.string s] 9)
    rw [show (w.alloc (.cells #[.int .i64 0] 28)).heap.size = w.heap.size + 1 by simp] at this
    exact cell_of_one this
  have hszL : w.heap.size + 1 < ((w.alloc (.cells #[.int .i64 0] 28)).alloc (.cells #[.string s] 9)).heap.size := by simp
  generalize (w.alloc (.cells #[.int .i64 0] 28)).alloc (.cells #[.string s] 9) = WL at *
  refine wpIn_rangeFunc_ownH (α := Clu s) (n := 10) (F := Fence.wide) rfl (by omega) rfl trivial (enters_of Tryz.func118 (by kernel_rfl) rfl)
    (clus_stops (10 - 1) (by omega) (w.heap.size + 1) s WL (KeepS (fun b => b = w.heap.size + 1)) (fun A B hk h => hk.cell rfl h) hc0 (by omega)) KeepS.trans
    (fun W _ _ o' _ h hc _ => KeepS.putObj W h hc o') (Below.refl _ _) (fun _ => rfl)
    (fun pre W => (W.heap[w.heap.size]? = some (.cells #[.int .i64 0] 28 (0, 0)) ∧ Below w.heap.size w W) ∧ pre.all (fun x => goodC s x.1) = true)
    (fun c' pre W => c' = .ret ∧ (W.heap[w.heap.size]? = some (.cells #[.int .i64 11] 28 (0, 0)) ∧ Below w.heap.size w W) ∧ pre.all (fun x => goodC s x.1) = false) ?hI ?hIx ⟨⟨hr0, hbL⟩, rfl⟩
    (fun x a' _ => a' = { tmps := #[.string s, undef, .pointer (some ⟨w.heap.size, 0, none⟩), undef, .string (s.extract x.1.1 x.1.2), undef, .string s, .int .i64 (s.size : Int), .bool (decide ((65536 : Int) < (s.size : Int))), .string s, .func (.func 118) #[] #[.pointer (some ⟨w.heap.size + 1, 0, none⟩)], .int .i64 (x.1.1 : Int), .string (s.extract x.1.1 x.1.2), undef, undef, undef, undef, undef, undef, undef, undef, undef], defers := [] }) ?hAx ?assign ?body ?done ?stop
  case hI =>
    rintro pre W W' row ⟨⟨g1, g2⟩, g3⟩ hg hr
    exact ⟨⟨cells_own g1 hg hr, g2.grown hg g2.size (fun r e => by have := (hr r e).1; omega)⟩, g3⟩
  case hIx =>
    rintro c' pre W W' row ⟨g0, ⟨g1, g2⟩, g3⟩ hg hr
    exact ⟨g0, ⟨cells_own g1 hg hr, g2.grown hg g2.size (fun r e => by have := (hr r e).1; omega)⟩, g3⟩
  case hAx =>
    rintro x a' _ W W' row h1 hg hr
    exact h1
  case assign =>
    rintro l0 pre x W K h hK
    have hKx := hK _ W (keepsFrom_below (Below.refl _ _)) (KeepS.refl _ _) h rfl
    dsimp only [cluEnc] at hKx ⊢
    gi_wp2
    exact hKx
  case body =>
    rintro l0 pre x a' W - - ⟨⟨g1, g2⟩, g3⟩ rfl hlt
    obtain ⟨m1, m2⟩ := clu_mem s s.size x.1 x.2
    have c1 := cell_of_one g1
    have f1 : W.frozen? ⟨w.heap.size, 0, none⟩ = false := by simp [World.frozen?, g1]
    have hzz : (s.extract x.1.1 x.1.2).size = x.1.2 - x.1.1 := by simp [ByteArray.size_extract]; omega
    have hz : 0 < (s.extract x.1.1 x.1.2).size := by omega
    have hB : byK (s.extract x.1.1 x.1.2)[0] = bK s x.1.1 := by
      rw [bK_at hz]
      unfold bK
      rw [ext_list, List.getElem?_take, if_pos (by omega), List.getElem?_drop]; rfl
    have hsn : (pre ++ [x]).all (fun x => goodC s x.1) = goodC s x.1 := by rw [List.all_append, g3]; simp
    have HSN := Lib.hid hsn
    have hX : Hid ((W.setCell ⟨w.heap.size, 0, none⟩ (.int .i64 11)).heap[w.heap.size]? = some (.cells #[.int .i64 11] 28 (0, 0)) ∧ Below w.heap.size w (W.setCell ⟨w.heap.size, 0, none⟩ (.int .i64 11))) := ⟨by rw [heap_setCell_self g1]; simp, below_setc g2 (Nat.le_refl _) _ _⟩
    have G1 := Lib.hid g1
    generalize hk : bK s x.1.1 = q at *
    generalize hu : s.extract x.1.1 x.1.2 = u at *
    have hG : goodC s x.1 = (decide (q ≠ 0) && decide (q ≠ 2)) := by rw [← hk]; rfl
    have HG := Lib.hid hG
    have HB : Hid (∀ W, Calls Tryz.prog 93 #[.int .u8 u[0].toNat] W fun e w' => e = .returned (.int .i64 q) ∧ W = w') := fun W => by
      have := kind_any u[0] W
      rwa [hB] at this
    clear hB hk hG hsn g1 m1 m2 hzz hu
    by_cases h0 : q = 0
    · have t0 : ((q : Int) == 0) = true := by simp [h0]
      have HF : Hid (goodC s x.1 = false) := by show _ = _; rw [HG.out, h0]; rfl
      clear h0
      gi_wp2_with (refine ⟨trivial, ?_⟩; refine (callsIn_wide.2 (HB.out _)).mono ?_; rintro e w' ⟨rfl, rfl⟩)
      exact ⟨(KeepsOthers.setCell _ _ _).from _, rfl, hX.out, by rw [HSN.out]; exact HF.out⟩
    · have t0 : ((q : Int) == 0) = false := by simp [h0]
      by_cases h2 : q = 2
      · have t2 : ((q : Int) == 2) = true := by simp [h2]
        have HF : Hid (goodC s x.1 = false) := by show _ = _; rw [HG.out, h2]; rfl
        clear h0 h2
        gi_wp2_with (refine ⟨trivial, ?_⟩; refine (callsIn_wide.2 (HB.out _)).mono ?_; rintro e w' ⟨rfl, rfl⟩)
        exact ⟨(KeepsOthers.setCell _ _ _).from _, rfl, hX.out, by rw [HSN.out]; exact HF.out⟩
      · have t2 : ((q : Int) == 2) = false := by simp [h2]
        have HF : Hid (goodC s x.1 = true) := by show _ = _; rw [HG.out, decide_eq_true h0, decide_eq_true h2]; rfl
        clear h0 h2
        gi_wp2_with (refine ⟨trivial, ?_⟩; refine (callsIn_wide.2 (HB.out _)).mono ?_; rintro e w' ⟨rfl, rfl⟩)
        exact ⟨keepsFrom_below (Below.refl _ _), KeepS.refl _ _, ⟨G1.out, g2⟩, by rw [HSN.out]; exact HF.out⟩
  case done =>
    rintro D ys W hD rfl ⟨⟨g1, g2⟩, g3⟩ hd
    have c1 := cell_of_one g1
    have f1 : W.frozen? ⟨w.heap.size, 0, none⟩ = false := by simp [World.frozen?, g1]
    have hG : Hid (chkS s = 0) := by
      show _ = _
      rw [HE.out, HW.out]
      have : (clus s).all (goodC s) = true := by
        rw [List.all_eq_true] at g3 ⊢
        intro y hy
        exact g3 ⟨y, hy⟩ (List.mem_attach _ _)
      rw [this]; rfl
    have hX : Hid ((W.setCell ⟨w.heap.size, 0, none⟩ (.int .i64 0)).heap[w.heap.size]? = some (.cells #[.int .i64 0] 28 (0, 0)) ∧ Below w.heap.size w (W.setCell ⟨w.heap.size, 0, none⟩ (.int .i64 0)) ∧
        (W.setCell ⟨w.heap.size, 0, none⟩ (.int .i64 0)).heap[D]? = some (.deferred (some []))) := ⟨by rw [heap_setCell_self g1]; simp, below_setc g2 (Nat.le_refl _) _ _, by rw [heap_setCell_other (by omega)]; exact hd⟩
    clear g1 g3 hd
    gi_wp2
    refine leaves_marks (hi := w.heap.size) (by simp) (Φ := fun W => W.heap[w.heap.size]? = some (.cells #[.int .i64 0] 28 (0, 0)) ∧ Below w.heap.size w W) ?_ ?_ _ _ (Marks.one (by omega) hX.out.2.2) ⟨hX.out.1, hX.out.2.1⟩
    · rintro W D ⟨h1, h3⟩ hD hd
      exact ⟨cells_putObj h1 hd rfl _, below_putObj h3 hD hd _⟩
    · rintro W ⟨h1, h3⟩
      have e1 := cell_of_one h1
      refine ⟨_, by simp [results, Tryz.results92, go_sem, e1]; rfl, ?_, h3⟩
      rw [hG.out]
  case stop =>
    rintro D c' pre W hD hpre ⟨rfl, ⟨g1, g2⟩, g3⟩ hd
    have hG : Hid (chkS s = 11) := by
      show _ = _
      rw [HE.out, HW.out]
      have : (clus s).all (goodC s) = false := by
        rw [List.all_eq_false] at g3 ⊢
        obtain ⟨y, hy, hn⟩ := g3
        exact ⟨y.1, y.2, hn⟩
      rw [this]; rfl
    gi_wp2
    refine leaves_marks (hi := w.heap.size) (by simp) (Φ := fun W => W.heap[w.heap.size]? = some (.cells #[.int .i64 11] 28 (0, 0)) ∧ Below w.heap.size w W) ?_ ?_ _ _ (Marks.one (by omega) hd) ⟨g1, g2⟩
    · rintro W D ⟨h1, h3⟩ hD hd
      exact ⟨cells_putObj h1 hd rfl _, below_putObj h3 hD hd _⟩
    · rintro W ⟨h1, h3⟩
      have e1 := cell_of_one h1
      refine ⟨_, by simp [results, Tryz.results92, go_sem, e1]; rfl, ?_, h3⟩
      rw [hG.out]
end Go.Proofs.YtaelfjlmkgimhaaGreatDoor

/- charset.IsWord. -/
namespace Go.Proofs.YtaelfjlmkgimhaaGreatDoor
open Go.RowKit

theorem word1_any (c : UInt8) (w : World) : Calls Tryz.prog 95 #[.int .u8 c.toNat] w fun e w' => e = .returned (.bool (!upB c)) ∧ w = w' := by
  have F := kind_any c w
  have hk := byK_le c
  have hE : upB c = decide (byK c ≤ 4) := rfl
  generalize byK c = k at *
  generalize upB c = b at *
  have HF := Lib.hid F
  clear F
  rcases seven hk with rfl | rfl | rfl | rfl | rfl | rfl | rfl
  all_goals
    simp at hE
    subst hE
    clear hk
    go_enter Tryz.func95, Tryz.ntmps95
    go_wp2_with (go_at_call 93; refine HF.out.mono ?_; rintro e w' ⟨rfl, rfl⟩)
    go_ret
    exact ⟨rfl, rfl⟩
theorem byte_at {s : ByteArray} {j : Nat} (hj : j < s.size) : s.data.toList.getD j 0 = s[j] := by
  have := drop_cons s j hj
  have e : s.data.toList[j]? = (s.data.toList.drop j)[0]? := by simp
  rw [List.getD_eq_getElem?_getD, e, this]; rfl
/-- The bytes of s lie from off on in block b. -/
def BytesAt (w : World) (b off : Nat) (s : ByteArray) : Prop := ∀ j (h : j < s.size), w.cell? ⟨b, off + j, none⟩ = some (.int .u8 s[j].toNat)
set_option maxHeartbeats 400000 in
theorem index_word (s : ByteArray) (b off n c : Nat) (w : World) (hn : n = s.size) (hs : s.size ≤ 1000000) (h : BytesAt w b off s) :
    Calls Tryz.prog 105 #[.slice (some ⟨b, off, none⟩) n c, .func (.func 95) #[] #[]] w fun e w' => ∃ i : Int, e = .returned (.int .i64 i) ∧ decide (0 ≤ i) = !allFrom upB s 0 ∧ w = w' := by
  have HN := Lib.hid hn
  have hn2 : n ≤ 1000000 := by omega
  clear hn
  go_enter Tryz.func105, Tryz.ntmps105
  go_wp2
  go_loop [8] (fun i => ∃ j : Nat, i = .int .i64 j ∧ j ≤ n ∧ Hid (allFrom upB s 0 = allFrom upB s j)) (fun i => n - (intOf i).toNat)
  case atStart => exact ⟨0, rfl, Nat.zero_le _, rfl⟩
  case round =>
    obtain ⟨j, rfl, hj, hx⟩ := hrel
    by_cases hlj : j < n
    · have hjs : j < s.size := by rw [← HN.out]; exact hlj
      have c1 := h j hjs
      have HS := Lib.hid (allFrom_step (p := upB) hjs)
      have HF : Hid (∀ w, Calls Tryz.prog 95 #[.int .u8 s[j].toNat] w fun e w' => e = .returned (.bool (!upB s[j])) ∧ w = w') := fun w => word1_any _ w
      generalize upB s[j] = G at *
      cases G with
      | false =>
        go_wp2_with (go_at_call 95; refine (HF.out _).mono ?_; rintro e w' ⟨rfl, rfl⟩)
        go_ret
        exact ⟨j, by first | rfl | go_num, by rw [hx.out, HS.out]; simp, rfl⟩
      | true =>
        have HN2 : Hid (allFrom upB s 0 = allFrom upB s (j + 1)) := by show _ = _; rw [hx.out, HS.out]; rfl
        go_wp2_with (go_at_call 95; refine (HF.out _).mono ?_; rintro e w' ⟨rfl, rfl⟩)
        go_round
        case rel => exact ⟨j + 1, by go_num, by omega, HN2.out⟩
        case measure => simp [intOf]; omega
    · have HT : Hid (allFrom upB s 0 = true) := by show _ = _; rw [hx.out]; exact allFrom_end (by rw [← HN.out]; omega)
      go_wp2
      go_ret
      exact ⟨-1, rfl, by rw [HT.out]; rfl, rfl⟩
theorem contains_word (s : ByteArray) (b off n c : Nat) (w : World) (hn : n = s.size) (hs : s.size ≤ 1000000) (h : BytesAt w b off s) :
    Calls Tryz.prog 94 #[.slice (some ⟨b, off, none⟩) n c, .func (.func 95) #[] #[]] w fun e w' => e = .returned (.bool (!allFrom upB s 0)) ∧ w = w' := by
  have F := Lib.hid (index_word s b off n c w hn hs h)
  generalize allFrom upB s 0 = R at *
  clear h hn
  go_enter Tryz.func94, Tryz.ntmps94
  go_wp2_with (go_at_call 105; refine F.out.mono ?_; rintro e w' ⟨i, rfl, hi, rfl⟩)
  go_ret
  exact ⟨by rw [← hi]; simp, rfl⟩
set_option maxHeartbeats 1000000 in
theorem isWord_any (s : ByteArray) (w : World) : Calls Tryz.prog 74 #[.string s] w fun e w' => e = .returned (.bool (isWordP s)) ∧ Below w.heap.size w w' := by
  have HE := Lib.hid (isWordP_eq s)
  generalize isWordP s = R at *
  by_cases h1 : s.size = 0
  · have d0 := isEmpty_yes h1
    have d1 := toList_nil.2 h1
    have HR : Hid (R = false) := by show _ = _; rw [HE.out, decide_eq_false (by omega)]; rfl
    clear h1
    go_enter Tryz.func74, Tryz.ntmps74
    go_wp2
    go_ret
    exact ⟨ret_bool HR.out.symm, Below.refl _ _⟩
  · have d0 := isEmpty_no h1
    have d1 : ¬ s.toList = [] := fun h => h1 (toList_nil.1 h)
    by_cases h64 : 64 < s.size
    · have HR : Hid (R = false) := by show _ = _; rw [HE.out, decide_eq_false (by omega)]; rfl
      clear h1
      go_enter Tryz.func74, Tryz.ntmps74
      go_wp2
      go_ret
      exact ⟨ret_bool HR.out.symm, Below.refl _ _⟩
    · have hlt : 0 < s.size := by omega
      have hk := byK_le s[0]
      have e0 := bK_at hlt
      have HH : Hid (headOk s.data.toList = (decide (byK s[0] = 1) || decide (byK s[0] = 3))) := by show _ = _; rw [headOk_at hlt, e0]
      have HF := Lib.hid (checkS_any s w (by omega))
      have HC := Lib.hid (chkS_small (s := s) (by omega))
      have HG : Hid (∀ w, Calls Tryz.prog 93 #[.int .u8 s[0].toNat] w fun e w' => e = .returned (.int .i64 (byK s[0])) ∧ w = w') := fun w => kind_any _ w
      have HD : Hid (decide (1 ≤ s.size ∧ s.size ≤ 64) = true) := decide_eq_true (by omega)
      generalize chkS s = C at *
      clear e0 h1
      cases hw : wordGo false s.data.toList with
      | false =>
        have HR : Hid (R = false) := by show _ = _; rw [HE.out, hw]; simp
        obtain rfl : C = 11 := by rw [HC.out, hw]; rfl
        clear hw
        go_enter Tryz.func74, Tryz.ntmps74
        go_wp2_with (go_at_call 92; refine HF.out.mono ?_; rintro e w1 ⟨rfl, hb1⟩)
        go_ret
        exact ⟨ret_bool HR.out.symm, hb1⟩
      | true =>
        have HR : Hid (R = (headOk s.data.toList && allFrom upB s 0)) := by show _ = _; rw [HE.out, hw, HD.out]; simp
        obtain rfl : C = 0 := by rw [HC.out, hw]; rfl
        clear hw HE
        generalize headOk s.data.toList = H at *
        by_cases ho : byK s[0] = 1 ∨ byK s[0] = 3
        · have HRR : Hid (R = allFrom upB s 0) := by
            show _ = _; rw [HR.out, HH.out]
            rcases ho with e | e <;> simp [e]
          clear HR HH
          have tt : ((byK s[0] : Int) != 1) = false ∨ (((byK s[0] : Int) != 1) = true ∧ ((byK s[0] : Int) != 3) = false) := by
            rcases ho with e | e
            · left; simp [e]
            · right; rw [e]; exact ⟨rfl, rfl⟩
          clear ho hk
          rcases tt with t1 | ⟨t1, t2⟩
          all_goals
            go_enter Tryz.func74, Tryz.ntmps74
            go_wp2_with fail
            refine HF.out.mono ?_
            rintro e w1 ⟨rfl, hb1⟩
            go_wp2_with fail
            refine (HG.out _).mono ?_
            rintro e w' ⟨rfl, rfl⟩
            have hcv := Lib.run_convert_string_bytes (P := Tryz.prog) w1 9 126 5 s (u := .string) Tryz.underlying9 Tryz.underlying126 Tryz.underlying5
            have hbw : Below w1.heap.size w1 (Lib.bytesWorld w1 5 s) := Lib.bytesWorld_below w1 _ s
            have hat : BytesAt (Lib.bytesWorld w1 5 s) w1.heap.size 0 s := fun j hj => by
              rw [Nat.zero_add, Lib.bytesWorld_cell _ _ _ _ hj, byte_at hj]
            have hz : s.size ≤ 1000000 := by omega
            generalize Lib.bytesWorld w1 5 s = w2 at *
            generalize grownCap w1 s.size 0 5 = gc at *
            have HC2 := Lib.hid (contains_word s w1.heap.size 0 s.size gc w2 rfl hz hat)
            generalize allFrom upB s 0 = Q at *
            clear hat
            go_wp2_with (go_at_call 94; refine HC2.out.mono ?_; rintro e w' ⟨rfl, rfl⟩)
            go_ret
            exact ⟨ret_bool HRR.out.symm, hb1.trans (hbw.mono hb1.size)⟩
        · have HB : Hid (R = false) := by
            show _ = _; rw [HR.out, HH.out, decide_eq_false (fun e => ho (.inl e)), decide_eq_false (fun e => ho (.inr e))]; rfl
          have t1 : ((byK s[0] : Int) != 1) = true := by simp; exact fun e => ho (.inl e)
          have t2 : ((byK s[0] : Int) != 3) = true := by simp; exact fun e => ho (.inr e)
          clear ho hk HR HH
          go_enter Tryz.func74, Tryz.ntmps74
          go_wp2_with (first | (go_at_call 92; refine HF.out.mono ?_; rintro e w1 ⟨rfl, hb1⟩) | (go_at_call 93; refine (HG.out _).mono ?_; rintro e w' ⟨rfl, rfl⟩))
          go_ret
          exact ⟨ret_bool HB.out.symm, hb1⟩
end Go.Proofs.YtaelfjlmkgimhaaGreatDoor

/- The text of a gap: the program. -/
namespace Go.Proofs.YtaelfjlmkgimhaaGreatDoor
open Go.RowKit

theorem itoa_nat (m : Nat) : Lib.itoa (m : Int) = Lib.decDigits m := by
  unfold Lib.itoa
  rw [if_neg (by omega)]; rfl
theorem gap_parts {s : ByteArray} {m : Nat} (hm : m ≤ 64) (h : s = gapT m) : 3 ≤ s.size ∧ s.data.toList.head? = some 91 ∧ s.data.toList.getLast? = some 93 ∧ (s.extract 1 (s.size - 1)).data.toList = Lib.decDigits m ∧
    atoiOk (s.extract 1 (s.size - 1)).data.toList = true ∧ atoiN (s.extract 1 (s.size - 1)).data.toList = m := by
  have hl := gapT_list m
  rw [← h] at hl
  have hz : s.size = (Lib.decDigits m).length + 2 := by
    have := congrArg List.length hl
    rw [Array.length_toList] at this
    simp at this; exact this
  have hp : 1 ≤ (Lib.decDigits m).length := by rw [Lib.decDigits_length]; exact Lib.nDigits_pos m
  have he : (s.extract 1 (s.size - 1)).data.toList = Lib.decDigits m := by
    rw [ext_list, hl, hz]
    simp
  have h64 : I64 (m : Int) := ⟨by omega, by omega⟩
  refine ⟨by omega, by rw [hl]; rfl, by rw [hl]; simp [List.getLast?_cons], he, ?_, ?_⟩
  · rw [he, ← itoa_nat]; exact atoiOk_itoa _ h64
  · rw [he, ← itoa_nat]; exact atoiN_itoa _ h64
theorem head_at {s : ByteArray} (h : 0 < s.size) : s.data.toList.head? = some s[0] := by
  have := drop_cons s 0 h
  rw [List.drop_zero] at this
  rw [this]; rfl
theorem u8_beq {c d : UInt8} : ((c.toNat : Int) != (d.toNat : Int)) = decide (c ≠ d) := by
  rw [Bool.eq_iff_iff, bne_iff_ne, decide_eq_true_eq]
  constructor
  · intro h e; exact h (by rw [e])
  · intro h e; exact h (UInt8.toNat_inj.1 (by omega))
set_option maxHeartbeats 1000000 in
theorem gap_any (s : ByteArray) (w : World) (hs : s.size ≤ 1000000) (hE : Env w) : Calls Tryz.prog 75 #[.string s] w fun e w' => e = .returned (.bool (gapP s)) ∧ Below w.heap.size w w' := by
  have HP : Hid (∀ n, 1 ≤ n → n ≤ 64 → s = gapT n → gapP s = true) := fun n h1 h2 h3 => gapP_iff.2 ⟨n, h1, h2, h3⟩
  have HN : Hid ((∀ n, 1 ≤ n → n ≤ 64 → s ≠ gapT n) → gapP s = false) := fun h => by
    cases e : gapP s with
    | false => rfl
    | true => obtain ⟨n, h1, h2, h3⟩ := gapP_iff.1 e; exact absurd h3 (h n h1 h2)
  generalize gapP s = R at *
  by_cases h3 : s.size < 3
  · have HR : Hid (R = false) := HN.out fun n _ h2 h => by have := (gap_parts h2 h).1; omega
    go_enter Tryz.func75, Tryz.ntmps75
    go_wp2
    go_ret
    exact ⟨ret_bool HR.out.symm, Below.refl _ _⟩
  · have hlt : 0 < s.size := by omega
    have hlt2 : s.size - 1 < s.size := by omega
    have i1 : (1 : Int) ≤ (s.size : Int) := by omega
    have i2 : (0 : Int) ≤ (s.size : Int) - 1 := by omega
    have i3 : ((s.size : Int) - 1).toNat = s.size - 1 := by omega
    have i4 : (1 : Int) ≤ (s.size : Int) - 1 := by omega
    have hh := head_at hlt
    have hl := last_at hlt2
    by_cases h91 : s[0] = 91
    · have b1 : ((s[0].toNat : Int) != 91) = false := by have := u8_beq (c := s[0]) (d := 91); rw [show (((91 : UInt8).toNat : Nat) : Int) = 91 from rfl] at this; rw [this]; simpa using h91
      by_cases h93 : s[s.size - 1] = 93
      · have b2 : ((s[s.size - 1].toNat : Int) != 93) = false := by have := u8_beq (c := s[s.size - 1]) (d := 93); rw [show (((93 : UInt8).toNat : Nat) : Int) = 93 from rfl] at this; rw [this]; simpa using h93
        have HK : Hid (∀ m : Nat, m ≤ 64 → s = gapT m → atoiOk (s.extract 1 (s.size - 1)).data.toList = true ∧ atoiN (s.extract 1 (s.size - 1)).data.toList = m) := fun m hm h => by
          obtain ⟨_, _, _, _, h5, h6⟩ := gap_parts hm h; exact ⟨h5, h6⟩
        have hF := atoi_any (s.extract 1 (s.size - 1)) (by have : (s.extract 1 (s.size - 1)).size ≤ s.size := by simp [ByteArray.size_extract]; omega
                                                           omega) w hE
        generalize hu : (s.extract 1 (s.size - 1)).data.toList = U at *
        have HF := Lib.hid hF
        clear hF hu hh hl h91 h93
        by_cases hok : atoiOk U = true
        · generalize hn : atoiN U = n at *
          by_cases hr : 1 ≤ n ∧ n ≤ 64
          · obtain ⟨m, rfl⟩ : ∃ m : Nat, n = (m : Int) := ⟨n.toNat, by omega⟩
            have hm1 : 1 ≤ m := by omega
            have hm2 : m ≤ 64 := by omega
            have HI : Hid (∀ w, Calls Tryz.prog 59 #[.int .i64 (m : Int)] w fun e w' => e = .returned (.string ⟨(Lib.decDigits m).toArray⟩) ∧ w' = w) := fun w => Tryz.strconv_Itoa_small m (by omega) w
            have hsum : (⟨#[91]⟩ : ByteArray) ++ (⟨(Lib.decDigits m).toArray⟩ : ByteArray) ++ (⟨#[93]⟩ : ByteArray) = gapT m := add_gap _
            have hd : (Lib.decDigits m).length ≤ 20 := by
              rw [Lib.decDigits_length]; exact Lib.nDigits_le20 m (by omega)
            by_cases he : s = gapT m
            · have b3 : (s.toList == ((⟨#[91]⟩ : ByteArray) ++ (⟨(Lib.decDigits m).toArray⟩ : ByteArray) ++ (⟨#[93]⟩ : ByteArray)).toList) = true := str_yes (he.trans hsum.symm)
              have HR := Lib.hid (HP.out m hm1 hm2 he)
              have HOK := Lib.hid hok
              clear hsum he hr hn hok
              go_enter Tryz.func75, Tryz.ntmps75
              go_wp2_with (first | (go_at_call 59; refine (HI.out _).mono ?_; rintro e w' ⟨rfl, rfl⟩) | (go_at_call 96; refine HF.out.mono ?_; rintro e w1 ⟨er, rfl, he, hb1⟩; rcases he with ⟨-, rfl⟩ | ⟨he, -⟩; rotate_left; exact absurd (HOK.out.symm.trans he) (by decide)))
              go_ret
              exact ⟨ret_bool HR.out.symm, hb1⟩
            · have b3 : (s.toList == ((⟨#[91]⟩ : ByteArray) ++ (⟨(Lib.decDigits m).toArray⟩ : ByteArray) ++ (⟨#[93]⟩ : ByteArray)).toList) = false := str_no (fun e => he (e.trans hsum))
              have HR : Hid (R = false) := HN.out fun k _ h2 h => by
                have h9 := (HK.out k h2 h).2
                have : k = m := by omega
                exact he (this ▸ h)
              have HOK := Lib.hid hok
              clear hsum he hr hn hok
              go_enter Tryz.func75, Tryz.ntmps75
              go_wp2_with (first | (go_at_call 59; refine (HI.out _).mono ?_; rintro e w' ⟨rfl, rfl⟩) | (go_at_call 96; refine HF.out.mono ?_; rintro e w1 ⟨er, rfl, he, hb1⟩; rcases he with ⟨-, rfl⟩ | ⟨he, -⟩; rotate_left; exact absurd (HOK.out.symm.trans he) (by decide)))
              go_ret
              exact ⟨ret_bool HR.out.symm, hb1⟩
          · have HR : Hid (R = false) := HN.out fun k h1 h2 h => by
              have h9 := (HK.out k h2 h).2
              exact hr ⟨by omega, by omega⟩
            have HOK := Lib.hid hok
            have hrr : n < 1 ∨ (1 ≤ n ∧ 64 < n) := by omega
            clear hr hn hok
            rcases hrr with hrr | ⟨hr1, hr2⟩
            all_goals
              go_enter Tryz.func75, Tryz.ntmps75
              go_wp2_with (go_at_call 96; refine HF.out.mono ?_; rintro e w1 ⟨er, rfl, he, hb1⟩; rcases he with ⟨-, rfl⟩ | ⟨he, -⟩; rotate_left; exact absurd (HOK.out.symm.trans he) (by decide))
              go_ret
              exact ⟨ret_bool HR.out.symm, hb1⟩
        · have HR : Hid (R = false) := HN.out fun k _ h2 h => hok (HK.out k h2 h).1
          have HOK : Hid (atoiOk U = false) := by show _ = _; simpa using hok
          clear hok
          generalize atoiN U = n at *
          go_enter Tryz.func75, Tryz.ntmps75
          go_wp2_with (go_at_call 96; refine HF.out.mono ?_; rintro e w1 ⟨er, rfl, he, hb1⟩; rcases he with ⟨he, -⟩ | ⟨-, pp, rfl⟩; exact absurd (HOK.out.symm.trans he) (by decide))
          go_ret
          exact ⟨ret_bool HR.out.symm, hb1⟩
      · have b2 : ((s[s.size - 1].toNat : Int) != 93) = true := by have := u8_beq (c := s[s.size - 1]) (d := 93); rw [show (((93 : UInt8).toNat : Nat) : Int) = 93 from rfl] at this; rw [this]; simpa using h93
        have HR : Hid (R = false) := HN.out fun n _ h2 h => by
          have := (gap_parts h2 h).2.2.1
          rw [hl] at this
          exact h93 (Option.some.inj this)
        clear hh hl h91 h93
        go_enter Tryz.func75, Tryz.ntmps75
        go_wp2
        go_ret
        exact ⟨ret_bool HR.out.symm, Below.refl _ _⟩
    · have b1 : ((s[0].toNat : Int) != 91) = true := by have := u8_beq (c := s[0]) (d := 91); rw [show (((91 : UInt8).toNat : Nat) : Int) = 91 from rfl] at this; rw [this]; simpa using h91
      have HR : Hid (R = false) := HN.out fun n _ h2 h => by
        have := (gap_parts h2 h).2.1
        rw [hh] at this
        exact h91 (Option.some.inj this)
      clear hh hl h91
      go_enter Tryz.func75, Tryz.ntmps75
      go_wp2
      go_ret
      exact ⟨ret_bool HR.out.symm, Below.refl _ _⟩
end Go.Proofs.YtaelfjlmkgimhaaGreatDoor

/- Check of a token: the program. -/
namespace Go.Proofs.YtaelfjlmkgimhaaGreatDoor
open Go.RowKit

theorem flag_bits {f : Int} (h0 : 0 ≤ f) (h1 : f ≤ 31) : (bits BinOp.and IntKind.i64 f 10 == 0) = (!(decide (f / 2 % 2 = 1)) && !(decide (f / 8 % 2 = 1))) ∧ (bits BinOp.and IntKind.i64 f 2 != 0) = decide (f / 2 % 2 = 1) ∧ (bits BinOp.and IntKind.i64 f 8 != 0) = decide (f / 8 % 2 = 1) := by
  have key : ∀ n : Fin 32, (bits BinOp.and IntKind.i64 (n.val : Int) 10 == 0) = (!(decide ((n.val : Int) / 2 % 2 = 1)) && !(decide ((n.val : Int) / 8 % 2 = 1))) ∧ (bits BinOp.and IntKind.i64 (n.val : Int) 2 != 0) = decide ((n.val : Int) / 2 % 2 = 1) ∧ (bits BinOp.and IntKind.i64 (n.val : Int) 8 != 0) = decide ((n.val : Int) / 8 % 2 = 1) := by decide +kernel
  obtain ⟨n, rfl⟩ : ∃ n : Nat, f = (n : Int) := ⟨f.toNat, by omega⟩
  exact key ⟨n, by omega⟩
set_option maxRecDepth 100000 in
set_option maxHeartbeats 1000000 in
theorem tokIsWord_any (tx nm pg na : ByteArray) (ln fl : Int) (w : World) (h0 : 0 ≤ fl) (h1 : fl ≤ 31) :
    Calls Tryz.prog 77 #[.agg #[.string tx, .string nm, .string pg, .int .i64 ln, .int .i64 fl, .string na]] w fun e w' => e = .returned (.bool (!(decide (fl / 2 % 2 = 1)) && !(decide (fl / 8 % 2 = 1)))) ∧ Below w.heap.size w w' := by
  have HF := Lib.hid (flag_bits h0 h1).1
  go_enter Tryz.func77, Tryz.ntmps77
  go_wp2
  go_ret
  exact ⟨ret_bool HF.out, (Below.refl _ _).alloc (Nat.le_refl _) _⟩
theorem ba_toList {s t : ByteArray} : s.toList = t.toList ↔ s = t :=
  ⟨fun e => by rw [ByteArray.toList_eq, ByteArray.toList_eq] at e; exact ba_ext e, fun e => by rw [e]⟩
theorem belowH {B : Nat} {A W w' : World} (h : Hid (A.heap.size ≤ W.heap.size ∧ Below B A W)) (hb : Below W.heap.size W w') (hB : B = A.heap.size := by rfl) : Hid (A.heap.size ≤ w'.heap.size ∧ Below B A w') := by
  have h' := h.out
  exact ⟨Nat.le_trans h'.1 hb.size, h'.2.trans (hb.mono (by rw [hB]; exact h'.1))⟩
set_option maxRecDepth 100000 in
set_option maxHeartbeats 4000000 in
theorem tok_any (tx nm pg na : ByteArray) (ln fl : Int) (w : World) (hs : tx.size ≤ 1000000 ∧ nm.size ≤ 1000000) (hE : Env w) :
    Calls Tryz.prog 54 #[.agg #[.string tx, .string nm, .string pg, .int .i64 ln, .int .i64 fl, .string na]] w fun e w' => e = .returned (.int .i64 (Tok.err ⟨tx, nm, pg, ln, fl, na⟩)) ∧ Below w.heap.size w w' := by
  have HE := Lib.hid hE
  clear hE
  have HB : Hid (w.heap.size ≤ (w.alloc (.cells #[.string tx, .string nm, .string pg, .int .i64 ln, .int .i64 fl, .string na] 47)).heap.size ∧ Below w.heap.size w (w.alloc (.cells #[.string tx, .string nm, .string pg, .int .i64 ln, .int .i64 fl, .string na] 47))) := ⟨by simp, (Below.refl _ _).alloc (Nat.le_refl _) _⟩
  have c0 : (w.alloc (.cells #[.string tx, .string nm, .string pg, .int .i64 ln, .int .i64 fl, .string na] 47)).cell? ⟨w.heap.size, 0, none⟩ = some (.string tx) := by rw [World.cell?_alloc_at _ _ _ _ rfl]; rfl
  have c1 : (w.alloc (.cells #[.string tx, .string nm, .string pg, .int .i64 ln, .int .i64 fl, .string na] 47)).cell? ⟨w.heap.size, 1, none⟩ = some (.string nm) := by rw [World.cell?_alloc_at _ _ _ _ rfl]; rfl
  have c2 : (w.alloc (.cells #[.string tx, .string nm, .string pg, .int .i64 ln, .int .i64 fl, .string na] 47)).cell? ⟨w.heap.size, 2, none⟩ = some (.string pg) := by rw [World.cell?_alloc_at _ _ _ _ rfl]; rfl
  have c3 : (w.alloc (.cells #[.string tx, .string nm, .string pg, .int .i64 ln, .int .i64 fl, .string na] 47)).cell? ⟨w.heap.size, 3, none⟩ = some (.int .i64 ln) := by rw [World.cell?_alloc_at _ _ _ _ rfl]; rfl
  have c4 : (w.alloc (.cells #[.string tx, .string nm, .string pg, .int .i64 ln, .int .i64 fl, .string na] 47)).cell? ⟨w.heap.size, 4, none⟩ = some (.int .i64 fl) := by rw [World.cell?_alloc_at _ _ _ _ rfl]; rfl
  have c5 : (w.alloc (.cells #[.string tx, .string nm, .string pg, .int .i64 ln, .int .i64 fl, .string na] 47)).cell? ⟨w.heap.size, 5, none⟩ = some (.string na) := by rw [World.cell?_alloc_at _ _ _ _ rfl]; rfl
  by_cases hr : fl < 0 ∨ 31 < fl
  · have HR : Hid (Tok.err ⟨tx, nm, pg, ln, fl, na⟩ = 2) := by show _ = _; unfold Tok.err; rw [if_pos hr]
    generalize Tok.err ⟨tx, nm, pg, ln, fl, na⟩ = R at *
    clear c0 c1 c2 c3 c4 c5
    rcases hr with hr | hr
    all_goals
      go_enter Tryz.func54, Tryz.ntmps54
      go_wp2
      go_ret
      exact ⟨ret_int HR.out.symm, HB.out.2⟩
  · have h0 : 0 ≤ fl := by omega
    have h1 : fl ≤ 31 := by omega
    obtain ⟨f1, f2, f3⟩ := flag_bits h0 h1
    have HI : Hid (∀ W, Calls Tryz.prog 77 #[.agg #[.string tx, .string nm, .string pg, .int .i64 ln, .int .i64 fl, .string na]] W fun e w' => e = .returned (.bool (!(decide (fl / 2 % 2 = 1)) && !(decide (fl / 8 % 2 = 1)))) ∧ Below W.heap.size W w') := fun W => tokIsWord_any tx nm pg na ln fl W h0 h1
    have HT : Hid (Tok.err ⟨tx, nm, pg, ln, fl, na⟩ = if (decide (fl / 2 % 2 = 1) && decide (fl / 8 % 2 = 1)) = true then 8 else if (!(if decide (fl / 2 % 2 = 1) = true then gapP tx && decide (nm = tx) else if decide (fl / 8 % 2 = 1) = true then markP tx && decide (nm = tx) else isWordP tx && normP nm)) = true then 11 else if ln < 0 then 2 else if (!(namedP pg) || !(namedP na)) = true then 14 else 0) := by
      show _ = _; unfold Tok.err; rw [if_neg hr]; rfl
    generalize Tok.err ⟨tx, nm, pg, ln, fl, na⟩ = R at *
    generalize decide (fl / 2 % 2 = 1) = G at *
    generalize decide (fl / 8 % 2 = 1) = P at *
    have HF := Lib.hid f1
    clear f1 hr
    go_enter Tryz.func54, Tryz.ntmps54
    go_wp2
    generalize w.alloc (.cells #[.string tx, .string nm, .string pg, .int .i64 ln, .int .i64 fl, .string na] 47) = W1 at *
    go_quiet (fail)
    rename_i nq
    have hb' : Below W1.heap.size W1 (W1.drewN nq) := below_drewN (Below.refl _ _) nq
    replace HB := belowH HB hb'; have c0 := cell_later hb' c0; have c1 := cell_later hb' c1; have c2 := cell_later hb' c2; have c3 := cell_later hb' c3; have c4 := cell_later hb' c4; have c5 := cell_later hb' c5; clear hb'
    generalize W1.drewN nq = W2 at *
    cases G
    · cases P
      · go_wp2_with (first | (go_at_call 77; refine (HI.out _).mono ?_; rintro e w' ⟨rfl, hb'⟩; replace HB := belowH HB hb'; have c0 := cell_later hb' c0; have c1 := cell_later hb' c1; have c2 := cell_later hb' c2; have c3 := cell_later hb' c3; have c4 := cell_later hb' c4; have c5 := cell_later hb' c5; clear hb') | (go_at_call 75; refine (gap_any tx _ hs.1 (HE.out.below HB.out.2)).mono ?_; rintro e w' ⟨rfl, hb'⟩; replace HB := belowH HB hb'; have c0 := cell_later hb' c0; have c1 := cell_later hb' c1; have c2 := cell_later hb' c2; have c3 := cell_later hb' c3; have c4 := cell_later hb' c4; have c5 := cell_later hb' c5; clear hb') | (go_at_call 74; refine (isWord_any tx _).mono ?_; rintro e w' ⟨rfl, hb'⟩; replace HB := belowH HB hb'; have c0 := cell_later hb' c0; have c1 := cell_later hb' c1; have c2 := cell_later hb' c2; have c3 := cell_later hb' c3; have c4 := cell_later hb' c4; have c5 := cell_later hb' c5; clear hb') | (go_at_call 76; refine (mark_any tx _).mono ?_; rintro e w' ⟨rfl, rfl⟩) | (go_at_call 78; refine (norm_any nm _ hs.2).mono ?_; rintro e w' ⟨rfl, rfl⟩) | (go_at_call 79; refine (named_any _ _).mono ?_; rintro e w' ⟨rfl, rfl⟩))
        all_goals
          go_ret
          refine ⟨ret_int ?_, HB.out.2⟩
          rw [HT.out]
          simp_all [ba_toList]
      · go_wp2_with (first | (go_at_call 77; refine (HI.out _).mono ?_; rintro e w' ⟨rfl, hb'⟩; replace HB := belowH HB hb'; have c0 := cell_later hb' c0; have c1 := cell_later hb' c1; have c2 := cell_later hb' c2; have c3 := cell_later hb' c3; have c4 := cell_later hb' c4; have c5 := cell_later hb' c5; clear hb') | (go_at_call 75; refine (gap_any tx _ hs.1 (HE.out.below HB.out.2)).mono ?_; rintro e w' ⟨rfl, hb'⟩; replace HB := belowH HB hb'; have c0 := cell_later hb' c0; have c1 := cell_later hb' c1; have c2 := cell_later hb' c2; have c3 := cell_later hb' c3; have c4 := cell_later hb' c4; have c5 := cell_later hb' c5; clear hb') | (go_at_call 74; refine (isWord_any tx _).mono ?_; rintro e w' ⟨rfl, hb'⟩; replace HB := belowH HB hb'; have c0 := cell_later hb' c0; have c1 := cell_later hb' c1; have c2 := cell_later hb' c2; have c3 := cell_later hb' c3; have c4 := cell_later hb' c4; have c5 := cell_later hb' c5; clear hb') | (go_at_call 76; refine (mark_any tx _).mono ?_; rintro e w' ⟨rfl, rfl⟩) | (go_at_call 78; refine (norm_any nm _ hs.2).mono ?_; rintro e w' ⟨rfl, rfl⟩) | (go_at_call 79; refine (named_any _ _).mono ?_; rintro e w' ⟨rfl, rfl⟩))
        all_goals
          go_ret
          refine ⟨ret_int ?_, HB.out.2⟩
          rw [HT.out]
          simp_all [ba_toList]
    · cases P
      · go_wp2_with (first | (go_at_call 77; refine (HI.out _).mono ?_; rintro e w' ⟨rfl, hb'⟩; replace HB := belowH HB hb'; have c0 := cell_later hb' c0; have c1 := cell_later hb' c1; have c2 := cell_later hb' c2; have c3 := cell_later hb' c3; have c4 := cell_later hb' c4; have c5 := cell_later hb' c5; clear hb') | (go_at_call 75; refine (gap_any tx _ hs.1 (HE.out.below HB.out.2)).mono ?_; rintro e w' ⟨rfl, hb'⟩; replace HB := belowH HB hb'; have c0 := cell_later hb' c0; have c1 := cell_later hb' c1; have c2 := cell_later hb' c2; have c3 := cell_later hb' c3; have c4 := cell_later hb' c4; have c5 := cell_later hb' c5; clear hb') | (go_at_call 74; refine (isWord_any tx _).mono ?_; rintro e w' ⟨rfl, hb'⟩; replace HB := belowH HB hb'; have c0 := cell_later hb' c0; have c1 := cell_later hb' c1; have c2 := cell_later hb' c2; have c3 := cell_later hb' c3; have c4 := cell_later hb' c4; have c5 := cell_later hb' c5; clear hb') | (go_at_call 76; refine (mark_any tx _).mono ?_; rintro e w' ⟨rfl, rfl⟩) | (go_at_call 78; refine (norm_any nm _ hs.2).mono ?_; rintro e w' ⟨rfl, rfl⟩) | (go_at_call 79; refine (named_any _ _).mono ?_; rintro e w' ⟨rfl, rfl⟩))
        all_goals
          go_ret
          refine ⟨ret_int ?_, HB.out.2⟩
          rw [HT.out]
          simp_all [ba_toList]
      · go_wp2_with (first | (go_at_call 77; refine (HI.out _).mono ?_; rintro e w' ⟨rfl, hb'⟩; replace HB := belowH HB hb'; have c0 := cell_later hb' c0; have c1 := cell_later hb' c1; have c2 := cell_later hb' c2; have c3 := cell_later hb' c3; have c4 := cell_later hb' c4; have c5 := cell_later hb' c5; clear hb') | (go_at_call 75; refine (gap_any tx _ hs.1 (HE.out.below HB.out.2)).mono ?_; rintro e w' ⟨rfl, hb'⟩; replace HB := belowH HB hb'; have c0 := cell_later hb' c0; have c1 := cell_later hb' c1; have c2 := cell_later hb' c2; have c3 := cell_later hb' c3; have c4 := cell_later hb' c4; have c5 := cell_later hb' c5; clear hb') | (go_at_call 74; refine (isWord_any tx _).mono ?_; rintro e w' ⟨rfl, hb'⟩; replace HB := belowH HB hb'; have c0 := cell_later hb' c0; have c1 := cell_later hb' c1; have c2 := cell_later hb' c2; have c3 := cell_later hb' c3; have c4 := cell_later hb' c4; have c5 := cell_later hb' c5; clear hb') | (go_at_call 76; refine (mark_any tx _).mono ?_; rintro e w' ⟨rfl, rfl⟩) | (go_at_call 78; refine (norm_any nm _ hs.2).mono ?_; rintro e w' ⟨rfl, rfl⟩) | (go_at_call 79; refine (named_any _ _).mono ?_; rintro e w' ⟨rfl, rfl⟩))
        all_goals
          go_ret
          refine ⟨ret_int ?_, HB.out.2⟩
          rw [HT.out]
          simp_all [ba_toList]
end Go.Proofs.YtaelfjlmkgimhaaGreatDoor
