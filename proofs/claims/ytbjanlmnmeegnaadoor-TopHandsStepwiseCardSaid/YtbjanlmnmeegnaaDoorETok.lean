/- charset.Check, charset.IsWord. -/
import Derived.Test.YtbjanlmnmeegnaaDoorERef02
import Derived.Test.YtbjanlmnmeegnaaDoorEGap
import Derived.Deep.QuietTactic
import Derived.BigQuiet
set_option linter.unusedVariables false
set_option linter.unusedSimpArgs false
namespace Go.Proofs.YtbjanlmnmeegnaaDoor
open Go.RowKit Go.Shelf
attribute [local go_sem] Oper.semAt_some

theorem clusters_in (m : Nat) (w : World) (s : ByteArray) : CallsIn Fence.wide m Tryd.prog 31 #[.string s] w fun e w' => e = .returned (.func (.func 43) #[] #[.pointer (some ⟨w.heap.size, 0, none⟩)]) ∧ w' = w.alloc (.cells #[.string s] 9) := by
  refine callsIn_of_wp Tryd.func31 rfl trivial ?_ rfl
  simp only [Tryd.ntmps31, List.size_toArray, List.length_cons, List.length_nil, Nat.reduceAdd, Nat.reduceSub, Array.replicate_succ, Array.replicate_zero, List.push_toArray, List.append_toArray, List.nil_append, List.cons_append]
  gi_wp2
  go_ret
  exact ⟨rfl, rfl⟩
/-- A cluster whose first character may stand there. -/
def goodC (s : ByteArray) (x : Nat × Nat) : Bool := decide (bK s x.1 ≠ 0) && decide (bK s x.1 ≠ 2)
theorem clu_word (s : ByteArray) : ∀ k, k < s.size → wordGo false s.data.toList = ((cluTo s k).1.all (goodC s) && (goodC s ((cluTo s k).2, 0) && wordGo (decide (bK s (cluTo s k).2 = 1)) (s.data.toList.drop (k + 1))))
  | 0, h => by
    have := drop_cons s 0 h
    rw [List.drop_zero] at this
    conv => lhs; rw [this]
    rw [wordGo, bK_at h]
    simp only [cluTo, List.all_nil, Bool.true_and, goodC]
    by_cases e2 : bK s 0 = 2
    · rw [if_pos e2]; simp [e2]
    · by_cases e0 : bK s 0 = 0
      · rw [if_neg e2, if_pos e0]; simp [e0]
      · rw [if_neg e2, if_neg e0]
        by_cases e1 : bK s 0 = 1 <;> simp [e0, e2, e1]
  | k + 1, h => by
    rw [clu_word s k (by omega), drop_cons s (k + 1) h, wordGo, bK_at h]
    by_cases hs : k + 1 < s.size ∧ bK s (k + 1) = 2 ∧ bK s (cluTo s k).2 = 1
    · rw [clu_skip hs, if_pos hs.2.1, hs.2.2]; simp
    · have e : cluTo s (k + 1) = ((cluTo s k).1 ++ [((cluTo s k).2, k + 1)], k + 1) := by rw [cluTo, if_neg hs]
      rw [e]
      have hg : goodC s ((cluTo s k).2, k + 1) = goodC s ((cluTo s k).2, 0) := rfl
      simp only [List.all_append, List.all_cons, List.all_nil, Bool.and_true, hg]
      by_cases e2 : bK s (k + 1) = 2
      · rw [if_pos e2]
        have : decide (bK s (cluTo s k).2 = 1) = false := decide_eq_false fun e1 => hs ⟨h, e2, e1⟩
        rw [this]; simp [goodC, e2]
      · by_cases e0 : bK s (k + 1) = 0
        · rw [if_neg e2, if_pos e0]; simp [goodC, e0]
        · rw [if_neg e2, if_neg e0]; simp [goodC, e0, e2, Bool.and_assoc]
theorem clus_word (s : ByteArray) : wordGo false s.data.toList = (clus s).all (goodC s) := by
  by_cases h : s.size = 0
  · have : s.data.toList = [] := List.eq_nil_of_length_eq_zero (by simpa using h)
    rw [this, clus, h]; rfl
  · obtain ⟨k, hk⟩ : ∃ k, s.size = k + 1 := ⟨s.size - 1, by omega⟩
    have e : cluTo s (k + 1) = ((cluTo s k).1 ++ [((cluTo s k).2, k + 1)], k + 1) := by rw [cluTo, if_neg (by omega)]
    rw [clu_word s k (by omega), clus, hk, e, List.drop_of_length_le (by simp; omega)]
    have hg : goodC s ((cluTo s k).2, k + 1) = goodC s ((cluTo s k).2, 0) := rfl
    simp [wordGo, hg]
set_option maxRecDepth 100000 in
set_option maxHeartbeats 2000000 in
theorem checkS_any (s : ByteArray) (w : World) (hs : s.size ≤ 65536) : Calls Tryd.prog 20 #[.string s] w fun e w' => e = .returned (.int .i64 (chkS s)) ∧ Below w.heap.size w w' := by
  have HA := Lib.hid (fun m W => clusters_in m W s)
  have HE := Lib.hid (chkS_small hs)
  have HW := Lib.hid (clus_word s)
  refine (callsIn_wide (n := 10)).1 ?_
  refine callsIn_of_wp_marks Tryd.func20 rfl trivial ?_ rfl
  simp only [Tryd.ntmps20, List.size_toArray, List.length_cons, List.length_nil, Nat.reduceAdd, Nat.reduceSub, Array.replicate_succ, Array.replicate_zero, List.push_toArray, List.append_toArray, List.nil_append, List.cons_append]
  gi_wp2_with (fail)
  refine ⟨trivial, ?_⟩
  refine (HA.out _ _).mono ?_
  rintro e w' ⟨rfl, rfl⟩
  gi_wp2
  have hbL : Below w.heap.size w ((w.alloc (.cells #[.int .i64 0] 24)).alloc (.cells #[.string s] 9)) := ((Below.refl _ w).alloc (Nat.le_refl _) _).alloc (by simp) _
  have hr0 : ((w.alloc (.cells #[.int .i64 0] 24)).alloc (.cells #[.string s] 9)).heap[w.heap.size]? = some (.cells #[.int .i64 0] 24 (0, 0)) := by
    rw [Below.heap_alloc _ _ _ (by simp)]; exact World.alloc_heap_new _ _
  have hc0 : ((w.alloc (.cells #[.int .i64 0] 24)).alloc (.cells #[.string s] 9)).cell? ⟨w.heap.size + 1, 0, none⟩ = some (.string s) := by
    have := World.alloc_heap_new (w.alloc (.cells #[.int .i64 0] 24)) (.cells #[.string s] 9)
    rw [show (w.alloc (.cells #[.int .i64 0] 24)).heap.size = w.heap.size + 1 by simp] at this
    exact cell_of_one this
  have hszL : w.heap.size + 1 < ((w.alloc (.cells #[.int .i64 0] 24)).alloc (.cells #[.string s] 9)).heap.size := by simp
  generalize (w.alloc (.cells #[.int .i64 0] 24)).alloc (.cells #[.string s] 9) = WL at *
  refine wpIn_rangeFunc_ownH (α := Clu s) (n := 10) (F := Fence.wide) rfl (by omega) rfl trivial (enters_of Tryd.func43 (by kernel_rfl) rfl)
    (clus_stops (10 - 1) (by omega) (w.heap.size + 1) s WL (KeepS (fun b => b = w.heap.size + 1)) (fun A B hk h => hk.cell rfl h) hc0 (by omega)) KeepS.trans
    (fun W _ _ o' _ h hc _ => KeepS.putObj W h hc o') (Below.refl _ _) (fun _ => rfl)
    (fun pre W => (W.heap[w.heap.size]? = some (.cells #[.int .i64 0] 24 (0, 0)) ∧ Below w.heap.size w W) ∧ pre.all (fun x => goodC s x.1) = true)
    (fun c' pre W => c' = .ret ∧ (W.heap[w.heap.size]? = some (.cells #[.int .i64 11] 24 (0, 0)) ∧ Below w.heap.size w W) ∧ pre.all (fun x => goodC s x.1) = false) ?hI ?hIx ⟨⟨hr0, hbL⟩, rfl⟩
    (fun x a' _ => a' = { tmps := #[.string s, undef, .pointer (some ⟨w.heap.size, 0, none⟩), undef, .string (s.extract x.1.1 x.1.2), undef, .string s, .int .i64 (s.size : Int), .bool (decide ((65536 : Int) < (s.size : Int))), .string s, .func (.func 43) #[] #[.pointer (some ⟨w.heap.size + 1, 0, none⟩)], .int .i64 (x.1.1 : Int), .string (s.extract x.1.1 x.1.2), undef, undef, undef, undef, undef, undef, undef, undef, undef], defers := [] }) ?hAx ?assign ?body ?done ?stop
  case hI =>
    rintro pre W W' row ⟨⟨g1, g2⟩, g3⟩ hg hr
    exact ⟨⟨cells_own g1 hg hr, g2.grown hg g2.size (fun r e => by have := (hr r e).1; omega)⟩, g3⟩
  case hIx =>
    rintro c' pre W W' row ⟨g0, ⟨g1, g2⟩, g3⟩ hg hr
    exact ⟨g0, ⟨cells_own g1 hg hr, g2.grown hg g2.size (fun r e => by have := (hr r e).1; omega)⟩, g3⟩
  case hAx =>
    rintro x a' _ W W' row h1 hg hr
    exact h1
  case assign =>
    rintro l0 pre x W K h hK
    have hKx := hK _ W (keepsFrom_below (Below.refl _ _)) (KeepS.refl _ _) h rfl
    dsimp only [cluEnc] at hKx ⊢
    gi_wp2
    exact hKx
  case body =>
    rintro l0 pre x a' W - - ⟨⟨g1, g2⟩, g3⟩ rfl hlt
    obtain ⟨m1, m2⟩ := clu_mem s s.size x.1 x.2
    have c1 := cell_of_one g1
    have f1 : W.frozen? ⟨w.heap.size, 0, none⟩ = false := by simp [World.frozen?, g1]
    have hzz : (s.extract x.1.1 x.1.2).size = x.1.2 - x.1.1 := by simp [ByteArray.size_extract]; omega
    have hz : 0 < (s.extract x.1.1 x.1.2).size := by omega
    have hB : byK (s.extract x.1.1 x.1.2)[0] = bK s x.1.1 := by
      rw [bK_at hz]
      unfold bK
      rw [ext_list, List.getElem?_take, if_pos (by omega), List.getElem?_drop]; rfl
    have hsn : (pre ++ [x]).all (fun x => goodC s x.1) = goodC s x.1 := by rw [List.all_append, g3]; simp
    have HSN := Lib.hid hsn
    have hX : Hid ((W.setCell ⟨w.heap.size, 0, none⟩ (.int .i64 11)).heap[w.heap.size]? = some (.cells #[.int .i64 11] 24 (0, 0)) ∧ Below w.heap.size w (W.setCell ⟨w.heap.size, 0, none⟩ (.int .i64 11))) := ⟨by rw [heap_setCell_self g1]; simp, below_setc g2 (Nat.le_refl _) _ _⟩
    have G1 := Lib.hid g1
    generalize hk : bK s x.1.1 = q at *
    generalize hu : s.extract x.1.1 x.1.2 = u at *
    have hG : goodC s x.1 = (decide (q ≠ 0) && decide (q ≠ 2)) := by rw [← hk]; rfl
    have HG := Lib.hid hG
    have HB : Hid (∀ W, Calls Tryd.prog 32 #[.int .u8 u[0].toNat] W fun e w' => e = .returned (.int .i64 q) ∧ W = w') := fun W => by
      have := kind_any u[0] W
      rwa [hB] at this
    clear hB hk hG hsn g1 m1 m2 hzz hu
    by_cases h0 : q = 0
    · have t0 : ((q : Int) == 0) = true := by simp [h0]
      have HF : Hid (goodC s x.1 = false) := by show _ = _; rw [HG.out, h0]; rfl
      clear h0
      gi_wp2_with (refine ⟨trivial, ?_⟩; refine (callsIn_wide.2 (HB.out _)).mono ?_; rintro e w' ⟨rfl, rfl⟩)
      exact ⟨(KeepsOthers.setCell _ _ _).from _, rfl, hX.out, by rw [HSN.out]; exact HF.out⟩
    · have t0 : ((q : Int) == 0) = false := by simp [h0]
      by_cases h2 : q = 2
      · have t2 : ((q : Int) == 2) = true := by simp [h2]
        have HF : Hid (goodC s x.1 = false) := by show _ = _; rw [HG.out, h2]; rfl
        clear h0 h2
        gi_wp2_with (refine ⟨trivial, ?_⟩; refine (callsIn_wide.2 (HB.out _)).mono ?_; rintro e w' ⟨rfl, rfl⟩)
        exact ⟨(KeepsOthers.setCell _ _ _).from _, rfl, hX.out, by rw [HSN.out]; exact HF.out⟩
      · have t2 : ((q : Int) == 2) = false := by simp [h2]
        have HF : Hid (goodC s x.1 = true) := by show _ = _; rw [HG.out, decide_eq_true h0, decide_eq_true h2]; rfl
        clear h0 h2
        gi_wp2_with (refine ⟨trivial, ?_⟩; refine (callsIn_wide.2 (HB.out _)).mono ?_; rintro e w' ⟨rfl, rfl⟩)
        exact ⟨keepsFrom_below (Below.refl _ _), KeepS.refl _ _, ⟨G1.out, g2⟩, by rw [HSN.out]; exact HF.out⟩
  case done =>
    rintro D ys W hD rfl ⟨⟨g1, g2⟩, g3⟩ hd
    have c1 := cell_of_one g1
    have f1 : W.frozen? ⟨w.heap.size, 0, none⟩ = false := by simp [World.frozen?, g1]
    have hG : Hid (chkS s = 0) := by
      show _ = _
      rw [HE.out, HW.out]
      have : (clus s).all (goodC s) = true := by
        rw [List.all_eq_true] at g3 ⊢
        intro y hy
        exact g3 ⟨y, hy⟩ (List.mem_attach _ _)
      rw [this]; rfl
    have hX : Hid ((W.setCell ⟨w.heap.size, 0, none⟩ (.int .i64 0)).heap[w.heap.size]? = some (.cells #[.int .i64 0] 24 (0, 0)) ∧ Below w.heap.size w (W.setCell ⟨w.heap.size, 0, none⟩ (.int .i64 0)) ∧
        (W.setCell ⟨w.heap.size, 0, none⟩ (.int .i64 0)).heap[D]? = some (.deferred (some []))) := ⟨by rw [heap_setCell_self g1]; simp, below_setc g2 (Nat.le_refl _) _ _, by rw [heap_setCell_other (by omega)]; exact hd⟩
    clear g1 g3 hd
    gi_wp2
    refine leaves_marks (hi := w.heap.size) (by simp) (Φ := fun W => W.heap[w.heap.size]? = some (.cells #[.int .i64 0] 24 (0, 0)) ∧ Below w.heap.size w W) ?_ ?_ _ _ (Marks.one (by omega) hX.out.2.2) ⟨hX.out.1, hX.out.2.1⟩
    · rintro W D ⟨h1, h3⟩ hD hd
      exact ⟨cells_putObj h1 hd rfl _, below_putObj h3 hD hd _⟩
    · rintro W ⟨h1, h3⟩
      have e1 := cell_of_one h1
      refine ⟨_, by simp [results, Tryd.results20, go_sem, e1]; rfl, ?_, h3⟩
      rw [hG.out]
  case stop =>
    rintro D c' pre W hD hpre ⟨rfl, ⟨g1, g2⟩, g3⟩ hd
    have hG : Hid (chkS s = 11) := by
      show _ = _
      rw [HE.out, HW.out]
      have : (clus s).all (goodC s) = false := by
        rw [List.all_eq_false] at g3 ⊢
        obtain ⟨y, hy, hn⟩ := g3
        exact ⟨y.1, y.2, hn⟩
      rw [this]; rfl
    gi_wp2
    refine leaves_marks (hi := w.heap.size) (by simp) (Φ := fun W => W.heap[w.heap.size]? = some (.cells #[.int .i64 11] 24 (0, 0)) ∧ Below w.heap.size w W) ?_ ?_ _ _ (Marks.one (by omega) hd) ⟨g1, g2⟩
    · rintro W D ⟨h1, h3⟩ hD hd
      exact ⟨cells_putObj h1 hd rfl _, below_putObj h3 hD hd _⟩
    · rintro W ⟨h1, h3⟩
      have e1 := cell_of_one h1
      refine ⟨_, by simp [results, Tryd.results20, go_sem, e1]; rfl, ?_, h3⟩
      rw [hG.out]
end Go.Proofs.YtbjanlmnmeegnaaDoor

/- charset.IsWord. -/
namespace Go.Proofs.YtbjanlmnmeegnaaDoor
open Go.RowKit

theorem word1_any (c : UInt8) (w : World) : Calls Tryd.prog 34 #[.int .u8 c.toNat] w fun e w' => e = .returned (.bool (!upB c)) ∧ w = w' := by
  have F := kind_any c w
  have hk := byK_le c
  have hE : upB c = decide (byK c ≤ 4) := rfl
  generalize byK c = k at *
  generalize upB c = b at *
  have HF := Lib.hid F
  clear F
  rcases seven hk with rfl | rfl | rfl | rfl | rfl | rfl | rfl
  all_goals
    simp at hE
    subst hE
    clear hk
    go_enter Tryd.func34, Tryd.ntmps34
    go_wp2_with (go_at_call 32; refine HF.out.mono ?_; rintro e w' ⟨rfl, rfl⟩)
    go_ret
    exact ⟨rfl, rfl⟩
theorem byte_at {s : ByteArray} {j : Nat} (hj : j < s.size) : s.data.toList.getD j 0 = s[j] := by
  have := drop_cons s j hj
  have e : s.data.toList[j]? = (s.data.toList.drop j)[0]? := by simp
  rw [List.getD_eq_getElem?_getD, e, this]; rfl
/-- The bytes of s lie from off on in block b. -/
def BytesAt (w : World) (b off : Nat) (s : ByteArray) : Prop := ∀ j (h : j < s.size), w.cell? ⟨b, off + j, none⟩ = some (.int .u8 s[j].toNat)
set_option maxHeartbeats 400000 in
theorem index_word (s : ByteArray) (b off n c : Nat) (w : World) (hn : n = s.size) (hs : s.size ≤ 1000000) (h : BytesAt w b off s) :
    Calls Tryd.prog 46 #[.slice (some ⟨b, off, none⟩) n c, .func (.func 34) #[] #[]] w fun e w' => ∃ i : Int, e = .returned (.int .i64 i) ∧ decide (0 ≤ i) = !allFrom upB s 0 ∧ w = w' := by
  have HN := Lib.hid hn
  have hn2 : n ≤ 1000000 := by omega
  clear hn
  go_enter Tryd.func46, Tryd.ntmps46
  go_wp2
  go_loop [8] (fun i => ∃ j : Nat, i = .int .i64 j ∧ j ≤ n ∧ Hid (allFrom upB s 0 = allFrom upB s j)) (fun i => n - (intOf i).toNat)
  case atStart => exact ⟨0, rfl, Nat.zero_le _, rfl⟩
  case round =>
    obtain ⟨j, rfl, hj, hx⟩ := hrel
    by_cases hlj : j < n
    · have hjs : j < s.size := by rw [← HN.out]; exact hlj
      have c1 := h j hjs
      have HS := Lib.hid (allFrom_step (p := upB) hjs)
      have HF : Hid (∀ w, Calls Tryd.prog 34 #[.int .u8 s[j].toNat] w fun e w' => e = .returned (.bool (!upB s[j])) ∧ w = w') := fun w => word1_any _ w
      generalize upB s[j] = G at *
      cases G with
      | false =>
        go_wp2_with (go_at_call 34; refine (HF.out _).mono ?_; rintro e w' ⟨rfl, rfl⟩)
        go_ret
        exact ⟨j, by first | rfl | go_num, by rw [hx.out, HS.out]; simp, rfl⟩
      | true =>
        have HN2 : Hid (allFrom upB s 0 = allFrom upB s (j + 1)) := by show _ = _; rw [hx.out, HS.out]; rfl
        go_wp2_with (go_at_call 34; refine (HF.out _).mono ?_; rintro e w' ⟨rfl, rfl⟩)
        go_round
        case rel => exact ⟨j + 1, by go_num, by omega, HN2.out⟩
        case measure => simp [intOf]; omega
    · have HT : Hid (allFrom upB s 0 = true) := by show _ = _; rw [hx.out]; exact allFrom_end (by rw [← HN.out]; omega)
      go_wp2
      go_ret
      exact ⟨-1, rfl, by rw [HT.out]; rfl, rfl⟩
theorem contains_word (s : ByteArray) (b off n c : Nat) (w : World) (hn : n = s.size) (hs : s.size ≤ 1000000) (h : BytesAt w b off s) :
    Calls Tryd.prog 33 #[.slice (some ⟨b, off, none⟩) n c, .func (.func 34) #[] #[]] w fun e w' => e = .returned (.bool (!allFrom upB s 0)) ∧ w = w' := by
  have F := Lib.hid (index_word s b off n c w hn hs h)
  generalize allFrom upB s 0 = R at *
  clear h hn
  go_enter Tryd.func33, Tryd.ntmps33
  go_wp2_with (go_at_call 46; refine F.out.mono ?_; rintro e w' ⟨i, rfl, hi, rfl⟩)
  go_ret
  exact ⟨by rw [← hi]; simp, rfl⟩
set_option maxHeartbeats 1000000 in
theorem isWord_any (s : ByteArray) (w : World) : Calls Tryd.prog 21 #[.string s] w fun e w' => e = .returned (.bool (isWordP s)) ∧ Below w.heap.size w w' := by
  have HE := Lib.hid (isWordP_eq s)
  generalize isWordP s = R at *
  by_cases h1 : s.size = 0
  · have d0 := isEmpty_yes h1
    have d1 := toList_nil.2 h1
    have HR : Hid (R = false) := by show _ = _; rw [HE.out, decide_eq_false (by omega)]; rfl
    clear h1
    go_enter Tryd.func21, Tryd.ntmps21
    go_wp2
    go_ret
    exact ⟨ret_bool HR.out.symm, Below.refl _ _⟩
  · have d0 := isEmpty_no h1
    have d1 : ¬ s.toList = [] := fun h => h1 (toList_nil.1 h)
    by_cases h64 : 64 < s.size
    · have HR : Hid (R = false) := by show _ = _; rw [HE.out, decide_eq_false (by omega)]; rfl
      clear h1
      go_enter Tryd.func21, Tryd.ntmps21
      go_wp2
      go_ret
      exact ⟨ret_bool HR.out.symm, Below.refl _ _⟩
    · have hlt : 0 < s.size := by omega
      have hk := byK_le s[0]
      have e0 := bK_at hlt
      have HH : Hid (headOk s.data.toList = (decide (byK s[0] = 1) || decide (byK s[0] = 3))) := by show _ = _; rw [headOk_at hlt, e0]
      have HF := Lib.hid (checkS_any s w (by omega))
      have HC := Lib.hid (chkS_small (s := s) (by omega))
      have HG : Hid (∀ w, Calls Tryd.prog 32 #[.int .u8 s[0].toNat] w fun e w' => e = .returned (.int .i64 (byK s[0])) ∧ w = w') := fun w => kind_any _ w
      have HD : Hid (decide (1 ≤ s.size ∧ s.size ≤ 64) = true) := decide_eq_true (by omega)
      generalize chkS s = C at *
      clear e0 h1
      cases hw : wordGo false s.data.toList with
      | false =>
        have HR : Hid (R = false) := by show _ = _; rw [HE.out, hw]; simp
        obtain rfl : C = 11 := by rw [HC.out, hw]; rfl
        clear hw
        go_enter Tryd.func21, Tryd.ntmps21
        go_wp2_with (go_at_call 20; refine HF.out.mono ?_; rintro e w1 ⟨rfl, hb1⟩)
        go_ret
        exact ⟨ret_bool HR.out.symm, hb1⟩
      | true =>
        have HR : Hid (R = (headOk s.data.toList && allFrom upB s 0)) := by show _ = _; rw [HE.out, hw, HD.out]; simp
        obtain rfl : C = 0 := by rw [HC.out, hw]; rfl
        clear hw HE
        generalize headOk s.data.toList = H at *
        by_cases ho : byK s[0] = 1 ∨ byK s[0] = 3
        · have HRR : Hid (R = allFrom upB s 0) := by
            show _ = _; rw [HR.out, HH.out]
            rcases ho with e | e <;> simp [e]
          clear HR HH
          have tt : ((byK s[0] : Int) != 1) = false ∨ (((byK s[0] : Int) != 1) = true ∧ ((byK s[0] : Int) != 3) = false) := by
            rcases ho with e | e
            · left; simp [e]
            · right; rw [e]; exact ⟨rfl, rfl⟩
          clear ho hk
          rcases tt with t1 | ⟨t1, t2⟩
          all_goals
            go_enter Tryd.func21, Tryd.ntmps21
            go_wp2_with fail
            refine HF.out.mono ?_
            rintro e w1 ⟨rfl, hb1⟩
            go_wp2_with fail
            refine (HG.out _).mono ?_
            rintro e w' ⟨rfl, rfl⟩
            have hcv := Lib.run_convert_string_bytes (P := Tryd.prog) w1 9 51 5 s (u := .string) Tryd.underlying9 Tryd.underlying51 Tryd.underlying5
            have hbw : Below w1.heap.size w1 (Lib.bytesWorld w1 5 s) := Lib.bytesWorld_below w1 _ s
            have hat : BytesAt (Lib.bytesWorld w1 5 s) w1.heap.size 0 s := fun j hj => by
              rw [Nat.zero_add, Lib.bytesWorld_cell _ _ _ _ hj, byte_at hj]
            have hz : s.size ≤ 1000000 := by omega
            generalize Lib.bytesWorld w1 5 s = w2 at *
            generalize grownCap w1 s.size 0 5 = gc at *
            have HC2 := Lib.hid (contains_word s w1.heap.size 0 s.size gc w2 rfl hz hat)
            generalize allFrom upB s 0 = Q at *
            clear hat
            go_wp2_with (go_at_call 33; refine HC2.out.mono ?_; rintro e w' ⟨rfl, rfl⟩)
            go_ret
            exact ⟨ret_bool HRR.out.symm, hb1.trans (hbw.mono hb1.size)⟩
        · have HB : Hid (R = false) := by
            show _ = _; rw [HR.out, HH.out, decide_eq_false (fun e => ho (.inl e)), decide_eq_false (fun e => ho (.inr e))]; rfl
          have t1 : ((byK s[0] : Int) != 1) = true := by simp; exact fun e => ho (.inl e)
          have t2 : ((byK s[0] : Int) != 3) = true := by simp; exact fun e => ho (.inr e)
          clear ho hk HR HH
          go_enter Tryd.func21, Tryd.ntmps21
          go_wp2_with (first | (go_at_call 20; refine HF.out.mono ?_; rintro e w1 ⟨rfl, hb1⟩) | (go_at_call 32; refine (HG.out _).mono ?_; rintro e w' ⟨rfl, rfl⟩))
          go_ret
          exact ⟨ret_bool HB.out.symm, hb1⟩
end Go.Proofs.YtbjanlmnmeegnaaDoor

/- The text of a gap: the program. -/
namespace Go.Proofs.YtbjanlmnmeegnaaDoor
open Go.RowKit

theorem itoa_nat (m : Nat) : Lib.itoa (m : Int) = Lib.decDigits m := by
  unfold Lib.itoa
  rw [if_neg (by omega)]; rfl
theorem gap_parts {s : ByteArray} {m : Nat} (hm : m ≤ 64) (h : s = gapT m) : 3 ≤ s.size ∧ s.data.toList.head? = some 91 ∧ s.data.toList.getLast? = some 93 ∧ (s.extract 1 (s.size - 1)).data.toList = Lib.decDigits m ∧
    atoiOk (s.extract 1 (s.size - 1)).data.toList = true ∧ atoiN (s.extract 1 (s.size - 1)).data.toList = m := by
  have hl := gapT_list m
  rw [← h] at hl
  have hz : s.size = (Lib.decDigits m).length + 2 := by
    have := congrArg List.length hl
    rw [Array.length_toList] at this
    simp at this; exact this
  have hp : 1 ≤ (Lib.decDigits m).length := by rw [Lib.decDigits_length]; exact Lib.nDigits_pos m
  have he : (s.extract 1 (s.size - 1)).data.toList = Lib.decDigits m := by
    rw [ext_list, hl, hz]
    simp
  have h64 : I64 (m : Int) := ⟨by omega, by omega⟩
  refine ⟨by omega, by rw [hl]; rfl, by rw [hl]; simp [List.getLast?_cons], he, ?_, ?_⟩
  · rw [he, ← itoa_nat]; exact atoiOk_itoa _ h64
  · rw [he, ← itoa_nat]; exact atoiN_itoa _ h64
theorem head_at {s : ByteArray} (h : 0 < s.size) : s.data.toList.head? = some s[0] := by
  have := drop_cons s 0 h
  rw [List.drop_zero] at this
  rw [this]; rfl
theorem u8_beq {c d : UInt8} : ((c.toNat : Int) != (d.toNat : Int)) = decide (c ≠ d) := by
  rw [Bool.eq_iff_iff, bne_iff_ne, decide_eq_true_eq]
  constructor
  · intro h e; exact h (by rw [e])
  · intro h e; exact h (UInt8.toNat_inj.1 (by omega))
end Go.Proofs.YtbjanlmnmeegnaaDoor

/- Check of a token: the program. -/
namespace Go.Proofs.YtbjanlmnmeegnaaDoor
open Go.RowKit

theorem flag_bits {f : Int} (h0 : 0 ≤ f) (h1 : f ≤ 31) : (bits BinOp.and IntKind.i64 f 10 == 0) = (!(decide (f / 2 % 2 = 1)) && !(decide (f / 8 % 2 = 1))) ∧ (bits BinOp.and IntKind.i64 f 2 != 0) = decide (f / 2 % 2 = 1) ∧ (bits BinOp.and IntKind.i64 f 8 != 0) = decide (f / 8 % 2 = 1) := by
  have key : ∀ n : Fin 32, (bits BinOp.and IntKind.i64 (n.val : Int) 10 == 0) = (!(decide ((n.val : Int) / 2 % 2 = 1)) && !(decide ((n.val : Int) / 8 % 2 = 1))) ∧ (bits BinOp.and IntKind.i64 (n.val : Int) 2 != 0) = decide ((n.val : Int) / 2 % 2 = 1) ∧ (bits BinOp.and IntKind.i64 (n.val : Int) 8 != 0) = decide ((n.val : Int) / 8 % 2 = 1) := by decide +kernel
  obtain ⟨n, rfl⟩ : ∃ n : Nat, f = (n : Int) := ⟨f.toNat, by omega⟩
  exact key ⟨n, by omega⟩
theorem ba_toList {s t : ByteArray} : s.toList = t.toList ↔ s = t :=
  ⟨fun e => by rw [ByteArray.toList_eq, ByteArray.toList_eq] at e; exact ba_ext e, fun e => by rw [e]⟩
theorem belowH {B : Nat} {A W w' : World} (h : Hid (A.heap.size ≤ W.heap.size ∧ Below B A W)) (hb : Below W.heap.size W w') (hB : B = A.heap.size := by rfl) : Hid (A.heap.size ≤ w'.heap.size ∧ Below B A w') := by
  have h' := h.out
  exact ⟨Nat.le_trans h'.1 hb.size, h'.2.trans (hb.mono (by rw [hB]; exact h'.1))⟩
end Go.Proofs.YtbjanlmnmeegnaaDoor
