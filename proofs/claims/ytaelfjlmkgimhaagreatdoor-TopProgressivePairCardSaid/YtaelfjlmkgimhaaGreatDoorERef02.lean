/- What marks stand right: the reference; Check of a string. -/
import Derived.Test.YtaelfjlmkgimhaaGreatDoorEName
import Derived.Test.YtaelfjlmkgimhaaGreatDoorEIter
set_option linter.unusedVariables false
set_option linter.unusedSimpArgs false
namespace Go.Proofs.YtaelfjlmkgimhaaGreatDoor
open Go.RowKit

/-- The kind of the character at k. -/
def bK (s : ByteArray) (k : Nat) : Int := byK (s.data.toList[k]?.getD 0)
theorem bK_at {s : ByteArray} {k : Nat} (h : k < s.size) : byK s[k] = bK s k := by
  unfold bK
  have := drop_cons s k h
  have e : s.data.toList[k]? = (s.data.toList.drop k)[0]? := by simp
  rw [e, this]; rfl
/-- May a mark stand at k? -/
def mkS (s : ByteArray) : Nat → Bool
  | 0 => false
  | k + 1 => if bK s k = 2 then mkS s k else decide (bK s k = 1)
/-- Is it a mark that stands right? -/
def rgB (s : ByteArray) (k : Nat) : Bool := decide (bK s k = 2) && mkS s k
def rgL (s : ByteArray) (k : Nat) : List Bool := (List.range k).map (rgB s)
theorem rgL_len (s : ByteArray) (k : Nat) : (rgL s k).length = k := by simp [rgL]
theorem rgL_succ (s : ByteArray) (k : Nat) : rgL s (k + 1) = rgL s k ++ [rgB s k] := by simp [rgL, List.range_succ]
theorem rgL_get {s : ByteArray} {k j : Nat} (h : j < k) : (rgL s k)[j]? = some (rgB s j) := by simp [rgL, h]
theorem wordGo_step {s : ByteArray} {k : Nat} (h : k < s.size) (h1 : bK s k ≠ 0) (h2 : bK s k = 2 → mkS s k = true) : wordGo (mkS s k) (s.data.toList.drop k) = wordGo (mkS s (k + 1)) (s.data.toList.drop (k + 1)) := by
  rw [drop_cons s k h, wordGo, bK_at h, mkS]
  by_cases e : bK s k = 2
  · rw [if_pos e, if_pos e, h2 e]; rfl
  · rw [if_neg e, if_neg h1, if_neg e]
theorem wordGo_bad {s : ByteArray} {k : Nat} (h : k < s.size) (h1 : bK s k = 0 ∨ (bK s k = 2 ∧ mkS s k = false)) : wordGo (mkS s k) (s.data.toList.drop k) = false := by
  rw [drop_cons s k h, wordGo, bK_at h]
  rcases h1 with e | ⟨e, e2⟩
  · rw [if_neg (by omega), if_pos e]
  · rw [if_pos e, e2]; rfl
set_option maxHeartbeats 1000000 in
theorem right_ref (s : ByteArray) (w0 : World) (hs : s.size ≤ 1000000) : Calls Tryz.prog 85 #[.string s] w0 fun e w' => ∃ a n c, e = .returned (.slice a n c) ∧ OwnQ 4 1 encB w' w0.heap.size a n c (rgL s s.size) ∧ Below w0.heap.size w0 w' := by
  have L0 := OwnQ.lit0 4 1 encB w0 w0.heap.size (Nat.le_refl _)
  have BL := (Below.refl w0.heap.size w0).alloc (Nat.le_refl _) (.cells #[] 4)
  go_enter Tryz.func85, Tryz.ntmps85
  go_wp2
  go_loopw [3, 4] (fun o i wr => ∃ (k : Nat) (a : Option Addr) (c : Nat), k ≤ s.size ∧ i = .int .i64 k ∧ o = .slice a k c ∧ OwnQ 4 1 encB wr w0.heap.size a k c (rgL s k) ∧ Below w0.heap.size w0 wr) (fun _ i _ => s.size - (intOf i).toNat)
  case atStart => exact ⟨0, _, 0, Nat.zero_le _, rfl, rfl, L0, BL⟩
  case round =>
    clear L0 BL
    obtain ⟨k, a, c, hk, rfl, rfl, ho, hbelow⟩ := hrel
    have hlo := hbelow.size
    have hoA : ∀ b : Bool, OwnQ 4 1 encB (wr.alloc (.cells #[.bool b] 4)) w0.heap.size a k c (rgL s k) := fun b => ho.alloc _
    by_cases hlt : k < s.size
    · have e1 := bK_at hlt
      have HS := Lib.hid (rgL_succ s k)
      by_cases h2 : bK s k = 2
      · have t2 : ((byK s[k] : Int) == 2) = true := by rw [e1]; simp [h2]
        have HB : Hid (rgB s k = mkS s k) := by show _ = _; unfold rgB; rw [decide_eq_true h2]; rfl
        clear h2 e1
        cases k with
        | zero =>
          have HV : Hid (rgB s 0 = false) := by show _ = _; rw [HB.out]; rfl
          rw [HV.out] at HS
          replace hoA := hoA false
          go_wp2_with (first | (go_at_call 37; refine (kind_ref _ _).mono ?_; rintro e w' ⟨rfl, rfl⟩) | (at_builtin; refine wpList_appQ (enc := encB) (w0 := w0) (m := 1) (ys := [false]) infoB Tryz.underlying101 rfl (by decide) (fun _ => rfl) one_b rfl (.tmp 12) (.tmp 37) rfl rfl rfl hoA rfl (fun j u hj => lit_cells (by simpa using hj)) (by unfold maxLen; omega) (by omega) (by simp; omega) (hbelow.alloc hlo _) ?_; intro a2 c2 w2 o2 b2 _ _))
          go_roundw
          case rel => exact ⟨1, a2, c2, by omega, by go_num, rfl, by rw [HS.out]; exact o2, b2⟩
          case measure => simp [intOf]; omega
        | succ j =>
          have hj : j < s.size := by omega
          have e3 := bK_at hj
          have i0 : (0 : Int) ≤ (j : Int) := by omega
          by_cases h4 : bK s j = 1
          · have t4 : ((byK s[j] : Int) == 1) = true := by rw [e3]; simp [h4]
            have HV : Hid (rgB s (j + 1) = true) := by show _ = _; rw [HB.out, mkS, if_neg (by omega), decide_eq_true h4]
            rw [HV.out] at HS
            replace hoA := hoA true
            clear h4 e3
            go_wp2_with (first | (go_at_call 37; refine (kind_ref _ _).mono ?_; rintro e w' ⟨rfl, rfl⟩) | (at_builtin; refine wpList_appQ (enc := encB) (w0 := w0) (m := 1) (ys := [true]) infoB Tryz.underlying101 rfl (by decide) (fun _ => rfl) one_b rfl (.tmp 12) (.tmp 37) rfl rfl rfl hoA rfl (fun j u hj => lit_cells (by simpa using hj)) (by unfold maxLen; omega) (by omega) (by simp; omega) (hbelow.alloc hlo _) ?_; intro a2 c2 w2 o2 b2 _ _))
            go_roundw
            case rel => exact ⟨j + 1 + 1, a2, c2, by omega, by go_num, rfl, by rw [HS.out]; exact o2, b2⟩
            case measure => simp [intOf]; omega
          · have t4 : ((byK s[j] : Int) == 1) = false := by rw [e3]; simp [h4]
            have HV : Hid (rgB s (j + 1) = rgB s j) := by
              show _ = _; rw [HB.out, mkS]; unfold rgB
              by_cases q : bK s j = 2
              · rw [if_pos q, decide_eq_true q]; rfl
              · rw [if_neg q, decide_eq_false q, decide_eq_false h4]; rfl
            rw [HV.out] at HS
            obtain ⟨x, g, hx, -, rfl, -, -, -, hat⟩ := ho.at_ (fun _ => rfl) (j := j) (by omega)
            rw [rgL_get (by omega)] at hx
            cases hx
            have c1 := hat.one
            rw [Nat.mul_one] at c1
            generalize rgB s j = V at *
            replace hoA := hoA V
            clear h4 e3 hat
            go_wp2_with (first | (go_at_call 37; refine (kind_ref _ _).mono ?_; rintro e w' ⟨rfl, rfl⟩) | (at_builtin; refine wpList_appQ (enc := encB) (w0 := w0) (m := 1) (ys := [V]) infoB Tryz.underlying101 rfl (by decide) (fun _ => rfl) one_b rfl (.tmp 12) (.tmp 37) rfl rfl rfl hoA rfl (fun j u hj => lit_cells (by simpa using hj)) (by unfold maxLen; omega) (by omega) (by simp; omega) (hbelow.alloc hlo _) ?_; intro a2 c2 w2 o2 b2 _ _))
            go_roundw
            case rel => exact ⟨j + 1 + 1, a2, c2, by omega, by go_num, rfl, by rw [HS.out]; exact o2, b2⟩
            case measure => simp [intOf]; omega
      · have t2 : ((byK s[k] : Int) == 2) = false := by rw [e1]; simp [h2]
        have HV : Hid (rgB s k = false) := by show _ = _; unfold rgB; rw [decide_eq_false h2]; rfl
        rw [HV.out] at HS
        replace hoA := hoA false
        clear h2 e1
        go_wp2_with (first | (go_at_call 37; refine (kind_ref _ _).mono ?_; rintro e w' ⟨rfl, rfl⟩) | (at_builtin; refine wpList_appQ (enc := encB) (w0 := w0) (m := 1) (ys := [false]) infoB Tryz.underlying101 rfl (by decide) (fun _ => rfl) one_b rfl (.tmp 12) (.tmp 37) rfl rfl rfl hoA rfl (fun j u hj => lit_cells (by simpa using hj)) (by unfold maxLen; omega) (by omega) (by simp; omega) (hbelow.alloc hlo _) ?_; intro a2 c2 w2 o2 b2 _ _))
        go_roundw
        case rel => exact ⟨k + 1, a2, c2, by omega, by go_num, rfl, by rw [HS.out]; exact o2, b2⟩
        case measure => simp [intOf]; omega
    · obtain rfl : k = s.size := by omega
      go_wp2
      go_ret
      exact ⟨_, _, _, rfl, ho, hbelow⟩
end Go.Proofs.YtaelfjlmkgimhaaGreatDoor

/- The clusters of a string; what the iterator over them does. -/
namespace Go.Proofs.YtaelfjlmkgimhaaGreatDoor
open Go.RowKit Go.Shelf
attribute [local go_sem] Oper.semAt_some

/-- The clusters that are complete behind k, and where the next one begins. -/
def cluTo (s : ByteArray) : Nat → List (Nat × Nat) × Nat
  | 0 => ([], 0)
  | k + 1 => if k + 1 < s.size ∧ bK s (k + 1) = 2 ∧ bK s (cluTo s k).2 = 1 then cluTo s k else ((cluTo s k).1 ++ [((cluTo s k).2, k + 1)], k + 1)
def clus (s : ByteArray) : List (Nat × Nat) := (cluTo s s.size).1
theorem clu_le (s : ByteArray) : ∀ k, (cluTo s k).2 ≤ k
  | 0 => Nat.le_refl _
  | k + 1 => by
    have := clu_le s k
    rw [cluTo]; split
    · omega
    · exact Nat.le_refl _
theorem clu_mem (s : ByteArray) : ∀ k, ∀ x ∈ (cluTo s k).1, x.1 < x.2 ∧ x.2 ≤ k
  | 0, x, h => by simp [cluTo] at h
  | k + 1, x, h => by
    have hl := clu_le s k
    rw [cluTo] at h
    split at h
    · have := clu_mem s k x h; omega
    · rcases List.mem_append.1 h with h | h
      · have := clu_mem s k x h; omega
      · obtain rfl := List.mem_singleton.1 h
        exact ⟨by show _ < k + 1; omega, Nat.le_refl _⟩
theorem clu_pre (s : ByteArray) {k : Nat} : ∀ m, (cluTo s k).1 <+: (cluTo s (k + m)).1
  | 0 => List.prefix_rfl
  | m + 1 => by
    refine (clu_pre s m).trans ?_
    rw [show k + (m + 1) = (k + m) + 1 by omega]
    conv => rhs; rw [cluTo]
    split
    · exact List.prefix_rfl
    · exact List.prefix_append _ _
theorem clu_pre' (s : ByteArray) {k : Nat} (h : k ≤ s.size) : (cluTo s k).1 <+: clus s := by
  have := clu_pre s (k := k) (s.size - k)
  rw [show k + (s.size - k) = s.size by omega] at this
  exact this
abbrev Clu (s : ByteArray) := { x : Nat × Nat // x ∈ clus s }
abbrev cluEnc (s : ByteArray) (x : Clu s) : Array Value := #[.int .i64 (x.1.1 : Int), .string (s.extract x.1.1 x.1.2)]
def cluL (s : ByteArray) : List (Clu s) := (clus s).attach
theorem cluL_len (s : ByteArray) : (cluL s).length = (clus s).length := by simp [cluL]
/-- Behind a cluster that is handed on. -/
theorem clu_yield {s : ByteArray} {k : Nat} (h : k < s.size) (hn : ¬ (k + 1 < s.size ∧ bK s (k + 1) = 2 ∧ bK s (cluTo s k).2 = 1)) :
    ∃ x : Clu s, x.1 = ((cluTo s k).2, k + 1) ∧ (cluL s)[(cluTo s k).1.length]? = some x ∧ (cluTo s (k + 1)).1.length = (cluTo s k).1.length + 1 ∧ (cluTo s (k + 1)).2 = k + 1 := by
  have e : cluTo s (k + 1) = ((cluTo s k).1 ++ [((cluTo s k).2, k + 1)], k + 1) := by rw [cluTo, if_neg hn]
  obtain ⟨r, hr⟩ := clu_pre' s (k := k + 1) (by omega)
  rw [e] at hr
  have hget : (clus s)[(cluTo s k).1.length]? = some ((cluTo s k).2, k + 1) := by rw [← hr]; simp
  have hlt := (List.getElem?_eq_some_iff.1 hget).1
  refine ⟨⟨_, List.mem_of_getElem? hget⟩, rfl, ?_, by rw [e]; simp, by rw [e]⟩
  unfold cluL
  rw [List.getElem?_attach]
  simp [hget]
theorem clu_skip {s : ByteArray} {k : Nat} (h : k + 1 < s.size ∧ bK s (k + 1) = 2 ∧ bK s (cluTo s k).2 = 1) : cluTo s (k + 1) = cluTo s k := by rw [cluTo, if_pos h]
theorem right_any (s : ByteArray) (f k : Nat) (w : World) (hf : f < s.size) (hk : f < k) : Calls Tryz.prog 119 #[.string s, .int .i64 (f : Int), .int .i64 (k : Int)] w fun e w' => e = .returned (.bool (decide (bK s f = 1))) ∧ w = w' := by
  have e1 := bK_at hf
  by_cases h : bK s f = 1
  · have t1 : ((byK s[f] : Int) == 1) = true := by rw [e1]; simp [h]
    rw [decide_eq_true h]
    clear h e1
    go_enter Tryz.func119, Tryz.ntmps119
    go_wp2_with (go_at_call 93; refine (kind_any _ _).mono ?_; rintro e w' ⟨rfl, rfl⟩)
    go_ret
    exact ⟨rfl, rfl⟩
  · have t1 : ((byK s[f] : Int) == 1) = false := by rw [e1]; simp [h]
    rw [decide_eq_false h]
    clear h e1
    go_enter Tryz.func119, Tryz.ntmps119
    go_wp2_with (go_at_call 93; refine (kind_any _ _).mono ?_; rintro e w' ⟨rfl, rfl⟩)
    go_ret
    exact ⟨rfl, rfl⟩
set_option maxRecDepth 100000 in
set_option maxHeartbeats 2000000 in
theorem clus_stops (m : Nat) (_hm : 1 ≤ m) (bs : Nat) (s : ByteArray) (w : World) (Kp : World → World → Prop)
    (hKp : ∀ A B, Kp A B → A.cell? ⟨bs, 0, none⟩ = some (.string s) → B.cell? ⟨bs, 0, none⟩ = some (.string s)) (hr : w.cell? ⟨bs, 0, none⟩ = some (.string s)) (hn : s.size ≤ 65536) :
    SeqStopsK Fence.wide m Tryz.prog 118 #[.pointer (some ⟨bs, 0, none⟩)] (cluEnc s) Kp (fun ys => ys = cluL s) (fun pre => pre <+: cluL s) (cluL s).length w := fun lo J Jx W0 hW hJ _ hY h0 => by
  have c0 := cell_later hW hr
  have HKP := Lib.hid hKp
  have HY := Lib.hid hY
  have HJ0 : Hid (J [] W0) := h0
  clear hY hJ hW hr hKp w h0
  obtain ⟨W, rfl⟩ : ∃ W, W = W0 := ⟨_, rfl⟩
  refine callsIn_of_wp Tryz.func118 rfl trivial ?_ rfl
  simp only [Tryz.ntmps118, List.size_toArray, List.length_cons, List.length_nil, Nat.reduceAdd, Nat.reduceSub, Array.replicate_succ, Array.replicate_zero, List.push_toArray, List.append_toArray, List.nil_append, List.cons_append]
  gi_wp2
  gi_loopw [3, 4] (fun f i wr => ∃ k : Nat, f = .int .i64 ((cluTo s k).2 : Nat) ∧ i = .int .i64 ((k + 1 : Nat) : Int) ∧ k ≤ s.size ∧ wr.cell? ⟨bs, 0, none⟩ = some (.string s) ∧ Hid (J ((cluL s).take (cluTo s k).1.length) wr)) (fun _ i _ => s.size + 1 - (intOf i).toNat)
  case atStart => exact ⟨0, rfl, rfl, Nat.zero_le _, c0, HJ0.out⟩
  case round =>
    clear HJ0 c0
    obtain ⟨k, rfl, rfl, hk, c1, hJp⟩ := hrel
    by_cases hlt : k < s.size
    · have hfr := clu_le s k
      have hfz : (cluTo s k).2 < s.size := by omega
      have hA : ∀ hh : k + 1 < s.size, byK s[k + 1] = bK s (k + 1) := fun hh => bK_at hh
      have HRT : Hid (∀ W, Calls Tryz.prog 119 #[.string s, .int .i64 ((cluTo s k).2 : Nat), .int .i64 ((k : Int) + 1)] W fun e w' => e = .returned (.bool (decide (bK s (cluTo s k).2 = 1))) ∧ W = w') := fun W => by
        have := right_any s (cluTo s k).2 (k + 1) W hfz (by omega)
        rwa [show ((k + 1 : Nat) : Int) = (k : Int) + 1 by omega] at this
      rw [show ((k + 1 : Nat) : Int) = (k : Int) + 1 by omega]
      by_cases hsk : k + 1 < s.size ∧ bK s (k + 1) = 2 ∧ bK s (cluTo s k).2 = 1
      · have HSK := Lib.hid (clu_skip hsk)
        obtain ⟨h1, h2, h3⟩ := hsk
        have t2 : ((byK s[k + 1] : Int) == 2) = true := by rw [hA h1]; simp [h2]
        have t3 : decide (bK s (cluTo s k).2 = 1) = true := decide_eq_true h3
        rw [t3] at HRT
        clear hA h2 h3 t3
        generalize hF : (cluTo s k).2 = F at *
        have HFF := Lib.hid hF
        clear hF
        gi_wp2_with (first | (refine ⟨trivial, ?_⟩; refine (callsIn_wide.2 (kind_any _ _)).mono ?_; rintro e w' ⟨rfl, rfl⟩) | (refine ⟨trivial, ?_⟩; refine (callsIn_wide.2 (HRT.out _)).mono ?_; rintro e w' ⟨rfl, rfl⟩))
        go_roundw
        case rel => exact ⟨k + 1, by rw [HSK.out, HFF.out], by go_num, by omega, c1, by rw [HSK.out]; exact hJp.out⟩
        case measure => simp [intOf]; omega
      · obtain ⟨x, x1, x2, x3, x4⟩ := clu_yield hlt hsk
        have hke : (cluTo s k).1.length < (cluL s).length := (List.getElem?_eq_some_iff.1 x2).1
        obtain ⟨fn, tmps, assign, body, hy, hR⟩ := HY.out _ x wr hJp.out (by rw [List.length_take]; omega)
        have hnext : Hid ((cluL s).take (cluTo s k).1.length ++ [x] = (cluL s).take (cluTo s (k + 1)).1.length) := by
          show _ = _
          rw [x3, List.take_add_one, x2]; rfl
        have hpre : Hid ((cluL s).take (cluTo s (k + 1)).1.length <+: cluL s) := List.take_prefix _ _
        have HX4 := Lib.hid x4
        dsimp only [cluEnc] at hy
        rw [x1] at hy
        dsimp only at hy
        have HRR := Lib.hid hR
        have hway : s.size ≤ k + 1 ∨ ∃ h1 : k + 1 < s.size, ((byK s[k + 1] : Int) == 2) = false ∨ (((byK s[k + 1] : Int) == 2) = true ∧ decide (bK s (cluTo s k).2 = 1) = false) := by
          by_cases h1 : k + 1 < s.size
          · right
            refine ⟨h1, ?_⟩
            rw [hA h1]
            by_cases h2 : bK s (k + 1) = 2
            · right
              exact ⟨by simp [h2], decide_eq_false fun h3 => hsk ⟨h1, h2, h3⟩⟩
            · left; simp [h2]
          · left; omega
        clear hR x1 x2 x3 x4 hke hA hsk
        generalize hF : (cluTo s k).2 = F at *
        clear hF
        rcases hway with hz | ⟨hz, t2 | ⟨t2, t3⟩⟩
        case' inr.inr => rw [t3] at HRT
        all_goals
          gi_wp2_with (first | (refine ⟨trivial, ?_⟩; refine (callsIn_wide.2 (kind_any _ _)).mono ?_; rintro e w' ⟨rfl, rfl⟩) | (refine ⟨trivial, ?_⟩; refine (callsIn_wide.2 (HRT.out _)).mono ?_; rintro e w' ⟨rfl, rfl⟩))
          repeat ((with_reducible refine And.intro ?_ ?_); exact trivial; gi_wp2_with (first | (refine ⟨trivial, ?_⟩; refine (callsIn_wide.2 (kind_any _ _)).mono ?_; rintro e w' ⟨rfl, rfl⟩) | (refine ⟨trivial, ?_⟩; refine (callsIn_wide.2 (HRT.out _)).mono ?_; rintro e w' ⟨rfl, rfl⟩)))
          refine HRR.out.mono ?_
          rintro e W3 (⟨rfl, hJ3, hk3⟩ | ⟨rfl, hJx3⟩)
          · have HJ3 := Lib.hid hJ3
            have c3 := HKP.out _ _ hk3 c1
            clear hJ3 hk3
            gi_wp2
            go_roundw
            case rel => exact ⟨k + 1, by rw [HX4.out]; go_num, by go_num, by omega, c3, by rw [← hnext.out]; exact HJ3.out⟩
            case measure => simp [intOf]; omega
          · gi_wp2
            refine bodyPost_ret (results_none rfl _ _ _) rfl ?_
            exact ⟨⟨_, rfl⟩, .inr ⟨_, hpre.out, by rw [← hnext.out]; exact hJx3⟩⟩
    · obtain rfl : k = s.size := by omega
      gi_wp2
      go_end0
      refine ⟨⟨_, rfl⟩, .inl ⟨_, ?_, hJp.out⟩⟩
      rw [List.take_of_length_le (by rw [cluL_len]; exact Nat.le_refl _)]
end Go.Proofs.YtaelfjlmkgimhaaGreatDoor

/- Check, IsWord, IsName of the reference. -/
namespace Go.Proofs.YtaelfjlmkgimhaaGreatDoor
open Go.RowKit

theorem chkS_small {s : ByteArray} (h : s.size ≤ 65536) : chkS s = if wordGo false s.data.toList then 0 else 11 := by unfold chkS; rw [if_neg (by omega)]
set_option maxHeartbeats 1000000 in
theorem checkS_ref (s : ByteArray) (w : World) (hs : s.size ≤ 65536) : Calls Tryz.prog 60 #[.string s] w fun e w' => e = .returned (.int .i64 (chkS s)) ∧ Below w.heap.size w w' := by
  have HE := Lib.hid (chkS_small hs)
  have HF := Lib.hid (right_ref s w (by omega))
  generalize chkS s = R at *
  go_enter Tryz.func60, Tryz.ntmps60
  go_wp2_with (go_at_call 85; refine HF.out.mono ?_; rintro e w1 ⟨a, n, c, rfl, ho, hb1⟩)
  clear HF
  go_loopw [4] (fun i wr => ∃ k : Nat, k ≤ s.size ∧ i = .int .i64 k ∧ Hid (wordGo false s.data.toList = wordGo (mkS s k) (s.data.toList.drop k)) ∧ wr = w1) (fun i _ => s.size - (intOf i).toNat)
  case atStart => exact ⟨0, Nat.zero_le _, rfl, rfl, rfl⟩
  case round =>
    obtain ⟨k, hk, rfl, hx, rfl⟩ := hrel
    by_cases hlt : k < s.size
    · have e1 := bK_at hlt
      obtain ⟨x, g, hx2, -, rfl, -, -, -, hat⟩ := ho.at_ (fun _ => rfl) (j := k) (by rw [ho.len, rgL_len]; exact hlt)
      rw [rgL_get hlt] at hx2
      cases hx2
      have c1 := hat.one
      rw [Nat.mul_one] at c1
      have hnl : k < n := by rw [ho.len, rgL_len]; exact hlt
      by_cases h0 : bK s k = 0
      · have t0 : ((byK s[k] : Int) == 0) = true := by rw [e1]; simp [h0]
        have HB : Hid (R = 11) := by show _ = _; rw [HE.out, hx.out, wordGo_bad hlt (.inl h0)]; rfl
        clear h0 e1 hat
        go_wp2_with (go_at_call 37; refine (kind_ref _ _).mono ?_; rintro e w' ⟨rfl, rfl⟩)
        go_ret
        exact ⟨ret_int HB.out.symm, hb1⟩
      · have t0 : ((byK s[k] : Int) == 0) = false := by rw [e1]; simp [h0]
        by_cases h2 : bK s k = 2
        · have t2 : ((byK s[k] : Int) == 2) = true := by rw [e1]; simp [h2]
          have hrb : rgB s k = mkS s k := by unfold rgB; rw [decide_eq_true h2]; rfl
          rw [hrb] at c1
          cases hm : mkS s k with
          | true =>
            rw [hm] at c1
            have HN : Hid (wordGo false s.data.toList = wordGo (mkS s (k + 1)) (s.data.toList.drop (k + 1))) := by show _ = _; rw [hx.out]; exact wordGo_step hlt h0 (fun _ => hm)
            clear h0 h2 e1 hat hrb hm
            go_wp2_with (go_at_call 37; refine (kind_ref _ _).mono ?_; rintro e w' ⟨rfl, rfl⟩)
            go_roundw
            case rel => exact ⟨k + 1, by omega, by go_num, HN.out, trivial⟩
            case measure => simp [intOf]; omega
          | false =>
            rw [hm] at c1
            have HB : Hid (R = 11) := by show _ = _; rw [HE.out, hx.out, wordGo_bad hlt (.inr ⟨h2, hm⟩)]; rfl
            clear h0 h2 e1 hat hrb hm
            go_wp2_with (go_at_call 37; refine (kind_ref _ _).mono ?_; rintro e w' ⟨rfl, rfl⟩)
            go_ret
            exact ⟨ret_int HB.out.symm, hb1⟩
        · have t2 : ((byK s[k] : Int) == 2) = false := by rw [e1]; simp [h2]
          have HN : Hid (wordGo false s.data.toList = wordGo (mkS s (k + 1)) (s.data.toList.drop (k + 1))) := by show _ = _; rw [hx.out]; exact wordGo_step hlt h0 (fun h => absurd h h2)
          clear h0 h2 e1 hat
          go_wp2_with (go_at_call 37; refine (kind_ref _ _).mono ?_; rintro e w' ⟨rfl, rfl⟩)
          go_roundw
          case rel => exact ⟨k + 1, by omega, by go_num, HN.out, trivial⟩
          case measure => simp [intOf]; omega
    · have HB : Hid (R = 0) := by
        show _ = _; rw [HE.out, hx.out, List.drop_of_length_le (by simp; omega)]; rfl
      go_wp2
      go_ret
      exact ⟨ret_int HB.out.symm, hb1⟩

def upB (c : UInt8) : Bool := decide (byK c ≤ 4)
theorem isWordP_eq (s : ByteArray) : isWordP s = (decide (1 ≤ s.size ∧ s.size ≤ 64) && (wordGo false s.data.toList && (headOk s.data.toList && allFrom upB s 0))) := rfl
theorem headOk_at {s : ByteArray} (h : 0 < s.size) : headOk s.data.toList = (decide (bK s 0 = 1) || decide (bK s 0 = 3)) := by
  have := drop_cons s 0 h
  rw [List.drop_zero] at this
  rw [this, headOk, bK_at h]
set_option maxHeartbeats 1000000 in
theorem isWord_ref (s : ByteArray) (w : World) : Calls Tryz.prog 38 #[.string s] w fun e w' => e = .returned (.bool (isWordP s)) ∧ Below w.heap.size w w' := by
  have HE := Lib.hid (isWordP_eq s)
  generalize isWordP s = R at *
  by_cases h1 : s.size < 1
  · have HR : Hid (R = false) := by show _ = _; rw [HE.out, decide_eq_false (by omega)]; rfl
    go_enter Tryz.func38, Tryz.ntmps38
    go_wp2
    go_ret
    exact ⟨ret_bool HR.out.symm, Below.refl _ _⟩
  · by_cases h64 : 64 < s.size
    · have HR : Hid (R = false) := by show _ = _; rw [HE.out, decide_eq_false (by omega)]; rfl
      go_enter Tryz.func38, Tryz.ntmps38
      go_wp2
      go_ret
      exact ⟨ret_bool HR.out.symm, Below.refl _ _⟩
    · have hlt : 0 < s.size := by omega
      have hk := byK_le s[0]
      have e0 := bK_at hlt
      have HH : Hid (headOk s.data.toList = (decide (byK s[0] = 1) || decide (byK s[0] = 3))) := by show _ = _; rw [headOk_at hlt, e0]
      have HF := Lib.hid (checkS_ref s w (by omega))
      have HC := Lib.hid (chkS_small (s := s) (by omega))
      have HG : Hid (∀ w, Calls Tryz.prog 37 #[.int .u8 s[0].toNat] w fun e w' => e = .returned (.int .i64 (byK s[0])) ∧ w = w') := fun w => kind_ref _ w
      have HD : Hid (decide (1 ≤ s.size ∧ s.size ≤ 64) = true) := decide_eq_true (by omega)
      generalize chkS s = C at *
      clear e0
      cases hw : wordGo false s.data.toList with
      | false =>
        have HR : Hid (R = false) := by show _ = _; rw [HE.out, hw]; simp
        obtain rfl : C = 11 := by rw [HC.out, hw]; rfl
        clear hw
        go_enter Tryz.func38, Tryz.ntmps38
        go_wp2_with (go_at_call 60; refine HF.out.mono ?_; rintro e w1 ⟨rfl, hb1⟩)
        go_ret
        exact ⟨ret_bool HR.out.symm, hb1⟩
      | true =>
        have HR : Hid (R = (headOk s.data.toList && allFrom upB s 0)) := by show _ = _; rw [HE.out, hw, HD.out]; simp
        obtain rfl : C = 0 := by rw [HC.out, hw]; rfl
        clear hw HE
        generalize headOk s.data.toList = H at *
        by_cases ho : byK s[0] = 1 ∨ byK s[0] = 3
        · have HRR : Hid (R = allFrom upB s 0) := by
            show _ = _; rw [HR.out, HH.out]
            rcases ho with e | e <;> simp [e]
          clear HR HH
          have tt : ((byK s[0] : Int) != 1) = false ∨ (((byK s[0] : Int) != 1) = true ∧ ((byK s[0] : Int) != 3) = false) := by
            rcases ho with e | e
            · left; simp [e]
            · right; rw [e]; exact ⟨rfl, rfl⟩
          clear ho hk
          rcases tt with t1 | ⟨t1, t2⟩
          all_goals
            go_enter Tryz.func38, Tryz.ntmps38
            go_wp2_with (first | (go_at_call 60; refine HF.out.mono ?_; rintro e w1 ⟨rfl, hb1⟩) | (go_at_call 37; refine (HG.out _).mono ?_; rintro e w' ⟨rfl, rfl⟩))
            go_loopw [4] (fun i wr => ∃ k : Nat, k ≤ s.size ∧ i = .int .i64 k ∧ Hid (allFrom upB s 0 = allFrom upB s k) ∧ wr = w1) (fun i _ => s.size - (intOf i).toNat)
            case atStart => exact ⟨0, Nat.zero_le _, rfl, rfl, rfl⟩
            case round =>
              clear t1
              obtain ⟨k, hk, rfl, hx, rfl⟩ := hrel
              by_cases hkl : k < s.size
              · have HS := Lib.hid (allFrom_step (p := upB) hkl)
                by_cases h4 : 4 < byK s[k]
                · have HB : Hid (R = false) := by show _ = _; rw [HRR.out, hx.out, HS.out, show upB s[k] = false from by unfold upB; rw [decide_eq_false (by omega)]]; rfl
                  go_wp2_with (go_at_call 37; refine (kind_ref _ _).mono ?_; rintro e w' ⟨rfl, rfl⟩)
                  go_ret
                  exact ⟨ret_bool HB.out.symm, hb1⟩
                · have HN : Hid (allFrom upB s 0 = allFrom upB s (k + 1)) := by show _ = _; rw [hx.out, HS.out, show upB s[k] = true from by unfold upB; rw [decide_eq_true (by omega)]]; rfl
                  go_wp2_with (go_at_call 37; refine (kind_ref _ _).mono ?_; rintro e w' ⟨rfl, rfl⟩)
                  go_roundw
                  case rel => exact ⟨k + 1, by omega, by go_num, HN.out, trivial⟩
                  case measure => simp [intOf]; omega
              · have HB : Hid (R = true) := by show _ = _; rw [HRR.out, hx.out]; exact allFrom_end (by omega)
                go_wp2
                go_ret
                exact ⟨ret_bool HB.out.symm, hb1⟩
        · have HB : Hid (R = false) := by
            show _ = _; rw [HR.out, HH.out, decide_eq_false (fun e => ho (.inl e)), decide_eq_false (fun e => ho (.inr e))]; rfl
          have t1 : ((byK s[0] : Int) != 1) = true := by simp; exact fun e => ho (.inl e)
          have t2 : ((byK s[0] : Int) != 3) = true := by simp; exact fun e => ho (.inr e)
          clear ho hk HR HH
          go_enter Tryz.func38, Tryz.ntmps38
          go_wp2_with (first | (go_at_call 60; refine HF.out.mono ?_; rintro e w1 ⟨rfl, hb1⟩) | (go_at_call 37; refine (HG.out _).mono ?_; rintro e w' ⟨rfl, rfl⟩))
          go_ret
          exact ⟨ret_bool HB.out.symm, hb1⟩
end Go.Proofs.YtaelfjlmkgimhaaGreatDoor
