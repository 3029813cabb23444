/- What marks stand right: the reference; Check of a string. -/
import Derived.Test.YtileoimcnhcfcaaDoorEName
import Derived.Test.YtileoimcnhcfcaaDoorEIter
set_option linter.unusedVariables false
set_option linter.unusedSimpArgs false
namespace Go.Proofs.YtileoimcnhcfcaaDoor
open Go.RowKit

/-- The kind of the character at k. -/
def bK (s : ByteArray) (k : Nat) : Int := byK (s.data.toList[k]?.getD 0)
theorem bK_at {s : ByteArray} {k : Nat} (h : k < s.size) : byK s[k] = bK s k := by
  unfold bK
  have := drop_cons s k h
  have e : s.data.toList[k]? = (s.data.toList.drop k)[0]? := by simp
  rw [e, this]; rfl
/-- May a mark stand at k? -/
def mkS (s : ByteArray) : Nat → Bool
  | 0 => false
  | k + 1 => if bK s k = 2 then mkS s k else decide (bK s k = 1)
/-- Is it a mark that stands right? -/
def rgB (s : ByteArray) (k : Nat) : Bool := decide (bK s k = 2) && mkS s k
def rgL (s : ByteArray) (k : Nat) : List Bool := (List.range k).map (rgB s)
theorem rgL_len (s : ByteArray) (k : Nat) : (rgL s k).length = k := by simp [rgL]
theorem rgL_succ (s : ByteArray) (k : Nat) : rgL s (k + 1) = rgL s k ++ [rgB s k] := by simp [rgL, List.range_succ]
theorem rgL_get {s : ByteArray} {k j : Nat} (h : j < k) : (rgL s k)[j]? = some (rgB s j) := by simp [rgL, h]
theorem wordGo_step {s : ByteArray} {k : Nat} (h : k < s.size) (h1 : bK s k ≠ 0) (h2 : bK s k = 2 → mkS s k = true) : wordGo (mkS s k) (s.data.toList.drop k) = wordGo (mkS s (k + 1)) (s.data.toList.drop (k + 1)) := by
  rw [drop_cons s k h, wordGo, bK_at h, mkS]
  by_cases e : bK s k = 2
  · rw [if_pos e, if_pos e, h2 e]; rfl
  · rw [if_neg e, if_neg h1, if_neg e]
theorem wordGo_bad {s : ByteArray} {k : Nat} (h : k < s.size) (h1 : bK s k = 0 ∨ (bK s k = 2 ∧ mkS s k = false)) : wordGo (mkS s k) (s.data.toList.drop k) = false := by
  rw [drop_cons s k h, wordGo, bK_at h]
  rcases h1 with e | ⟨e, e2⟩
  · rw [if_neg (by omega), if_pos e]
  · rw [if_pos e, e2]; rfl
end Go.Proofs.YtileoimcnhcfcaaDoor

/- The clusters of a string; what the iterator over them does. -/
namespace Go.Proofs.YtileoimcnhcfcaaDoor
open Go.RowKit Go.Shelf
attribute [local go_sem] Oper.semAt_some

/-- The clusters that are complete behind k, and where the next one begins. -/
def cluTo (s : ByteArray) : Nat → List (Nat × Nat) × Nat
  | 0 => ([], 0)
  | k + 1 => if k + 1 < s.size ∧ bK s (k + 1) = 2 ∧ bK s (cluTo s k).2 = 1 then cluTo s k else ((cluTo s k).1 ++ [((cluTo s k).2, k + 1)], k + 1)
def clus (s : ByteArray) : List (Nat × Nat) := (cluTo s s.size).1
theorem clu_le (s : ByteArray) : ∀ k, (cluTo s k).2 ≤ k
  | 0 => Nat.le_refl _
  | k + 1 => by
    have := clu_le s k
    rw [cluTo]; split
    · omega
    · exact Nat.le_refl _
theorem clu_mem (s : ByteArray) : ∀ k, ∀ x ∈ (cluTo s k).1, x.1 < x.2 ∧ x.2 ≤ k
  | 0, x, h => by simp [cluTo] at h
  | k + 1, x, h => by
    have hl := clu_le s k
    rw [cluTo] at h
    split at h
    · have := clu_mem s k x h; omega
    · rcases List.mem_append.1 h with h | h
      · have := clu_mem s k x h; omega
      · obtain rfl := List.mem_singleton.1 h
        exact ⟨by show _ < k + 1; omega, Nat.le_refl _⟩
theorem clu_pre (s : ByteArray) {k : Nat} : ∀ m, (cluTo s k).1 <+: (cluTo s (k + m)).1
  | 0 => List.prefix_rfl
  | m + 1 => by
    refine (clu_pre s m).trans ?_
    rw [show k + (m + 1) = (k + m) + 1 by omega]
    conv => rhs; rw [cluTo]
    split
    · exact List.prefix_rfl
    · exact List.prefix_append _ _
theorem clu_pre' (s : ByteArray) {k : Nat} (h : k ≤ s.size) : (cluTo s k).1 <+: clus s := by
  have := clu_pre s (k := k) (s.size - k)
  rw [show k + (s.size - k) = s.size by omega] at this
  exact this
abbrev Clu (s : ByteArray) := { x : Nat × Nat // x ∈ clus s }
abbrev cluEnc (s : ByteArray) (x : Clu s) : Array Value := #[.int .i64 (x.1.1 : Int), .string (s.extract x.1.1 x.1.2)]
def cluL (s : ByteArray) : List (Clu s) := (clus s).attach
theorem cluL_len (s : ByteArray) : (cluL s).length = (clus s).length := by simp [cluL]
/-- Behind a cluster that is handed on. -/
theorem clu_yield {s : ByteArray} {k : Nat} (h : k < s.size) (hn : ¬ (k + 1 < s.size ∧ bK s (k + 1) = 2 ∧ bK s (cluTo s k).2 = 1)) :
    ∃ x : Clu s, x.1 = ((cluTo s k).2, k + 1) ∧ (cluL s)[(cluTo s k).1.length]? = some x ∧ (cluTo s (k + 1)).1.length = (cluTo s k).1.length + 1 ∧ (cluTo s (k + 1)).2 = k + 1 := by
  have e : cluTo s (k + 1) = ((cluTo s k).1 ++ [((cluTo s k).2, k + 1)], k + 1) := by rw [cluTo, if_neg hn]
  obtain ⟨r, hr⟩ := clu_pre' s (k := k + 1) (by omega)
  rw [e] at hr
  have hget : (clus s)[(cluTo s k).1.length]? = some ((cluTo s k).2, k + 1) := by rw [← hr]; simp
  have hlt := (List.getElem?_eq_some_iff.1 hget).1
  refine ⟨⟨_, List.mem_of_getElem? hget⟩, rfl, ?_, by rw [e]; simp, by rw [e]⟩
  unfold cluL
  rw [List.getElem?_attach]
  simp [hget]
theorem clu_skip {s : ByteArray} {k : Nat} (h : k + 1 < s.size ∧ bK s (k + 1) = 2 ∧ bK s (cluTo s k).2 = 1) : cluTo s (k + 1) = cluTo s k := by rw [cluTo, if_pos h]
theorem right_any (s : ByteArray) (f k : Nat) (w : World) (hf : f < s.size) (hk : f < k) : Calls Tryd.prog 73 #[.string s, .int .i64 (f : Int), .int .i64 (k : Int)] w fun e w' => e = .returned (.bool (decide (bK s f = 1))) ∧ w = w' := by
  have e1 := bK_at hf
  by_cases h : bK s f = 1
  · have t1 : ((byK s[f] : Int) == 1) = true := by rw [e1]; simp [h]
    rw [decide_eq_true h]
    clear h e1
    go_enter Tryd.func73, Tryd.ntmps73
    go_wp2_with (go_at_call 47; refine (kind_any _ _).mono ?_; rintro e w' ⟨rfl, rfl⟩)
    go_ret
    exact ⟨rfl, rfl⟩
  · have t1 : ((byK s[f] : Int) == 1) = false := by rw [e1]; simp [h]
    rw [decide_eq_false h]
    clear h e1
    go_enter Tryd.func73, Tryd.ntmps73
    go_wp2_with (go_at_call 47; refine (kind_any _ _).mono ?_; rintro e w' ⟨rfl, rfl⟩)
    go_ret
    exact ⟨rfl, rfl⟩
set_option maxRecDepth 100000 in
set_option maxHeartbeats 2000000 in
theorem clus_stops (m : Nat) (_hm : 1 ≤ m) (bs : Nat) (s : ByteArray) (w : World) (Kp : World → World → Prop)
    (hKp : ∀ A B, Kp A B → A.cell? ⟨bs, 0, none⟩ = some (.string s) → B.cell? ⟨bs, 0, none⟩ = some (.string s)) (hr : w.cell? ⟨bs, 0, none⟩ = some (.string s)) (hn : s.size ≤ 65536) :
    SeqStopsK Fence.wide m Tryd.prog 72 #[.pointer (some ⟨bs, 0, none⟩)] (cluEnc s) Kp (fun ys => ys = cluL s) (fun pre => pre <+: cluL s) (cluL s).length w := fun lo J Jx W0 hW hJ _ hY h0 => by
  have c0 := cell_later hW hr
  have HKP := Lib.hid hKp
  have HY := Lib.hid hY
  have HJ0 : Hid (J [] W0) := h0
  clear hY hJ hW hr hKp w h0
  obtain ⟨W, rfl⟩ : ∃ W, W = W0 := ⟨_, rfl⟩
  refine callsIn_of_wp Tryd.func72 rfl trivial ?_ rfl
  simp only [Tryd.ntmps72, List.size_toArray, List.length_cons, List.length_nil, Nat.reduceAdd, Nat.reduceSub, Array.replicate_succ, Array.replicate_zero, List.push_toArray, List.append_toArray, List.nil_append, List.cons_append]
  gi_wp2
  gi_loopw [3, 4] (fun f i wr => ∃ k : Nat, f = .int .i64 ((cluTo s k).2 : Nat) ∧ i = .int .i64 ((k + 1 : Nat) : Int) ∧ k ≤ s.size ∧ wr.cell? ⟨bs, 0, none⟩ = some (.string s) ∧ Hid (J ((cluL s).take (cluTo s k).1.length) wr)) (fun _ i _ => s.size + 1 - (intOf i).toNat)
  case atStart => exact ⟨0, rfl, rfl, Nat.zero_le _, c0, HJ0.out⟩
  case round =>
    clear HJ0 c0
    obtain ⟨k, rfl, rfl, hk, c1, hJp⟩ := hrel
    by_cases hlt : k < s.size
    · have hfr := clu_le s k
      have hfz : (cluTo s k).2 < s.size := by omega
      have hA : ∀ hh : k + 1 < s.size, byK s[k + 1] = bK s (k + 1) := fun hh => bK_at hh
      have HRT : Hid (∀ W, Calls Tryd.prog 73 #[.string s, .int .i64 ((cluTo s k).2 : Nat), .int .i64 ((k : Int) + 1)] W fun e w' => e = .returned (.bool (decide (bK s (cluTo s k).2 = 1))) ∧ W = w') := fun W => by
        have := right_any s (cluTo s k).2 (k + 1) W hfz (by omega)
        rwa [show ((k + 1 : Nat) : Int) = (k : Int) + 1 by omega] at this
      rw [show ((k + 1 : Nat) : Int) = (k : Int) + 1 by omega]
      by_cases hsk : k + 1 < s.size ∧ bK s (k + 1) = 2 ∧ bK s (cluTo s k).2 = 1
      · have HSK := Lib.hid (clu_skip hsk)
        obtain ⟨h1, h2, h3⟩ := hsk
        have t2 : ((byK s[k + 1] : Int) == 2) = true := by rw [hA h1]; simp [h2]
        have t3 : decide (bK s (cluTo s k).2 = 1) = true := decide_eq_true h3
        rw [t3] at HRT
        clear hA h2 h3 t3
        generalize hF : (cluTo s k).2 = F at *
        have HFF := Lib.hid hF
        clear hF
        gi_wp2_with (first | (refine ⟨trivial, ?_⟩; refine (callsIn_wide.2 (kind_any _ _)).mono ?_; rintro e w' ⟨rfl, rfl⟩) | (refine ⟨trivial, ?_⟩; refine (callsIn_wide.2 (HRT.out _)).mono ?_; rintro e w' ⟨rfl, rfl⟩))
        go_roundw
        case rel => exact ⟨k + 1, by rw [HSK.out, HFF.out], by go_num, by omega, c1, by rw [HSK.out]; exact hJp.out⟩
        case measure => simp [intOf]; omega
      · obtain ⟨x, x1, x2, x3, x4⟩ := clu_yield hlt hsk
        have hke : (cluTo s k).1.length < (cluL s).length := (List.getElem?_eq_some_iff.1 x2).1
        obtain ⟨fn, tmps, assign, body, hy, hR⟩ := HY.out _ x wr hJp.out (by rw [List.length_take]; omega)
        have hnext : Hid ((cluL s).take (cluTo s k).1.length ++ [x] = (cluL s).take (cluTo s (k + 1)).1.length) := by
          show _ = _
          rw [x3, List.take_add_one, x2]; rfl
        have hpre : Hid ((cluL s).take (cluTo s (k + 1)).1.length <+: cluL s) := List.take_prefix _ _
        have HX4 := Lib.hid x4
        dsimp only [cluEnc] at hy
        rw [x1] at hy
        dsimp only at hy
        have HRR := Lib.hid hR
        have hway : s.size ≤ k + 1 ∨ ∃ h1 : k + 1 < s.size, ((byK s[k + 1] : Int) == 2) = false ∨ (((byK s[k + 1] : Int) == 2) = true ∧ decide (bK s (cluTo s k).2 = 1) = false) := by
          by_cases h1 : k + 1 < s.size
          · right
            refine ⟨h1, ?_⟩
            rw [hA h1]
            by_cases h2 : bK s (k + 1) = 2
            · right
              exact ⟨by simp [h2], decide_eq_false fun h3 => hsk ⟨h1, h2, h3⟩⟩
            · left; simp [h2]
          · left; omega
        clear hR x1 x2 x3 x4 hke hA hsk
        generalize hF : (cluTo s k).2 = F at *
        clear hF
        rcases hway with hz | ⟨hz, t2 | ⟨t2, t3⟩⟩
        case' inr.inr => rw [t3] at HRT
        all_goals
          gi_wp2_with (first | (refine ⟨trivial, ?_⟩; refine (callsIn_wide.2 (kind_any _ _)).mono ?_; rintro e w' ⟨rfl, rfl⟩) | (refine ⟨trivial, ?_⟩; refine (callsIn_wide.2 (HRT.out _)).mono ?_; rintro e w' ⟨rfl, rfl⟩))
          repeat ((with_reducible refine And.intro ?_ ?_); exact trivial; gi_wp2_with (first | (refine ⟨trivial, ?_⟩; refine (callsIn_wide.2 (kind_any _ _)).mono ?_; rintro e w' ⟨rfl, rfl⟩) | (refine ⟨trivial, ?_⟩; refine (callsIn_wide.2 (HRT.out _)).mono ?_; rintro e w' ⟨rfl, rfl⟩)))
          refine HRR.out.mono ?_
          rintro e W3 (⟨rfl, hJ3, hk3⟩ | ⟨rfl, hJx3⟩)
          · have HJ3 := Lib.hid hJ3
            have c3 := HKP.out _ _ hk3 c1
            clear hJ3 hk3
            gi_wp2
            go_roundw
            case rel => exact ⟨k + 1, by rw [HX4.out]; go_num, by go_num, by omega, c3, by rw [← hnext.out]; exact HJ3.out⟩
            case measure => simp [intOf]; omega
          · gi_wp2
            refine bodyPost_ret (results_none rfl _ _ _) rfl ?_
            exact ⟨⟨_, rfl⟩, .inr ⟨_, hpre.out, by rw [← hnext.out]; exact hJx3⟩⟩
    · obtain rfl : k = s.size := by omega
      gi_wp2
      go_end0
      refine ⟨⟨_, rfl⟩, .inl ⟨_, ?_, hJp.out⟩⟩
      rw [List.take_of_length_le (by rw [cluL_len]; exact Nat.le_refl _)]
end Go.Proofs.YtileoimcnhcfcaaDoor

/- Check, IsWord, IsName of the reference. -/
namespace Go.Proofs.YtileoimcnhcfcaaDoor
open Go.RowKit

theorem chkS_small {s : ByteArray} (h : s.size ≤ 65536) : chkS s = if wordGo false s.data.toList then 0 else 11 := by unfold chkS; rw [if_neg (by omega)]
def upB (c : UInt8) : Bool := decide (byK c ≤ 4)
theorem isWordP_eq (s : ByteArray) : isWordP s = (decide (1 ≤ s.size ∧ s.size ≤ 64) && (wordGo false s.data.toList && (headOk s.data.toList && allFrom upB s 0))) := rfl
theorem headOk_at {s : ByteArray} (h : 0 < s.size) : headOk s.data.toList = (decide (bK s 0 = 1) || decide (bK s 0 = 3)) := by
  have := drop_cons s 0 h
  rw [List.drop_zero] at this
  rw [this, headOk, bK_at h]
end Go.Proofs.YtileoimcnhcfcaaDoor
