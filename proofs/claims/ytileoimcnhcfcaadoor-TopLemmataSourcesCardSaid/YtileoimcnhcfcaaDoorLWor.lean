/- lemma.word, check, Check: what they say of words of texts. -/
import Derived.Test.YtileoimcnhcfcaaDoorLWds
set_option linter.unusedVariables false
set_option linter.unusedSimpArgs false
namespace Go.Proofs.YtileoimcnhcfcaaDoor
open Go.RowKit

/-- A word of a text: a word, a mark, or a gap. -/
def wrdP (s : ByteArray) : Prop := isWordP s = true ∨ markP s = true ∨ gapP s = true
set_option maxRecDepth 100000 in
set_option maxHeartbeats 1000000 in
theorem decimal_yes (m : Nat) (h1 : 1 ≤ m) (h2 : m ≤ 64) (w : World) (hE : Env w) : Calls Tryd.prog 49 #[.string ⟨(Lib.decDigits m).toArray⟩] w fun e w' => e = .returned (.tuple #[.int .i64 m, .bool true]) ∧ Below w.heap.size w w' := by
  have h64 : I64 (m : Int) := ⟨by omega, by omega⟩
  have hok : atoiOk (Lib.decDigits m) = true := by rw [← itoa_nat]; exact atoiOk_itoa _ h64
  have hn : atoiN (Lib.decDigits m) = m := by rw [← itoa_nat]; exact atoiN_itoa _ h64
  have hl : (Lib.decDigits m).length ≤ 2 := by
    rw [Lib.decDigits_length]
    have : ∀ m : Fin 65, Lib.nDigits m.1 ≤ 2 := by decide +kernel
    exact this ⟨m, by omega⟩
  have HF := Lib.hid (atoi_any ⟨(Lib.decDigits m).toArray⟩ (by simp [ByteArray.size]; omega) w hE)
  have HI : Hid (∀ w, Calls Tryd.prog 28 #[.int .i64 (m : Int)] w fun e w' => e = .returned (.string ⟨(Lib.decDigits m).toArray⟩) ∧ w' = w) := fun w => Tryd.strconv_Itoa_small m (by omega) w
  have hd : (⟨(Lib.decDigits m).toArray⟩ : ByteArray).data.toList = Lib.decDigits m := rfl
  rw [hd, hn] at HF
  have HOK := Lib.hid hok
  have hz : (⟨(Lib.decDigits m).toArray⟩ : ByteArray).size ≤ 2 := by simpa [ByteArray.size] using hl
  have b3 : ((⟨(Lib.decDigits m).toArray⟩ : ByteArray).toList == (⟨(Lib.decDigits m).toArray⟩ : ByteArray).toList) = true := str_yes rfl
  clear hd hl hok hn
  generalize (⟨(Lib.decDigits m).toArray⟩ : ByteArray) = s at *
  go_enter Tryd.func49, Tryd.ntmps49
  go_wp2_with (first | (go_at_call 28; refine (HI.out _).mono ?_; rintro e w' ⟨rfl, rfl⟩) | (go_at_call 54; refine HF.out.mono ?_; rintro e w1 ⟨er, rfl, he, hb1⟩; rcases he with ⟨-, rfl⟩ | ⟨he, -⟩; rotate_left; exact absurd (HOK.out.symm.trans he) (by decide)))
  exact bodyPost_ret (results_tmp2 rfl _ _ _) rfl ⟨rfl, hb1⟩
set_option maxRecDepth 100000 in
set_option maxHeartbeats 2000000 in
theorem word_yes (s : ByteArray) (w : World) (h : wrdP s) (hE : Env w) : Calls Tryd.prog 31 #[.string s] w fun e w' => e = .returned (.bool true) ∧ Below w.heap.size w w' := by
  have HW := Lib.hid (isWord_any s w)
  cases hw : isWordP s with
  | true =>
    rw [hw] at HW
    clear hw h
    go_enter Tryd.func31, Tryd.ntmps31
    go_wp2_with (go_at_call 37; refine HW.out.mono ?_; rintro e w1 ⟨rfl, hb1⟩)
    go_ret
    exact ⟨rfl, hb1⟩
  | false =>
    rw [hw] at HW
    rcases h with h | h | h
    · rw [hw] at h; cases h
    · simp only [markP, Bool.and_eq_true, decide_eq_true_eq] at h
      obtain ⟨h1, h2⟩ := h
      have h0 : 0 < s.size := by omega
      have hall : byK s[0] = 5 ∨ byK s[0] = 4 := by
        have hd : s[0] ∈ s.data.toList := by
          have := head_at h0
          exact List.mem_of_mem_head? this
        have := List.all_eq_true.1 h2 _ hd
        simpa using this
      have HK := Lib.hid (fun W => kind_any s[0] W)
      have HB := Lib.hid hw
      clear hw h2 hE HB
      generalize hq : byK s[0] = q at *
      clear hq
      rcases hall with rfl | rfl
      all_goals
        go_enter Tryd.func31, Tryd.ntmps31
        go_wp2_with (first | (go_at_call 37; refine HW.out.mono ?_; rintro e w1 ⟨rfl, hb1⟩) | (go_at_call 47; refine (HK.out _).mono ?_; rintro e w' ⟨rfl, rfl⟩))
        go_ret
        exact ⟨rfl, hb1⟩
    · obtain ⟨m, hm1, hm2, rfl⟩ := gapP_iff.1 h
      obtain ⟨hz, -, -, -, -, -⟩ := gap_parts hm2 rfl
      have hlist := gapT_list m
      have e1 : Lib.hasPrefix (gapT m).data.toList (⟨#[91]⟩ : ByteArray).data.toList = true := by rw [hlist]; simp [Lib.hasPrefix]
      have e2 : Lib.trimPrefix (gapT m).data.toList (⟨#[91]⟩ : ByteArray).data.toList = Lib.decDigits m ++ [93] := by rw [hlist]; simp [Lib.trimPrefix, Lib.hasPrefix]
      have HP := Tryd.strings_CutPrefix (gapT m) ⟨#[91]⟩
      rw [e1, e2] at HP
      have e3 : Lib.hasSuffix (⟨(Lib.decDigits m ++ [93]).toArray⟩ : ByteArray).data.toList (⟨#[93]⟩ : ByteArray).data.toList = true := by simp [Lib.hasSuffix]
      have e4 : Lib.trimSuffix (⟨(Lib.decDigits m ++ [93]).toArray⟩ : ByteArray).data.toList (⟨#[93]⟩ : ByteArray).data.toList = Lib.decDigits m := by simp [Lib.trimSuffix, Lib.hasSuffix]
      have HS := fun W => Tryd.strings_CutSuffix (⟨(Lib.decDigits m ++ [93]).toArray⟩) ⟨#[93]⟩ W (by
        have : (Lib.decDigits m).length ≤ 20 := by rw [Lib.decDigits_length]; exact Lib.nDigits_le20 m (by omega)
        simp [ByteArray.size]; omega)
      rw [e3, e4] at HS
      have HPP := Lib.hid HP
      have HSS := Lib.hid HS
      have HD := Lib.hid (fun W (hb : Below w.heap.size w W) => decimal_yes m hm1 hm2 W (hE.below hb))
      clear e1 e2 e3 e4 HP HS hlist h hw
      generalize gapT m = s at *
      generalize (⟨(Lib.decDigits m ++ [93]).toArray⟩ : ByteArray) = s1 at *
      generalize (⟨(Lib.decDigits m).toArray⟩ : ByteArray) = s2 at *
      go_enter Tryd.func31, Tryd.ntmps31
      go_wp2_with (go_at_call 37; refine HW.out.mono ?_; rintro e w1 ⟨rfl, hb1⟩)
      refine (HPP.out w1).mono ?_
      rintro e w2 ⟨rfl, rfl⟩
      go_wp2_with fail
      refine (HSS.out w2).mono ?_
      rintro e w3 ⟨rfl, rfl⟩
      go_wp2_with fail
      refine (HD.out w3 hb1).mono ?_
      rintro e w4 ⟨rfl, hb4⟩
      have HB := Lib.hid (hb1.trans (hb4.mono hb1.size))
      have m1 : decide ((m : Int) ≤ 64) = true := by simp; omega
      clear hb1 hb4
      go_wp2
      go_ret
      exact ⟨rfl, HB.out⟩
theorem check1_no (s : ByteArray) (w : World) (h : wrdP s) (hE : Env w) : Calls Tryd.prog 30 #[.string s] w fun e w' => e = .returned (.bool false) ∧ Below w.heap.size w w' := by
  have HW := Lib.hid (word_yes s w h hE)
  clear h hE
  go_enter Tryd.func30, Tryd.ntmps30
  go_wp2_with fail
  refine HW.out.mono ?_
  rintro e w1 ⟨rfl, hb1⟩
  go_wp2
  go_ret
  exact ⟨rfl, hb1⟩
set_option maxRecDepth 100000 in
set_option maxHeartbeats 2000000 in
theorem index_no (S : Nat → Prop) (a : Option Addr) (n c : Nat) (ws : List ByteArray) (w : World) (hv : Strs S w a n c ws) (hn : n ≤ 4096) (hw : ∀ s ∈ ws, wrdP s) (hE : Env w) : Calls Tryd.prog 46 #[.slice a n c, .func (.func 30) #[] #[]] w fun e w' => e = .returned (.int .i64 (-1)) ∧ Below w.heap.size w w' := by
  have HV := Lib.hid hv
  have HW := Lib.hid hw
  have HE := Lib.hid hE
  clear hv hw hE
  go_enter Tryd.func46, Tryd.ntmps46
  go_wp2
  go_loopw [8] (fun i wr => ∃ k : Nat, i = .int .i64 k ∧ k ≤ n ∧ Below w.heap.size w wr) (fun i _ => n - (intOf i).toNat)
  case atStart => exact ⟨0, rfl, Nat.zero_le _, Below.refl _ _⟩
  case round =>
    obtain ⟨k, rfl, hk, hB⟩ := hrel
    by_cases hkl : k < n
    · obtain ⟨s, b, off, -, hm, ea, -, -, -, d0⟩ := (HV.out.below rStr_ok hB).str hkl
      subst ea
      have HC := Lib.hid (check1_no s wr (HW.out s hm) (HE.out.below hB))
      have HB := Lib.hid hB
      clear hB hm
      go_wp2_with fail
      refine HC.out.mono ?_
      rintro e w2 ⟨rfl, hb2⟩
      have HB2 := Lib.hid (HB.out.trans (hb2.mono HB.out.size))
      clear hb2 HC
      go_wp2
      go_roundw
      case rel => exact ⟨k + 1, by go_num, by omega, HB2.out⟩
      case measure => simp [intOf]; omega
    · obtain rfl : k = n := by omega
      have HB := Lib.hid hB
      clear hB
      go_wp2
      go_ret
      exact ⟨rfl, HB.out⟩
theorem check_yes (S : Nat → Prop) (a : Option Addr) (n c : Nat) (ws : List ByteArray) (w : World) (hv : Strs S w a n c ws) (hn : n ≤ 4096) (hw : ∀ s ∈ ws, wrdP s) (hE : Env w) : Calls Tryd.prog 17 #[.slice a n c] w fun e w' => e = .returned (.int .i64 0) ∧ Below w.heap.size w w' := by
  have HI := Lib.hid (index_no S a n c ws w hv hn hw hE)
  have HC : Hid (Calls Tryd.prog 29 #[.slice a n c, .func (.func 30) #[] #[]] w fun e w' => e = .returned (.bool false) ∧ Below w.heap.size w w') := by
    show Calls _ _ _ _ _
    clear hv hw hE
    go_enter Tryd.func29, Tryd.ntmps29
    go_wp2_with fail
    refine HI.out.mono ?_
    rintro e w2 ⟨rfl, hb2⟩
    have HB := Lib.hid hb2
    clear hb2
    go_wp2
    go_ret
    exact ⟨rfl, HB.out⟩
  have t1 : decide ((n : Int) > 4096) = false := by simp; omega
  have t2 : decide (4096 < n) = false := by simp; omega
  have t3 : decide (4096 < (n : Int)) = false := by simp; omega
  clear hv hw hE HI
  go_enter Tryd.func17, Tryd.ntmps17
  go_wp2_with fail
  refine HC.out.mono ?_
  rintro e w2 ⟨rfl, hb2⟩
  have HB := Lib.hid hb2
  clear hb2
  go_wp2
  go_ret
  exact ⟨rfl, HB.out⟩
set_option maxRecDepth 100000 in
set_option maxHeartbeats 2000000 in
theorem Check_yes (f l : ByteArray) (m : Nat) (w : World) (hf : wrdP f) (hl : l = ⟨#[]⟩ ∨ (l.size ≠ 0 ∧ wrdP l)) (hm : m ≤ 65536) (hE : Env w) : Calls Tryd.prog 19 #[.agg #[.string f, .string l, .int .i64 (m : Int)]] w fun e w' => e = .returned (.int .i64 0) ∧ Below w.heap.size w w' := by
  have hb1 : Below w.heap.size w (w.alloc (.cells #[.string f, .string l, .int .i64 (m : Int)] 34)) := (Below.refl _ _).alloc (Nat.le_refl _) _
  have HB1 := Lib.hid hb1
  have hbx := World.alloc_heap_new w (.cells #[.string f, .string l, .int .i64 (m : Int)] 34)
  have HBX := Lib.hid hbx
  have hu : w.heap.size < (w.alloc (.cells #[.string f, .string l, .int .i64 (m : Int)] 34)).heap.size := by simp
  have HF := Lib.hid (word_yes f (w.alloc (.cells #[.string f, .string l, .int .i64 (m : Int)] 34)) hf (hE.below hb1))
  have t1 : decide ((m : Int) < 0) = false := by simp
  have t2 : decide ((m : Int) > 65536) = false := by simp; omega
  have t3 : decide (65536 < m) = false := by simp; omega
  have t4 : decide (65536 < (m : Int)) = false := by simp; omega
  obtain ⟨x0, x1, x2, -⟩ := box_cells3 hbx
  rcases hl with rfl | ⟨hz, hl⟩
  · clear hf hE hb1 hbx
    go_enter Tryd.func19, Tryd.ntmps19
    go_wp2_with fail
    refine HF.out.mono ?_
    rintro e w2 ⟨rfl, hb2⟩
    have HB := Lib.hid (HB1.out.trans (hb2.mono HB1.out.size))
    clear x0 x1 x2
    obtain ⟨x0, x1, x2, -⟩ := box_cells3 ((hb2.block _ hu).trans HBX.out)
    clear hb2
    go_wp2
    go_ret
    exact ⟨rfl, HB.out⟩
  · have HL := Lib.hid (fun W (hb : Below w.heap.size w W) => word_yes l W hl (hE.below hb))
    have hq := isEmpty_no hz
    clear hf hE hb1 hbx hl hz
    go_enter Tryd.func19, Tryd.ntmps19
    go_wp2_with fail
    refine HF.out.mono ?_
    rintro e w2 ⟨rfl, hb2⟩
    have HB := Lib.hid (HB1.out.trans (hb2.mono HB1.out.size))
    have HX2 := Lib.hid ((hb2.block _ hu).trans HBX.out)
    have hu2 : w.heap.size < w2.heap.size := (Array.getElem?_eq_some_iff.1 HX2.out).1
    clear x0 x1 x2
    obtain ⟨x0, x1, x2, -⟩ := box_cells3 HX2.out
    clear hb2
    go_wp2_with fail
    refine (HL.out _ HB.out).mono ?_
    rintro e w3 ⟨rfl, hb3⟩
    have HB3 := Lib.hid (HB.out.trans (hb3.mono HB.out.size))
    clear x0 x1 x2
    obtain ⟨x0, x1, x2, -⟩ := box_cells3 ((hb3.block _ hu2).trans HX2.out)
    clear hb3
    go_wp2
    go_ret
    exact ⟨rfl, HB3.out⟩
end Go.Proofs.YtileoimcnhcfcaaDoor
