/- The kind of a character, of both sides; letters; names. -/
import Derived.Test.YtaelfjlmkgimhaaGreatDoorEDat
import Derived.Test.YtaelfjlmkgimhaaGreatDoorShelf
set_option linter.unusedVariables false
set_option linter.unusedSimpArgs false
namespace Go.Proofs.YtaelfjlmkgimhaaGreatDoor
open Go.RowKit

theorem ret_int {k : IntKind} {a b : Int} (h : a = b) : Ending.returned (.int k a) = .returned (.int k b) := by rw [h]
theorem ret_bool {a b : Bool} (h : a = b) : Ending.returned (.bool a) = .returned (.bool b) := by rw [h]
/-- The punctuation marks. -/
def puncts : ByteArray := ⟨#[46, 44, 59, 58, 33, 63, 40, 41, 45]⟩
theorem index_puncts (c : UInt8) : decide (0 ≤ Lib.indexByte puncts.data.toList c) = decide (c.toNat = 46 ∨ c.toNat = 44 ∨ c.toNat = 59 ∨ c.toNat = 58 ∨ c.toNat = 33 ∨ c.toNat = 63 ∨ c.toNat = 40 ∨ c.toNat = 41 ∨ c.toNat = 45) := by
  have key : ∀ n : Fin 256, decide (0 ≤ Lib.indexByte puncts.data.toList (UInt8.ofNat n.val)) = decide (n.val = 46 ∨ n.val = 44 ∨ n.val = 59 ∨ n.val = 58 ∨ n.val = 33 ∨ n.val = 63 ∨ n.val = 40 ∨ n.val = 41 ∨ n.val = 45) := by decide +kernel
  have := key ⟨c.toNat, c.toNat_lt⟩
  simpa using this
theorem toNat_cast (c : UInt8) : ((c.toNat : Int)).toNat.toUInt8 = c := by simp

set_option maxHeartbeats 1000000 in
theorem kind_ref (c : UInt8) (w : World) : Calls Tryz.prog 37 #[.int .u8 c.toNat] w fun e w' => e = .returned (.int .i64 (byK c)) ∧ w = w' := by
  have hc := c.toNat_lt
  go_enter Tryz.func37, Tryz.ntmps37
  go_wp2
  all_goals
    go_ret
    refine ⟨ret_int ?_, rfl⟩
    try simp only [beq_iff_eq, beq_eq_false_iff_ne, ne_eq, bne_eq_false_iff_eq, bne_iff_ne] at *
    unfold byK chK; repeat' split
    all_goals omega
set_option maxHeartbeats 1000000 in
theorem kind_any (c : UInt8) (w : World) : Calls Tryz.prog 93 #[.int .u8 c.toNat] w fun e w' => e = .returned (.int .i64 (byK c)) ∧ w = w' := by
  have hc := c.toNat_lt
  obtain ⟨i, hi⟩ : ∃ i, i = Lib.indexByte puncts.data.toList c := ⟨_, rfl⟩
  have F := Tryz.strings_IndexByte puncts c.toNat w
  rw [toNat_cast, ← hi] at F
  have hd := index_puncts c
  rw [← hi] at hd
  have HF := Lib.hid F
  have HD := Lib.hid hd
  clear F hd hi
  go_enter Tryz.func93, Tryz.ntmps93
  go_wp2_with (go_at_call 104; refine HF.out.mono ?_; rintro e w' ⟨rfl, rfl⟩)
  all_goals
    go_ret
    refine ⟨ret_int ?_, rfl⟩
    have := HD.out
    have hp : ∀ {p q : Prop} [Decidable p] [Decidable q], decide p = decide q → (p ↔ q) := by intro p q _ _ h; exact decide_eq_decide.1 h
    have := hp this
    try simp only [beq_iff_eq, beq_eq_false_iff_ne, ne_eq, bne_eq_false_iff_eq, bne_iff_ne] at *
    unfold byK chK; repeat' split
    all_goals omega
end Go.Proofs.YtaelfjlmkgimhaaGreatDoor

/- Letters, names, what words may consist of. -/
namespace Go.Proofs.YtaelfjlmkgimhaaGreatDoor
open Go.RowKit

theorem seven {k : Int} (h : 0 ≤ k ∧ k ≤ 6) : k = 0 ∨ k = 1 ∨ k = 2 ∨ k = 3 ∨ k = 4 ∨ k = 5 ∨ k = 6 := by omega
def innB (c : UInt8) : Bool := decide (1 ≤ byK c ∧ byK c ≤ 4)
theorem begins_any (c : UInt8) (w : World) : Calls Tryz.prog 108 #[.int .u8 c.toNat] w fun e w' => e = .returned (.bool (letB c)) ∧ w = w' := by
  have F := kind_any c w
  have hk := byK_le c
  have hE : letB c = (decide (byK c = 1) || decide (byK c = 3)) := rfl
  generalize byK c = k at *
  generalize letB c = b at *
  have HF := Lib.hid F
  clear F
  rcases seven hk with rfl | rfl | rfl | rfl | rfl | rfl | rfl
  all_goals
    simp at hE
    subst hE
    clear hk
    go_enter Tryz.func108, Tryz.ntmps108
    go_wp2_with (go_at_call 93; refine HF.out.mono ?_; rintro e w' ⟨rfl, rfl⟩)
    go_ret
    exact ⟨rfl, rfl⟩
theorem inner_any (c : UInt8) (w : World) : Calls Tryz.prog 97 #[.int .u8 c.toNat] w fun e w' => e = .returned (.bool (innB c)) ∧ w = w' := by
  have F := kind_any c w
  have G := begins_any c w
  have hk := byK_le c
  have hE : letB c = (decide (byK c = 1) || decide (byK c = 3)) := rfl
  have hI : innB c = decide (1 ≤ byK c ∧ byK c ≤ 4) := rfl
  generalize byK c = k at *
  generalize letB c = b at *
  generalize innB c = b' at *
  have HF := Lib.hid F
  have HG := Lib.hid G
  clear F G
  rcases seven hk with rfl | rfl | rfl | rfl | rfl | rfl | rfl
  all_goals
    simp at hE hI
    subst hE hI
    clear hk
    go_enter Tryz.func97, Tryz.ntmps97
    go_wp2_with (first | (go_at_call 93; refine HF.out.mono ?_; rintro e w' ⟨rfl, rfl⟩) | (go_at_call 108; refine HG.out.mono ?_; rintro e w' ⟨rfl, rfl⟩))
    go_ret
    exact ⟨rfl, rfl⟩
theorem wordly_ref (c : UInt8) (w : World) : Calls Tryz.prog 39 #[.int .u8 c.toNat] w fun e w' => e = .returned (.bool (innB c)) ∧ w = w' := by
  have F := kind_ref c w
  have hk := byK_le c
  have hI : innB c = decide (1 ≤ byK c ∧ byK c ≤ 4) := rfl
  generalize byK c = k at *
  generalize innB c = b' at *
  have HF := Lib.hid F
  clear F
  rcases seven hk with rfl | rfl | rfl | rfl | rfl | rfl | rfl
  all_goals
    simp at hI
    subst hI
    clear hk
    go_enter Tryz.func39, Tryz.ntmps39
    go_wp2_with (go_at_call 37; refine HF.out.mono ?_; rintro e w' ⟨rfl, rfl⟩)
    go_ret
    exact ⟨rfl, rfl⟩

theorem take_snoc (s : ByteArray) (k : Nat) (h : k < s.size) : s.data.toList.take (k + 1) = s.data.toList.take k ++ [s[k]] := by
  rw [List.take_succ_eq_append_getElem (by simpa using h)]; rfl
theorem drop_cons (s : ByteArray) (k : Nat) (h : k < s.size) : s.data.toList.drop k = s[k] :: s.data.toList.drop (k + 1) := by
  rw [List.drop_eq_getElem_cons (by simpa using h)]; rfl
theorem drop_end (s : ByteArray) : s.data.toList.drop s.size = [] := List.drop_of_length_le (by simp)
/-- How many letters and digits there are. -/
def lets (l : List UInt8) : Int := (l.filter letB).length
theorem lets_snoc (l : List UInt8) (c : UInt8) : lets (l ++ [c]) = lets l + if letB c = true then 1 else 0 := by
  unfold lets; rw [List.filter_append]
  cases h : letB c <;> simp [List.filter_cons, h]
theorem lets_le (l : List UInt8) : 0 ≤ lets l ∧ lets l ≤ l.length := by
  unfold lets; exact ⟨by omega, by have := List.length_filter_le letB l; omega⟩
theorem lets_all (l : List UInt8) : lets l = l.length ↔ l.all letB = true := by
  unfold lets
  rw [List.all_eq_true]
  constructor
  · intro h
    have := List.length_filter_eq_length_iff.1 (by omega : (l.filter letB).length = l.length)
    exact this
  · intro h
    have := List.length_filter_eq_length_iff.2 h
    omega
set_option maxHeartbeats 400000 in
theorem letters_any (s : ByteArray) (w : World) (hs : s.size ≤ 1000000) : Calls Tryz.prog 109 #[.string s] w fun e w' => e = .returned (.int .i64 (lets s.data.toList)) ∧ w = w' := by
  go_enter Tryz.func109, Tryz.ntmps109
  go_wp2
  go_loop [3, 8] (fun n i => ∃ k : Nat, k ≤ s.size ∧ i = .int .i64 k ∧ n = .int .i64 (lets (s.data.toList.take k))) (fun _ i => s.size - (intOf i).toNat)
  case atStart => exact ⟨0, Nat.zero_le _, rfl, rfl⟩
  case round =>
    obtain ⟨k, hk, rfl, rfl⟩ := hrel
    have hd := lets_le (s.data.toList.take k)
    have hl : (s.data.toList.take k).length ≤ k := List.length_take_le _ _
    by_cases hlt : k < s.size
    · have HS : Hid (lets (s.data.toList.take (k + 1)) = lets (s.data.toList.take k) + if letB s[k] = true then 1 else 0) := by
        show _ = _; rw [take_snoc s k hlt]; exact lets_snoc _ _
      have hE : letB s[k] = (decide (byK s[k] = 1) || decide (byK s[k] = 3)) := rfl
      generalize letB s[k] = b at *
      have HF : Hid (∀ w, Calls Tryz.prog 93 #[.int .u8 s[k].toNat] w fun e w' => e = .returned (.int .i64 (byK s[k])) ∧ w = w') := fun w => kind_any _ w
      generalize byK s[k] = q at *
      have HE := Lib.hid hE
      clear hE
      go_wp2_with (go_at_call 93; refine (HF.out _).mono ?_; rintro e w' ⟨rfl, rfl⟩)
      all_goals
        go_round
        case rel => exact ⟨k + 1, by omega, by go_num, by
          have hE := HE.out
          try simp only [beq_iff_eq, beq_eq_false_iff_ne, ne_eq, bne_eq_false_iff_eq, bne_iff_ne] at *
          rw [HS.out]
          first | (rw [if_pos (by rw [hE]; simp; omega)]) | (rw [if_neg (by rw [hE]; simp; omega)]; go_num)⟩
        case measure => simp [intOf]; omega
    · go_wp2
      go_ret
      exact ⟨ret_int (by rw [List.take_of_length_le (by simp; omega)]), rfl⟩
set_option maxHeartbeats 400000 in
theorem letters_ref (s : ByteArray) (w : World) (hs : s.size ≤ 1000000) : Calls Tryz.prog 86 #[.string s] w fun e w' => e = .returned (.int .i64 (lets s.data.toList)) ∧ w = w' := by
  go_enter Tryz.func86, Tryz.ntmps86
  go_wp2
  go_loop [3, 4] (fun n i => ∃ k : Nat, k ≤ s.size ∧ i = .int .i64 k ∧ n = .int .i64 (lets (s.data.toList.take k))) (fun _ i => s.size - (intOf i).toNat)
  case atStart => exact ⟨0, Nat.zero_le _, rfl, rfl⟩
  case round =>
    obtain ⟨k, hk, rfl, rfl⟩ := hrel
    have hd := lets_le (s.data.toList.take k)
    have hl : (s.data.toList.take k).length ≤ k := List.length_take_le _ _
    by_cases hlt : k < s.size
    · have HS : Hid (lets (s.data.toList.take (k + 1)) = lets (s.data.toList.take k) + if letB s[k] = true then 1 else 0) := by
        show _ = _; rw [take_snoc s k hlt]; exact lets_snoc _ _
      have hE : letB s[k] = (decide (byK s[k] = 1) || decide (byK s[k] = 3)) := rfl
      generalize letB s[k] = b at *
      have HF : Hid (∀ w, Calls Tryz.prog 37 #[.int .u8 s[k].toNat] w fun e w' => e = .returned (.int .i64 (byK s[k])) ∧ w = w') := fun w => kind_ref _ w
      generalize byK s[k] = q at *
      have HE := Lib.hid hE
      clear hE
      go_wp2_with (go_at_call 37; refine (HF.out _).mono ?_; rintro e w' ⟨rfl, rfl⟩)
      all_goals
        go_round
        case rel => exact ⟨k + 1, by omega, by go_num, by
          have hE := HE.out
          try simp only [beq_iff_eq, beq_eq_false_iff_ne, ne_eq, bne_eq_false_iff_eq, bne_iff_ne] at *
          rw [HS.out]
          first | (rw [if_pos (by rw [hE]; simp; omega)]) | (rw [if_neg (by rw [hE]; simp; omega)]; go_num)⟩
        case measure => simp [intOf]; omega
    · go_wp2
      go_ret
      exact ⟨ret_int (by rw [List.take_of_length_le (by simp; omega)]), rfl⟩
end Go.Proofs.YtaelfjlmkgimhaaGreatDoor

/- Names and sigla, of both sides; what stands for nothing; marks; norms. -/
namespace Go.Proofs.YtaelfjlmkgimhaaGreatDoor
open Go.RowKit

theorem toList_nil {t : ByteArray} : t.toList = [] ↔ t.size = 0 := by
  rw [ByteArray.toList_eq]
  constructor
  · intro h; have := congrArg List.length h; simpa using this
  · intro h; exact List.eq_nil_of_length_eq_zero (by simpa using h)
theorem isEmpty_yes {t : ByteArray} (h : t.size = 0) : t.toList.isEmpty = true := by rw [List.isEmpty_iff]; exact toList_nil.2 h
theorem isEmpty_no {t : ByteArray} (h : t.size ≠ 0) : t.toList.isEmpty = false := by
  cases e : t.toList.isEmpty with
  | false => rfl
  | true => rw [List.isEmpty_iff] at e; exact absurd (toList_nil.1 e) h
theorem isName_any (s : ByteArray) (w : World) : Calls Tryz.prog 98 #[.string s] w fun e w' => e = .returned (.bool (isNameP s)) ∧ w = w' := by
  have hE : isNameP s = (decide (1 ≤ s.size ∧ s.size ≤ 16) && s.data.toList.all letB) := rfl
  have hl : s.data.toList.length = s.size := Array.length_toList
  have hA := lets_all s.data.toList
  rw [hl] at hA
  by_cases h0 : s.size = 0
  · have d0 := isEmpty_yes h0
    have d1 := toList_nil.2 h0
    have hR : isNameP s = false := by rw [hE, decide_eq_false (by omega)]; rfl
    rw [hR]
    clear hE hl hA hR h0
    go_enter Tryz.func98, Tryz.ntmps98
    go_wp2
    go_ret
    exact ⟨rfl, rfl⟩
  · have d0 := isEmpty_no h0
    have d1 : ¬ s.toList = [] := fun h => h0 (toList_nil.1 h)
    by_cases h16 : s.size ≤ 16
    · have HF := Lib.hid (letters_any s w (by omega))
      generalize lets s.data.toList = L at *
      have HR : Hid (isNameP s = s.data.toList.all letB) := by show _ = _; rw [hE, decide_eq_true (by omega)]; rfl
      generalize isNameP s = R at *
      generalize s.data.toList.all letB = Q at *
      clear hE hl
      by_cases hL : L = (s.size : Int)
      · have hq : Q = true := hA.1 hL
        have b1 : (L == (s.size : Int)) = true := by simp [hL]
        have HQ := Lib.hid hq
        clear hA h0 hq
        go_enter Tryz.func98, Tryz.ntmps98
        go_wp2_with (go_at_call 109; refine HF.out.mono ?_; rintro e w' ⟨rfl, rfl⟩)
        go_ret
        exact ⟨ret_bool (by rw [HR.out, HQ.out]), rfl⟩
      · have hq : Q = false := by
          cases Q with
          | false => rfl
          | true => exact absurd (hA.2 rfl) hL
        have b1 : (L == (s.size : Int)) = false := by simp [hL]
        have HQ := Lib.hid hq
        clear hA h0 hq
        go_enter Tryz.func98, Tryz.ntmps98
        go_wp2_with (go_at_call 109; refine HF.out.mono ?_; rintro e w' ⟨rfl, rfl⟩)
        go_ret
        exact ⟨ret_bool (by rw [HR.out, HQ.out]), rfl⟩
    · have hR : isNameP s = false := by rw [hE, decide_eq_false (by omega)]; rfl
      rw [hR]
      have b1 : decide (s.size ≤ 16) = false := by simpa using h16
      clear hE hl hA hR h0
      go_enter Tryz.func98, Tryz.ntmps98
      go_wp2
      go_ret
      exact ⟨rfl, rfl⟩
theorem named_any (s : ByteArray) (w : World) : Calls Tryz.prog 79 #[.string s] w fun e w' => e = .returned (.bool (namedP s)) ∧ w = w' := by
  have HF := Lib.hid (isName_any s w)
  have HE : Hid (namedP s = (decide (s.size = 0) || isNameP s)) := rfl
  generalize namedP s = R at *
  generalize isNameP s = Q at *
  by_cases h0 : s.size = 0
  · have d0 := isEmpty_yes h0
    have d1 := toList_nil.2 h0
    have hR : Hid (R = true) := by show _ = _; rw [HE.out, decide_eq_true h0]; rfl
    clear h0
    go_enter Tryz.func79, Tryz.ntmps79
    go_wp2
    go_ret
    exact ⟨ret_bool hR.out.symm, rfl⟩
  · have d0 := isEmpty_no h0
    have d1 : ¬ s.toList = [] := fun h => h0 (toList_nil.1 h)
    have hR : Hid (R = Q) := by show _ = _; rw [HE.out, decide_eq_false h0]; rfl
    clear h0
    go_enter Tryz.func79, Tryz.ntmps79
    go_wp2_with (go_at_call 98; refine HF.out.mono ?_; rintro e w' ⟨rfl, rfl⟩)
    go_ret
    exact ⟨ret_bool hR.out.symm, rfl⟩
theorem bytes_one {s : ByteArray} (h : s.size = 1) : ∃ c, s.data.toList = [c] ∧ ∀ h0 : 0 < s.size, s[0]'h0 = c := by
  have hl : s.data.toList.length = 1 := by rw [Array.length_toList]; exact h
  match hs : s.data.toList, hl with
  | [c], _ =>
    refine ⟨c, rfl, fun h0 => ?_⟩
    have := drop_cons s 0 (by omega)
    rw [List.drop_zero, hs] at this
    exact (List.cons.inj this).1.symm
set_option maxHeartbeats 400000 in
theorem mark_any (s : ByteArray) (w : World) : Calls Tryz.prog 76 #[.string s] w fun e w' => e = .returned (.bool (markP s)) ∧ w = w' := by
  by_cases h1 : s.size = 1
  · obtain ⟨c, hs, hc⟩ := bytes_one h1
    have HR : Hid (markP s = (decide (byK c = 5) || decide (byK c = 4))) := by show markP s = _; unfold markP; rw [decide_eq_true h1, hs]; simp
    have hF := kind_any c w
    have hlt : 0 < s.size := by omega
    rw [← hc hlt] at hF
    have HF := Lib.hid hF
    generalize markP s = R at *
    have hk := byK_le s[0]
    rw [← hc hlt] at HR
    generalize byK s[0] = k at *
    have b1 : ((s.size : Int) != 1) = false := by simp [h1]
    have j1 : (0 : Int) < (s.size : Int) := by omega
    have HS := Lib.hid h1
    clear hF hs hc h1
    rcases seven hk with rfl | rfl | rfl | rfl | rfl | rfl | rfl
    all_goals
      go_enter Tryz.func76, Tryz.ntmps76
      go_wp2_with (go_at_call 93; refine HF.out.mono ?_; rintro e w' ⟨rfl, rfl⟩)
      go_ret
      exact ⟨ret_bool (by rw [HR.out]; rfl), rfl⟩
  · have HR : Hid (markP s = false) := by show markP s = _; unfold markP; rw [decide_eq_false h1]; rfl
    have b1 : ((s.size : Int) != 1) = true := by simp; omega
    generalize markP s = R at *
    clear h1
    go_enter Tryz.func76, Tryz.ntmps76
    go_wp2
    go_ret
    exact ⟨ret_bool HR.out.symm, rfl⟩
/-- All behind k are of this kind. -/
def allFrom (p : UInt8 → Bool) (s : ByteArray) (k : Nat) : Bool := (s.data.toList.drop k).all p
theorem allFrom_step {p : UInt8 → Bool} {s : ByteArray} {k : Nat} (h : k < s.size) : allFrom p s k = (p s[k] && allFrom p s (k + 1)) := by
  unfold allFrom; rw [drop_cons s k h, List.all_cons]
theorem allFrom_end {p : UInt8 → Bool} {s : ByteArray} {k : Nat} (h : s.size ≤ k) : allFrom p s k = true := by
  unfold allFrom; rw [List.drop_of_length_le (by simpa using h)]; rfl
theorem normP_eq (s : ByteArray) : normP s = (decide (1 ≤ s.size ∧ s.size ≤ 64) && allFrom innB s 0) := rfl
set_option maxHeartbeats 400000 in
theorem norm_any (s : ByteArray) (w : World) (hs : s.size ≤ 1000000) : Calls Tryz.prog 78 #[.string s] w fun e w' => e = .returned (.bool (normP s)) ∧ w = w' := by
  have HE : Hid (normP s = (decide (1 ≤ s.size ∧ s.size ≤ 64) && allFrom innB s 0)) := normP_eq s
  generalize normP s = R at *
  go_enter Tryz.func78, Tryz.ntmps78
  go_wp2
  go_loop [6] (fun i => ∃ k : Nat, k ≤ s.size ∧ i = .int .i64 k ∧ Hid (allFrom innB s 0 = allFrom innB s k)) (fun i => s.size - (intOf i).toNat)
  case atStart => exact ⟨0, Nat.zero_le _, rfl, rfl⟩
  case round =>
    obtain ⟨k, hk, rfl, hx⟩ := hrel
    by_cases hlt : k < s.size
    · have HF : Hid (∀ w, Calls Tryz.prog 97 #[.int .u8 s[k].toNat] w fun e w' => e = .returned (.bool (innB s[k])) ∧ w = w') := fun w => inner_any _ w
      have HS : Hid (allFrom innB s k = (innB s[k] && allFrom innB s (k + 1))) := allFrom_step hlt
      generalize innB s[k] = b at *
      cases b with
      | true =>
        go_wp2_with (go_at_call 97; refine (HF.out _).mono ?_; rintro e w' ⟨rfl, rfl⟩)
        go_round
        case rel => exact ⟨k + 1, by omega, by go_num, by have := HS.out; have := hx.out; show _ = _; simp_all⟩
        case measure => simp [intOf]; omega
      | false =>
        go_wp2_with (go_at_call 97; refine (HF.out _).mono ?_; rintro e w' ⟨rfl, rfl⟩)
        go_ret
        exact ⟨ret_bool (by rw [HE.out, hx.out, HS.out]; simp), rfl⟩
    · have HT : Hid (allFrom innB s 0 = true) := by show _ = _; rw [hx.out]; exact allFrom_end (by omega)
      clear hx
      by_cases h0 : s.size = 0
      · have d0 := isEmpty_yes h0
        have d1 := toList_nil.2 h0
        have HR : Hid (R = false) := by show _ = _; rw [HE.out, decide_eq_false (by omega)]; rfl
        go_wp2
        go_ret
        exact ⟨ret_bool HR.out.symm, rfl⟩
      · have d0 := isEmpty_no h0
        have d1 : ¬ s.toList = [] := fun h => h0 (toList_nil.1 h)
        have HR : Hid (R = decide (s.size ≤ 64)) := by
          show _ = _; rw [HE.out, HT.out, Bool.and_true, decide_eq_decide]; omega
        go_wp2
        all_goals
          go_ret
          exact ⟨ret_bool (by rw [HR.out]; first | rfl | (simp; omega)), rfl⟩
end Go.Proofs.YtaelfjlmkgimhaaGreatDoor
