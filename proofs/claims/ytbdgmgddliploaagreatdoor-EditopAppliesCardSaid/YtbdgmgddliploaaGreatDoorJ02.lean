/- Joined: EName, EIter. -/
import Derived.Test.YtbdgmgddliploaaGreatDoorJ01
import Derived.Test.YtbdgmgddliploaaGreatDoorJ00
import Derived.Maps.AppendAt
import Derived.Maps.OwnIn
import Derived.Laws.AppendOwnNone
import Derived.RangeFuncNested
import Derived.RangeFuncBound
import Derived.RangeFuncCalls
import Derived.RangeFuncLeaves
import Derived.Shelf.Abstract
import Derived.OwnWalkIn
import Derived.TacticsInMore
import Derived.LoopNIn
import Derived.LoopIn
import Derived.OneCell
import Derived.Sort.LoopGhostIn
set_option linter.unusedVariables false
set_option linter.unusedSimpArgs false
set_option maxRecDepth 100000
set_option maxHeartbeats 16000000
namespace Go.Proofs.YtbdgmgddliploaaGreatDoor
open Go.RowKit

theorem ret_int {k : IntKind} {a b : Int} (h : a = b) : Ending.returned (.int k a) = .returned (.int k b) := by rw [h]
theorem ret_bool {a b : Bool} (h : a = b) : Ending.returned (.bool a) = .returned (.bool b) := by rw [h]
/-- The punctuation marks. -/
def puncts : ByteArray := ⟨#[46, 44, 59, 58, 33, 63, 40, 41, 45]⟩
theorem index_puncts (c : UInt8) : decide (0 <= Lib.indexByte puncts.data.toList c) = decide (c.toNat = 46 \/ c.toNat = 44 \/ c.toNat = 59 \/ c.toNat = 58 \/ c.toNat = 33 \/ c.toNat = 63 \/ c.toNat = 40 \/ c.toNat = 41 \/ c.toNat = 45) := by
  have key : ∀ n : Fin 256, decide (0 <= Lib.indexByte puncts.data.toList (UInt8.ofNat n.val)) = decide (n.val = 46 \/ n.val = 44 \/ n.val = 59 \/ n.val = 58 \/ n.val = 33 \/ n.val = 63 \/ n.val = 40 \/ n.val = 41 \/ n.val = 45) := by decide +kernel
  have := key ⟨c.toNat, c.toNat_lt⟩
  simpa using this
theorem toNat_cast (c : UInt8) : ((c.toNat : Int)).toNat.toUInt8 = c := by simp

theorem kind_ref (c : UInt8) (w : World) : Calls Tryz.prog 88 #[.int .u8 c.toNat] w fun e w' => e = .returned (.int .i64 (byK c)) /\ w = w' := by
  have hc := c.toNat_lt
  go_enter Tryz.func88, Tryz.ntmps88
  go_wp2
  all_goals
    go_ret
    refine ⟨ret_int ?_, rfl⟩
    try simp only [beq_iff_eq, beq_eq_false_iff_ne, ne_eq, bne_eq_false_iff_eq, bne_iff_ne] at *
    unfold byK chK; repeat' split
    all_goals omega
theorem kind_any (c : UInt8) (w : World) : Calls Tryz.prog 134 #[.int .u8 c.toNat] w fun e w' => e = .returned (.int .i64 (byK c)) /\ w = w' := by
  have hc := c.toNat_lt
  obtain ⟨i, hi⟩ : ∃ i, i = Lib.indexByte puncts.data.toList c := ⟨_, rfl⟩
  have F := Tryz.strings_IndexByte puncts c.toNat w
  rw [toNat_cast, <- hi] at F
  have hd := index_puncts c
  rw [<- hi] at hd
  have HF := hiq F
  have HD := hiq hd
  clear F hd hi
  go_enter Tryz.func134, Tryz.ntmps134
  go_wp2_with (go_at_call 150; refine HF.out.mono ?_; rintro e w' ⟨rfl, rfl⟩)
  all_goals
    go_ret
    refine ⟨ret_int ?_, rfl⟩
    have := HD.out
    have hp : ∀ {p q : Prop} [Decidable p] [Decidable q], decide p = decide q -> (p ↔ q) := by intro p q _ _ h; exact decide_eq_decide.1 h
    have := hp this
    try simp only [beq_iff_eq, beq_eq_false_iff_ne, ne_eq, bne_eq_false_iff_eq, bne_iff_ne] at *
    unfold byK chK; repeat' split
    all_goals omega
end Go.Proofs.YtbdgmgddliploaaGreatDoor

/- Letters, names, what words may consist of. -/
namespace Go.Proofs.YtbdgmgddliploaaGreatDoor
open Go.RowKit

theorem seven {k : Int} (h : 0 <= k /\ k <= 6) : k = 0 \/ k = 1 \/ k = 2 \/ k = 3 \/ k = 4 \/ k = 5 \/ k = 6 := by omega
def innB (c : UInt8) : Bool := decide (1 <= byK c /\ byK c <= 4)
theorem begins_any (c : UInt8) (w : World) : Calls Tryz.prog 156 #[.int .u8 c.toNat] w fun e w' => e = .returned (.bool (letB c)) /\ w = w' := by
  have F := kind_any c w
  have hk := byK_le c
  have hE : letB c = (decide (byK c = 1) || decide (byK c = 3)) := rfl
  generalize byK c = k at *
  generalize letB c = b at *
  have HF := hiq F
  clear F
  rcases seven hk with rfl | rfl | rfl | rfl | rfl | rfl | rfl
  all_goals
    simp at hE
    subst hE
    clear hk
    go_enter Tryz.func156, Tryz.ntmps156
    go_wp2_with (go_at_call 134; refine HF.out.mono ?_; rintro e w' ⟨rfl, rfl⟩)
    go_ret
    exact ⟨rfl, rfl⟩
theorem inner_any (c : UInt8) (w : World) : Calls Tryz.prog 140 #[.int .u8 c.toNat] w fun e w' => e = .returned (.bool (innB c)) /\ w = w' := by
  have F := kind_any c w
  have G := begins_any c w
  have hk := byK_le c
  have hE : letB c = (decide (byK c = 1) || decide (byK c = 3)) := rfl
  have hI : innB c = decide (1 <= byK c /\ byK c <= 4) := rfl
  generalize byK c = k at *
  generalize letB c = b at *
  generalize innB c = b' at *
  have HF := hiq F
  have HG := hiq G
  clear F G
  rcases seven hk with rfl | rfl | rfl | rfl | rfl | rfl | rfl
  all_goals
    simp at hE hI
    subst hE hI
    clear hk
    go_enter Tryz.func140, Tryz.ntmps140
    go_wp2_with (first | (go_at_call 134; refine HF.out.mono ?_; rintro e w' ⟨rfl, rfl⟩) | (go_at_call 156; refine HG.out.mono ?_; rintro e w' ⟨rfl, rfl⟩))
    go_ret
    exact ⟨rfl, rfl⟩
theorem wordly_ref (c : UInt8) (w : World) : Calls Tryz.prog 90 #[.int .u8 c.toNat] w fun e w' => e = .returned (.bool (innB c)) /\ w = w' := by
  have F := kind_ref c w
  have hk := byK_le c
  have hI : innB c = decide (1 <= byK c /\ byK c <= 4) := rfl
  generalize byK c = k at *
  generalize innB c = b' at *
  have HF := hiq F
  clear F
  rcases seven hk with rfl | rfl | rfl | rfl | rfl | rfl | rfl
  all_goals
    simp at hI
    subst hI
    clear hk
    go_enter Tryz.func90, Tryz.ntmps90
    go_wp2_with (go_at_call 88; refine HF.out.mono ?_; rintro e w' ⟨rfl, rfl⟩)
    go_ret
    exact ⟨rfl, rfl⟩

theorem take_snoc (s : ByteArray) (k : Nat) (h : k < s.size) : s.data.toList.take (k + 1) = s.data.toList.take k ++ [s[k]] := by
  rw [List.take_succ_eq_append_getElem (by simpa using h)]; rfl
theorem drop_cons (s : ByteArray) (k : Nat) (h : k < s.size) : s.data.toList.drop k = s[k] :: s.data.toList.drop (k + 1) := by
  rw [List.drop_eq_getElem_cons (by simpa using h)]; rfl
/-- How many letters and digits there are. -/
def lets (l : List UInt8) : Int := (l.filter letB).length
theorem lets_snoc (l : List UInt8) (c : UInt8) : lets (l ++ [c]) = lets l + if letB c = true then 1 else 0 := by
  unfold lets; rw [List.filter_append]
  cases h : letB c <;> simp [List.filter_cons, h]
theorem lets_le (l : List UInt8) : 0 <= lets l /\ lets l <= l.length := by
  unfold lets; exact ⟨by omega, by have := List.length_filter_le letB l; omega⟩
theorem lets_all (l : List UInt8) : lets l = l.length ↔ l.all letB = true := by
  unfold lets
  rw [List.all_eq_true]
  constructor
  · intro h
    have := List.length_filter_eq_length_iff.1 (by omega : (l.filter letB).length = l.length)
    exact this
  · intro h
    have := List.length_filter_eq_length_iff.2 h
    omega
theorem letters_any (s : ByteArray) (w : World) (hs : s.size <= 1000000) : Calls Tryz.prog 112 #[.string s] w fun e w' => e = .returned (.int .i64 (lets s.data.toList)) /\ w = w' := by
  go_enter Tryz.func112, Tryz.ntmps112
  go_wp2
  go_loop [3, 8] (fun n i => ∃ k : Nat, k <= s.size /\ i = .int .i64 k /\ n = .int .i64 (lets (s.data.toList.take k))) (fun _ i => s.size - (intOf i).toNat)
  case atStart => exact ⟨0, Nat.zero_le _, rfl, rfl⟩
  case round =>
    obtain ⟨k, hk, rfl, rfl⟩ := hrel
    have hd := lets_le (s.data.toList.take k)
    have hl : (s.data.toList.take k).length <= k := List.length_take_le _ _
    by_cases hlt : k < s.size
    · have HS : Hid (lets (s.data.toList.take (k + 1)) = lets (s.data.toList.take k) + if letB s[k] = true then 1 else 0) := by
        show _ = _; rw [take_snoc s k hlt]; exact lets_snoc _ _
      have hE : letB s[k] = (decide (byK s[k] = 1) || decide (byK s[k] = 3)) := rfl
      generalize letB s[k] = b at *
      have HF : Hid (∀ w, Calls Tryz.prog 134 #[.int .u8 s[k].toNat] w fun e w' => e = .returned (.int .i64 (byK s[k])) /\ w = w') := fun w => kind_any _ w
      generalize byK s[k] = q at *
      have HE := hiq hE
      clear hE
      go_wp2_with (go_at_call 134; refine (HF.out _).mono ?_; rintro e w' ⟨rfl, rfl⟩)
      all_goals
        go_round
        case rel => exact ⟨k + 1, by omega, by go_num, by
          have hE := HE.out
          try simp only [beq_iff_eq, beq_eq_false_iff_ne, ne_eq, bne_eq_false_iff_eq, bne_iff_ne] at *
          rw [HS.out]
          first | (rw [if_pos (by rw [hE]; simp; omega)]) | (rw [if_neg (by rw [hE]; simp; omega)]; go_num)⟩
        case measure => simp [intOf]; omega
    · go_wp2
      go_ret
      exact ⟨ret_int (by rw [List.take_of_length_le (by simp; omega)]), rfl⟩
theorem letters_ref (s : ByteArray) (w : World) (hs : s.size <= 1000000) : Calls Tryz.prog 132 #[.string s] w fun e w' => e = .returned (.int .i64 (lets s.data.toList)) /\ w = w' := by
  go_enter Tryz.func132, Tryz.ntmps132
  go_wp2
  go_loop [3, 4] (fun n i => ∃ k : Nat, k <= s.size /\ i = .int .i64 k /\ n = .int .i64 (lets (s.data.toList.take k))) (fun _ i => s.size - (intOf i).toNat)
  case atStart => exact ⟨0, Nat.zero_le _, rfl, rfl⟩
  case round =>
    obtain ⟨k, hk, rfl, rfl⟩ := hrel
    have hd := lets_le (s.data.toList.take k)
    have hl : (s.data.toList.take k).length <= k := List.length_take_le _ _
    by_cases hlt : k < s.size
    · have HS : Hid (lets (s.data.toList.take (k + 1)) = lets (s.data.toList.take k) + if letB s[k] = true then 1 else 0) := by
        show _ = _; rw [take_snoc s k hlt]; exact lets_snoc _ _
      have hE : letB s[k] = (decide (byK s[k] = 1) || decide (byK s[k] = 3)) := rfl
      generalize letB s[k] = b at *
      have HF : Hid (∀ w, Calls Tryz.prog 88 #[.int .u8 s[k].toNat] w fun e w' => e = .returned (.int .i64 (byK s[k])) /\ w = w') := fun w => kind_ref _ w
      generalize byK s[k] = q at *
      have HE := hiq hE
      clear hE
      go_wp2_with (go_at_call 88; refine (HF.out _).mono ?_; rintro e w' ⟨rfl, rfl⟩)
      all_goals
        go_round
        case rel => exact ⟨k + 1, by omega, by go_num, by
          have hE := HE.out
          try simp only [beq_iff_eq, beq_eq_false_iff_ne, ne_eq, bne_eq_false_iff_eq, bne_iff_ne] at *
          rw [HS.out]
          first | (rw [if_pos (by rw [hE]; simp; omega)]) | (rw [if_neg (by rw [hE]; simp; omega)]; go_num)⟩
        case measure => simp [intOf]; omega
    · go_wp2
      go_ret
      exact ⟨ret_int (by rw [List.take_of_length_le (by simp; omega)]), rfl⟩
end Go.Proofs.YtbdgmgddliploaaGreatDoor

/- Names and sigla, of both sides; what stands for nothing; marks; norms. -/
namespace Go.Proofs.YtbdgmgddliploaaGreatDoor
open Go.RowKit

theorem toList_nil {t : ByteArray} : t.toList = [] ↔ t.size = 0 := by
  rw [ByteArray.toList_eq]
  constructor
  · intro h; have := congrArg List.length h; simpa using this
  · intro h; exact List.eq_nil_of_length_eq_zero (by simpa using h)
theorem isEmpty_yes {t : ByteArray} (h : t.size = 0) : t.toList.isEmpty = true := by rw [List.isEmpty_iff]; exact toList_nil.2 h
theorem isEmpty_no {t : ByteArray} (h : t.size ≠ 0) : t.toList.isEmpty = false := by
  cases e : t.toList.isEmpty with
  | false => rfl
  | true => rw [List.isEmpty_iff] at e; exact absurd (toList_nil.1 e) h
theorem isName_any (s : ByteArray) (w : World) : Calls Tryz.prog 94 #[.string s] w fun e w' => e = .returned (.bool (isNameP s)) /\ w = w' := by
  have hE : isNameP s = (decide (1 <= s.size /\ s.size <= 16) && s.data.toList.all letB) := rfl
  have hl : s.data.toList.length = s.size := Array.length_toList
  have hA := lets_all s.data.toList
  rw [hl] at hA
  by_cases h0 : s.size = 0
  · have d0 := isEmpty_yes h0
    have d1 := toList_nil.2 h0
    have hR : isNameP s = false := by rw [hE, decide_eq_false (by omega)]; rfl
    rw [hR]
    clear hE hl hA hR h0
    go_enter Tryz.func94, Tryz.ntmps94
    go_wp2
    go_ret
    exact ⟨rfl, rfl⟩
  · have d0 := isEmpty_no h0
    have d1 : ¬ s.toList = [] := fun h => h0 (toList_nil.1 h)
    by_cases h16 : s.size <= 16
    · have HF := hiq (letters_any s w (by omega))
      generalize lets s.data.toList = L at *
      have HR : Hid (isNameP s = s.data.toList.all letB) := by show _ = _; rw [hE, decide_eq_true (by omega)]; rfl
      generalize isNameP s = R at *
      generalize s.data.toList.all letB = Q at *
      clear hE hl
      by_cases hL : L = (s.size : Int)
      · have hq : Q = true := hA.1 hL
        have b1 : (L == (s.size : Int)) = true := by simp [hL]
        have HQ := hiq hq
        clear hA h0 hq
        go_enter Tryz.func94, Tryz.ntmps94
        go_wp2_with (go_at_call 112; refine HF.out.mono ?_; rintro e w' ⟨rfl, rfl⟩)
        go_ret
        exact ⟨ret_bool (by rw [HR.out, HQ.out]), rfl⟩
      · have hq : Q = false := by
          cases Q with
          | false => rfl
          | true => exact absurd (hA.2 rfl) hL
        have b1 : (L == (s.size : Int)) = false := by simp [hL]
        have HQ := hiq hq
        clear hA h0 hq
        go_enter Tryz.func94, Tryz.ntmps94
        go_wp2_with (go_at_call 112; refine HF.out.mono ?_; rintro e w' ⟨rfl, rfl⟩)
        go_ret
        exact ⟨ret_bool (by rw [HR.out, HQ.out]), rfl⟩
    · have hR : isNameP s = false := by rw [hE, decide_eq_false (by omega)]; rfl
      rw [hR]
      have b1 : decide (s.size <= 16) = false := by simpa using h16
      clear hE hl hA hR h0
      go_enter Tryz.func94, Tryz.ntmps94
      go_wp2
      go_ret
      exact ⟨rfl, rfl⟩
theorem named_any (s : ByteArray) (w : World) : Calls Tryz.prog 120 #[.string s] w fun e w' => e = .returned (.bool (namedP s)) /\ w = w' := by
  have HF := hiq (isName_any s w)
  have HE : Hid (namedP s = (decide (s.size = 0) || isNameP s)) := rfl
  generalize namedP s = R at *
  generalize isNameP s = Q at *
  by_cases h0 : s.size = 0
  · have d0 := isEmpty_yes h0
    have d1 := toList_nil.2 h0
    have hR : Hid (R = true) := by show _ = _; rw [HE.out, decide_eq_true h0]; rfl
    clear h0
    go_enter Tryz.func120, Tryz.ntmps120
    go_wp2
    go_ret
    exact ⟨ret_bool hR.out.symm, rfl⟩
  · have d0 := isEmpty_no h0
    have d1 : ¬ s.toList = [] := fun h => h0 (toList_nil.1 h)
    have hR : Hid (R = Q) := by show _ = _; rw [HE.out, decide_eq_false h0]; rfl
    clear h0
    go_enter Tryz.func120, Tryz.ntmps120
    go_wp2_with (go_at_call 94; refine HF.out.mono ?_; rintro e w' ⟨rfl, rfl⟩)
    go_ret
    exact ⟨ret_bool hR.out.symm, rfl⟩
theorem bytes_one {s : ByteArray} (h : s.size = 1) : ∃ c, s.data.toList = [c] /\ ∀ h0 : 0 < s.size, s[0]'h0 = c := by
  have hl : s.data.toList.length = 1 := by rw [Array.length_toList]; exact h
  match hs : s.data.toList, hl with
  | [c], _ =>
    refine ⟨c, rfl, fun h0 => ?_⟩
    have := drop_cons s 0 (by omega)
    rw [List.drop_zero, hs] at this
    exact (List.cons.inj this).1.symm
theorem mark_any (s : ByteArray) (w : World) : Calls Tryz.prog 117 #[.string s] w fun e w' => e = .returned (.bool (markP s)) /\ w = w' := by
  by_cases h1 : s.size = 1
  · obtain ⟨c, hs, hc⟩ := bytes_one h1
    have HR : Hid (markP s = (decide (byK c = 5) || decide (byK c = 4))) := by show markP s = _; unfold markP; rw [decide_eq_true h1, hs]; simp
    have hF := kind_any c w
    have hlt : 0 < s.size := by omega
    rw [<- hc hlt] at hF
    have HF := hiq hF
    generalize markP s = R at *
    have hk := byK_le s[0]
    rw [<- hc hlt] at HR
    generalize byK s[0] = k at *
    have b1 : ((s.size : Int) != 1) = false := by simp [h1]
    have j1 : (0 : Int) < (s.size : Int) := by omega
    have HS := hiq h1
    clear hF hs hc h1
    rcases seven hk with rfl | rfl | rfl | rfl | rfl | rfl | rfl
    all_goals
      go_enter Tryz.func117, Tryz.ntmps117
      go_wp2_with (go_at_call 134; refine HF.out.mono ?_; rintro e w' ⟨rfl, rfl⟩)
      go_ret
      exact ⟨ret_bool (by rw [HR.out]; rfl), rfl⟩
  · have HR : Hid (markP s = false) := by show markP s = _; unfold markP; rw [decide_eq_false h1]; rfl
    have b1 : ((s.size : Int) != 1) = true := by simp; omega
    generalize markP s = R at *
    clear h1
    go_enter Tryz.func117, Tryz.ntmps117
    go_wp2
    go_ret
    exact ⟨ret_bool HR.out.symm, rfl⟩
/-- All behind k are of this kind. -/
def allFrom (p : UInt8 -> Bool) (s : ByteArray) (k : Nat) : Bool := (s.data.toList.drop k).all p
theorem allFrom_step {p : UInt8 -> Bool} {s : ByteArray} {k : Nat} (h : k < s.size) : allFrom p s k = (p s[k] && allFrom p s (k + 1)) := by
  unfold allFrom; rw [drop_cons s k h, List.all_cons]
theorem allFrom_end {p : UInt8 -> Bool} {s : ByteArray} {k : Nat} (h : s.size <= k) : allFrom p s k = true := by
  unfold allFrom; rw [List.drop_of_length_le (by simpa using h)]; rfl
theorem normP_eq (s : ByteArray) : normP s = (decide (1 <= s.size /\ s.size <= 64) && allFrom innB s 0) := rfl
theorem norm_any (s : ByteArray) (w : World) (hs : s.size <= 1000000) : Calls Tryz.prog 119 #[.string s] w fun e w' => e = .returned (.bool (normP s)) /\ w = w' := by
  have HE : Hid (normP s = (decide (1 <= s.size /\ s.size <= 64) && allFrom innB s 0)) := normP_eq s
  generalize normP s = R at *
  go_enter Tryz.func119, Tryz.ntmps119
  go_wp2
  go_loop [6] (fun i => ∃ k : Nat, k <= s.size /\ i = .int .i64 k /\ Hid (allFrom innB s 0 = allFrom innB s k)) (fun i => s.size - (intOf i).toNat)
  case atStart => exact ⟨0, Nat.zero_le _, rfl, rfl⟩
  case round =>
    obtain ⟨k, hk, rfl, hx⟩ := hrel
    by_cases hlt : k < s.size
    · have HF : Hid (∀ w, Calls Tryz.prog 140 #[.int .u8 s[k].toNat] w fun e w' => e = .returned (.bool (innB s[k])) /\ w = w') := fun w => inner_any _ w
      have HS : Hid (allFrom innB s k = (innB s[k] && allFrom innB s (k + 1))) := allFrom_step hlt
      generalize innB s[k] = b at *
      cases b with
      | true =>
        go_wp2_with (go_at_call 140; refine (HF.out _).mono ?_; rintro e w' ⟨rfl, rfl⟩)
        go_round
        case rel => exact ⟨k + 1, by omega, by go_num, by have := HS.out; have := hx.out; show _ = _; simp_all⟩
        case measure => simp [intOf]; omega
      | false =>
        go_wp2_with (go_at_call 140; refine (HF.out _).mono ?_; rintro e w' ⟨rfl, rfl⟩)
        go_ret
        exact ⟨ret_bool (by rw [HE.out, hx.out, HS.out]; simp), rfl⟩
    · have HT : Hid (allFrom innB s 0 = true) := by show _ = _; rw [hx.out]; exact allFrom_end (by omega)
      clear hx
      by_cases h0 : s.size = 0
      · have d0 := isEmpty_yes h0
        have d1 := toList_nil.2 h0
        have HR : Hid (R = false) := by show _ = _; rw [HE.out, decide_eq_false (by omega)]; rfl
        go_wp2
        go_ret
        exact ⟨ret_bool HR.out.symm, rfl⟩
      · have d0 := isEmpty_no h0
        have d1 : ¬ s.toList = [] := fun h => h0 (toList_nil.1 h)
        have HR : Hid (R = decide (s.size <= 64)) := by
          show _ = _; rw [HE.out, HT.out, Bool.and_true, decide_eq_decide]; omega
        go_wp2
        all_goals
          go_ret
          exact ⟨ret_bool (by rw [HR.out]; first | rfl | (simp; omega)), rfl⟩
end Go.Proofs.YtbdgmgddliploaaGreatDoor
namespace Go.Proofs.YtbdgmgddliploaaGreatDoor
open Go.RowKit

theorem flat_get {α : Type} {enc : α -> List Value} {size : Nat} (henc : ∀ x, (enc x).length = size) : ∀ (l : List α) (j : Nat) (x : α) (i : Nat), l[j]? = some x -> i < size -> (l.flatMap enc)[j * size + i]? = (enc x)[i]?
  | [], j, x, i, h, _ => by simp at h
  | u :: l, 0, x, i, h, hi => by
    simp at h; subst h
    rw [List.flatMap_cons, Nat.zero_mul, Nat.zero_add, List.getElem?_append_left (by rw [henc]; exact hi)]
  | u :: l, j + 1, x, i, h, hi => by
    have e : (j + 1) * size = size + j * size := by rw [Nat.add_mul, Nat.one_mul, Nat.add_comm]
    rw [List.flatMap_cons, e, List.getElem?_append_right (by rw [henc]; omega)]
    rw [henc, show size + j * size + i - size = j * size + i by omega]
    exact flat_get henc l j x i (by simpa using h) hi
theorem flat_len {α : Type} {enc : α -> List Value} {size : Nat} (henc : ∀ x, (enc x).length = size) : ∀ l : List α, (l.flatMap enc).length = l.length * size
  | [] => by simp
  | u :: l => by rw [List.flatMap_cons, List.length_append, henc, flat_len henc l, List.length_cons, Nat.add_mul, Nat.one_mul, Nat.add_comm]

/-- The slice value 'a n cap' is the call's own, and reads as l. -/
def OwnQ {α : Type} (e size : Nat) (enc : α -> List Value) (w : World) (B : Nat) (a : Option Addr) (n cap : Nat) (l : List α) : Prop :=
  n = l.length /\ w.ownsRow B e size (.slice a n cap) n (l.flatMap enc)
namespace OwnQ
variable {α : Type} {e size : Nat} {enc : α -> List Value} {w w' : World} {B : Nat} {a : Option Addr} {n cap : Nat} {l : List α}
theorem nil (e size : Nat) (enc : α -> List Value) (w : World) (B : Nat) : OwnQ e size enc w B none 0 0 [] := ⟨rfl, World.ownsRow_nil _ _ _ _⟩
/-- The empty slice at the head of a new block. -/
theorem lit0 (e size : Nat) (enc : α -> List Value) (w : World) (B : Nat) (hB : B <= w.heap.size) : OwnQ e size enc (w.alloc (.cells #[] e)) B (some ⟨w.heap.size, 0, none⟩) 0 0 [] :=
  ⟨rfl, World.ownsRow_made w #[] 0 hB (Nat.zero_le _) (Nat.zero_mul _).symm⟩
theorem len (h : OwnQ e size enc w B a n cap l) : n = l.length := h.1
theorem below (h : OwnQ e size enc w B a n cap l) (hb : Below w.heap.size w w') : OwnQ e size enc w' B a n cap l := ⟨h.1, ownsRow_below h.2 hb⟩
theorem drewN (h : OwnQ e size enc w B a n cap l) (q : Nat) : OwnQ e size enc (w.drewN q) B a n cap l := h
theorem alloc (h : OwnQ e size enc w B a n cap l) (o : Obj) : OwnQ e size enc (w.alloc o) B a n cap l := h.below ((Below.refl _ _).alloc (Nat.le_refl _) _)
theorem lt (h : OwnQ e size enc w B a n cap l) : ∀ x, a = some x -> B <= x.block /\ x.block < w.heap.size := fun x hx => h.2.lt x.block (by rw [hx]; rfl)
theorem kept {row : Option Nat} (h : OwnQ e size enc w B a n cap l) (hg : w.grownBy w' row) (hr : ∀ x, a = some x -> some x.block ≠ row) : OwnQ e size enc w' B a n cap l := by
  refine ⟨h.1, h.2.kept hg ?_⟩
  cases a with
  | none => exact .inl rfl
  | some x => exact .inr (hr x rfl)
theorem same (h : OwnQ e size enc w B a n cap l) (hs : ∀ x, a = some x -> w'.heap[x.block]? = w.heap[x.block]?) : OwnQ e size enc w' B a n cap l := by
  refine ⟨h.1, h.2.1, ?_⟩
  rcases h.2.2 with h0 | ⟨g, cap', cur, hv, hB, hg, hrest⟩
  · exact .inl h0
  · cases hv
    exact .inr ⟨g, _, cur, rfl, hB, by rw [hs _ rfl]; exact hg, hrest⟩
theorem keepS {S : Nat -> Prop} (h : OwnQ e size enc w B a n cap l) (k : KeepS S w w') (hs : ∀ x, a = some x -> S x.block) : OwnQ e size enc w' B a n cap l := by
  refine ⟨h.1, h.2.1, ?_⟩
  rcases h.2.2 with h0 | ⟨g, cap', cur, hv, hB, hg, hrest⟩
  · exact .inl h0
  · cases hv
    exact .inr ⟨g, _, cur, rfl, hB, k.2 g cur e _ (hs _ rfl) hg, hrest⟩
theorem mono {B' : Nat} (h : OwnQ e size enc w B a n cap l) (hB : B' <= B) : OwnQ e size enc w B' a n cap l := by
  refine ⟨h.1, h.2.1, ?_⟩
  rcases h.2.2 with h0 | ⟨g, cap', cur, hv, hb, hrest⟩
  · exact .inl h0
  · exact .inr ⟨g, cap', cur, hv, Nat.le_trans hB hb, hrest⟩
theorem cap_le (h : OwnQ e size enc w B a n cap l) : n <= cap := by
  rcases h.2.2 with ⟨hv, h0⟩ | ⟨g, cap', cur, hv, hb, hg, hc, _⟩
  · omega
  · cases hv; exact hc
/-- Element j: where it lies. -/
theorem at_ (h : OwnQ e size enc w B a n cap l) (henc : ∀ x, (enc x).length = size) {j : Nat} (hj : j < n) : ∃ x g, l[j]? = some x /\ x ∈ l /\ a = some ⟨g, 0, none⟩ /\ B <= g /\ g < w.heap.size /\ (∀ k, w.frozen? ⟨g, k, none⟩ = false) /\ AtC w g (j * size) (enc x) := by
  have hl : j < l.length := by rw [<- h.1]; exact hj
  have ej := List.getElem?_eq_getElem hl
  rcases h.2.2 with ⟨_, h0⟩ | ⟨g, cap', cur, hv, hb, hg, hc, hm, hs, ht⟩
  · omega
  · cases hv
    refine ⟨l[j], g, ej, List.getElem_mem hl, rfl, hb, (Array.getElem?_eq_some_iff.1 hg).1, fun k => by simp [World.frozen?, hg], fun i x hx => ?_⟩
    have hi : i < size := by rw [<- henc l[j]]; exact (List.getElem?_eq_some_iff.1 hx).1
    rw [cell_row hg, <- hx, <- flat_get henc l j _ i ej hi, <- ht, List.getElem?_take, if_pos, Array.getElem?_toList]
    have : (j + 1) * size <= n * size := Nat.mul_le_mul_right _ hj
    rw [Nat.add_mul, Nat.one_mul] at this
    omega
theorem sq {R : Rel α} {S : Nat -> Prop} {s : Nat} (h : OwnQ e size enc w B a n cap l) (henc : ∀ x, (enc x).length = size) (hn : n * s <= 140737488355328) (hS : ∀ x, a = some x -> S x.block) (hR : ∀ x ∈ l, R S w (enc x) x) : Sq R size s S w a n cap l := by
  refine ⟨h.1, h.cap_le, hn, fun j x hj => ?_⟩
  obtain ⟨y, g, h1, h2, rfl, h3, h4, -, h5⟩ := h.at_ henc (j := j) (by rw [h.1]; exact (List.getElem?_eq_some_iff.1 hj).1)
  rw [hj] at h1; cases h1
  exact ⟨g, 0, enc x, rfl, hS _ rfl, h4, henc x, by rw [Nat.zero_add]; exact h5, hR x h2⟩
theorem frozenAt {g : Nat} (h : OwnQ e size enc w B (some ⟨g, 0, none⟩) n cap l) (j : Nat) : w.frozen? ⟨g, j, none⟩ = false := h.2.frozenAt j
/-- Behind an append. -/
theorem appended {v : Value} {ys : List α} {m : Nat} (h : w.ownsRow B e size v (n + m) (l.flatMap enc ++ ys.flatMap enc)) (hn : n = l.length) (hm : m = ys.length) : ∃ a' cap', v = .slice a' (n + m) cap' /\ OwnQ e size enc w B a' (n + m) cap' (l ++ ys) := by
  have h' := h
  rcases h.2 with ⟨rfl, h0⟩ | ⟨g, cap', cur, rfl, _⟩
  · refine ⟨none, 0, by rw [h0], by simp [hn, hm], ?_⟩
    rw [List.flatMap_append]; rw [h0]; rw [h0] at h'; exact h'
  · exact ⟨_, _, rfl, by simp [hn, hm], by rw [List.flatMap_append]; exact h'⟩
/-- A literal. -/
theorem lit {cs : Array Value} (w : World) (B : Nat) (hB : B <= w.heap.size) (hcs : cs.toList = l.flatMap enc) (henc : ∀ x, (enc x).length = size) (hn : l.length <= 1000000) : OwnQ e size enc (w.alloc (.cells cs e)) B (some ⟨w.heap.size, 0, none⟩) l.length l.length l := by
  refine ⟨rfl, ?_⟩
  have hsz : cs.size = l.length * size := by rw [<- Array.length_toList, hcs, flat_len henc]
  have := World.ownsRow_lit (e := e) (size := size) w cs l.length hB (by unfold maxLen; omega) hsz
  rw [hcs] at this
  exact this
end OwnQ

section
variable {α : Type} {e st size bytes : Nat} {z : Value} {enc : α -> List Value} {ops : Array Oper} {rest : List Oper} {o : Oper} {act : Act} {Q : Exit -> Act -> World -> Prop} {w w0 : World} {B : Nat} {a : Option Addr} {n cap m c : Nat} {l ys : List α} {ad : Addr}
theorem below_ownQ (ho : OwnQ e size enc w B a n cap l) {w' : World} (hb : Below B w0 w) (hs : B <= w.heap.size) (hg : w.grownBy w' (Value.slice a n cap).ownBlock) : Below B w0 w' :=
  hb.grown hg hs (fun j hj => (ho.2.lt j hj).1)
theorem wpList_appQ (hi : (Tryz.prog.info? e).map (fun i => (i.zero, i.size, i.bytes)) = some (some z, size, bytes)) (hu : Tryz.prog.underlying st = some (.slice e)) (hzs : z.cells.size = size) (hs0 : 0 < size) (hen : ∀ x, (enc x).length = size) (hone : ∀ x, ∀ v ∈ enc x, v.oneCell' = true)
    (hgd : o.guard = none) (s x : Operand) (ho : o.op = .call { callee := .builtin .append, args := #[s, x], argTypes := #[st, st] })
    (hs : act.eval s = .slice a n cap) (hx : act.eval x = .slice (some ad) m c) (hown : OwnQ e size enc w B a n cap l) (hm : m = ys.length) (hy : ∀ j u, (ys.flatMap enc)[j]? = some u -> w.cell? (ad.add j) = some u)
    (h63 : n + m <= maxLen) (hby : (n + m) * bytes <= 140737488355328) (hB : B <= w.heap.size) (hb : Below B w0 w)
    (h : ∀ a' c' w', OwnQ e size enc w' B a' (n + m) c' (l ++ ys) -> Below B w0 w' -> w.grownBy w' (Value.slice a n cap).ownBlock -> ((Value.slice a' (n + m) c').ownBlock = (Value.slice a n cap).ownBlock \/ (Value.slice a' (n + m) c').ownBlock = some w.heap.size) -> wpList Tryz.prog ops Q rest (act.put o.dst (.slice a' (n + m) c')) w') :
    wpList Tryz.prog ops Q (o :: rest) act w := by
  obtain ⟨i0, hi, hz0, hz1, hz2⟩ := info_parts hi
  refine wpList_append_own_at _ hgd s x st ho B e i0 z size bytes hu hi hz0 hz1 hz2 hzs hs0 _ _ _ hs hown.2 ad m c (ys.flatMap enc) hx (by rw [flat_len hen, hm]) hy
    (fun u hu => by obtain ⟨y, _, hy⟩ := List.mem_flatMap.1 hu; exact hone y u hy) h63 hby hB ?_
  intro v' w' h1 h2 _ h4
  obtain ⟨a', c', rfl, hO⟩ := OwnQ.appended h1 hown.len hm
  exact h a' c' w' hO (below_ownQ hown hb hB h2) h2 h4
theorem wpListIn_appQ {F : Fence} {nF : Nat} (hi : (Tryz.prog.info? e).map (fun i => (i.zero, i.size, i.bytes)) = some (some z, size, bytes)) (hu : Tryz.prog.underlying st = some (.slice e)) (hzs : z.cells.size = size) (hs0 : 0 < size) (hen : ∀ x, (enc x).length = size) (hone : ∀ x, ∀ v ∈ enc x, v.oneCell' = true)
    (hgd : o.guard = none) (s x : Operand) (ho : o.op = .call { callee := .builtin .append, args := #[s, x], argTypes := #[st, st] })
    (hs : act.eval s = .slice a n cap) (hx : act.eval x = .slice (some ad) m c) (hown : OwnQ e size enc w B a n cap l) (hm : m = ys.length) (hy : ∀ j u, (ys.flatMap enc)[j]? = some u -> w.cell? (ad.add j) = some u)
    (h63 : n + m <= maxLen) (hby : (n + m) * bytes <= 140737488355328) (hB : B <= w.heap.size) (hb : Below B w0 w)
    (h : ∀ a' c' w', OwnQ e size enc w' B a' (n + m) c' (l ++ ys) -> Below B w0 w' -> w.grownBy w' (Value.slice a n cap).ownBlock -> ((Value.slice a' (n + m) c').ownBlock = (Value.slice a n cap).ownBlock \/ (Value.slice a' (n + m) c').ownBlock = some w.heap.size) -> wpListIn F nF Tryz.prog ops Q rest (act.put o.dst (.slice a' (n + m) c')) w') :
    wpListIn F nF Tryz.prog ops Q (o :: rest) act w := by
  obtain ⟨i0, hi, hz0, hz1, hz2⟩ := info_parts hi
  refine wpListIn_append_own_at _ hgd s x st ho B e i0 z size bytes hu hi hz0 hz1 hz2 hzs hs0 _ _ _ hs hown.2 ad m c (ys.flatMap enc) hx (by rw [flat_len hen, hm]) hy
    (fun u hu => by obtain ⟨y, _, hy⟩ := List.mem_flatMap.1 hu; exact hone y u hy) h63 hby hB ?_
  intro v' w' h1 h2 _ h4
  obtain ⟨a', c', rfl, hO⟩ := OwnQ.appended h1 hown.len hm
  exact h a' c' w' hO (below_ownQ hown hb hB h2) h2 h4
end
/-- The cells of a literal, one element. -/
theorem lit_cells {w : World} {e : TypeId} {cs : Array Value} {j : Nat} {u : Value} (h : cs.toList[j]? = some u) : (w.alloc (.cells cs e)).cell? ((⟨w.heap.size, 0, none⟩ : Addr).add j) = some u := by
  rw [Addr.add_lit, Nat.zero_add, World.cell?_alloc_at _ _ _ _ rfl]
  simpa using h

abbrev encB (b : Bool) : List Value := [.bool b]
abbrev encI (x : Int) : List Value := [.int .i64 x]
abbrev encS (t : ByteArray) : List Value := [.string t]
abbrev encR (r : Row) : List Value := [rowV r]
theorem infoB : (Tryz.prog.info? 4).map (fun i => (i.zero, i.size, i.bytes)) = some (some (.bool false), 1, 1) := by kernel_rfl
theorem infoS : (Tryz.prog.info? 9).map (fun i => (i.zero, i.size, i.bytes)) = some (some (.string ⟨#[]⟩), 1, 16) := by kernel_rfl
theorem infoTs : (Tryz.prog.info? 46).map (fun i => (i.zero, i.size, i.bytes)) = some (some (.slice none 0 0), 1, 24) := by kernel_rfl
theorem infoT : (Tryz.prog.info? 76).map (fun i => (i.zero, i.size, i.bytes)) = some (some (.agg #[.string ⟨#[]⟩, .string ⟨#[]⟩, .string ⟨#[]⟩, .int .i64 0, .int .i64 0, .string ⟨#[]⟩]), 6, 80) := by kernel_rfl
theorem infoO : (Tryz.prog.info? 28).map (fun i => (i.zero, i.size, i.bytes)) = some (some (.agg #[.int .i64 0, .string ⟨#[]⟩, .int .i64 0, .int .i64 0, .string ⟨#[]⟩]), 5, 56) := by kernel_rfl
theorem tok_len (t : Tok) : t.cells.length = 6 := rfl
theorem tok_one (t : Tok) : ∀ v ∈ t.cells, v.oneCell' = true := by
  intro v hv
  simp only [Tok.cells, List.mem_cons, List.not_mem_nil, or_false] at hv
  rcases hv with rfl | rfl | rfl | rfl | rfl | rfl <;> rfl
theorem op_len (t : Op) : t.cells.length = 5 := rfl
theorem op_one (t : Op) : ∀ v ∈ t.cells, v.oneCell' = true := by
  intro v hv
  simp only [Op.cells, List.mem_cons, List.not_mem_nil, or_false] at hv
  rcases hv with rfl | rfl | rfl | rfl | rfl <;> rfl
theorem one_b (x : Bool) : ∀ v ∈ encB x, v.oneCell' = true := by intro v hv; simp at hv; subst hv; rfl
theorem one_i (x : Int) : ∀ v ∈ encI x, v.oneCell' = true := by intro v hv; simp at hv; subst hv; rfl
theorem one_s (x : ByteArray) : ∀ v ∈ encS x, v.oneCell' = true := by intro v hv; simp at hv; subst hv; rfl
theorem one_r (x : Row) : ∀ v ∈ encR x, v.oneCell' = true := by intro v hv; simp at hv; subst hv; rfl
end Go.Proofs.YtbdgmgddliploaaGreatDoor

/- Loops over iterators: what they leave, what they keep. -/
namespace Go.Proofs.YtbdgmgddliploaaGreatDoor
open Go.RowKit Go.Shelf
attribute [local go_sem] Oper.semAt_some

/-- The marks that loops over iterators have left. -/
def Marks (hi : Nat) : List Deferred -> World -> Prop
  | [], _ => True
  | d :: ds, W => ∃ D, d = { target := .collected D, args := #[] } /\ hi <= D /\ W.heap[D]? = some (.deferred (some [])) /\ (∀ e ∈ ds, e ≠ d) /\ Marks hi ds W
theorem Marks.one {hi D : Nat} {W : World} (h : hi <= D) (hd : W.heap[D]? = some (.deferred (some []))) : Marks hi [{ target := .collected D, args := #[] }] W := ⟨D, rfl, h, hd, by simp, trivial⟩
theorem Marks.put {hi D : Nat} {A : World} : ∀ {ds : List Deferred}, Marks hi ds A -> (∀ d' ∈ ds, d' ≠ { target := .collected D, args := #[] }) -> Marks hi ds (A.putObj D (.deferred none))
  | [], _, _ => trivial
  | _ :: ds, ⟨D', e, h1, h2, h3, h4⟩, hne => by
    refine ⟨D', e, h1, ?_, h3, Marks.put h4 (fun d hd => hne d (by simp [hd]))⟩
    have : D' ≠ D := fun e2 => hne _ (List.mem_cons_self) (by rw [e, e2])
    rw [World.putObj_heap_other this]; exact h2
/-- A function leaves over its marks. -/
theorem leaves_marks {F : Fence} {n hi : Nat} {P : Program} {fn : Func} {tmps : Array Value} {R : Ending -> World -> Prop} {u : FrameMode} (hu : u ≠ .run) {Φ : World -> Prop}
    (hΦ : ∀ (W : World) (D : Nat), Φ W -> hi <= D -> W.heap[D]? = some (.deferred (some [])) -> Φ (W.putObj D (.deferred none)))
    (hend : ∀ W, Φ W -> LeavesInM F n P fn tmps R [] u W) : ∀ (ds : List Deferred) (W : World), Marks hi ds W -> Φ W -> LeavesInM F n P fn tmps R ds u W
  | [], W, _, h => hend W h
  | _ :: ds, W, ⟨D, e, h1, h2, h3, h4⟩, h => by
    subst e
    exact ⟨hu, .inl ⟨D, _, rfl, run_takeDeferred h2, leaves_marks hu hΦ hend ds _ (h4.put (fun d hd => h3 d hd)) (hΦ W D h h1 h2)⟩⟩
theorem cells_putObj {W : World} {b D : Nat} {cs : Array Value} {t : TypeId} {fr : Nat × Nat} {o : Obj} (h : W.heap[b]? = some (.cells cs t fr)) (hd : W.heap[D]? = some o) (ho : o.isCells = false) (o' : Obj) : (W.putObj D o').heap[b]? = some (.cells cs t fr) := by
  have hne : b ≠ D := fun e => by subst e; rw [h] at hd; cases hd; cases ho
  rw [World.putObj_heap_other hne]; exact h
theorem below_putObj {n₀ : Nat} {A W : World} (h : Below n₀ A W) {D : Nat} (hD : n₀ <= D) {o : Obj} (hd : W.heap[D]? = some o) (o' : Obj) : Below n₀ A (W.putObj D o') :=
  h.trans ((Below.refl n₀ W).grown (grownBy_putObj' W D o') (by have := (Array.getElem?_eq_some_iff.1 hd).1; omega) (fun k e => by cases e; omega))
theorem heap_setCell_self {W : World} {b j : Nat} {cs : Array Value} {t : TypeId} {fr : Nat × Nat} (h : W.heap[b]? = some (.cells cs t fr)) (v : Value) : (W.setCell ⟨b, j, none⟩ v).heap[b]? = some (.cells (cs.setIfInBounds j v) t fr) := by
  simp [World.setCell, Array.getElem?_modify, h]
theorem heap_setCell_other {W : World} {b b' j : Nat} (h : b' ≠ b) (v : Value) : (W.setCell ⟨b, j, none⟩ v).heap[b']? = W.heap[b']? := Below.heap_setCell _ _ _ _ (by simpa using h)

theorem below_setc {n₀ : Nat} {A W : World} (h : Below n₀ A W) {b : Nat} (hb : n₀ <= b) (j : Nat) (v : Value) : Below n₀ A (W.setCell ⟨b, j, none⟩ v) := h.setCell (p := ⟨b, j, none⟩) hb v
/-- What is kept stays kept when an object that is no cells turns. -/
theorem KeepS.own {S : Nat -> Prop} {A W W' : World} {B : Nat} {row : Option Nat} (h : KeepS S A W) (hg : W.grownBy W' row) (hr : ∀ r, row = some r -> B <= r /\ ∃ o : Obj, W.heap[r]? = some o /\ o.isCells = false) : KeepS S A W' :=
  ⟨Nat.le_trans h.1 hg.size, fun b cs t fr hs hb => by
    have hb' := h.2 b cs t fr hs hb
    rw [hg.block b (Array.getElem?_eq_some_iff.1 hb').1 (fun e => by
      obtain ⟨_, o, ho, hc⟩ := hr b e.symm
      rw [hb'] at ho; cases ho; cases hc)]
    exact hb'⟩
theorem cells_own {W W' : World} {B b : Nat} {row : Option Nat} {cs : Array Value} {t : TypeId} {fr : Nat × Nat} (h : W.heap[b]? = some (.cells cs t fr)) (hg : W.grownBy W' row) (hr : ∀ r, row = some r -> B <= r /\ ∃ o : Obj, W.heap[r]? = some o /\ o.isCells = false) : W'.heap[b]? = some (.cells cs t fr) := by
  rw [hg.block b (Array.getElem?_eq_some_iff.1 h).1 (fun e => by
    obtain ⟨_, o, ho, hc⟩ := hr b e.symm
    rw [h] at ho; cases ho; cases hc)]
  exact h
theorem keepsFrom_below {B : Nat} {W W' : World} (h : Below W.heap.size W W') : KeepsFrom B W W' := ⟨h.size, fun k o _ hk _ => by rw [h.block k (Array.getElem?_eq_some_iff.1 hk).1]; exact hk⟩
end Go.Proofs.YtbdgmgddliploaaGreatDoor
