/- number of the program. -/
import Derived.Test.YtancjkaoocgeeaaDoorCNum
import Derived.Test.YtancjkaoocgeeaaDoorHead
import Derived.Test.YtancjkaoocgeeaaDoorShelf
import Derived.Deep.QuietTactic
import Derived.BigQuiet
import Derived.IntWalk
namespace Go.Proofs.YtancjkaoocgeeaaDoor
open Go.RowKit

theorem ext_list (s : ByteArray) (a b : Nat) : (s.extract a b).data.toList = (s.data.toList.drop a).take (b - a) := by
  simp [ByteArray.data_extract, Array.toList_extract, List.extract_eq_take_drop]
/-- What number answers. -/
def NumPost (e : UInt8) (s : ByteArray) (w : World) (en : Ending) (w' : World) : Prop := ∃ (n : Int) (rest : ByteArray) (ok : Bool), en = .returned (.tuple #[.int .i64 n, .string rest, .bool ok]) ∧ I64 n ∧
  ((ok = true ∧ numP e s.data.toList = some (n, rest.data.toList)) ∨ (ok = false ∧ numP e s.data.toList = none)) ∧ Below w.heap.size w w'
set_option maxRecDepth 100000 in
set_option maxHeartbeats 4000000 in
theorem number_any (e : UInt8) (s : ByteArray) (hs : s.size ≤ 1048576) (w : World) (hE : Env w) : Calls Tryd.prog 57 #[.string s, .int .u8 e.toNat] w (NumPost e s w) := by
  have hmin : min (s.size : Int) 24 = ((min s.size 24 : Nat) : Int) := by omega
  have FI := Tryd.strings_IndexByte (s.extract 0 (min s.size 24)) (e.toNat : Int) w
  rw [show ((e.toNat : Int)).toNat.toUInt8 = e by simp] at FI
  have htk : (s.extract 0 (min s.size 24)).data.toList = s.data.toList.take 24 := by
    rw [ext_list, List.drop_zero, Nat.sub_zero]
    by_cases h : s.size ≤ 24
    · rw [List.take_of_length_le (by simp; omega), List.take_of_length_le (by simp; omega)]
    · rw [Nat.min_eq_right (by omega)]
  rw [htk] at FI
  have HFI := Lib.hid FI
  have hidx := indexByte_spec (s.data.toList.take 24) e
  have HP : Hid (numP e s.data.toList = _) := (by unfold numP; rfl)
  clear FI htk
  generalize Lib.indexByte (s.data.toList.take 24) e = i at *
  by_cases hi : i < 0
  · have HN : Hid (numP e s.data.toList = none) := by show _ = _; rw [HP.out, if_pos hi]
    have di : decide (i < 0) = true := by simpa using hi
    clear hidx HP
    go_enter Tryd.func57, Tryd.ntmps57
    go_wp2_with fail
    refine HFI.out.mono ?_
    rintro e1 w1 ⟨rfl, rfl⟩
    go_wp2
    go_ret3
    exact ⟨0, ⟨#[]⟩, false, rfl, I64.zero, .inr ⟨rfl, HN.out⟩, Below.refl _ _⟩
  · obtain ⟨k, rfl, hk⟩ : ∃ k : Nat, i = (k : Int) ∧ k < s.size ∧ k < 24 := by
      rcases hidx with ⟨h, _⟩ | ⟨k, h, h2, _⟩
      · omega
      · rw [List.length_take] at h2; simp at h2
        exact ⟨k, h, by omega⟩
    obtain ⟨hk1, hk2⟩ := hk
    have hlk : (s.extract 0 k).data.toList = s.data.toList.take k := by rw [ext_list, List.drop_zero, Nat.sub_zero]
    have hrk : (s.extract (k + 1) s.size).data.toList = s.data.toList.drop (k + 1) := by rw [ext_list, List.take_of_length_le (by simp)]
    have hsk : (s.extract 0 k).size = k := by simp; omega
    have FA := Lib.hid (fun W hE' => atoi_any (s.extract 0 k) (by omega) W hE')
    rw [hlk] at FA
    have HP2 : Hid (numP e s.data.toList = if Lib.itoa (atoiN (s.data.toList.take k)) = s.data.toList.take k then some (atoiN (s.data.toList.take k), (s.extract (k + 1) s.size).data.toList) else none) := by
      show _ = _
      rw [HP.out, if_neg hi, hrk]; rfl
    have hN64 := atoiN_i64 (s.data.toList.take k)
    have hok : Lib.itoa (atoiN (s.data.toList.take k)) = s.data.toList.take k → atoiOk (s.data.toList.take k) = true := atoiOk_of
    have HOK := Lib.hid hok
    have di : decide ((k : Int) < 0) = false := by simp
    have hwk : IntKind.i64.wrap ((k : Int) + 1) = (k : Int) + 1 := IntWalk.i64_in _ (by omega)
    have htk1 : ((k : Int) + 1).toNat = k + 1 := by omega
    have HLK := Lib.hid hlk
    clear hidx HP hok hlk hrk hsk
    generalize s.data.toList.take k = L at *
    have IT := Lib.hid (fun W hE' => itoa_any (atoiN L) hN64 W hE')
    have HN64 := Lib.hid hN64
    go_enter Tryd.func57, Tryd.ntmps57
    go_wp2_with fail
    refine HFI.out.mono ?_
    rintro e1 w1 ⟨rfl, rfl⟩
    go_wp2_with fail
    refine (FA.out _ hE).mono ?_
    rintro e2 w2 ⟨err, rfl, herr, hb2⟩
    have hE2 := hE.below hb2
    rcases herr with ⟨ho, rfl⟩ | ⟨ho, p, rfl⟩
    · go_wp2_with fail
      obtain ⟨X, Wf, hX, hS1, hS2⟩ := family (fun W => Below w1.heap.size w1 W) w2 hb2
      have HS1 := Lib.hid hS1
      have HS2 := Lib.hid hS2
      clear hS1 hS2
      refine wp_region_quiet (C := fun W => ∃ x, W = Wf x) (by kernel_rfl) (by kernel_rfl) (HS2.out _ hb2.drew) ?_
      simp only []
      repeat (go_big_quiet_step ((go_at_call 35; refine (IT.out _ (hE.below (HS1.out _))).mono ?_; rintro e4 w4 ⟨rfl, hb4⟩; exact ⟨rfl, HS2.out _ ((HS1.out _).trans (hb4.mono (HS1.out _).size))⟩)))
      refine wpQuiet_nil ?_
      rintro w5 ⟨x5, rfl⟩
      have hb5 := HS1.out x5
      generalize Wf x5 = w5 at *
      go_wp2
      go_ret3
      refine ⟨atoiN L, s.extract (k + 1) s.size, _, rfl, HN64.out, ?_, hb5⟩
      by_cases hq : Lib.itoa (atoiN L) = L
      · refine .inl ⟨?_, by rw [HP2.out, if_pos hq]⟩
        rw [Lib.toList_data, HLK.out]; simp [hq]
      · refine .inr ⟨?_, by rw [HP2.out, if_neg hq]⟩
        rw [Lib.toList_data, HLK.out]; simp [hq]
    · have hnn : Hid (¬ Lib.itoa (atoiN L) = L) := fun h => by rw [HOK.out h] at ho; cases ho
      go_wp2_with fail
      go_quiet (fail)
      go_wp2
      go_ret3
      exact ⟨atoiN L, s.extract (k + 1) s.size, false, rfl, HN64.out, .inr ⟨rfl, by rw [HP2.out, if_neg hnn.out]⟩, below_drewN hb2 nq⟩
end Go.Proofs.YtancjkaoocgeeaaDoor
