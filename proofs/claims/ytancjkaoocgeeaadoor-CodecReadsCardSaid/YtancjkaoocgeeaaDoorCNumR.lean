/- number of the reference. -/
import Derived.Test.YtancjkaoocgeeaaDoorCNumW
namespace Go.Proofs.YtancjkaoocgeeaaDoor
open Go.RowKit Go.Shelf

/-- What number of the reference answers. -/
def NumRPost (e : UInt8) (s : ByteArray) (w : World) (en : Ending) (w' : World) : Prop := ∃ (n : Int) (k : Nat) (ok : Bool), en = .returned (.tuple #[.int .i64 n, .int .i64 (k : Int), .bool ok]) ∧ I64 n ∧ k ≤ s.size ∧
  ((ok = true ∧ numP e s.data.toList = some (n, s.data.toList.drop k)) ∨ (ok = false ∧ numP e s.data.toList = none)) ∧ Below w.heap.size w w'
theorem index_found {l : List UInt8} {e : UInt8} {j : Nat} (h : l[j]? = some e) (hn : e ∉ l.take j) : Lib.indexByte l e = (j : Int) := by
  have hj := (List.getElem?_eq_some_iff.1 h).1
  have he := (List.getElem?_eq_some_iff.1 h).2
  have e1 : l = l.take j ++ e :: l.drop (j + 1) := by rw [← he, ← List.drop_eq_getElem_cons hj, List.take_append_drop]
  have := indexByte_at (l.take j) (l.drop (j + 1)) e hn
  rw [← e1, List.length_take] at this
  rw [this]; omega
set_option maxRecDepth 100000 in
set_option maxHeartbeats 4000000 in
theorem number_ref (e : UInt8) (s : ByteArray) (hs : s.size ≤ 1048576) (w : World) (hE : Env w) : Calls Tryd.prog 58 #[.string s, .int .u8 e.toNat] w (NumRPost e s w) := by
  have HE := Lib.hid hE
  have hl : s.data.toList.length = s.size := Array.length_toList
  have HL := Lib.hid hl
  clear hE hl
  go_enter Tryd.func58, Tryd.ntmps58
  go_wp2_with fail
  go_loopw [7] (fun i wr => ∃ (j : Nat), i = .int .i64 j ∧ j ≤ s.size ∧ j ≤ 24 ∧ Hid (e ∉ s.data.toList.take j) ∧ wr = w) (fun i _ => 24 - (intOf i).toNat)
  case atStart => exact ⟨0, rfl, Nat.zero_le _, Nat.zero_le _, (by show e ∉ List.take 0 _; simp), rfl⟩
  case round =>
    obtain ⟨j, rfl, hj, hj24, hno, rfl⟩ := hrel
    by_cases hjs : j < s.size
    · by_cases hj2 : j < 24
      · have hcj : s.data.toList[j]? = some (s[j]'hjs) := by rw [List.getElem?_eq_getElem (by rw [HL.out]; exact hjs)]; rfl
        generalize hc : s[j]'hjs = c at *
        by_cases hce : c = e
        · subst hce
          have hidx : Lib.indexByte (s.data.toList.take 24) c = (j : Int) := index_found (by rw [List.getElem?_take_of_lt hj2]; exact hcj) (by rw [List.take_take, Nat.min_eq_left (by omega)]; exact hno.out)
          have HP : Hid (numP c s.data.toList = if Lib.itoa (atoiN (s.data.toList.take j)) = s.data.toList.take j then some (atoiN (s.data.toList.take j), s.data.toList.drop (j + 1)) else none) := by
            show _ = _
            unfold numP
            rw [hidx, if_neg (by omega)]
            simp only [Int.toNat_natCast]
          have dee : ((c.toNat : Int) == (c.toNat : Int)) = true := by simp
          have hlk : (s.extract 0 j).data.toList = s.data.toList.take j := by rw [ext_list, List.drop_zero, Nat.sub_zero]
          have hsk : (s.extract 0 j).size = j := by simp; omega
          have FA := Lib.hid (fun W hE' => atoi_any (s.extract 0 j) (by omega) W hE')
          rw [hlk] at FA
          have hN64 := atoiN_i64 (s.data.toList.take j)
          have HLK := Lib.hid hlk
          have hwk : IntKind.i64.wrap ((j : Int) + 1) = (j : Int) + 1 := IntWalk.i64_in _ (by omega)
          have HJ := Lib.hid hjs
          clear hno hcj hidx hlk hsk
          generalize s.data.toList.take j = L at *
          have IT := Lib.hid (fun W hE' => itoa_any (atoiN L) hN64 W hE')
          have HN64 := Lib.hid hN64
          go_wp2_with fail
          refine (FA.out _ HE.out).mono ?_
          rintro e2 w2 ⟨err, rfl, herr, hb2⟩
          have hE2 := HE.out.below hb2
          clear herr
          go_wp2_with fail
          obtain ⟨X, Wf, hX, hS1, hS2⟩ := family (fun W => Below wr.heap.size wr W) w2 hb2
          have HS1 := Lib.hid hS1
          have HS2 := Lib.hid hS2
          clear hS1 hS2
          refine wp_region_quiet (C := fun W => ∃ x, W = Wf x) (by kernel_rfl) (by kernel_rfl) (HS2.out _ hb2.drew) ?_
          simp only []
          repeat (go_big_quiet_step ((go_at_call 35; refine (IT.out _ (HE.out.below (HS1.out _))).mono ?_; rintro e4 w4 ⟨rfl, hb4⟩; exact ⟨rfl, HS2.out _ ((HS1.out _).trans (hb4.mono (HS1.out _).size))⟩)))
          refine wpQuiet_nil ?_
          rintro w5 ⟨x5, rfl⟩
          have hb5 := HS1.out x5
          generalize Wf x5 = w5 at *
          go_wp2
          go_ret3
          refine ⟨atoiN L, j + 1, _, rfl, HN64.out, by have := HJ.out; omega, ?_, hb5⟩
          by_cases hq : Lib.itoa (atoiN L) = L
          · refine .inl ⟨?_, by rw [HP.out, if_pos hq]⟩
            rw [Lib.toList_data, HLK.out]; simp [hq]
          · refine .inr ⟨?_, by rw [HP.out, if_neg hq]⟩
            rw [Lib.toList_data, HLK.out]; simp [hq]
        · have dne : ((c.toNat : Int) == (e.toNat : Int)) = false := by
            rw [beq_eq_false_iff_ne]; intro h; exact hce (UInt8.toNat_inj.1 (by omega))
          have hno2 : Hid (e ∉ s.data.toList.take (j + 1)) := by
            show _
            rw [List.take_add_one, hcj]
            simp only [Option.toList_some, List.mem_append, List.mem_singleton, not_or]
            exact ⟨hno.out, fun h => hce h.symm⟩
          clear hno hcj
          go_wp2_with fail
          go_roundw
          case rel => exact ⟨j + 1, by go_num, by omega, by omega, hno2.out, trivial⟩
          case measure => simp [intOf]; omega
      · obtain rfl : j = 24 := by omega
        have HP : Hid (numP e s.data.toList = none) := by
          show _ = _
          unfold numP
          rw [if_pos]
          rcases indexByte_spec (s.data.toList.take 24) e with ⟨h1, _⟩ | ⟨i, h1, h2, h3, h4⟩
          · rw [h1]; decide
          · exact absurd (List.mem_of_getElem? h3) hno.out
        clear hno
        go_wp2
        go_ret3
        exact ⟨0, 0, false, rfl, I64.zero, Nat.zero_le _, .inr ⟨rfl, HP.out⟩, Below.refl _ _⟩
    · obtain rfl : j = s.size := by omega
      have HP : Hid (numP e s.data.toList = none) := by
        show _ = _
        unfold numP
        rw [if_pos]
        rcases indexByte_spec (s.data.toList.take 24) e with ⟨h1, _⟩ | ⟨i, h1, h2, h3, h4⟩
        · rw [h1]; decide
        · have := hno.out
          rw [List.take_of_length_le (by rw [HL.out]; exact Nat.le_refl _)] at this
          exact absurd (List.mem_of_mem_take (List.mem_of_getElem? h3)) this
      clear hno
      go_wp2
      go_ret3
      exact ⟨0, 0, false, rfl, I64.zero, Nat.zero_le _, .inr ⟨rfl, HP.out⟩, Below.refl _ _⟩
end Go.Proofs.YtancjkaoocgeeaaDoor
