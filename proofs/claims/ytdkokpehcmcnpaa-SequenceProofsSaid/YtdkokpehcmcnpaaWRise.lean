/- rises, slices.Compare and the check of indices, as the laws use them. -/
import Derived.Test.YtdkokpehcmcnpaaPure7
import Derived.Test.YtdkokpehcmcnpaaWLib
namespace Go.Proofs.Ytdkokpehcmcnpaa
open Go.RowKit

set_option maxHeartbeats 1000000 in
theorem rises_any (a : Option Addr) (n cap : Nat) (l : List Int) (c : Int) (w : World) (h : Ints w a n cap l) (hm : n ≤ 1024) :
    Calls Try.prog 32 #[.slice a n cap, .int .u16 c] w fun e w' => ∃ (is : Bool) (a' : Option Addr) (q cap' : Nat) (b : List Int), e = .returned (.tuple #[.slice a' q cap', .bool is]) ∧
      OwnI w' w.heap.size a' q cap' b ∧ (is = true → Inc l 0 none b) ∧ Below w.heap.size w w' := by
  have H := Lib.hid h.len
  have h8 := h.bound
  obtain ⟨i0, hi, hz0, hz1, hz2⟩ := info_parts Try.infoInt
  go_enter Try.func32, Try.ntmps32
  go_wp2
  go_loopw [6, 10] (fun o i wr => ∃ (k : Nat) (a' : Option Addr) (q cap' : Nat) (b : List Int), k ≤ n ∧ q ≤ k ∧ i = .int .i64 k ∧ o = .slice a' q cap' ∧ OwnI wr w.heap.size a' q cap' b ∧ Hid (Inc l 0 none b) ∧ Hid (∀ y : Nat, b.getLast? = some (y : Int) → y < k) ∧ Below w.heap.size w wr) (fun _ i _ => n - (intOf i).toNat)
  case atStart => exact ⟨0, none, 0, 0, [], Nat.zero_le _, Nat.le_refl _, rfl, rfl, OwnI.nil _ _, trivial, (fun y hy => by cases hy), Below.refl _ _⟩
  case round =>
    obtain ⟨k, a', q, cap', b, hk, hqk, rfl, rfl, ho, hinc, hlast, hB⟩ := hrel
    have hql := ho.len
    have HQ := Lib.hid hql
    clear hql
    by_cases hlt : k < n
    · by_cases hq0 : q = 0
      · subst hq0
        have hb0 : Hid (b = []) := List.eq_nil_of_length_eq_zero HQ.out.symm
        have hd : decide ((0 : Int) < ((0 : Nat) : Int)) = false := by decide
        have hnew : Hid (Inc l 0 none (b ++ [(k : Int)])) := hinc.out.snoc (by rw [← H.out]; exact hlt) (fun _ => ⟨Nat.zero_le _, fun v hv => by cases hv⟩) (fun y hy => by rw [hb0.out] at hy; cases hy)
        obtain ⟨bb, off, rfl, -, hcl⟩ := (h.below hB).at_ (by omega)
        go_wp2
        · go_roundw
          case rel => exact ⟨k + 1, a', 0, cap', b, by omega, by omega, by go_num, rfl, ho, hinc.out, fun y hy => by have := hlast.out y hy; omega, hB⟩
          case measure => simp [intOf]; omega
        · go_wp2
          go_quiet (fail)
          have hsz2 := hB.size
          have hlt2 := ho.2.lt
          have HLT := Lib.hid hlt2
          clear hlt2
          go_wp2_with (at_builtin; refine wpList_append_own _ rfl _ _ 22 rfl w.heap.size 3 i0 (.int .i64 0) 1 8 Try.underlying22 hi hz0 hz1 hz2 rfl (by decide) _ _ _ rfl ((ho.drewN nq).2.alloc _) ⟨(wr.drewN nq).heap.size, 0, none⟩ 1 1 [.int .i64 (k : Int)] rfl rfl (cell_one_new _ _ _) (by simp [Value.oneCell']) (by unfold maxLen; omega) (by omega) (by simp; omega) ?_; intro v' w3 hown' hgrow _; obtain ⟨a3, cap3, rfl, hO3⟩ := OwnI.appended (m := [(k : Int)]) hown' HQ.out; have hb3 : Below w.heap.size w w3 := ((below_drewN hB nq).alloc (by simp; omega) _).grown hgrow (by simp; omega) (fun j hj => (HLT.out j hj).1))
          go_roundw
          case rel => exact ⟨k + 1, a3, _, cap3, b ++ [(k : Int)], by omega, by simp, by go_num, rfl, hO3, hnew.out, fun y hy => by simp at hy; omega, hb3⟩
          case measure => simp [intOf]; omega
      · obtain ⟨y, hy1, hy2⟩ : ∃ y : Nat, b[q - 1]?.getD 0 = (y : Int) ∧ b.getLast? = some (y : Int) := by
          obtain ⟨x, e1, e2, _⟩ := hinc.out.at_ (q - 1) (by rw [← HQ.out]; omega)
          refine ⟨x, e1, ?_⟩
          rw [List.getLast?_eq_getElem?, ← HQ.out, List.getElem?_eq_getElem (by rw [← HQ.out]; omega)]
          rw [List.getElem?_eq_getElem (by rw [← HQ.out]; omega)] at e1
          simpa using e1
        have hyk := hlast.out y hy2
        obtain ⟨g, rfl, hgB, hgs, -, -, hgc⟩ := ho.at_ (by omega)
        obtain ⟨bb, off, rfl, -, hcl⟩ := (h.below hB).at_ (by omega)
        have c1 := hgc.out (q - 1) (by omega)
        rw [hy1] at c1
        have c2 := hcl.out y (by omega)
        have c3 := hcl.out k hlt
        have Y2 := Lib.hid hy2
        clear hy1 hy2
        have i0q : (0 : Int) < (q : Int) := by omega
        have hqp : 0 < q := by omega
        by_cases hx : l[y]?.getD 0 < l[k]?.getD 0
        · have hnew : Hid (Inc l 0 none (b ++ [(k : Int)])) := hinc.out.snoc (by rw [← H.out]; exact hlt) (fun e => absurd (by rw [HQ.out, e]; rfl) hq0) (fun z hz => by
            rw [Y2.out] at hz
            obtain rfl : y = z := by have := Option.some.inj hz; omega
            exact ⟨hyk, hx⟩)
          have hd2 : decide (l[k]?.getD 0 ≤ l[y]?.getD 0) = false := decide_eq_false (by omega)
          go_wp2
          · go_roundw
            case rel => exact ⟨k + 1, some ⟨g, 0, none⟩, q, cap', b, by omega, by omega, by go_num, rfl, ho, hinc.out, fun y hy => by have := hlast.out y hy; omega, hB⟩
            case measure => simp [intOf]; omega
          · go_wp2
            go_quiet (fail)
            have hsz2 := hB.size
            have hlt2 := ho.2.lt
            have HLT := Lib.hid hlt2
            clear hlt2
            go_wp2_with (at_builtin; refine wpList_append_own _ rfl _ _ 22 rfl w.heap.size 3 i0 (.int .i64 0) 1 8 Try.underlying22 hi hz0 hz1 hz2 rfl (by decide) _ _ _ rfl ((ho.drewN nq).2.alloc _) ⟨(wr.drewN nq).heap.size, 0, none⟩ 1 1 [.int .i64 (k : Int)] rfl rfl (cell_one_new _ _ _) (by simp [Value.oneCell']) (by unfold maxLen; omega) (by omega) (by simp; omega) ?_; intro v' w3 hown' hgrow _; obtain ⟨a3, cap3, rfl, hO3⟩ := OwnI.appended (m := [(k : Int)]) hown' HQ.out; have hb3 : Below w.heap.size w w3 := ((below_drewN hB nq).alloc (by simp; omega) _).grown hgrow (by simp; omega) (fun j hj => (HLT.out j hj).1))
            go_roundw
            case rel => exact ⟨k + 1, a3, _, cap3, b ++ [(k : Int)], by omega, by simp; omega, by go_num, rfl, hO3, hnew.out, fun y hy => by simp at hy; omega, hb3⟩
            case measure => simp [intOf]; omega
        · have hd2 : l[k]?.getD 0 ≤ l[y]?.getD 0 := by omega
          clear hx
          go_wp2
          · go_roundw
            case rel => exact ⟨k + 1, some ⟨g, 0, none⟩, q, cap', b, by omega, by omega, by go_num, rfl, ho, hinc.out, fun y hy => by have := hlast.out y hy; omega, hB⟩
            case measure => simp [intOf]; omega
          · go_wp2
            go_quiet (fail)
            go_wp2
            go_ret2
            exact ⟨false, none, 0, 0, [], rfl, OwnI.nil _ _, by simp, below_drewN hB _⟩
    · go_wp2
      go_ret2
      exact ⟨true, a', q, cap', b, rfl, ho, fun _ => hinc.out, hB⟩
end Go.Proofs.Ytdkokpehcmcnpaa
