/- Are two lists of texts equal? -/
import Derived.Test.YtileoimcnhcfcaaDoorLAwk
namespace Go.Proofs.YtileoimcnhcfcaaDoor
open Go.RowKit

theorem drop_eq_iff {α : Type} {l m : List α} {k : Nat} {u v : α} (hu : l[k]? = some u) (hv : m[k]? = some v) : l.drop k = m.drop k ↔ u = v ∧ l.drop (k + 1) = m.drop (k + 1) := by
  obtain ⟨h1, e1⟩ := List.getElem?_eq_some_iff.1 hu
  obtain ⟨h2, e2⟩ := List.getElem?_eq_some_iff.1 hv
  rw [List.drop_eq_getElem_cons h1, List.drop_eq_getElem_cons h2, e1, e2, List.cons.injEq]
theorem dropEnds {α : Type} {l m : List α} {k : Nat} (h1 : l.length ≤ k) (h2 : m.length ≤ k) : l.drop k = m.drop k := by
  rw [List.drop_of_length_le h1, List.drop_of_length_le h2]
set_option maxRecDepth 100000 in
set_option maxHeartbeats 2000000 in
theorem eqStrs_any (S T : Nat → Prop) (a b : Option Addr) (n c m d : Nat) (l z : List ByteArray) (w : World) (h : Strs S w a n c l) (hz : Strs T w b m d z) : Calls Tryd.prog 10 #[.slice a n c, .slice b m d] w fun e w' => e = .returned (.bool (decide (l = z))) ∧ Drew w w' := by
  have HN := Lib.hid h.len
  have HM := Lib.hid hz.len
  have hbn := h.bound
  have hbm := hz.bound
  have hE : Hid (decide (l = z) = decide (l.drop 0 = z.drop 0)) := rfl
  have hne : Hid (n ≠ m → decide (l = z) = false) := fun q => decide_eq_false fun e => q (by rw [HN.out, HM.out, e])
  generalize hR : decide (l = z) = R at *
  clear hR
  by_cases hnm : n = m
  · subst hnm
    go_enter Tryd.func10, Tryd.ntmps10
    go_wp2
    go_loopw [13] (fun i wr => ∃ (k : Nat), i = .int .i64 k ∧ k ≤ n ∧ Hid (R = decide (l.drop k = z.drop k)) ∧ Drew w wr) (fun i _ => n - (intOf i).toNat)
    case atStart => exact ⟨0, rfl, Nat.zero_le _, hE.out, Drew.refl _⟩
    case round =>
      obtain ⟨k, rfl, hk, hx, hd⟩ := hrel
      by_cases hkl : k < n
      · obtain ⟨u, b1, o1, hu, -, ea, -, -, hI1, d1⟩ := (h.below rStr_ok (hd.below _)).str hkl
        obtain ⟨v, b2, o2, hv, -, eb, -, -, hI2, d2⟩ := (hz.below rStr_ok (hd.below _)).str hkl
        subst ea
        subst eb
        have hst := drop_eq_iff hu hv
        by_cases he : u = v
        · have HN2 : Hid (R = decide (l.drop (k + 1) = z.drop (k + 1))) := by show _ = _; rw [hx.out, decide_eq_decide]; exact hst.trans ⟨fun q => q.2, fun q => ⟨he, q⟩⟩
          have t1 : (u.toList == v.toList) = true := str_yes he
          clear hx hu hv hst
          go_wp2
          go_quiet (fail)
          go_wp2
          go_roundw
          case rel => exact ⟨k + 1, by go_num, by omega, HN2.out, hd.drewN _⟩
          case measure => simp [intOf]; omega
        · have HR : Hid (R = false) := by show _ = _; rw [hx.out]; exact decide_eq_false fun q => he (hst.1 q).1
          have t1 : (u.toList == v.toList) = false := str_no he
          clear hx hu hv hst
          go_wp2
          go_quiet (fail)
          go_wp2
          go_ret
          exact ⟨ret_bool HR.out.symm, hd.drewN _⟩
      · have HR : Hid (R = true) := by show _ = _; rw [hx.out]; exact decide_eq_true (dropEnds (by rw [← HN.out]; omega) (by rw [← HM.out]; omega))
        clear hx
        go_wp2
        go_ret
        exact ⟨ret_bool HR.out.symm, hd⟩
  · have HR := Lib.hid (hne.out hnm)
    have hnm' : ((n : Int) != (m : Int)) = true := by simp; omega
    go_enter Tryd.func10, Tryd.ntmps10
    go_wp2
    go_ret
    exact ⟨ret_bool HR.out.symm, Drew.refl _⟩
end Go.Proofs.YtileoimcnhcfcaaDoor
