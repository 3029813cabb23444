/- dag.length. -/
import Derived.Test.YtebmachppbpdmaaDPure4
import Derived.Test.YtebmachppbpdmaaDPure2
namespace Go.Proofs.Ytebmachppbpdmaa
open Go.RowKit

/-- What length returns. -/
def lenV (ll : List Lk) (s : Int) (path : List Int) : Int := match walkP ll s 0 path with | some x => x.2 | none => 0
def lenB (ll : List Lk) (s t : Int) (path : List Int) : Bool := match walkP ll s 0 path with | some x => decide (x.1 = t) | none => false
set_option maxHeartbeats 1000000 in
theorem length_any (k : Nat) (a ap : Option Addr) (m cap np cp : Nat) (s t : Nat) (ll : List Lk) (path : List Int) (w : World) (h : Links w a m cap ll) (hp : Ints w ap np cp path) (hv : Valid k ll) (hnp : np ≤ 1000) :
    Calls Try.prog 49 #[.slice a m cap, .int .i64 s, .int .i64 t, .slice ap np cp] w fun e w' => e = .returned (.tuple #[.int .i64 (lenV ll s path), .bool (lenB ll s t path)]) ∧ Drew w w' := by
  have H := Lib.hid h.len
  have HP := Lib.hid hp.len
  have h8 := h.bound
  have HV : Hid (Valid k ll) := hv
  clear hv
  go_enter Try.func49, Try.ntmps49
  go_wp2
  go_loopw [15, 1, 10] (fun i u c wr => ∃ (j : Nat) (x y : Int), i = .int .i64 j ∧ u = .int .i64 x ∧ c = .int .i64 y ∧ j ≤ np ∧ Hid (walkP ll s 0 path = walkP ll x y (path.drop j)) ∧ 0 ≤ y ∧ y ≤ (j : Int) * 1073741824 ∧ Drew w wr) (fun i _ _ _ => np - (intOf i).toNat)
  case atStart => exact ⟨0, s, 0, rfl, rfl, rfl, Nat.zero_le _, rfl, by omega, by omega, Drew.refl _⟩
  case round =>
    obtain ⟨j, x, y, rfl, rfl, rfl, hj, hwk, hy0, hy1, hq⟩ := hrel
    by_cases hlt : j < np
    · obtain ⟨gp, op, rfl, -, hcp⟩ := (hp.drews hq).at_ (by omega)
      have cp1 := hcp.out j hlt
      have hpj : path[j]? = some (path[j]?.getD 0) := by
        have : j < path.length := by rw [← HP.out]; exact hlt
        rw [List.getElem?_eq_getElem this]; rfl
      have hst := walkP_drop (ll := ll) (u := x) (c := y) hpj
      generalize path[j]?.getD 0 = i at *
      have NO : Hid (¬ (0 ≤ i ∧ i < ll.length ∧ (lkAt ll i.toNat).1 = x) → lenV ll s path = 0 ∧ lenB ll s t path = false) := fun hn => by
        rw [lenV, lenB, hwk.out, hst, if_neg hn]
        exact ⟨rfl, rfl⟩
      have HST := Lib.hid hst
      clear hst hpj
      by_cases hi0 : i < 0
      · have E := Lib.hid (NO.out (by omega))
        go_wp2
        go_ret2
        exact ⟨by rw [E.out.1, E.out.2]; rfl, hq⟩
      · obtain ⟨i, rfl⟩ : ∃ i' : Nat, i = (i' : Int) := ⟨i.toNat, by omega⟩
        rw [Int.toNat_natCast] at NO HST
        have d0 : decide ((i : Int) < 0) = false := by simp
        by_cases him : i < m
        · have d1 : decide ((m : Int) ≤ (i : Int)) = false := by simp; omega
          obtain ⟨f, tt0, c, hx, -, -, -, bb, off, rfl, hbl, k1, k2, k3⟩ := (h.drews hq).get him
          dsimp only at k1 k2 k3
          have hxl : lkAt ll i = (f, tt0, c) := by rw [lkAt, hx]; rfl
          obtain ⟨f', tt, e1, e2, e3, e4, e5, e6⟩ := HV.out i (by rw [← H.out]; exact him)
          rw [hxl] at e1 e2 e5 e6 NO HST
          dsimp only at e1 e2 e5 e6
          subst e1 e2
          clear hxl hx
          by_cases hfx : (f' : Int) = x
          · subst hfx
            have d2 : ((f' : Int) != (f' : Int)) = false := by simp
            have sw : IntKind.i64.wrap (y + c) = y + c := IntWalk.i64_in _ (by omega)
            have hnx : Hid (walkP ll s 0 path = walkP ll tt (y + c) (path.drop (j + 1))) := by
              show _ = _
              rw [hwk.out, HST.out, if_pos ⟨by omega, by rw [← H.out]; omega, rfl⟩]
            clear HST NO
            go_wp2
            go_quiet (fail)
            go_wp2
            go_roundw
            case rel => exact ⟨j + 1, tt, y + c, by go_num, rfl, rfl, by omega, hnx.out, by omega, by omega, hq.drewN nq⟩
            case measure => simp [intOf]; omega
          · have d2 : ((f' : Int) != x) = true := by simpa using hfx
            have E := Lib.hid (NO.out (fun e => hfx e.2.2))
            clear HST NO
            go_wp2
            go_ret2
            exact ⟨by rw [E.out.1, E.out.2]; rfl, hq⟩
        · have d1 : decide ((m : Int) ≤ (i : Int)) = true := by simp; omega
          have E := Lib.hid (NO.out (fun e => him (by have := e.2.1; rw [H.out]; omega)))
          clear HST NO
          go_wp2
          go_ret2
          exact ⟨by rw [E.out.1, E.out.2]; rfl, hq⟩
    · have E : Hid (lenV ll s path = y ∧ lenB ll s t path = (x == (t : Int))) := by
        show _ ∧ _
        rw [lenV, lenB, hwk.out, List.drop_of_length_le (by rw [← HP.out]; omega)]
        exact ⟨rfl, by simp [walkP]; rfl⟩
      go_wp2
      go_ret2
      exact ⟨by rw [E.out.1, E.out.2]; rfl, hq⟩
end Go.Proofs.Ytebmachppbpdmaa
