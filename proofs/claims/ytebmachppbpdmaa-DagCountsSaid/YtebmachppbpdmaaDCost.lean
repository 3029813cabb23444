/- cost: what a path costs. -/
import Derived.Test.YtebmachppbpdmaaDPure1
namespace Go.Proofs.Ytebmachppbpdmaa
open Go.RowKit

/-- What a path costs. -/
def costP (ll : List Lk) : List Int → Int
  | [] => 0
  | i :: r => cst ll i.toNat + costP ll r
theorem costP_append (ll : List Lk) : ∀ a b, costP ll (a ++ b) = costP ll a + costP ll b
  | [], b => by simp [costP]
  | i :: a, b => by rw [List.cons_append, costP, costP, costP_append ll a b]; omega
set_option maxHeartbeats 400000 in
theorem cost_any (k : Nat) (a ap : Option Addr) (m cap np cp : Nat) (ll : List Lk) (path : List Int) (w : World) (h : Links w a m cap ll) (hp : Ints w ap np cp path) (hv : Valid k ll) (hnp : np ≤ 1000) (hin : ∀ x ∈ path, 0 ≤ x ∧ x < ll.length) :
    Calls Try.prog 33 #[.slice a m cap, .slice ap np cp] w fun e w' => e = .returned (.int .i64 (costP ll path)) ∧ Drew w w' := by
  have H := Lib.hid h.len
  have HP := Lib.hid hp.len
  have HV : Hid (Valid k ll) := hv
  have HIN := Lib.hid hin
  have h8 := h.bound
  clear hv hin
  go_enter Try.func33, Try.ntmps33
  go_wp2
  go_loopw [10, 5] (fun i c wr => ∃ (j : Nat) (x : Int), i = .int .i64 j ∧ c = .int .i64 x ∧ j ≤ np ∧ Hid (costP ll path = x + costP ll (path.drop j)) ∧ 0 ≤ x ∧ x ≤ (j : Int) * 1073741824 ∧ Drew w wr) (fun i _ _ => np - (intOf i).toNat)
  case atStart => exact ⟨0, 0, rfl, rfl, Nat.zero_le _, by show _ = _; simp, by omega, by omega, Drew.refl _⟩
  case round =>
    obtain ⟨j, x, rfl, rfl, hj, hx, hx0, hx1, hq⟩ := hrel
    by_cases hlt : j < np
    · obtain ⟨gp, op, rfl, -, hcp⟩ := (hp.drews hq).at_ (by omega)
      have cp1 := hcp.out j hlt
      have hjl : j < path.length := by rw [← HP.out]; exact hlt
      have hpj : path[j]?.getD 0 = path[j] := by rw [List.getElem?_eq_getElem hjl]; rfl
      obtain ⟨h0, h1⟩ := HIN.out _ (List.getElem_mem hjl)
      have hdr : path.drop j = path[j] :: path.drop (j + 1) := List.drop_eq_getElem_cons hjl
      rw [hpj] at cp1
      generalize path[j] = y at *
      obtain ⟨i, rfl⟩ : ∃ i' : Nat, y = (i' : Int) := ⟨y.toNat, by omega⟩
      have him : i < m := by rw [H.out]; omega
      obtain ⟨f, tt0, c, hxx, -, -, -, bb, off, rfl, hbl, k1, k2, k3⟩ := (h.drews hq).get him
      dsimp only at k1 k2 k3
      have hxl : lkAt ll i = (f, tt0, c) := by rw [lkAt, hxx]; rfl
      obtain ⟨f', tt, e1, e2, e3, e4, e5, e6⟩ := HV.out i (by rw [← H.out]; exact him)
      rw [hxl] at e5 e6
      dsimp only at e5 e6
      have hnx : Hid (costP ll path = x + c + costP ll (path.drop (j + 1))) := by
        show _ = _
        rw [hx.out, hdr, costP, Int.toNat_natCast, cst, hxl]
        show x + (c + _) = _
        omega
      have sw : IntKind.i64.wrap (x + c) = x + c := IntWalk.i64_in _ (by omega)
      clear hdr hpj hxl hxx e1 e2 h0 h1 hjl
      go_wp2
      go_roundw
      case rel => exact ⟨j + 1, x + c, by go_num, rfl, by omega, hnx.out, by omega, by omega, hq⟩
      case measure => simp [intOf]; omega
    · have E : Hid (costP ll path = x) := by
        show _ = _
        rw [hx.out, List.drop_of_length_le (by rw [← HP.out]; omega)]
        simp [costP]
      go_wp2
      go_ret
      exact ⟨by rw [E.out]; rfl, hq⟩
end Go.Proofs.Ytebmachppbpdmaa
