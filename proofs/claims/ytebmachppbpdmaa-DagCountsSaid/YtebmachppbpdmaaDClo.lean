/- The three ways to fold; dag.potentials. -/
import Derived.Test.YtebmachppbpdmaaDFold
namespace Go.Proofs.Ytebmachppbpdmaa
open Go.RowKit Go.Shelf
attribute [local go_sem] Oper.semAt_some

theorem pot_call (x c y : Int) (W : World) (h1 : -1 ≤ x) (h2 : x ≤ 4398046511105) (h3 : 0 ≤ c) (h4 : c ≤ 1073741824) (h5 : 0 ≤ y) (h6 : y ≤ 4398046511105) :
    Calls Try.prog 55 #[.int .i64 x, .int .i64 c, .int .i64 y] W fun e W' => e = .returned (.int .i64 (potW x c y)) ∧ W' = W := by
  have e1 : IntKind.i64.wrap (c + y) = c + y := IntWalk.i64_in _ (by omega)
  by_cases h : x < 0
  · go_enter Try.func55, Try.ntmps55
    go_wp2
    go_ret
    exact ⟨by rw [potW, if_pos h]; rfl, rfl⟩
  · have hd : decide (x < 0) = false := by simpa using h
    go_enter Try.func55, Try.ntmps55
    go_wp2
    go_ret
    exact ⟨by rw [potW, if_neg (by omega)]; rfl, rfl⟩
theorem long_call (x c y : Int) (W : World) (_h1 : -1 ≤ x) (_h2 : x ≤ 4398046511105) (h3 : 0 ≤ c) (h4 : c ≤ 1073741824) (h5 : 0 ≤ y) (h6 : y ≤ 4398046511105) :
    Calls Try.prog 44 #[.int .i64 x, .int .i64 c, .int .i64 y] W fun e W' => e = .returned (.int .i64 (longW x c y)) ∧ W' = W := by
  have e1 : IntKind.i64.wrap (c + y) = c + y := IntWalk.i64_in _ (by omega)
  go_enter Try.func44, Try.ntmps44
  go_wp2
  go_ret
  exact ⟨rfl, rfl⟩
theorem cnt_call (x c y : Int) (W : World) (h1 : -1 ≤ x) (h2 : x ≤ 4398046511105) (_h3 : 0 ≤ c) (_h4 : c ≤ 1073741824) (h5 : 0 ≤ y) (h6 : y ≤ 4398046511105) :
    Calls Try.prog 45 #[.int .i64 x, .int .i64 c, .int .i64 y] W fun e W' => e = .returned (.int .i64 (cntW x c y)) ∧ W' = W := by
  have e1 : IntKind.i64.wrap (max x 0 + y) = max x 0 + y := IntWalk.i64_in _ (by omega)
  go_enter Try.func45, Try.ntmps45
  go_wp2
  go_ret
  exact ⟨rfl, rfl⟩
theorem potentials_in (n : Nat) (a : Option Addr) (m cap t : Nat) (ll : List Lk) (w : World) (h : Links w a m cap ll) (hv : Valid n ll) (hn : n ≤ 4096) (hm : m ≤ 65536) (ht : t < n) :
    Calls Try.prog 40 #[.int .i64 n, .slice a m cap, .int .i64 t] w fun e w' => ∃ (a' : Option Addr) (c' : Nat), e = .returned (.slice a' n c') ∧ OwnI w' w.heap.size a' n c' (foldL potW ll n t 0) ∧ Below w.heap.size w w' := by
  have HF := Lib.hid (fold_any 55 potW n a m cap t 0 ll w h hv hn hm ht (by decide) potW_tame (enters_of Try.func55 (by kernel_rfl) rfl) pot_call)
  clear h hv
  go_enter Try.func40, Try.ntmps40
  go_wp2_with (go_at_call 43; refine HF.out.mono ?_; rintro e w' ⟨a', c', rfl, ho, hb⟩)
  go_ret
  exact ⟨_, _, rfl, ho, hb⟩
end Go.Proofs.Ytebmachppbpdmaa
