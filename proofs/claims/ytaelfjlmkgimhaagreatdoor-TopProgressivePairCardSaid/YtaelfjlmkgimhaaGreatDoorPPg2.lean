/- progressive: the nearest source. -/
import Derived.Test.YtaelfjlmkgimhaaGreatDoorPPg1
set_option linter.unusedVariables false
set_option linter.unusedSimpArgs false
namespace Go.Proofs.YtaelfjlmkgimhaaGreatDoor
open Go.RowKit

set_option maxRecDepth 100000 in
set_option maxHeartbeats 1000000 in
theorem near1_any (bd bi g ro N j a b : Nat) (x y : Int) (w : World) (h1 : w.cell? ⟨bd, 0, none⟩ = some (.slice (some ⟨g, 0, none⟩) N N)) (h2 : w.cell? ⟨bi, 0, none⟩ = some (.int .i64 (j : Int))) (h3 : w.cell? ⟨g, j, none⟩ = some (.slice (some ⟨ro, 0, none⟩) N N))
    (h4 : w.cell? ⟨ro, a, none⟩ = some (.int .i64 x)) (h5 : w.cell? ⟨ro, b, none⟩ = some (.int .i64 y)) (hj : j < N) (ha : a < N) (hb : b < N) :
    Calls Tryz.prog 48 #[.int .i64 (a : Int), .int .i64 (b : Int), .pointer (some ⟨bd, 0, none⟩), .pointer (some ⟨bi, 0, none⟩)] w fun e w' => (∃ z : Int, e = .returned (.int .i64 z)) ∧ Drew w w' := by
  go_enter Tryz.func48, Tryz.ntmps48
  go_wp2
  go_quiet (fail)
  go_wp2
  go_ret
  exact ⟨⟨_, rfl⟩, _, rfl⟩
def natI (l : List Nat) : List Int := l.map fun x : Nat => (x : Int)
set_option maxRecDepth 100000 in
set_option maxHeartbeats 2000000 in
theorem minf_any (S : Nat → Prop) (bd bi N : Nat) (a : Option Addr) (n c : Nat) (l : List Nat) (w : World) (h : Nums S w a n c (natI l)) (h0 : 0 < n) (hn : n ≤ 32) (hl : ∀ x ∈ l, x < N)
    (HF : ∀ W (x y : Nat), Below w.heap.size w W → x < N → y < N → Calls Tryz.prog 48 #[.int .i64 (x : Int), .int .i64 (y : Int), .pointer (some ⟨bd, 0, none⟩), .pointer (some ⟨bi, 0, none⟩)] W fun e w' => (∃ z : Int, e = .returned (.int .i64 z)) ∧ Drew W w') :
    Calls Tryz.prog 47 #[.slice a n c, .func (.func 48) #[] #[.pointer (some ⟨bd, 0, none⟩), .pointer (some ⟨bi, 0, none⟩)]] w fun e w' => (∃ z : Nat, e = .returned (.int .i64 (z : Int)) ∧ z ∈ l) ∧ Below w.heap.size w w' := by
  have HH := Lib.hid h
  have HFF := Lib.hid HF
  have HL := Lib.hid hl
  have hat : Hid (∀ j, j < n → ∃ (x : Nat) (b off : Nat), x ∈ l ∧ a = some ⟨b, off, none⟩ ∧ ∀ W, Below w.heap.size w W → W.cell? ⟨b, off + j, none⟩ = some (.int .i64 (x : Int))) := fun j hj => by
    obtain ⟨x, b, off, hu, hm, ea, -, hbl, -, hc⟩ := h.int hj
    obtain ⟨y, hy, rfl⟩ := List.mem_map.1 hm
    exact ⟨y, b, off, hy, ea, fun W hW => (hW.cell (p := ⟨b, off + j, none⟩) hbl).trans hc⟩
  have hL := h.bound
  clear h HF hl
  obtain ⟨x0, b, off, hx0, ea, hc0⟩ := hat.out 0 h0
  subst ea
  have c0 : w.cell? ⟨b, off, none⟩ = _ := hc0 w (Below.refl _ _)
  have HX0 := Lib.hid hx0
  clear hc0 hx0
  go_enter Tryz.func47, Tryz.ntmps47
  go_wp2
  go_loopw [5, 6] (fun m i wr => ∃ (j z : Nat), m = .int .i64 (z : Int) ∧ i = .int .i64 (j : Int) ∧ j ≤ n ∧ 1 ≤ j ∧ Hid (z ∈ l) ∧ Hid (Below w.heap.size w wr)) (fun _ i _ => n - (intOf i).toNat)
  case atStart => exact ⟨1, x0, rfl, rfl, h0, Nat.le_refl _, HX0.out, Below.refl _ _⟩
  case round =>
    clear c0 HX0
    obtain ⟨j, z, rfl, rfl, hj, h1, hz, hb⟩ := hrel
    by_cases hjn : j < n
    · obtain ⟨x, b', off', hx, ea, hc⟩ := hat.out j hjn
      cases ea
      have c1 := hc wr hb.out
      have HC := Lib.hid hc
      have HQ := Lib.hid (HFF.out wr x z hb.out (HL.out x hx) (HL.out z hz.out))
      have HX := Lib.hid hx
      clear hc hx
      go_wp2_with (go_at_call 48; refine HQ.out.mono ?_; rintro e w' ⟨⟨v, rfl⟩, hd⟩; have hb2 := Lib.hid (hb.out.trans ((hd.below _).mono hb.out.size)); have c1' := HC.out w' hb2.out; clear hd c1)
      all_goals
        go_roundw
        first
        | (case rel => exact ⟨j + 1, x, by first | rfl | go_num, by first | rfl | go_num, by omega, by omega, HX.out, hb2.out⟩)
        | (case rel => exact ⟨j + 1, z, by first | rfl | go_num, by first | rfl | go_num, by omega, by omega, hz.out, hb2.out⟩)
        case measure => simp [intOf]; omega
    · go_wp2
      go_ret
      exact ⟨⟨z, rfl, hz.out⟩, hb.out⟩
/-- The two sources with which the order begins. -/
def nxtP (D : Nat → Nat → Nat) (fs x : Nat × Nat) : Nat × Nat := if D x.1 x.2 < D fs.1 fs.2 then x else fs
def stI (D : Nat → Nat → Nat) (i : Nat) (fs : Nat × Nat) : Nat → Nat × Nat
  | 0 => fs
  | k + 1 => if i < k then nxtP D (stI D i fs k) (i, k) else stI D i fs k
def stO (D : Nat → Nat → Nat) (n : Nat) : Nat → Nat × Nat
  | 0 => (0, 1)
  | i + 1 => stI D i (stO D n i) n
theorem stI_ok {D : Nat → Nat → Nat} {i n : Nat} {fs : Nat × Nat} (h : fs.1 < fs.2 ∧ fs.2 < n) : ∀ k, k ≤ n → (stI D i fs k).1 < (stI D i fs k).2 ∧ (stI D i fs k).2 < n
  | 0, _ => h
  | k + 1, hk => by
    have ih := stI_ok (D := D) (i := i) h k (by omega)
    rw [stI]
    split
    · unfold nxtP
      split
      · dsimp only; omega
      · exact ih
    · exact ih
theorem stI_low {D : Nat → Nat → Nat} {i : Nat} {fs : Nat × Nat} : ∀ k, k ≤ i + 1 → stI D i fs k = fs
  | 0, _ => rfl
  | k + 1, h => by rw [stI, if_neg (by omega), stI_low k (by omega)]
theorem stO_ok {D : Nat → Nat → Nat} {n : Nat} (hn : 2 ≤ n) : ∀ i, (stO D n i).1 < (stO D n i).2 ∧ (stO D n i).2 < n
  | 0 => ⟨by show 0 < 1; omega, by show 1 < n; omega⟩
  | i + 1 => stI_ok (stO_ok hn i) n (Nat.le_refl _)
/-- The order of two, or of three sources. -/
def ordN (D : Nat → Nat → Nat) (n : Nat) : List Nat := if n = 3 then [(stO D n n).1, (stO D n n).2, 3 - (stO D n n).1 - (stO D n n).2] else [(stO D n n).1, (stO D n n).2]
end Go.Proofs.YtaelfjlmkgimhaaGreatDoor
