/- The reference's Potentials, Longest and Shortest. -/
import Derived.Test.YtebmachppbpdmaaDPure2
import Derived.Test.YtebmachppbpdmaaDRTo
namespace Go.Proofs.Ytebmachppbpdmaa
open Go.RowKit

/-- The least costs, the greatest, and the numbers of paths. -/
def pots (ll : List Lk) (n t : Nat) : List Int := foldL potW ll n t 0
def longs (ll : List Lk) (n t : Nat) : List Int := foldL longW ll n t 0
def cnts (ll : List Lk) (n t : Nat) : List Int := foldL cntW ll n t 1
theorem fold_small {wth : Int → Int → Int → Int} (hw : Tame wth) {n : Nat} {ll : List Lk} (hv : Valid n ll) (hn : n ≤ 4096) {t : Nat} (ht : t < n) {first : Int} (h0 : -1 ≤ first ∧ first ≤ 1) : Within (foldL wth ll n t first) 4398046511105 := fun j => by
  have := foldTo_within hw hv ht h0 t (Nat.le_refl _) j
  have e : foldL wth ll n t first = foldTo wth ll n t first t := rfl
  rw [e]; omega
theorem within_i64 {out : List Int} {M : Int} (h : Within out M) (hM : M ≤ 1099511627776000) : ∀ x ∈ out, I64 x := fun x hx => by
  obtain ⟨j, hj, rfl⟩ := List.getElem_of_mem hx
  have := h j
  rw [List.getElem?_eq_getElem hj, Option.getD_some] at this
  exact ⟨by omega, by omega⟩
theorem chk2_ok {n : Int} {ll : List Lk} {s t : Int} (h : chk2 n ll s t = 0) : ∃ k a b : Nat, n = (k : Int) ∧ s = (a : Int) ∧ t = (b : Int) ∧ a < k ∧ b < k ∧ k ≤ 4096 ∧ ll.length ≤ 65536 ∧ Valid k ll := by
  unfold chk2 at h
  split at h
  · cases h
  · rename_i h1
    split at h
    · cases h
    · rename_i h2
      obtain ⟨k, rfl, h3, h4, h5, h6⟩ := Valid.of_chk (n := n) (ll := ll) (by simpa using h1)
      obtain ⟨a, rfl⟩ := Int.eq_ofNat_of_zero_le (show 0 ≤ s by omega)
      obtain ⟨b, rfl⟩ := Int.eq_ofNat_of_zero_le (show 0 ≤ t by omega)
      exact ⟨k, a, b, rfl, rfl, rfl, by omega, by omega, h4, h5, h6⟩

set_option maxHeartbeats 1000000 in
theorem ref_potentials_any (n : Int) (a : Option Addr) (m cap : Nat) (t : Int) (ll : List Lk) (w : World) (h : Links w a m cap ll) :
    Calls Try.prog 25 #[.int .i64 n, .slice a m cap, .int .i64 t] w fun e w' => ∃ (a' : Option Addr) (q c' : Nat), e = .returned (.tuple #[.slice a' q c', .int .i64 (chk2 n ll t t)]) ∧
      Ints w' a' q c' (if chk2 n ll t t = 0 then pots ll n.toNat t.toNat else []) ∧ Below w.heap.size w w' := by
  have H := Lib.hid h.len
  by_cases h0 : chk2 n ll t t = 0
  · obtain ⟨k, b, b', rfl, rfl, -, hb, -, hk, hm, hv⟩ := chk2_ok h0
    have F : Hid (Calls Try.prog 46 #[.int .i64 (k : Int), .slice a m cap, .int .i64 (b : Int), .int .i64 (b : Int)] w fun e w' => e = .returned (.int .i64 0) ∧ Below w.heap.size w w') := by
      have := ref_check2_any (k : Int) a m cap ll b b w h
      rw [h0] at this; exact this
    have HV : Hid (Valid k ll) := hv
    have hmm : m ≤ 65536 := by rw [h.len]; exact hm
    have HS : Hid (Within (pots ll k b) 4398046511105) := fold_small potW_tame hv hk hb (first := 0) ⟨by omega, by omega⟩
    have HL : Hid ((pots ll k b).length = k) := foldTo_length _
    rw [if_pos h0, h0]
    simp only [Int.toNat_natCast]
    clear h0 hv
    go_enter Try.func25, Try.ntmps25
    go_wp2_with fail
    refine F.out.mono ?_
    rintro e w1 ⟨rfl, b1⟩
    go_wp2_with fail
    refine (ref_to_any k a m cap b ll false w1 (h.below b1) HV.out hk hmm hb).mono ?_
    rintro e w2 ⟨a2, c2, rfl, o2, b2⟩
    go_wp2
    go_ret2
    exact ⟨a2, k, c2, rfl, o2.ints (by omega) (within_i64 HS.out (by omega)), b1.trans (b2.mono b1.size)⟩
  · have F := Lib.hid (ref_check2_any n a m cap ll t t w h)
    have z : (chk2 n ll t t != 0) = true := by simpa using h0
    rw [if_neg h0]
    clear h0
    generalize chk2 n ll t t = C at *
    go_enter Try.func25, Try.ntmps25
    go_wp2_with (go_at_call 46; refine F.out.mono ?_; rintro e w1 ⟨rfl, b1⟩)
    go_ret2
    exact ⟨_, 0, 0, rfl, ((OwnI.lit0 _ _ (Nat.le_refl _)).ints (by omega) (by simp)), b1.alloc b1.size _⟩

/-- The greatest cost and the error. -/
def longN (n : Int) (ll : List Lk) (s t : Int) : Int := if chk2 n ll s t = 0 then max 0 ((longs ll n.toNat t.toNat)[s.toNat]?.getD 0) else 0
def longE (n : Int) (ll : List Lk) (s t : Int) : Int := if chk2 n ll s t = 0 then (if (longs ll n.toNat t.toNat)[s.toNat]?.getD 0 < 0 then 6 else 0) else chk2 n ll s t
set_option maxHeartbeats 1000000 in
theorem ref_longest_any (n : Int) (a : Option Addr) (m cap : Nat) (s t : Int) (ll : List Lk) (w : World) (h : Links w a m cap ll) :
    Calls Try.prog 20 #[.int .i64 n, .slice a m cap, .int .i64 s, .int .i64 t] w fun e w' => e = .returned (.tuple #[.int .i64 (longN n ll s t), .int .i64 (longE n ll s t)]) ∧ Below w.heap.size w w' := by
  have H := Lib.hid h.len
  by_cases h0 : chk2 n ll s t = 0
  · obtain ⟨k, u, b, rfl, rfl, rfl, hu, hb, hk, hm, hv⟩ := chk2_ok h0
    have F : Hid (Calls Try.prog 46 #[.int .i64 (k : Int), .slice a m cap, .int .i64 (u : Int), .int .i64 (b : Int)] w fun e w' => e = .returned (.int .i64 0) ∧ Below w.heap.size w w') := by
      have := ref_check2_any (k : Int) a m cap ll u b w h
      rw [h0] at this; exact this
    have HV : Hid (Valid k ll) := hv
    have hmm : m ≤ 65536 := by rw [h.len]; exact hm
    have E1 : Hid (longN k ll u b = max 0 ((longs ll k b)[u]?.getD 0)) := by show longN k ll u b = _; rw [longN, if_pos h0]; rfl
    have E2 : Hid (longE k ll u b = if (longs ll k b)[u]?.getD 0 < 0 then 6 else 0) := by show longE k ll u b = _; rw [longE, if_pos h0]; rfl
    clear h0 hv
    go_enter Try.func20, Try.ntmps20
    go_wp2_with fail
    refine F.out.mono ?_
    rintro e w1 ⟨rfl, b1⟩
    go_wp2_with fail
    refine (ref_to_any k a m cap b ll true w1 (h.below b1) HV.out hk hmm hb).mono ?_
    rintro e w2 ⟨a2, c2, rfl, o2, b2⟩
    have b3 := b1.trans (b2.mono b1.size)
    change OwnI w2 _ a2 k c2 (longs ll k b) at o2
    obtain ⟨g, rfl, -, -, -, -, hc⟩ := o2.at_ (by omega)
    have c1 := hc.out u hu
    generalize (longs ll k b)[u]?.getD 0 = L at *
    by_cases hL : L < 0
    · have E3 : Hid (longN k ll u b = 0 ∧ longE k ll u b = 6) := ⟨by rw [E1.out]; omega, by rw [E2.out, if_pos hL]⟩
      go_wp2
      go_ret2
      exact ⟨by rw [E3.out.1, E3.out.2]; rfl, b3⟩
    · have E3 : Hid (longN k ll u b = L ∧ longE k ll u b = 0) := ⟨by rw [E1.out]; omega, by rw [E2.out, if_neg hL]⟩
      go_wp2
      go_ret2
      exact ⟨by rw [E3.out.1, E3.out.2]; rfl, b3⟩
  · have F := Lib.hid (ref_check2_any n a m cap ll s t w h)
    have z : (chk2 n ll s t != 0) = true := by simpa using h0
    have E3 : Hid (longN n ll s t = 0 ∧ longE n ll s t = chk2 n ll s t) := ⟨by rw [longN, if_neg h0], by rw [longE, if_neg h0]⟩
    clear h0
    generalize chk2 n ll s t = C at *
    go_enter Try.func20, Try.ntmps20
    go_wp2_with (go_at_call 46; refine F.out.mono ?_; rintro e w1 ⟨rfl, b1⟩)
    go_ret2
    exact ⟨by rw [E3.out.1, E3.out.2]; rfl, b1⟩
end Go.Proofs.Ytebmachppbpdmaa
