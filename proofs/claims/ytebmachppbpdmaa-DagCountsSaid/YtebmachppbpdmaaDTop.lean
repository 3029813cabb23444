/- dag.Potentials, dag.Longest, dag.Count. -/
import Derived.Test.YtebmachppbpdmaaDClo
import Derived.Test.YtebmachppbpdmaaDRCnt
import Derived.Test.YtebmachppbpdmaaDRSp
import Derived.Test.YtebmachppbpdmaaDChk
namespace Go.Proofs.Ytebmachppbpdmaa
open Go.RowKit Go.Shelf
attribute [local go_sem] Oper.semAt_some

theorem check2_lit (n : Int) (a : Option Addr) (m cap : Nat) (s t : Int) (ll : List Lk) (w : World) (h : Links w a m cap ll) (hs : I64 s) (ht : I64 t) :
    Calls Try.prog 39 #[.int .i64 n, .slice a m cap, .slice (some ⟨w.heap.size, 0, none⟩) 2 2] (w.alloc (.cells #[.int .i64 s, .int .i64 t] 3)) fun e w' => e = .returned (.int .i64 (chk2 n ll s t)) ∧ Below w.heap.size w w' := by
  have hb : Below w.heap.size w (w.alloc (.cells #[.int .i64 s, .int .i64 t] 3)) := (Below.refl _ w).alloc (Nat.le_refl _) _
  refine (checkn_any n a _ m cap 2 2 ll [s, t] _ (h.below hb) (lit2_ints w s t hs ht)).mono ?_
  rintro e w' ⟨rfl, b⟩
  exact ⟨by rw [chkN_two], hb.trans (b.mono hb.size)⟩
theorem check1_lit (n : Int) (a : Option Addr) (m cap : Nat) (t : Int) (ll : List Lk) (w : World) (h : Links w a m cap ll) (ht : I64 t) :
    Calls Try.prog 39 #[.int .i64 n, .slice a m cap, .slice (some ⟨w.heap.size, 0, none⟩) 1 1] (w.alloc (.cells #[.int .i64 t] 3)) fun e w' => e = .returned (.int .i64 (chk2 n ll t t)) ∧ Below w.heap.size w w' := by
  have hb : Below w.heap.size w (w.alloc (.cells #[.int .i64 t] 3)) := (Below.refl _ w).alloc (Nat.le_refl _) _
  refine (checkn_any n a _ m cap 1 1 ll [t] _ (h.below hb) (lit1_ints w t ht)).mono ?_
  rintro e w' ⟨rfl, b⟩
  exact ⟨by rw [chkN_one], hb.trans (b.mono hb.size)⟩

theorem potentials_any (n : Int) (a : Option Addr) (m cap : Nat) (t : Int) (ll : List Lk) (w : World) (h : Links w a m cap ll) (ht : I64 t) :
    Calls Try.prog 13 #[.int .i64 n, .slice a m cap, .int .i64 t] w fun e w' => ∃ (a' : Option Addr) (q c' : Nat), e = .returned (.tuple #[.slice a' q c', .int .i64 (chk2 n ll t t)]) ∧
      Ints w' a' q c' (if chk2 n ll t t = 0 then pots ll n.toNat t.toNat else []) ∧ Below w.heap.size w w' := by
  have H := Lib.hid h.len
  have F := Lib.hid (check1_lit n a m cap t ll w h ht)
  by_cases h0 : chk2 n ll t t = 0
  · obtain ⟨k, b, b', rfl, rfl, -, hb, -, hk, hm, hv⟩ := chk2_ok h0
    have HV : Hid (Valid k ll) := hv
    have hmm : m ≤ 65536 := by rw [h.len]; exact hm
    rw [h0] at F ⊢
    rw [if_pos rfl]
    clear h0 hv
    go_enter Try.func13, Try.ntmps13
    go_wp2_with (go_at_call 39; refine F.out.mono ?_; rintro e w1 ⟨rfl, b1⟩)
    refine (potentials_in k a m cap b ll w1 (h.below b1) HV.out hk hmm hb).mono ?_
    rintro e w2 ⟨a2, c2, rfl, o2, b2⟩
    have b3 := b1.trans (b2.mono b1.size)
    have hi : Ints w2 a2 k c2 (pots ll k b) := o2.ints (by omega) (within_i64 (pots_within HV.out hk hb) (by decide))
    go_wp2
    go_ret2
    exact ⟨_, _, _, rfl, hi, b3⟩
  · have z : (chk2 n ll t t != 0) = true := by simpa using h0
    rw [if_neg h0]
    clear h0
    generalize chk2 n ll t t = C at *
    go_enter Try.func13, Try.ntmps13
    go_wp2_with (go_at_call 39; refine F.out.mono ?_; rintro e w1 ⟨rfl, b1⟩)
    go_ret2
    exact ⟨none, 0, 0, rfl, Ints.nil _, b1⟩

theorem longest_any (n : Int) (a : Option Addr) (m cap : Nat) (s t : Int) (ll : List Lk) (w : World) (h : Links w a m cap ll) (hs : I64 s) (ht : I64 t) :
    Calls Try.prog 15 #[.int .i64 n, .slice a m cap, .int .i64 s, .int .i64 t] w fun e w' => e = .returned (.tuple #[.int .i64 (longN n ll s t), .int .i64 (longE n ll s t)]) ∧ Below w.heap.size w w' := by
  have H := Lib.hid h.len
  have F := Lib.hid (check2_lit n a m cap s t ll w h hs ht)
  by_cases h0 : chk2 n ll s t = 0
  · obtain ⟨k, u, b, rfl, rfl, rfl, hu, hb, hk, hm, hv⟩ := chk2_ok h0
    have HV : Hid (Valid k ll) := hv
    have hmm : m ≤ 65536 := by rw [h.len]; exact hm
    have E1 : Hid (longN k ll u b = max 0 ((longs ll k b)[u]?.getD 0)) := by show longN k ll u b = _; rw [longN, if_pos h0]; rfl
    have E2 : Hid (longE k ll u b = if (longs ll k b)[u]?.getD 0 < 0 then 6 else 0) := by show longE k ll u b = _; rw [longE, if_pos h0]; rfl
    rw [h0] at F
    clear h0 hv
    go_enter Try.func15, Try.ntmps15
    go_wp2_with (go_at_call 39; refine F.out.mono ?_; rintro e w1 ⟨rfl, b1⟩)
    refine (fold_any 44 longW k a m cap b 0 ll w1 (h.below b1) HV.out hk hmm hb (by decide) longW_tame (enters_of Try.func44 (by kernel_rfl) rfl) long_call).mono ?_
    rintro e w2 ⟨a2, c2, rfl, o2, b2⟩
    have b3 := b1.trans (b2.mono b1.size)
    change OwnI w2 _ a2 k c2 (longs ll k b) at o2
    obtain ⟨g, rfl, -, -, -, -, hc⟩ := o2.at_ (by omega)
    have c1 := hc.out u hu
    generalize (longs ll k b)[u]?.getD 0 = L at *
    by_cases hL : L < 0
    · have E3 : Hid (longN k ll u b = 0 ∧ longE k ll u b = 6) := ⟨by rw [E1.out]; omega, by rw [E2.out, if_pos hL]⟩
      go_wp2
      go_ret2
      exact ⟨by rw [E3.out.1, E3.out.2]; rfl, b3⟩
    · have E3 : Hid (longN k ll u b = L ∧ longE k ll u b = 0) := ⟨by rw [E1.out]; omega, by rw [E2.out, if_neg hL]⟩
      go_wp2
      go_ret2
      exact ⟨by rw [E3.out.1, E3.out.2]; rfl, b3⟩
  · have z : (chk2 n ll s t != 0) = true := by simpa using h0
    have E3 : Hid (longN n ll s t = 0 ∧ longE n ll s t = chk2 n ll s t) := ⟨by rw [longN, if_neg h0], by rw [longE, if_neg h0]⟩
    clear h0
    generalize chk2 n ll s t = C at *
    go_enter Try.func15, Try.ntmps15
    go_wp2_with (go_at_call 39; refine F.out.mono ?_; rintro e w1 ⟨rfl, b1⟩)
    go_ret2
    exact ⟨by rw [E3.out.1, E3.out.2]; rfl, b1⟩

theorem count_any (n : Int) (a : Option Addr) (m cap : Nat) (s t : Int) (ll : List Lk) (w : World) (h : Links w a m cap ll) (hs : I64 s) (ht : I64 t) :
    Calls Try.prog 17 #[.int .i64 n, .slice a m cap, .int .i64 s, .int .i64 t] w fun e w' => e = .returned (.tuple #[.int .i64 (cntN n ll s t), .int .i64 (chk2 n ll s t)]) ∧ Below w.heap.size w w' := by
  have H := Lib.hid h.len
  have F := Lib.hid (check2_lit n a m cap s t ll w h hs ht)
  by_cases h0 : chk2 n ll s t = 0
  · obtain ⟨k, u, b, rfl, rfl, rfl, hu, hb, hk, hm, hv⟩ := chk2_ok h0
    have HV : Hid (Valid k ll) := hv
    have hmm : m ≤ 65536 := by rw [h.len]; exact hm
    have E1 : Hid (cntN k ll u b = max ((foldL cntW ll k b 1)[u]?.getD 0) 0) := by show cntN k ll u b = _; rw [cntN, if_pos h0]; exact Int.max_comm _ _
    rw [h0] at F ⊢
    clear h0 hv
    go_enter Try.func17, Try.ntmps17
    go_wp2_with (go_at_call 39; refine F.out.mono ?_; rintro e w1 ⟨rfl, b1⟩)
    refine (fold_any 45 cntW k a m cap b 1 ll w1 (h.below b1) HV.out hk hmm hb (by decide) cntW_tame (enters_of Try.func45 (by kernel_rfl) rfl) cnt_call).mono ?_
    rintro e w2 ⟨a2, c2, rfl, o2, b2⟩
    have b3 := b1.trans (b2.mono b1.size)
    obtain ⟨g, rfl, -, -, -, -, hc⟩ := o2.at_ (by omega)
    have c1 := hc.out u hu
    generalize (foldL cntW ll k b 1)[u]?.getD 0 = L at *
    go_wp2
    go_ret2
    exact ⟨by rw [E1.out]; rfl, b3⟩
  · have z : (chk2 n ll s t != 0) = true := by simpa using h0
    have E3 : Hid (cntN n ll s t = 0) := by show _ = _; rw [cntN, if_neg h0]
    clear h0
    generalize chk2 n ll s t = C at *
    go_enter Try.func17, Try.ntmps17
    go_wp2_with (go_at_call 39; refine F.out.mono ?_; rintro e w1 ⟨rfl, b1⟩)
    go_ret2
    exact ⟨by rw [E3.out]; rfl, b1⟩
end Go.Proofs.Ytebmachppbpdmaa
