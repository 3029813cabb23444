/- The law SequenceProofs returns true, for every slice of ints, every choice and every index, and writes nothing that was there. -/
import Derived.Test.YtdkokpehcmcnpaaWRise
import Derived.Test.YtdkokpehcmcnpaaWAwake
import Derived.Test.YtdkokpehcmcnpaaWDel
import Derived.Test.YtdkokpehcmcnpaaPureD
namespace Go.Proofs.Ytdkokpehcmcnpaa
open Go.RowKit

set_option maxHeartbeats 400000 in
theorem verify_short (a ai ac : Option Addr) (n cap ni ci nc cc : Nat) (w : World) (hn : n ≤ 1024) (hne : ni ≠ nc) :
    Calls Try.prog 37 #[.slice a n cap, .slice ai ni ci, .slice ac nc cc] w fun e w' => e = .returned (.int .i64 18) ∧ Below w.heap.size w w' := by
  have D0 := (Below.refl w.heap.size w).alloc (Nat.le_refl _) (.cells #[.slice a n cap] 22)
  have hbl : (w.alloc (.cells #[.slice a n cap] 22)).cell? ⟨w.heap.size, 0, none⟩ = some (.slice a n cap) := by rw [World.cell?_alloc_at _ _ _ _ rfl]; rfl
  have enm : ((ni : Int) != (nc : Int)) = true := by simp; omega
  clear hne
  go_enter Try.func37, Try.ntmps37
  go_wp2
  go_ret
  exact ⟨rfl, D0⟩

theorem ver_cover {l : List Int} (hn : l.length ≤ 12) : verE l (lis l) (cover l l.length) = 0 := verE_yes (by omega) ((cover_ver l _ (lis_best l).1).2 rfl)
theorem ver_of_inc {l b : List Int} (hn : l.length ≤ 12) (h : Inc l 0 none b) : verE l b (cover l l.length) = if b.length = (lis l).length then 0 else 18 := by
  split
  · rename_i e; exact verE_yes (by omega) ((cover_ver l _ h).2 e)
  · rename_i e; exact verE_no (by omega) (fun hv => e ((cover_ver l _ h).1 hv))

set_option maxHeartbeats 4000000 in
theorem law_proofs (a : Option Addr) (n cap : Nat) (l : List Int) (c : Int) (at_ : Int) (w : World) (h : n ≤ 12 → Ints w a n cap l) (ha0 : 0 ≤ at_) (ha1 : at_ ≤ 255) :
    Calls Try.prog 9 #[.slice a n cap, .int .u16 c, .int .u8 at_] w fun e w' => e = .returned (.bool true) ∧ Below w.heap.size w w' := by
  by_cases hn : 12 < n
  · go_enter Try.func9, Try.ntmps9
    go_wp2_with (go_at_call 11; refine (awake_any _).mono ?_; rintro e w' ⟨rfl, hb⟩)
    go_ret
    exact ⟨rfl, hb⟩
  · have i0 := h (by omega)
    have H := Lib.hid i0.len
    have hn12 : n ≤ 12 := by omega
    clear h hn
    have HL : Hid (l.length ≤ 12) := by show l.length ≤ 12; rw [← H.out]; exact hn12
    have HI : Hid (Inc l 0 none (lis l)) := (lis_best l).1
    have hll : Hid ((lis l).length ≤ n) := by rw [H.out]; exact heavy_length _ _
    have HCL : Hid ((lis l).length = (cover l l.length).length) := cover_lis (cover_ok l l.length (Nat.le_refl _))
    have HV0 : Hid (verE l (lis l) (cover l n) = 0) := by rw [H.out]; exact ver_cover HL.out
    go_enter Try.func9, Try.ntmps9
    go_wp2_with fail
    refine (increasing_any a n cap l w i0 (by omega)).mono ?_
    rintro e w1 ⟨a1, q, c1, rfl, o1, b1⟩
    have D1 := b1
    have i1 := i0.below b1
    have hql := o1.len
    have HQ := Lib.hid hql
    have hqn : q ≤ 12 := by have := hll.out; omega
    have s1 : Ints w1 a1 q c1 (lis l) := o1.ints (by omega) (heavy_i64 _ _ (by rw [← H.out]; omega))
    clear hql b1 o1 i0
    go_wp2_with fail
    refine (cover_any a n cap l w1 i1 (by omega)).mono ?_
    rintro e w2 ⟨a2, q2, c2, rfl, o2, b2⟩
    have hql2 := o2.len
    have hqq : q2 = q := by rw [hql2, HQ.out, H.out, HCL.out]
    subst hqq
    have D2 := D1.trans (b2.mono D1.size)
    have i2 := i1.below b2
    have s2 := s1.below b2
    have v2 : Intss w2 a2 q2 c2 (cover l n) := o2.intss (by omega) (rows_i64 (cover_rows l n).1 (by omega))
    clear b2 i1 s1 hql2 o2 D1
    have F0 : Hid (∀ w, Ints w a n cap l → Ints w a1 q2 c1 (lis l) → Intss w a2 q2 c2 (cover l n) → Calls Try.prog 37 #[.slice a n cap, .slice a1 q2 c1, .slice a2 q2 c2] w fun e w' => e = .returned (.int .i64 0) ∧ Below w.heap.size w w') := fun w h1 h2 h3 => by
      rw [← HV0.out]; exact verify_any a a1 a2 n cap q2 c1 q2 c2 l (lis l) (cover l n) w h1 h2 h3
    go_wp2_with fail
    refine (F0.out w2 i2 s2 v2).mono ?_
    rintro e w3 ⟨rfl, b3⟩
    have D3 := D2.trans (b3.mono D2.size)
    have i3 := i2.below b3
    have s3 := s2.below b3
    have v3 := v2.below b3
    have d1 : ((q2 : Int) != (q2 : Int)) = false := by simp
    clear b3 i2 s2 v2 F0 D2
    go_wp2_with fail
    refine (rises_any a n cap l c w3 i3 (by omega)).mono ?_
    rintro e w4 ⟨is, a4, q4, c4, b, rfl, o4, hb4, b4⟩
    have D4 := D3.trans (b4.mono D3.size)
    have i4 := i3.below b4
    have s4 := s3.below b4
    have v4 := v3.below b4
    clear b4 i3 s3 v3 D3
    have hjoin : (is = false) ∨ (is = true ∧ q4 = q2) ∨ (is = true ∧ q4 ≠ q2) := by
      cases is with
      | false => exact .inl rfl
      | true => by_cases e : q4 = q2
                · exact .inr (.inl ⟨rfl, e⟩)
                · exact .inr (.inr ⟨rfl, e⟩)
    rcases hjoin with rfl | ⟨rfl, rfl⟩ | ⟨rfl, hne⟩
    · clear hb4
      obtain ⟨w5, e5⟩ : ∃ w5, w5 = w4 := ⟨_, rfl⟩
      subst e5
      have D5 := D4
      have i5 := i4
      have s5 := s4
      have v5 := v4
      clear D4 i4 s4 v4
      by_cases hq0 : q2 = 0
      · have z0 : ((q2 : Int) == 0) = true := by simp [hq0]
        clear hq0
        go_wp2_with (go_at_call 11; refine (awake_any _).mono ?_; rintro e w' ⟨rfl, hb⟩)
        go_ret
        exact ⟨rfl, D5.trans (hb.mono D5.size)⟩
      · have z0 : ((q2 : Int) == 0) = false := by simp; omega
        have hqp : 0 < q2 := by omega
        clear hq0
        obtain ⟨k, hk⟩ : ∃ k : Nat, at_ % (q2 : Int) = (k : Int) := Int.eq_ofNat_of_zero_le (Int.emod_nonneg _ (by omega))
        have hkq : k < q2 := by have := Int.emod_lt_of_pos at_ (show (0 : Int) < q2 by omega); omega
        go_wp2_with fail
        refine (clone_rows a2 q2 c2 (cover l n) w5 v5 hqp).mono ?_
        rintro e w6 ⟨rs, v6, hrs, rfl, o6, b6⟩
        have HRS := Lib.hid hrs
        have D6 := D5.trans (b6.mono D5.size)
        clear hrs
        go_wp2_with fail
        refine (delete_row w5.heap.size q2 k rs v6 w5 w6 o6 HRS.out hkq b6).mono ?_
        rintro e w7 ⟨a7, c7, rfl, b7⟩
        have D7 := D5.trans (b7.mono D5.size)
        clear o6 b6 D6
        go_wp2_with fail
        refine (verify_short a a1 a7 n cap q2 c1 (q2 - 1) c7 w7 (by omega) (by omega)).mono ?_
        rintro e w8 ⟨rfl, b8⟩
        have D8 := D7.trans (b8.mono D7.size)
        go_wp2_with (go_at_call 11; refine (awake_any _).mono ?_; rintro e w' ⟨rfl, hb⟩)
        go_ret
        exact ⟨rfl, D8.trans (hb.mono D8.size)⟩
    · have hinc := Lib.hid (hb4 rfl)
      have hq4 := o4.len
      have HQ4 := Lib.hid hq4
      have t4 : Ints w4 a4 q4 c4 b := o4.ints (by omega) (fun x hx => by
        obtain ⟨j, hj, rfl⟩ := List.getElem_of_mem hx
        obtain ⟨y, e, _, hy, _⟩ := hinc.out.at_ j hj
        rw [List.getElem?_eq_getElem hj, Option.getD_some] at e
        rw [e]; have := H.out; exact I64.small (by omega) (by omega))
      have E : Hid (verE l b (cover l n) = 0) := by
        show verE l b (cover l n) = 0
        rw [H.out, ver_of_inc HL.out hinc.out, if_pos (by rw [← HQ4.out, HQ.out])]
      have F1 : Hid (∀ w, Ints w a n cap l → Ints w a4 q4 c4 b → Intss w a2 q4 c2 (cover l n) → Calls Try.prog 37 #[.slice a n cap, .slice a4 q4 c4, .slice a2 q4 c2] w fun e w' => e = .returned (.int .i64 0) ∧ Below w.heap.size w w') := fun w h1 h2 h3 => by
        rw [← E.out]; exact verify_any a a4 a2 n cap q4 c4 q4 c2 l b (cover l n) w h1 h2 h3
      have d2 : ((q4 : Int) == (q4 : Int)) = true := by simp
      clear hb4 hq4
      go_wp2_with fail
      refine (F1.out w4 i4 t4 v4).mono ?_
      rintro e w5 ⟨rfl, b5⟩
      have D5 := D4.trans (b5.mono D4.size)
      have i5 := i4.below b5
      have s5 := s4.below b5
      have v5 := v4.below b5
      obtain ⟨q2, e2⟩ : ∃ q2, q2 = q4 := ⟨_, rfl⟩
      subst e2
      clear D4 i4 s4 v4 b5 t4 o4 F1
      by_cases hq0 : q2 = 0
      · have z0 : ((q2 : Int) == 0) = true := by simp [hq0]
        clear hq0
        go_wp2_with (go_at_call 11; refine (awake_any _).mono ?_; rintro e w' ⟨rfl, hb⟩)
        go_ret
        exact ⟨rfl, D5.trans (hb.mono D5.size)⟩
      · have z0 : ((q2 : Int) == 0) = false := by simp; omega
        have hqp : 0 < q2 := by omega
        clear hq0
        obtain ⟨k, hk⟩ : ∃ k : Nat, at_ % (q2 : Int) = (k : Int) := Int.eq_ofNat_of_zero_le (Int.emod_nonneg _ (by omega))
        have hkq : k < q2 := by have := Int.emod_lt_of_pos at_ (show (0 : Int) < q2 by omega); omega
        go_wp2_with fail
        refine (clone_rows a2 q2 c2 (cover l n) w5 v5 hqp).mono ?_
        rintro e w6 ⟨rs, v6, hrs, rfl, o6, b6⟩
        have HRS := Lib.hid hrs
        have D6 := D5.trans (b6.mono D5.size)
        clear hrs
        go_wp2_with fail
        refine (delete_row w5.heap.size q2 k rs v6 w5 w6 o6 HRS.out hkq b6).mono ?_
        rintro e w7 ⟨a7, c7, rfl, b7⟩
        have D7 := D5.trans (b7.mono D5.size)
        clear o6 b6 D6
        go_wp2_with fail
        refine (verify_short a a1 a7 n cap q2 c1 (q2 - 1) c7 w7 (by omega) (by omega)).mono ?_
        rintro e w8 ⟨rfl, b8⟩
        have D8 := D7.trans (b8.mono D7.size)
        go_wp2_with (go_at_call 11; refine (awake_any _).mono ?_; rintro e w' ⟨rfl, hb⟩)
        go_ret
        exact ⟨rfl, D8.trans (hb.mono D8.size)⟩
    · have hinc := Lib.hid (hb4 rfl)
      have hq4 := o4.len
      have HQ4 := Lib.hid hq4
      have hle : q4 ≤ 12 := by
        have := ((lis_best l).2 b hinc.out).1
        rw [hq4]
        have := hll.out
        omega
      have t4 : Ints w4 a4 q4 c4 b := o4.ints (by omega) (fun x hx => by
        obtain ⟨j, hj, rfl⟩ := List.getElem_of_mem hx
        obtain ⟨y, e, _, hy, _⟩ := hinc.out.at_ j hj
        rw [List.getElem?_eq_getElem hj, Option.getD_some] at e
        rw [e]; have := H.out; exact I64.small (by omega) (by omega))
      have E : Hid (verE l b (cover l n) = 18) := by
        show verE l b (cover l n) = 18
        rw [H.out, ver_of_inc HL.out hinc.out, if_neg (by rw [← HQ4.out, ← HQ.out]; exact hne)]
      have F1 : Hid (∀ w, Ints w a n cap l → Ints w a4 q4 c4 b → Intss w a2 q2 c2 (cover l n) → Calls Try.prog 37 #[.slice a n cap, .slice a4 q4 c4, .slice a2 q2 c2] w fun e w' => e = .returned (.int .i64 18) ∧ Below w.heap.size w w') := fun w h1 h2 h3 => by
        rw [← E.out]; exact verify_any a a4 a2 n cap q4 c4 q2 c2 l b (cover l n) w h1 h2 h3
      have d2 : ((q4 : Int) == (q2 : Int)) = false := by simp; omega
      clear hb4 hq4 hne
      go_wp2_with fail
      refine (F1.out w4 i4 t4 v4).mono ?_
      rintro e w5 ⟨rfl, b5⟩
      have D5 := D4.trans (b5.mono D4.size)
      have i5 := i4.below b5
      have s5 := s4.below b5
      have v5 := v4.below b5
      clear D4 i4 s4 v4 b5 t4 o4 F1
      by_cases hq0 : q2 = 0
      · have z0 : ((q2 : Int) == 0) = true := by simp [hq0]
        clear hq0
        go_wp2_with (go_at_call 11; refine (awake_any _).mono ?_; rintro e w' ⟨rfl, hb⟩)
        go_ret
        exact ⟨rfl, D5.trans (hb.mono D5.size)⟩
      · have z0 : ((q2 : Int) == 0) = false := by simp; omega
        have hqp : 0 < q2 := by omega
        clear hq0
        obtain ⟨k, hk⟩ : ∃ k : Nat, at_ % (q2 : Int) = (k : Int) := Int.eq_ofNat_of_zero_le (Int.emod_nonneg _ (by omega))
        have hkq : k < q2 := by have := Int.emod_lt_of_pos at_ (show (0 : Int) < q2 by omega); omega
        go_wp2_with fail
        refine (clone_rows a2 q2 c2 (cover l n) w5 v5 hqp).mono ?_
        rintro e w6 ⟨rs, v6, hrs, rfl, o6, b6⟩
        have HRS := Lib.hid hrs
        have D6 := D5.trans (b6.mono D5.size)
        clear hrs
        go_wp2_with fail
        refine (delete_row w5.heap.size q2 k rs v6 w5 w6 o6 HRS.out hkq b6).mono ?_
        rintro e w7 ⟨a7, c7, rfl, b7⟩
        have D7 := D5.trans (b7.mono D5.size)
        clear o6 b6 D6
        go_wp2_with fail
        refine (verify_short a a1 a7 n cap q2 c1 (q2 - 1) c7 w7 (by omega) (by omega)).mono ?_
        rintro e w8 ⟨rfl, b8⟩
        have D8 := D7.trans (b8.mono D7.size)
        go_wp2_with (go_at_call 11; refine (awake_any _).mono ?_; rintro e w' ⟨rfl, hb⟩)
        go_ret
        exact ⟨rfl, D8.trans (hb.mono D8.size)⟩
end Go.Proofs.Ytdkokpehcmcnpaa
