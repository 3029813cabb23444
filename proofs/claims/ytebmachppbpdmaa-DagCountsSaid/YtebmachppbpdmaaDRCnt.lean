/- The reference's Count. -/
import Derived.Test.YtebmachppbpdmaaDRSh
import Derived.Test.YtebmachppbpdmaaTail
namespace Go.Proofs.Ytebmachppbpdmaa
open Go.RowKit

theorem cnt_fold_le {ll : List Lk} {out : List Int} : ∀ (l : List Nat) (b : Int), b ≤ 1073741824 → -1 ≤ b → -1 ≤ l.foldl (fstep cntW ll out) b ∧ l.foldl (fstep cntW ll out) b ≤ 1073741824
  | [], _, h, h' => ⟨h', h⟩
  | i :: l, b, h, h' => by
    rw [List.foldl_cons]
    refine cnt_fold_le l _ ?_ ?_
    · unfold fstep cntW; split <;> omega
    · unfold fstep cntW; split <;> omega
theorem cnt_within {ll : List Lk} {n t : Nat} (ht : t < n) : ∀ k, Within (foldTo cntW ll n t 1 k) 1073741824
  | 0 => fun j => by
    by_cases e : j = t
    · subst e; rw [foldTo, List.getElem?_set_self (by simpa using ht)]; simp
    · rw [foldTo, List.getElem?_set_ne (Ne.symm e)]
      by_cases hj : j < n
      · simp [hj]
      · rw [List.getElem?_eq_none (by simp; omega)]; simp
  | k + 1 => fun j => by
    have hl : (foldTo cntW ll n t 1 k).length = n := foldTo_length k
    by_cases e : j = t - 1 - k
    · subst e
      rw [foldTo, List.getElem?_set_self (by omega), Option.getD_some]
      exact cnt_fold_le _ _ (by omega) (by omega)
    · rw [foldTo, List.getElem?_set_ne (Ne.symm e)]
      exact cnt_within ht k j
/-- Negative numbers become 0. -/
def mx (l : List Int) : List Int := l.map fun x => max 0 x
theorem mx_at (l : List Int) (j : Nat) : (mx l)[j]?.getD 0 = max 0 (l[j]?.getD 0) := by
  unfold mx
  rw [List.getElem?_map]
  cases l[j]? <;> simp
theorem mx_set (l : List Int) (j : Nat) (v : Int) : mx (l.set j v) = (mx l).set j (max 0 v) := by unfold mx; rw [List.map_set]
theorem mx_length (l : List Int) : (mx l).length = l.length := by simp [mx]

def cntN (n : Int) (ll : List Lk) (s t : Int) : Int := if chk2 n ll s t = 0 then max 0 ((cnts ll n.toNat t.toNat)[s.toNat]?.getD 0) else 0

set_option maxRecDepth 100000 in
set_option maxHeartbeats 4000000 in
theorem ref_count_any (n : Int) (a : Option Addr) (m cap : Nat) (s0 t : Int) (ll : List Lk) (w : World) (h : Links w a m cap ll) :
    Calls Try.prog 19 #[.int .i64 n, .slice a m cap, .int .i64 s0, .int .i64 t] w fun e w' => e = .returned (.tuple #[.int .i64 (cntN n ll s0 t), .int .i64 (chk2 n ll s0 t)]) ∧ Below w.heap.size w w' := by
  have H := Lib.hid h.len
  obtain ⟨i0, hi, hz0, hz1, hz2⟩ := info_parts Try.infoInt
  by_cases h0 : chk2 n ll s0 t = 0
  · obtain ⟨k, u0, b, rfl, rfl, rfl, hu0, hb, hk, hm, hv⟩ := chk2_ok h0
    have F : Hid (Calls Try.prog 46 #[.int .i64 (k : Int), .slice a m cap, .int .i64 (u0 : Int), .int .i64 (b : Int)] w fun e w' => e = .returned (.int .i64 0) ∧ Below w.heap.size w w') := by
      have := ref_check2_any (k : Int) a m cap ll u0 b w h
      rw [h0] at this; exact this
    have HV : Hid (Valid k ll) := hv
    have hmm : m ≤ 65536 := by rw [h.len]; exact hm
    have E1 : Hid (cntN k ll u0 b = max 0 ((cnts ll k b)[u0]?.getD 0)) := by show cntN k ll u0 b = _; rw [cntN, if_pos h0]; rfl
    rw [h0]
    clear h0 hv
    go_enter Try.func19, Try.ntmps19
    go_wp2_with fail
    refine F.out.mono ?_
    rintro e w1 ⟨rfl, b1⟩
    have h1 := h.below b1
    have hsz1 := b1.size
    go_wp2_with (at_make; refine wpList_make_full _ rfl _ _ 26 rfl w1.heap.size 3 i0 (.int .i64 0) 1 Try.underlying26 hi hz0 hz1 .i64 .i64 k k k rfl rfl rfl rfl (by rw [hz2]; omega) (by unfold maxLen; omega) (Nat.le_refl _) ?_; intro w2 hrow hg; have ho2 : OwnI w2 w1.heap.size (some ⟨w1.heap.size, 0, none⟩) k k (List.replicate k 0) := OwnI.made hrow; have b2 : Below w1.heap.size w1 w2 := (Below.refl _ w1).grown hg (Nat.le_refl _) (by simp); have c1 := ho2.cell b hb; have f1 := ho2.free b)
    obtain ⟨W, hW⟩ : ∃ W, W = w2.setCell ⟨w1.heap.size, b, none⟩ (.int .i64 1) := ⟨_, rfl⟩
    have o1 : OwnI W w1.heap.size (some ⟨w1.heap.size, 0, none⟩) k k (mx (foldTo cntW ll k b 1 (b - b))) := by
      have := ho2.stored b 1
      rw [hW, Nat.sub_self]
      have e : mx (foldTo cntW ll k b 1 0) = (List.replicate k 0).set b 1 := by rw [foldTo, mx_set, mx, List.map_replicate, show max 0 (-1 : Int) = 0 from rfl, show max 0 (1 : Int) = 1 from rfl]
      rw [e]; exact this
    have bW : Below w1.heap.size w1 W := by rw [hW]; exact b2.setCell (Nat.le_refl _) _
    rw [← hW]
    clear hW c1 f1 ho2 hrow hg b2 w2 F
    go_loopw [12] (fun i wr => ∃ j : Nat, j ≤ b ∧ i = .int .i64 ((j : Int) - 1) ∧ OwnI wr w1.heap.size (some ⟨w1.heap.size, 0, none⟩) k k (mx (foldTo cntW ll k b 1 (b - j))) ∧ Below w1.heap.size w1 wr) (fun i _ => (intOf i + 1).toNat)
    case atStart => exact ⟨b, Nat.le_refl _, rfl, o1, bW⟩
    case round =>
      clear o1 bW W
      obtain ⟨j, hj, rfl, ho, hB⟩ := hrel
      by_cases hj0 : 0 < j
      · obtain ⟨s, rfl⟩ : ∃ s, j = s + 1 := ⟨j - 1, by omega⟩
        rw [show ((s + 1 : Nat) : Int) - 1 = (s : Int) by omega]
        obtain ⟨O, hO⟩ : ∃ O, O = foldTo cntW ll k b 1 (b - (s + 1)) := ⟨_, rfl⟩
        have hOl : O.length = k := by rw [hO]; exact foldTo_length _
        have hOs : O[s]?.getD 0 = -1 := by rw [hO]; exact (foldTo_ok HV.out hb (b - (s + 1)) (by omega)).2.2.1 s (by omega)
        have hOw : Hid (Within O 1073741824) := by rw [hO]; exact cnt_within hb _
        have hnext : Hid (foldTo cntW ll k b 1 (b - s) = O.set s (frowTo cntW ll O s ll.length)) := by
          show foldTo cntW ll k b 1 (b - s) = _
          rw [show b - s = (b - (s + 1)) + 1 by omega, foldTo, ← hO, show b - 1 - (b - (s + 1)) = s by omega]; rfl
        rw [← hO] at ho
        have HOL := Lib.hid hOl
        have hos : OwnI wr w1.heap.size (some ⟨w1.heap.size, 0, none⟩) k k ((mx O).set s (max 0 (frowTo cntW ll O s 0))) := by
          have e : (mx O).set s (max 0 (frowTo cntW ll O s 0)) = mx O := by
            rw [frowTo_zero, ← mx_set, show O.set s (-1) = O from by
              rw [List.getElem?_eq_getElem (by omega), Option.getD_some] at hOs
              rw [← hOs]; exact List.set_getElem_self (by omega)]
          rw [e]; exact ho
        clear hO hOl hOs ho
        go_wp2
        obtain ⟨wo, rfl⟩ : ∃ wo : World, wo = wr := ⟨_, rfl⟩
        go_loopw [13] (fun i wr => ∃ q : Nat, q ≤ m ∧ i = .int .i64 q ∧ OwnI wr w1.heap.size (some ⟨w1.heap.size, 0, none⟩) k k ((mx O).set s (max 0 (frowTo cntW ll O s q))) ∧ Below w1.heap.size w1 wr) (fun i _ => m - (intOf i).toNat)
        case atStart => exact ⟨0, Nat.zero_le _, rfl, hos, hB⟩
        case round =>
          clear hos hB wo
          obtain ⟨q, hq, rfl, ho, hB⟩ := hrel
          by_cases hqm : q < m
          · obtain ⟨f, tt0, c, hx, -, -, -, bb, off, rfl, hbl, k1, k2, k3⟩ := (h1.below hB).get hqm
            dsimp only at k1 k2 k3
            have hxl : lkAt ll q = (f, tt0, c) := by rw [lkAt, hx]; rfl
            obtain ⟨f', tt, e1, e2, e3, e4, e5, e6⟩ := HV.out q (by rw [← H.out]; exact hqm)
            rw [hxl] at e1 e2 e5 e6
            dsimp only at e1 e2 e5 e6
            subst e1 e2
            have HX := Lib.hid hxl
            clear hx hxl
            by_cases hf : f' = s
            · subst hf
              have d0 : ((f' : Int) == (f' : Int)) = true := by simp
              have u1 := ho.cell tt e4
              have u2 := ho.cell f' (by omega)
              have u3 := ho.free f'
              rw [List.getElem?_set_ne (by omega), mx_at] at u1
              rw [List.getElem?_set_self (by rw [mx_length, HOL.out]; omega), Option.getD_some] at u2
              have hw1 := hOw.out tt
              have hw2 := cnt_fold_le (ll := ll) (out := O) (idxTo ll f' q) (-1) (by omega) (by omega)
              change -1 ≤ frowTo cntW ll O f' q ∧ frowTo cntW ll O f' q ≤ 1073741824 at hw2
              have E : Hid (max 0 (frowTo cntW ll O f' (q + 1)) = min 1073741824 (max 0 (frowTo cntW ll O f' q) + max 0 (O[tt]?.getD 0))) := by
                show _ = _
                have hd : dst ll q = tt := by rw [dst, HX.out]; simp
                rw [frowTo_yes (by rw [HX.out]), fstep, hd]
                split
                · unfold cntW; omega
                · omega
              have hst : Hid (∀ x, ((mx O).set f' (max 0 (frowTo cntW ll O f' q))).set f' x = (mx O).set f' x) := fun x => List.set_set ..
              obtain ⟨v, hv⟩ : ∃ v, v = max 0 (frowTo cntW ll O f' q) := ⟨_, rfl⟩
              obtain ⟨nx, hnx⟩ : ∃ nx, nx = max 0 (O[tt]?.getD 0) := ⟨_, rfl⟩
              have v0 : 0 ≤ v ∧ v ≤ 1073741824 := by omega
              have nx0 : 0 ≤ nx ∧ nx ≤ 1073741824 := by omega
              rw [← hv] at u2 E hst ho
              rw [← hnx] at u1 E
              clear hv hnx hw1 hw2
              have sw : IntKind.i64.wrap (v + nx) = v + nx := IntWalk.i64_in _ (by omega)
              go_wp2
              refine wp_region_head_drew 17 (by kernel_rfl) (by kernel_rfl) ?_
              simp only [List.take_succ_cons, List.take_zero, List.drop_succ_cons, List.drop_zero]
              repeat (go_big_quiet_step (fail))
              refine wpQuiet_nil ?_
              intro _ hw'
              obtain ⟨nq, rfl⟩ := hw'
              go_wp2
              go_roundw
              case rel => exact ⟨q + 1, by omega, by go_num, by rw [E.out, ← hst.out, show min 1073741824 (v + nx) = if v + nx < 1073741824 then v + nx else 1073741824 from by split <;> omega]; exact (ho.drewN nq).stored f' _, (below_drewN hB nq).setCell (Nat.le_refl _) _⟩
              case measure => simp [intOf]; omega
            · have d0 : ((f' : Int) == (s : Int)) = false := by simp; omega
              have E : Hid (frowTo cntW ll O s (q + 1) = frowTo cntW ll O s q) := frowTo_no (by rw [HX.out]; simp; omega)
              go_wp2
              go_roundw
              case rel => exact ⟨q + 1, by omega, by go_num, by rw [E.out]; exact ho, hB⟩
              case measure => simp [intOf]; omega
          · obtain rfl : q = m := by omega
            go_wp2
            go_roundw
            case rel => exact ⟨s, by omega, by go_num, by rw [hnext.out, ← H.out, mx_set]; exact ho, hB⟩
            case measure => simp [intOf]
      · obtain rfl : j = 0 := by omega
        rw [show ((0 : Nat) : Int) - 1 = -1 from rfl]
        have u1 := ho.cell u0 hu0
        rw [mx_at] at u1
        have e2 : Hid (max 0 ((foldTo cntW ll k b 1 (b - 0))[u0]?.getD 0) = cntN k ll u0 b) := by rw [E1.out]; rfl
        generalize max 0 ((foldTo cntW ll k b 1 (b - 0))[u0]?.getD 0) = R at *
        go_wp2
        go_ret2
        exact ⟨by rw [← e2.out]; rfl, b1.trans (hB.mono hsz1)⟩
  · have F := Lib.hid (ref_check2_any n a m cap ll s0 t w h)
    have z : (chk2 n ll s0 t != 0) = true := by simpa using h0
    have E3 : Hid (cntN n ll s0 t = 0) := by show cntN n ll s0 t = 0; rw [cntN, if_neg h0]
    clear h0
    generalize chk2 n ll s0 t = C at *
    go_enter Try.func19, Try.ntmps19
    go_wp2_with (go_at_call 46; refine F.out.mono ?_; rintro e w1 ⟨rfl, b1⟩)
    go_ret2
    exact ⟨by rw [E3.out]; rfl, b1⟩
end Go.Proofs.Ytebmachppbpdmaa
