/- The reference's to: the least, or the greatest costs. -/
import Derived.Test.YtebmachppbpdmaaDPure1
import Derived.Test.YtebmachppbpdmaaDRChk
import Derived.Maps.AppendAt
import Derived.Laws.AppendOwnNone
namespace Go.Proofs.Ytebmachppbpdmaa
open Go.RowKit

def wthOf (gr : Bool) : Int → Int → Int → Int := if gr then longW else potW
theorem wthOf_tame (gr : Bool) : Tame (wthOf gr) := by
  cases gr
  · exact potW_tame
  · exact longW_tame
theorem OwnI.lit0 (w : World) (B : Nat) (hB : B ≤ w.heap.size) : OwnI (w.alloc (.cells #[] 3)) B (some ⟨w.heap.size, 0, none⟩) 0 0 [] :=
  ⟨rfl, World.ownsRow_lit w #[] 0 hB (by unfold maxLen; omega) rfl⟩
theorem set_self {l : List Int} {s : Nat} {v : Int} (h : l[s]?.getD 0 = v) (hs : s < l.length) : l.set s v = l := by
  rw [List.getElem?_eq_getElem hs, Option.getD_some] at h
  rw [← h]; exact List.set_getElem_self hs
theorem set_set_at (l : List Int) (s : Nat) (u v : Int) : (l.set s u).set s v = l.set s v := List.set_set ..

/-- One round of the inner loop: what becomes of the number at s. -/
theorem ref_step_no {gr : Bool} {ll : List Lk} {O : List Int} {s k : Nat} (h : (lkAt ll k).1 ≠ (s : Int)) : frowTo (wthOf gr) ll O s (k + 1) = frowTo (wthOf gr) ll O s k := frowTo_no h
theorem ref_step_neg {gr : Bool} {ll : List Lk} {O : List Int} {s k tt : Nat} (h : (lkAt ll k).1 = (s : Int)) (ht : (lkAt ll k).2.1 = (tt : Int)) (h0 : O[tt]?.getD 0 < 0) : frowTo (wthOf gr) ll O s (k + 1) = frowTo (wthOf gr) ll O s k := by
  rw [frowTo_yes h, fstep, if_neg]
  simp only [dst, ht, Int.toNat_natCast]; omega
theorem ref_step {gr : Bool} {ll : List Lk} {O : List Int} {s k tt : Nat} {c : Int} (h : (lkAt ll k).1 = (s : Int)) (ht : (lkAt ll k).2.1 = (tt : Int)) (hc : (lkAt ll k).2.2 = c) (h0 : 0 ≤ O[tt]?.getD 0) :
    frowTo (wthOf gr) ll O s (k + 1) = wthOf gr (frowTo (wthOf gr) ll O s k) c (O[tt]?.getD 0) := by
  rw [frowTo_yes h, fstep, if_pos]
  · simp only [dst, cst, ht, hc, Int.toNat_natCast]
  · simp only [dst, ht, Int.toNat_natCast]; exact h0

set_option maxRecDepth 100000 in
set_option maxHeartbeats 4000000 in
theorem ref_to_any (n : Nat) (a : Option Addr) (m cap t : Nat) (ll : List Lk) (gr : Bool) (w : World) (h : Links w a m cap ll) (hv : Valid n ll) (hn : n ≤ 4096) (hm : m ≤ 65536) (ht : t < n) :
    Calls Try.prog 47 #[.int .i64 n, .slice a m cap, .int .i64 t, .bool gr] w fun e w' => ∃ (a' : Option Addr) (c' : Nat), e = .returned (.slice a' n c') ∧ OwnI w' w.heap.size a' n c' (foldL (wthOf gr) ll n t 0) ∧ Below w.heap.size w w' := by
  have H := Lib.hid h.len
  obtain ⟨i0, hi, hz0, hz1, hz2⟩ := info_parts Try.infoInt
  have HV : Hid (Valid n ll) := hv
  go_enter Try.func47, Try.ntmps47
  go_wp2
  go_loopw [9, 10] (fun o i wr => ∃ (k : Nat) (a' : Option Addr) (cap' : Nat), k ≤ n ∧ i = .int .i64 k ∧ o = .slice a' k cap' ∧ OwnI wr w.heap.size a' k cap' (List.replicate k (-1)) ∧ Below w.heap.size w wr) (fun _ i _ => n - (intOf i).toNat)
  case atStart => exact ⟨0, some ⟨w.heap.size, 0, none⟩, 0, Nat.zero_le _, rfl, rfl, OwnI.lit0 _ _ (Nat.le_refl _), (Below.refl _ _).alloc (Nat.le_refl _) _⟩
  case round =>
    obtain ⟨k, a', cap', hk, rfl, rfl, ho, hB⟩ := hrel
    by_cases hlt : k < n
    · have hsz2 := hB.size
      have hlt2 := ho.2.lt
      have HLT := Lib.hid hlt2
      clear hlt2
      go_wp2_with (at_builtin; refine wpList_append_own _ rfl _ _ 26 rfl w.heap.size 3 i0 (.int .i64 0) 1 8 Try.underlying26 hi hz0 hz1 hz2 rfl (by decide) _ _ _ rfl (ho.2.alloc _) ⟨wr.heap.size, 0, none⟩ 1 1 [.int .i64 (-1)] rfl rfl (cell_one_new _ _ _) (by simp [Value.oneCell']) (by unfold maxLen; omega) (by omega) (by simp; omega) ?_; intro v' w3 hown' hgrow _; obtain ⟨a3, cap3, rfl, hO3⟩ := OwnI.appended (m := [(-1 : Int)]) hown' ho.len; have hb3 : Below w.heap.size w w3 := (hB.alloc hsz2 _).grown hgrow (by simp; omega) (fun j hj => (HLT.out j hj).1))
      go_roundw
      case rel => exact ⟨k + 1, a3, cap3, by omega, by go_num, rfl, by rw [List.replicate_succ']; exact hO3, hb3⟩
      case measure => simp [intOf]; omega
    · obtain rfl : k = n := by omega
      obtain ⟨g, rfl, hgB, hgs, -, -, -⟩ := ho.at_ (by omega)
      have c1 := ho.cell t ht
      have f1 := ho.free t
      go_wp2
      obtain ⟨W, hW⟩ : ∃ W, W = wr.setCell ⟨g, t, none⟩ (.int .i64 0) := ⟨_, rfl⟩
      have o1 : OwnI W w.heap.size (some ⟨g, 0, none⟩) k cap' (foldTo (wthOf gr) ll k t 0 (t - t)) := by rw [hW, Nat.sub_self]; exact ho.stored t 0
      have b1 : Below w.heap.size w W := by rw [hW]; exact hB.setCell hgB _
      rw [← hW]
      clear hW c1 f1 ho hB hgs wr
      go_loopw [11] (fun i wr => ∃ j : Nat, j ≤ t ∧ i = .int .i64 ((j : Int) - 1) ∧ OwnI wr w.heap.size (some ⟨g, 0, none⟩) k cap' (foldTo (wthOf gr) ll k t 0 (t - j)) ∧ Below w.heap.size w wr) (fun i _ => (intOf i + 1).toNat)
      case atStart => exact ⟨t, Nat.le_refl _, rfl, o1, b1⟩
      case round =>
        clear o1 b1 W
        obtain ⟨j, hj, rfl, ho, hB⟩ := hrel
        by_cases hj0 : 0 < j
        · obtain ⟨s, rfl⟩ : ∃ s, j = s + 1 := ⟨j - 1, by omega⟩
          rw [show ((s + 1 : Nat) : Int) - 1 = (s : Int) by omega]
          obtain ⟨O, hO⟩ : ∃ O, O = foldTo (wthOf gr) ll k t 0 (t - (s + 1)) := ⟨_, rfl⟩
          have hOl : O.length = k := by rw [hO]; exact foldTo_length _
          have hOs : O[s]?.getD 0 = -1 := by rw [hO]; exact (foldTo_ok HV.out ht (t - (s + 1)) (by omega)).2.2.1 s (by omega)
          have hOw : Hid (Within O 4398046511105) := fun x => by
            rw [hO]
            have := foldTo_within (wthOf_tame gr) HV.out ht (first := 0) ⟨by omega, by omega⟩ (t - (s + 1)) (by omega) x
            omega
          have hnext : Hid (foldTo (wthOf gr) ll k t 0 (t - s) = O.set s (frowTo (wthOf gr) ll O s ll.length)) := by
            show foldTo (wthOf gr) ll k t 0 (t - s) = _
            rw [show t - s = (t - (s + 1)) + 1 by omega, foldTo, ← hO, show t - 1 - (t - (s + 1)) = s by omega]; rfl
          rw [← hO] at ho
          have HOL := Lib.hid hOl
          have hos : OwnI wr w.heap.size (some ⟨g, 0, none⟩) k cap' (O.set s (frowTo (wthOf gr) ll O s 0)) := by rw [frowTo_zero, set_self hOs (by omega)]; exact ho
          clear hO hOl hOs ho
          go_wp2
          obtain ⟨wo, rfl⟩ : ∃ wo : World, wo = wr := ⟨_, rfl⟩
          go_loopw [12] (fun i wr => ∃ q : Nat, q ≤ m ∧ i = .int .i64 q ∧ OwnI wr w.heap.size (some ⟨g, 0, none⟩) k cap' (O.set s (frowTo (wthOf gr) ll O s q)) ∧ Below w.heap.size w wr) (fun i _ => m - (intOf i).toNat)
          case atStart => exact ⟨0, Nat.zero_le _, rfl, hos, hB⟩
          case round =>
            clear hos hB wo
            obtain ⟨q, hq, rfl, ho, hB⟩ := hrel
            by_cases hqm : q < m
            · obtain ⟨f, tt0, c, hx, -, -, -, b, off, rfl, hbl, k1, k2, k3⟩ := (h.below hB).get hqm
              dsimp only at k1 k2 k3
              have hxl : lkAt ll q = (f, tt0, c) := by rw [lkAt, hx]; rfl
              obtain ⟨f', tt, e1, e2, e3, e4, e5, e6⟩ := HV.out q (by rw [← H.out]; exact hqm)
              rw [hxl] at e1 e2 e5 e6
              dsimp only at e1 e2 e5 e6
              subst e1 e2
              have HX := Lib.hid hxl
              clear hx hxl
              obtain ⟨g', eg, -, hgs, -, -, -⟩ := ho.at_ (by omega)
              cases eg
              have hB' := hB.alloc hB.size (.cells #[.int .i64 (f' : Int), .int .i64 (tt : Int), .int .i64 c] 36)
              have ho' := ho.alloc (.cells #[.int .i64 (f' : Int), .int .i64 (tt : Int), .int .i64 c] 36)
              by_cases hf : f' = s
              · subst hf
                have d0 : ((f' : Int) != (f' : Int)) = false := by simp
                have u1 := ho'.cell tt e4
                have u2 := ho'.cell f' (by omega)
                have u3 := ho'.free f'
                rw [List.getElem?_set_ne (by omega)] at u1
                rw [List.getElem?_set_self (by rw [HOL.out]; omega), Option.getD_some] at u2
                have hw1 := hOw.out tt
                have hrow := frow_within (wthOf_tame gr) HV.out (by omega) hOw.out (idxTo ll f' q) (fun i hi => by have := (mem_idxTo.1 hi).1; rw [← H.out]; omega) (-1) ⟨by omega, by omega⟩
                have HF : Hid ((lkAt ll q).1 = (f' : Int)) := by show (lkAt ll q).1 = _; rw [HX.out]
                have HT : Hid ((lkAt ll q).2.1 = (tt : Int)) := by show (lkAt ll q).2.1 = _; rw [HX.out]
                have HC : Hid ((lkAt ll q).2.2 = c) := by show (lkAt ll q).2.2 = _; rw [HX.out]
                change -1 ≤ frowTo (wthOf gr) ll O f' q ∧ frowTo (wthOf gr) ll O f' q ≤ _ at hrow
                by_cases hneg : O[tt]?.getD 0 < 0
                · have E : Hid (frowTo (wthOf gr) ll O f' (q + 1) = frowTo (wthOf gr) ll O f' q) := ref_step_neg HF.out HT.out hneg
                  go_wp2
                  go_roundw
                  case rel => exact ⟨q + 1, by omega, by go_num, by rw [E.out]; exact ho', hB'⟩
                  case measure => simp [intOf]; omega
                · have hneg0 : 0 ≤ O[tt]?.getD 0 := by omega
                  have E : Hid (frowTo (wthOf gr) ll O f' (q + 1) = wthOf gr (frowTo (wthOf gr) ll O f' q) c (O[tt]?.getD 0)) := ref_step HF.out HT.out HC.out hneg0
                  have hst : Hid (∀ x, (O.set f' (frowTo (wthOf gr) ll O f' q)).set f' x = O.set f' x) := fun x => set_set_at _ _ _ _
                  generalize frowTo (wthOf gr) ll O f' q = v at *
                  generalize O[tt]?.getD 0 = nx at *
                  clear hneg
                  have sw : IntKind.i64.wrap (c + nx) = c + nx := IntWalk.i64_in _ (by omega)
                  cases gr with
                  | false =>
                    have E2 : Hid (wthOf false v c nx = if v < 0 then c + nx else if c + nx < v then c + nx else v) := by
                      show wthOf false v c nx = _
                      simp only [wthOf, potW, Bool.false_eq_true, if_false]
                      split
                      · rfl
                      · split <;> omega
                    rcases (show v < 0 ∨ (0 ≤ v ∧ c + nx < v) ∨ (0 ≤ v ∧ v ≤ c + nx) by omega) with g1 | ⟨g1, g2⟩ | ⟨g1, g2⟩
                    · have E3 : Hid (frowTo (wthOf false) ll O f' (q + 1) = c + nx) := by show _ = _; rw [E.out, E2.out, if_pos g1]
                      go_wp2
                      go_quiet (fail)
                      go_wp2
                      go_roundw
                      case rel => exact ⟨q + 1, by omega, by go_num, by rw [E3.out, ← hst.out (c + nx)]; exact (ho'.drewN nq).stored f' (c + nx), (below_drewN hB' nq).setCell hgB _⟩
                      case measure => simp [intOf]; omega
                    · have E3 : Hid (frowTo (wthOf false) ll O f' (q + 1) = c + nx) := by show _ = _; rw [E.out, E2.out, if_neg (by omega), if_pos g2]
                      go_wp2
                      go_quiet (fail)
                      go_wp2
                      go_roundw
                      case rel => exact ⟨q + 1, by omega, by go_num, by rw [E3.out, ← hst.out (c + nx)]; exact (ho'.drewN nq).stored f' (c + nx), (below_drewN hB' nq).setCell hgB _⟩
                      case measure => simp [intOf]; omega
                    · have E3 : Hid (frowTo (wthOf false) ll O f' (q + 1) = v) := by show _ = _; rw [E.out, E2.out, if_neg (by omega), if_neg (by omega)]
                      go_wp2
                      go_quiet (fail)
                      go_wp2
                      go_roundw
                      case rel => exact ⟨q + 1, by omega, by go_num, by rw [E3.out]; exact ho'.drewN nq, below_drewN hB' nq⟩
                      case measure => simp [intOf]; omega
                  | true =>
                    have E2 : Hid (wthOf true v c nx = if v < 0 then c + nx else if v < c + nx then c + nx else v) := by
                      show wthOf true v c nx = _
                      simp only [wthOf, longW, if_true]
                      split
                      · omega
                      · split <;> omega
                    rcases (show v < 0 ∨ (0 ≤ v ∧ v < c + nx) ∨ (0 ≤ v ∧ c + nx ≤ v) by omega) with g1 | ⟨g1, g2⟩ | ⟨g1, g2⟩
                    · have E3 : Hid (frowTo (wthOf true) ll O f' (q + 1) = c + nx) := by show _ = _; rw [E.out, E2.out, if_pos g1]
                      go_wp2
                      go_quiet (fail)
                      go_wp2
                      go_roundw
                      case rel => exact ⟨q + 1, by omega, by go_num, by rw [E3.out, ← hst.out (c + nx)]; exact (ho'.drewN nq).stored f' (c + nx), (below_drewN hB' nq).setCell hgB _⟩
                      case measure => simp [intOf]; omega
                    · have E3 : Hid (frowTo (wthOf true) ll O f' (q + 1) = c + nx) := by show _ = _; rw [E.out, E2.out, if_neg (by omega), if_pos g2]
                      go_wp2
                      go_quiet (fail)
                      go_wp2
                      go_roundw
                      case rel => exact ⟨q + 1, by omega, by go_num, by rw [E3.out, ← hst.out (c + nx)]; exact (ho'.drewN nq).stored f' (c + nx), (below_drewN hB' nq).setCell hgB _⟩
                      case measure => simp [intOf]; omega
                    · have E3 : Hid (frowTo (wthOf true) ll O f' (q + 1) = v) := by show _ = _; rw [E.out, E2.out, if_neg (by omega), if_neg (by omega)]
                      go_wp2
                      go_quiet (fail)
                      go_wp2
                      go_roundw
                      case rel => exact ⟨q + 1, by omega, by go_num, by rw [E3.out]; exact ho'.drewN nq, below_drewN hB' nq⟩
                      case measure => simp [intOf]; omega
              · have d0 : ((f' : Int) != (s : Int)) = true := by simp; omega
                have E : Hid (frowTo (wthOf gr) ll O s (q + 1) = frowTo (wthOf gr) ll O s q) := ref_step_no (by rw [HX.out]; simp; omega)
                go_wp2
                go_roundw
                case rel => exact ⟨q + 1, by omega, by go_num, by rw [E.out]; exact ho', hB'⟩
                case measure => simp [intOf]; omega
            · obtain rfl : q = m := by omega
              go_wp2
              go_roundw
              case rel => exact ⟨s, by omega, by go_num, by rw [hnext.out, ← H.out]; exact ho, hB⟩
              case measure => simp [intOf]
        · obtain rfl : j = 0 := by omega
          rw [show ((0 : Nat) : Int) - 1 = -1 from rfl]
          go_wp2
          go_ret
          exact ⟨some ⟨g, 0, none⟩, cap', rfl, ho, hB⟩
end Go.Proofs.Ytebmachppbpdmaa
