/- The reference's Reach. -/
import Derived.Test.YtebmachppbpdmaaDPure3
import Derived.Test.YtebmachppbpdmaaDRSh
import Derived.Test.YtebmachppbpdmaaOwnB
import Derived.Test.YtebmachppbpdmaaApp
namespace Go.Proofs.Ytebmachppbpdmaa
open Go.RowKit

def reL (n : Int) (ll : List Lk) (s : Int) : List Int := if chk2 n ll s s = 0 then reachL ll n.toNat s.toNat else []

set_option maxRecDepth 100000 in
set_option maxHeartbeats 4000000 in
theorem ref_reach_any (n : Int) (a : Option Addr) (m cap : Nat) (s0 : Int) (ll : List Lk) (w : World) (h : Links w a m cap ll) :
    Calls Try.prog 22 #[.int .i64 n, .slice a m cap, .int .i64 s0] w fun e w' => ∃ (a' : Option Addr) (q c' : Nat), e = .returned (.tuple #[.slice a' q c', .int .i64 (chk2 n ll s0 s0)]) ∧ Ints w' a' q c' (reL n ll s0) ∧ Below w.heap.size w w' := by
  have H := Lib.hid h.len
  obtain ⟨i0, hi, hz0, hz1, hz2⟩ := info_parts Try.infoBool
  by_cases h0 : chk2 n ll s0 s0 = 0
  · obtain ⟨k, s, s', rfl, rfl, -, hs, -, hk, hm, hv⟩ := chk2_ok h0
    have F : Hid (Calls Try.prog 46 #[.int .i64 (k : Int), .slice a m cap, .int .i64 (s : Int), .int .i64 (s : Int)] w fun e w' => e = .returned (.int .i64 0) ∧ Below w.heap.size w w') := by
      have := ref_check2_any (k : Int) a m cap ll s s w h
      rw [h0] at this; exact this
    have HV : Hid (Valid k ll) := hv
    have hmm : m ≤ 65536 := by rw [h.len]; exact hm
    have E1 : Hid (reL k ll s = reachL ll k s) := by show reL k ll s = _; rw [reL, if_pos h0]; rfl
    rw [h0]
    clear h0 hv
    go_enter Try.func22, Try.ntmps22
    go_wp2_with fail
    refine F.out.mono ?_
    rintro e w1 ⟨rfl, b1⟩
    have h1 := h.below b1
    have hsz1 := b1.size
    go_wp2_with (at_make; refine wpList_make_full _ rfl _ _ 65 rfl w1.heap.size 4 i0 (.bool false) 1 Try.underlying65 hi hz0 hz1 .i64 .i64 k k k rfl rfl rfl rfl (by rw [hz2]; omega) (by unfold maxLen; omega) (Nat.le_refl _) ?_; intro w2 hrow hg; have ho2 : OwnB w2 w1.heap.size k (List.replicate k false) := OwnB.made hrow; have b2 : Below w1.heap.size w1 w2 := (Below.refl _ w1).grown hg (Nat.le_refl _) (by simp); have c1 := ho2.cell s hs; have f1 := ho2.free s)
    obtain ⟨W, hW⟩ : ∃ W, W = w2.setCell ⟨w1.heap.size, s, none⟩ (.bool true) := ⟨_, rfl⟩
    have o1 : OwnB W w1.heap.size k (reachB ll k s 0) := by rw [hW, reachB]; exact ho2.stored s true
    have bW : Below w1.heap.size w1 W := by rw [hW]; exact b2.setCell (Nat.le_refl _) _
    rw [← hW]
    clear hW c1 f1 ho2 hrow hg b2 w2 F
    go_loopw [10] (fun i wr => ∃ j : Nat, s + j ≤ k ∧ i = .int .i64 ((s + j : Nat) : Int) ∧ OwnB wr w1.heap.size k (reachB ll k s j) ∧ Below w1.heap.size w1 wr) (fun i _ => k - (intOf i).toNat)
    case atStart => exact ⟨0, by omega, rfl, o1, bW⟩
    case round =>
      clear o1 bW W
      obtain ⟨j, hj, rfl, ho, hB⟩ := hrel
      obtain ⟨u, hu⟩ : ∃ u, u = s + j := ⟨_, rfl⟩
      rw [← hu] at hj ⊢
      have HU := Lib.hid hu
      clear hu
      by_cases huk : u < k
      · obtain ⟨bs, hbs⟩ : ∃ bs, bs = reachB ll k s j := ⟨_, rfl⟩
        have hbl : Hid (bs.length = k) := by show bs.length = k; rw [hbs]; exact reachB_length _
        have hnext : Hid (reachB ll k s (j + 1) = rnext ll bs u) := by show reachB ll k s (j + 1) = _; rw [reachB, ← hbs, ← HU.out]
        rw [← hbs] at ho
        clear hbs
        have hu0 := ho.cell u huk
        cases hbu : bs[u]?.getD false with
        | false =>
          rw [hbu] at hu0
          have hn2 : Hid (rnext ll bs u = bs) := by show rnext ll bs u = bs; rw [rnext, hbu]; rfl
          clear hbu
          go_wp2
          obtain ⟨wo, rfl⟩ : ∃ wo : World, wo = wr := ⟨_, rfl⟩
          go_loopw [11] (fun i wr => ∃ q : Nat, q ≤ m ∧ i = .int .i64 q ∧ wr = wo) (fun i _ => m - (intOf i).toNat)
          case atStart => exact ⟨0, Nat.zero_le _, rfl, rfl⟩
          case round =>
            obtain ⟨q, hq, rfl, rfl⟩ := hrel
            by_cases hqm : q < m
            · obtain ⟨f, tt0, c, hx, -, -, -, bb, off, rfl, hbl2, k1, k2, k3⟩ := (h1.below hB).get hqm
              dsimp only at k1 k2 k3
              clear hx
              by_cases hf : f = (u : Int)
              · subst hf
                have d0 : ((u : Int) == (u : Int)) = true := by simp
                go_wp2
                go_roundw
                case rel => exact ⟨q + 1, by omega, by go_num, trivial⟩
                case measure => simp [intOf]; omega
              · have d0 : (f == (u : Int)) = false := by simpa using hf
                go_wp2
                go_roundw
                case rel => exact ⟨q + 1, by omega, by go_num, trivial⟩
                case measure => simp [intOf]; omega
            · go_wp2
              go_roundw
              case rel => exact ⟨j + 1, by have := HU.out; omega, by have := HU.out; go_num, by rw [hnext.out, hn2.out]; exact ho, hB⟩
              case measure => simp [intOf]; omega
        | true =>
          have hn2 : Hid (rnext ll bs u = mark ll bs u ll.length) := by show rnext ll bs u = _; rw [rnext, hbu]; rfl
          have HBU := Lib.hid hbu
          clear hbu hu0
          go_wp2
          obtain ⟨wo, rfl⟩ : ∃ wo : World, wo = wr := ⟨_, rfl⟩
          go_loopw [11] (fun i wr => ∃ q : Nat, q ≤ m ∧ i = .int .i64 q ∧ OwnB wr w1.heap.size k (mark ll bs u q) ∧ Below w1.heap.size w1 wr) (fun i _ => m - (intOf i).toNat)
          case atStart => exact ⟨0, Nat.zero_le _, rfl, ho, hB⟩
          case round =>
            clear ho hB wo
            obtain ⟨q, hq, rfl, ho, hB⟩ := hrel
            by_cases hqm : q < m
            · obtain ⟨f, tt0, c, hx, -, -, -, bb, off, rfl, hbl2, k1, k2, k3⟩ := (h1.below hB).get hqm
              dsimp only at k1 k2 k3
              have hxl : lkAt ll q = (f, tt0, c) := by rw [lkAt, hx]; rfl
              obtain ⟨f', tt, e1, e2, e3, e4, e5, e6⟩ := HV.out q (by rw [← H.out]; exact hqm)
              rw [hxl] at e1 e2 e5 e6
              dsimp only at e1 e2 e5 e6
              subst e1 e2
              have HX := Lib.hid hxl
              clear hx hxl
              have v1 := ho.cell u huk
              rw [mark_below HV.out (Nat.le_refl _) q (by rw [← H.out]; omega), HBU.out] at v1
              have v2 := ho.cell tt e4
              have v3 := ho.free tt
              by_cases hf : f' = u
              · subst hf
                have d0 : ((f' : Int) == (f' : Int)) = true := by simp
                have E : Hid (mark ll bs f' (q + 1) = (mark ll bs f' q).set tt true) := by
                  show _ = _
                  rw [mark_yes (by rw [HX.out]), dst, HX.out]; simp
                go_wp2
                go_roundw
                case rel => exact ⟨q + 1, by omega, by go_num, by rw [E.out]; exact ho.stored tt true, hB.setCell (Nat.le_refl _) _⟩
                case measure => simp [intOf]; omega
              · have d0 : ((f' : Int) == (u : Int)) = false := by simp; omega
                have E : Hid (mark ll bs u (q + 1) = mark ll bs u q) := mark_no (by rw [HX.out]; simp; omega)
                go_wp2
                go_roundw
                case rel => exact ⟨q + 1, by omega, by go_num, by rw [E.out]; exact ho, hB⟩
                case measure => simp [intOf]; omega
            · obtain rfl : q = m := by omega
              go_wp2
              go_roundw
              case rel => exact ⟨j + 1, by have := HU.out; omega, by have := HU.out; go_num, by rw [hnext.out, hn2.out, ← H.out]; exact ho, hB⟩
              case measure => simp [intOf]; omega
      · obtain rfl : u = k := by omega
        have hF : Hid (reachB ll u s j = reachF ll u s) := by
          show reachB ll u s j = reachF ll u s
          rw [reachF]; congr 1; have := HU.out; omega
        rw [hF.out] at ho
        have hsB := hB.size
        have hE2 : Hid (reL u ll s = marked (reachF ll u s) u) := E1.out
        generalize reachF ll u s = bs at *
        go_wp2
        obtain ⟨wo, rfl⟩ : ∃ wo : World, wo = wr := ⟨_, rfl⟩
        go_loopw [12, 13] (fun o i wr => ∃ (q z : Nat) (a' : Option Addr) (c' : Nat), q ≤ u ∧ z ≤ q ∧ i = .int .i64 q ∧ o = .slice a' z c' ∧ OwnI wr wo.heap.size a' z c' (marked bs q) ∧ Below wo.heap.size wo wr) (fun _ i _ => u - (intOf i).toNat)
        case atStart => exact ⟨0, 0, _, 0, Nat.zero_le _, Nat.le_refl _, rfl, rfl, OwnI.lit0 _ _ (Nat.le_refl _), (Below.refl _ _).alloc (Nat.le_refl _) _⟩
        case round =>
          obtain ⟨q, z, a', c', hq, hz, rfl, rfl, hoi, hBi⟩ := hrel
          have hsi := hBi.size
          by_cases hqu : q < u
          · have v0 := ho.cell q hqu
            have v1 := cell_later hBi v0
            cases hbq : bs[q]?.getD false with
            | true =>
              rw [hbq] at v1
              have E : Hid (marked bs (q + 1) = marked bs q ++ [(q : Int)]) := marked_yes hbq
              have hy : (wr.alloc (.cells #[.int .i64 (q : Int)] 3)).cell? ⟨wr.heap.size, 0, none⟩ = some (.int .i64 (q : Int)) := cell_lit1 _ _ _ rfl
              have hB2 := hBi.alloc hsi (.cells #[.int .i64 (q : Int)] 3)
              have ho2 := hoi.alloc (.cells #[.int .i64 (q : Int)] 3)
              clear hbq
              go_wp2_with (at_builtin; refine wpList_appI rfl _ _ rfl rfl rfl ho2 hy (by omega) (by simp; omega) hB2 ?_; intro a3 c3 w3 o3 b3' hg3 hk3)
              go_roundw
              case rel => exact ⟨q + 1, z + 1, a3, c3, by omega, by omega, by go_num, rfl, by rw [E.out]; exact o3, b3'⟩
              case measure => simp [intOf]; omega
            | false =>
              rw [hbq] at v1
              have E : Hid (marked bs (q + 1) = marked bs q) := marked_no hbq
              clear hbq
              go_wp2
              go_roundw
              case rel => exact ⟨q + 1, z, a', c', by omega, by omega, by go_num, rfl, by rw [E.out]; exact hoi, hBi⟩
              case measure => simp [intOf]; omega
          · obtain rfl : q = u := by omega
            have hpI : Ints wr a' z c' (marked bs q) := hoi.ints (by omega) (fun x hx => by
              obtain ⟨j, hj, rfl, _⟩ := marked_mem.1 hx
              exact I64.small (by omega) (by omega))
            go_wp2
            go_ret2
            exact ⟨a', z, c', rfl, by rw [hE2.out]; exact hpI, b1.trans ((hB.trans (hBi.mono hsB)).mono hsz1)⟩
  · have F := Lib.hid (ref_check2_any n a m cap ll s0 s0 w h)
    have z : (chk2 n ll s0 s0 != 0) = true := by simpa using h0
    have E3 : Hid (reL n ll s0 = []) := by show reL n ll s0 = []; rw [reL, if_neg h0]
    clear h0
    generalize chk2 n ll s0 s0 = C at *
    go_enter Try.func22, Try.ntmps22
    go_wp2_with (go_at_call 46; refine F.out.mono ?_; rintro e w1 ⟨rfl, b1⟩)
    go_ret2
    exact ⟨_, 0, 0, rfl, by rw [E3.out]; exact ((OwnI.lit0 _ _ (Nat.le_refl _)).ints (by omega) (by simp)), b1.alloc b1.size _⟩
end Go.Proofs.Ytebmachppbpdmaa
