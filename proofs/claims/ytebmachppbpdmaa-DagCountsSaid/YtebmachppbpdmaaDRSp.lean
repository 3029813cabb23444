/- The reference's Shortest. -/
import Derived.Test.YtebmachppbpdmaaDRSh
import Derived.Test.YtebmachppbpdmaaApp
namespace Go.Proofs.Ytebmachppbpdmaa
open Go.RowKit

def shCost (n : Int) (ll : List Lk) (s t : Int) : Int := if chk2 n ll s t = 0 then max 0 ((pots ll n.toNat t.toNat)[s.toNat]?.getD 0) else 0
def shErr (n : Int) (ll : List Lk) (s t : Int) : Int := if chk2 n ll s t = 0 then (if (pots ll n.toNat t.toNat)[s.toNat]?.getD 0 < 0 then 6 else 0) else chk2 n ll s t
/-- The path that is returned. -/
def ShPath (n : Int) (ll : List Lk) (s t : Int) (r : List Int) : Prop :=
  if chk2 n ll s t = 0 ∧ 0 ≤ (pots ll n.toNat t.toNat)[s.toNat]?.getD 0 then GPath ll (pots ll n.toNat t.toNat) t.toNat s.toNat r else r = []
theorem ShPath.unique {n : Int} {ll : List Lk} {s t : Int} {r r' : List Int} (h : ShPath n ll s t r) (k : ShPath n ll s t r') : r = r' := by
  unfold ShPath at h k
  split at h
  · rename_i hc; rw [if_pos hc] at k; exact h.unique k
  · rename_i hc; rw [if_neg hc] at k; rw [h, k]
theorem pots_ok {n : Nat} {ll : List Lk} (hv : Valid n ll) {t : Nat} (ht : t < n) : FoldOk potW ll n t 0 (pots ll n t) := foldL_ok hv ht
theorem pots_within {n : Nat} {ll : List Lk} (hv : Valid n ll) (hn : n ≤ 4096) {t : Nat} (ht : t < n) : Within (pots ll n t) 4398046511105 := fold_small potW_tame hv hn ht ⟨by omega, by omega⟩
theorem fit_cases {ll : List Lk} {p : List Int} {u j tt : Nat} {f c : Int} (h : lkAt ll j = (f, (tt : Int), c)) : (Fit ll p u j ↔ f = (u : Int) ∧ 0 ≤ p[tt]?.getD 0 ∧ c + p[tt]?.getD 0 = p[u]?.getD 0) := by
  unfold Fit dst cst; rw [h]; simp

set_option maxRecDepth 100000 in
set_option maxHeartbeats 4000000 in
theorem ref_shortest_any (n : Int) (a : Option Addr) (m cap : Nat) (s t : Int) (ll : List Lk) (w : World) (h : Links w a m cap ll) :
    Calls Try.prog 24 #[.int .i64 n, .slice a m cap, .int .i64 s, .int .i64 t] w fun e w' => ∃ (a' : Option Addr) (q c' : Nat) (r : List Int),
      e = .returned (.tuple #[.slice a' q c', .int .i64 (shCost n ll s t), .int .i64 (shErr n ll s t)]) ∧ Ints w' a' q c' r ∧ ShPath n ll s t r ∧ Below w.heap.size w w' := by
  have H := Lib.hid h.len
  obtain ⟨i0, hi, hz0, hz1, hz2⟩ := info_parts Try.infoInt
  by_cases h0 : chk2 n ll s t = 0
  · obtain ⟨k, u0, b, rfl, rfl, rfl, hu0, hb, hk, hm, hv⟩ := chk2_ok h0
    have F : Hid (Calls Try.prog 46 #[.int .i64 (k : Int), .slice a m cap, .int .i64 (u0 : Int), .int .i64 (b : Int)] w fun e w' => e = .returned (.int .i64 0) ∧ Below w.heap.size w w') := by
      have := ref_check2_any (k : Int) a m cap ll u0 b w h
      rw [h0] at this; exact this
    have HV : Hid (Valid k ll) := hv
    have hmm : m ≤ 65536 := by rw [h.len]; exact hm
    have E1 : Hid (shCost k ll u0 b = max 0 ((pots ll k b)[u0]?.getD 0)) := by show shCost k ll u0 b = _; rw [shCost, if_pos h0]; rfl
    have E2 : Hid (shErr k ll u0 b = if (pots ll k b)[u0]?.getD 0 < 0 then 6 else 0) := by show shErr k ll u0 b = _; rw [shErr, if_pos h0]; rfl
    have E3 : Hid (∀ r, ShPath k ll u0 b r ↔ if 0 ≤ (pots ll k b)[u0]?.getD 0 then GPath ll (pots ll k b) b u0 r else r = []) := fun r => by
      unfold ShPath
      rw [h0]
      simp
    have HP : Hid (FoldOk potW ll k b 0 (pots ll k b)) := pots_ok hv hb
    have HW : Hid (Within (pots ll k b) 4398046511105) := pots_within hv hk hb
    clear h0 hv
    go_enter Try.func24, Try.ntmps24
    go_wp2_with fail
    refine F.out.mono ?_
    rintro e w1 ⟨rfl, b1⟩
    go_wp2_with fail
    refine (ref_to_any k a m cap b ll false w1 (h.below b1) HV.out hk hmm hb).mono ?_
    rintro e w2 ⟨a2, c2, rfl, o2, b2⟩
    have b3 := b1.trans (b2.mono b1.size)
    have h2 := h.below b3
    have hsz2 := b3.size
    change OwnI w2 _ a2 k c2 (pots ll k b) at o2
    generalize pots ll k b = p at *
    obtain ⟨g, rfl, -, hgs, -, -, hc⟩ := o2.at_ (by omega)
    have c1 := hc.out u0 hu0
    clear b1 b2 F
    by_cases hL : p[u0]?.getD 0 < 0
    · have E4 : Hid (shCost k ll u0 b = 0 ∧ shErr k ll u0 b = 6 ∧ ShPath k ll u0 b []) := ⟨by rw [E1.out]; omega, by rw [E2.out, if_pos hL], by rw [E3.out, if_neg (by omega)]⟩
      go_wp2
      go_ret3
      exact ⟨_, 0, 0, [], by rw [E4.out.1, E4.out.2.1]; rfl, ((OwnI.lit0 _ _ (Nat.le_refl _)).ints (by omega) (by simp)), E4.out.2.2, b3.alloc hsz2 _⟩
    · have E4 : Hid (shCost k ll u0 b = p[u0]?.getD 0 ∧ shErr k ll u0 b = 0 ∧ ∀ r, GPath ll p b u0 r → ShPath k ll u0 b r) := ⟨by rw [E1.out]; omega, by rw [E2.out, if_neg hL], fun r hr => by rw [E3.out, if_pos (by omega)]; exact hr⟩
      have hp0 : Hid (0 ≤ p[u0]?.getD 0) := by show 0 ≤ _; omega
      clear E1 E2 E3
      go_wp2
      go_loopw [2, 13] (fun sv o wr => ∃ (u z : Nat) (a' : Option Addr) (c' : Nat) (pre : List Int), sv = .int .i64 u ∧ o = .slice a' z c' ∧ u < k ∧ z ≤ u ∧ Hid (0 ≤ p[u]?.getD 0) ∧ OwnI wr w2.heap.size a' z c' pre ∧ Hid (∀ rest, GPath ll p b u rest → GPath ll p b u0 (pre ++ rest)) ∧ Below w2.heap.size w2 wr) (fun sv _ _ => k - (intOf sv).toNat)
      case atStart => exact ⟨u0, 0, _, 0, [], rfl, rfl, hu0, Nat.zero_le _, hp0.out, OwnI.lit0 _ _ (Nat.le_refl _), fun rest hr => hr, (Below.refl _ _).alloc (Nat.le_refl _) _⟩
      case round =>
        obtain ⟨u, z, a', c', pre, rfl, rfl, huk, hzu, hpu, ho, hpre, hB⟩ := hrel
        have hI := h2.below hB
        by_cases hub : u = b
        · subst hub
          have d0 : ((u : Int) != (u : Int)) = false := by simp
          have hG : Hid (GPath ll p u u0 pre) := by have := hpre.out [] rfl; rw [List.append_nil] at this; exact this
          have hpI : Ints wr a' z c' pre := ho.ints (by omega) (fun x hx => by have := hG.out.i64 x hx; exact I64.small (by omega) (by omega))
          go_wp2
          go_ret3
          exact ⟨a', z, c', pre, by rw [E4.out.1, E4.out.2.1]; rfl, hpI, E4.out.2.2 _ hG.out, b3.trans (hB.mono hsz2)⟩
        · have d0 : ((u : Int) != (b : Int)) = true := by simp; omega
          obtain ⟨hlt, fi, hfi⟩ := pot_fit HV.out HP.out huk hub hpu.out
          have HFI := Lib.hid hfi
          have hfm : fi < m := by rw [H.out]; exact hfi.1
          clear hfi hub
          go_wp2
          obtain ⟨wo, rfl⟩ : ∃ wo : World, wo = wr := ⟨_, rfl⟩
          go_loopw [2, 13, 15] (fun sv o i wr => ∃ q : Nat, q ≤ fi ∧ i = .int .i64 q ∧ sv = .int .i64 u ∧ o = .slice a' z c' ∧ OwnI wr w2.heap.size a' z c' pre ∧ Below w2.heap.size w2 wr) (fun _ _ i _ => m - (intOf i).toNat)
          case atStart => exact ⟨0, Nat.zero_le _, rfl, rfl, rfl, ho, hB⟩
          case round =>
            clear ho hB hI wo
            obtain ⟨q, hq, rfl, rfl, rfl, ho, hB⟩ := hrel
            have hqm : q < m := by omega
            obtain ⟨f, tt0, c, hx, -, -, -, bb, off, rfl, hbl, k1, k2, k3⟩ := (h2.below hB).get hqm
            dsimp only at k1 k2 k3
            have hxl : lkAt ll q = (f, tt0, c) := by rw [lkAt, hx]; rfl
            obtain ⟨f', tt, e1, e2, e3, e4, e5, e6⟩ := HV.out q (by rw [← H.out]; exact hqm)
            rw [hxl] at e1 e2 e5 e6
            dsimp only at e1 e2 e5 e6
            subst e1 e2
            have HX := Lib.hid hxl
            clear hx hxl
            have hsB := hB.size
            have hB' := hB.alloc hsB (.cells #[.int .i64 (f' : Int), .int .i64 (tt : Int), .int .i64 c] 36)
            have ho' := ho.alloc (.cells #[.int .i64 (f' : Int), .int .i64 (tt : Int), .int .i64 c] 36)
            have u1 := cell_later hB' (hc.out tt e4)
            have u2 := cell_later hB' (hc.out u huk)
            have hw1 := HW.out tt
            have hw2 := HW.out u
            have sw : IntKind.i64.wrap (c + p[tt]?.getD 0) = c + p[tt]?.getD 0 := IntWalk.i64_in _ (by omega)
            have HFC : Hid (Fit ll p u q ↔ (f' : Int) = (u : Int) ∧ 0 ≤ p[tt]?.getD 0 ∧ c + p[tt]?.getD 0 = p[u]?.getD 0) := fit_cases HX.out
            by_cases hqf : q = fi
            · subst hqf
              obtain ⟨j1, j2, j3⟩ := HFC.out.1 HFI.out.2.1
              obtain rfl : f' = u := by omega
              have hd : Hid (dst ll q = tt) := by show dst ll q = tt; rw [dst, HX.out]; simp
              have hpre' : Hid (∀ rest, GPath ll p b tt rest → GPath ll p b u0 (pre ++ [(q : Int)] ++ rest)) := fun rest hr => by
                rw [List.append_assoc]
                exact hpre.out _ ⟨by omega, q, rfl, HFI.out, by rw [hd.out]; exact hr⟩
              have d1 : ((f' : Int) == (f' : Int)) = true := by simp
              have d3 : (c + p[tt]?.getD 0 == p[f']?.getD 0) = true := by simpa using j3
              have hlt2 := ho.2.lt
              have HLT := Lib.hid hlt2
              have hpt : Hid (0 ≤ p[tt]?.getD 0) := j2
              have HLN := Lib.hid ho.len
              clear j3 hlt2 j1
              go_wp2
              go_quiet (fail)
              have hy : (((wr.alloc (.cells #[.int .i64 (f' : Int), .int .i64 (tt : Int), .int .i64 c] 36)).drewN nq).alloc (.cells #[.int .i64 (q : Int)] 3)).cell? ⟨wr.heap.size + 1, 0, none⟩ = some (.int .i64 (q : Int)) := cell_lit1 _ _ _ (by simp)
              have hB2 := (below_drewN hB' nq).alloc (by simp; omega) (.cells #[.int .i64 (q : Int)] 3)
              have ho2 := (ho'.drewN nq).alloc (.cells #[.int .i64 (q : Int)] 3)
              have x0 : (((wr.alloc (.cells #[.int .i64 (f' : Int), .int .i64 (tt : Int), .int .i64 c] 36)).drewN nq).alloc (.cells #[.int .i64 (q : Int)] 3)).cell? ⟨wr.heap.size, 1, none⟩ = some (.int .i64 (tt : Int)) := by
                rw [World.cell?_alloc_past _ _ _ (by simp)]
                show (wr.alloc _).cell? _ = _
                simp [World.cell?_alloc_at]
              go_wp2_with (at_builtin; refine wpList_appI rfl _ _ rfl rfl rfl ho2 hy (by omega) (by simp; omega) hB2 ?_; intro a3 c3 w3 o3 b3' hg3 hk3; have x1 : w3.cell? ⟨wr.heap.size, 1, none⟩ = some (.int .i64 (tt : Int)) := hg3.cell x0 (by have := HLT.out wr.heap.size; intro e; have := this e.symm; omega))
              go_roundw
              case rel => exact ⟨tt, z + 1, a3, c3, pre ++ [(q : Int)], rfl, rfl, e4, by omega, hpt.out, o3, hpre'.out, b3'⟩
              case measure => simp [intOf]; omega
            · have hno : ¬ Fit ll p u q := HFI.out.2.2 q (by omega)
              rw [HFC.out] at hno
              by_cases hfu : f' = u
              · subst hfu
                have d1 : ((f' : Int) == (f' : Int)) = true := by simp
                by_cases hpt : 0 ≤ p[tt]?.getD 0
                · have d3 : (c + p[tt]?.getD 0 == p[f']?.getD 0) = false := by
                    rw [beq_eq_false_iff_ne]; exact fun e => hno ⟨rfl, hpt, e⟩
                  clear hno
                  go_wp2
                  go_quiet (fail)
                  go_wp2
                  go_roundw
                  case rel => exact ⟨q + 1, by omega, by go_num, rfl, rfl, ho'.drewN nq, below_drewN hB' nq⟩
                  case measure => simp [intOf]; omega
                · have d2 : decide (0 ≤ p[tt]?.getD 0) = false := decide_eq_false hpt
                  clear hno
                  go_wp2
                  go_quiet (fail)
                  go_wp2
                  go_roundw
                  case rel => exact ⟨q + 1, by omega, by go_num, rfl, rfl, ho'.drewN nq, below_drewN hB' nq⟩
                  case measure => simp [intOf]; omega
              · have d1 : ((f' : Int) == (u : Int)) = false := by simp; omega
                clear hno
                go_wp2
                go_quiet (fail)
                go_wp2
                go_roundw
                case rel => exact ⟨q + 1, by omega, by go_num, rfl, rfl, ho'.drewN nq, below_drewN hB' nq⟩
                case measure => simp [intOf]; omega
  · have F := Lib.hid (ref_check2_any n a m cap ll s t w h)
    have z : (chk2 n ll s t != 0) = true := by simpa using h0
    have E3 : Hid (shCost n ll s t = 0 ∧ shErr n ll s t = chk2 n ll s t ∧ ShPath n ll s t []) := ⟨by rw [shCost, if_neg h0], by rw [shErr, if_neg h0], by rw [ShPath, if_neg (fun h => h0 h.1)]⟩
    clear h0
    generalize chk2 n ll s t = C at *
    go_enter Try.func24, Try.ntmps24
    go_wp2_with (go_at_call 46; refine F.out.mono ?_; rintro e w1 ⟨rfl, b1⟩)
    go_ret3
    exact ⟨_, 0, 0, [], by rw [E3.out.1, E3.out.2.1]; rfl, ((OwnI.lit0 _ _ (Nat.le_refl _)).ints (by omega) (by simp)), E3.out.2.2, b1.alloc b1.size _⟩
end Go.Proofs.Ytebmachppbpdmaa
