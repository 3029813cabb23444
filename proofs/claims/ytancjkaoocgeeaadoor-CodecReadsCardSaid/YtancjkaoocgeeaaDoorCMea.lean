/- The reference: measure, all, Check, Size; Great. -/
import Derived.Test.YtancjkaoocgeeaaDoorCRefA
namespace Go.Proofs.YtancjkaoocgeeaaDoor
open Go.RowKit

def mgot (o : Option Int) : Int := o.getD 0
def mbad (o : Option Int) : Bool := o.isNone
/-- One item more. -/
def mstep (n : Nat) (most : Int) (s : Option Int) (u : V) : Option Int := s.bind fun size => (measR n (most - size) u).bind fun k => some (size + k)
theorem measR_succ (n : Nat) (most : Int) (v : V) : measR (n + 1) most v = if most < 1 then none else if v.kind = 3 then v.items.foldl (mstep n most) (some 1) else some 1 := rfl
theorem measR_le {n : Nat} {most : Int} {v : V} {k : Int} (h : measR n most v = some k) : 1 ≤ k ∧ k ≤ most := by
  rw [measR_eq] at h
  cases hc : cntD n v with
  | none => rw [hc] at h; cases h
  | some c =>
    rw [hc] at h
    have := cntD_pos n v c hc
    simp only at h
    split at h
    · cases h; omega
    · cases h
theorem mstep_none (n : Nat) (most : Int) : ∀ l : List V, l.foldl (mstep n most) none = none
  | [] => rfl
  | _ :: l => mstep_none n most l
set_option maxRecDepth 100000 in
set_option maxHeartbeats 2000000 in
theorem measure_ref : ∀ (n : Nat) (S : Nat → Prop) (v : Vl) (w : World) (most : Int), n ≤ 64 → -65536 ≤ most → most ≤ 65536 → Rd S w v →
    Calls Tryd.prog 43 #[v.val, .int .i64 n, .int .i64 most] w fun e w' => e = .returned (.tuple #[.int .i64 (mgot (measR n most v.er)), .bool (mbad (measR n most v.er))]) ∧ Below w.heap.size w w'
  | 0, S, .mk k nn t a c l, w, most, _, _, _, h => by
    change Calls _ _ #[.agg #[.int .i64 k, .int .i64 nn, .string t, .slice a l.length c], _, _] _ _
    go_enter Tryd.func43, Tryd.ntmps43
    go_wp2
    go_ret2
    exact ⟨rfl, (Below.refl _ _).alloc (Nat.le_refl _) _⟩
  | n + 1, S, .mk k nn t a c l, w, most, hn, hm0, hm1, h => by
    have IH := Lib.hid (measure_ref n)
    have hB := boxed S w _ h
    have hE : Hid (measR (n + 1) most (Vl.mk k nn t a c l).er = if most < 1 then none else if k = 3 then (l.map Vl.er).foldl (mstep n most) (some 1) else some 1) := by show _ = _; rw [measR_succ, Vl.er_items, Vl.er_kind]; rfl
    have hL := hB.rd.vals.2.2.1
    have hBE := hB.below
    have hlt := hB.lt
    change l.length * 56 ≤ _ at hL
    change Boxed S w (w.alloc (.cells #[.int .i64 k, .int .i64 nn, .string t, .slice a l.length c] 24)) _ _ at hB
    change Below _ w (w.alloc (.cells #[.int .i64 k, .int .i64 nn, .string t, .slice a l.length c] 24)) at hBE
    change w.heap.size ≤ (w.alloc (.cells #[.int .i64 k, .int .i64 nn, .string t, .slice a l.length c] 24)).heap.size at hlt
    change Calls _ _ #[.agg #[.int .i64 k, .int .i64 nn, .string t, .slice a l.length c], _, _] _ _
    obtain ⟨N, hN⟩ : ∃ N : Nat, N = n + 1 := ⟨_, rfl⟩
    rw [← hN]
    rw [← hN] at hE
    have HN1 : Hid ((n : Int) = (N : Int) - 1) := by show _ = _; omega
    have hNlo : 1 ≤ N := by omega
    have hNhi : N ≤ 64 := by omega
    have hnn : n ≤ 64 := by omega
    clear hN
    generalize hM : measR N most (Vl.mk k nn t a c l).er = M at *
    clear hM
    by_cases hm : most < 1
    · have HX : Hid (M = none) := by show _ = _; rw [hE.out, if_pos hm]
      go_enter Tryd.func43, Tryd.ntmps43
      go_wp2
      go_ret2
      exact ⟨by rw [HX.out]; rfl, hBE⟩
    · have hm' : 1 ≤ most := by omega
      have dm : decide (most < 1) = false := by simp; omega
      by_cases hk : k = 3
      · subst hk
        have HX : Hid (M = (l.map Vl.er).foldl (mstep n most) (some 1)) := by show _ = _; rw [hE.out, if_neg hm, if_pos rfl]
        clear hE hm
        go_enter Tryd.func43, Tryd.ntmps43
        go_wp2
        generalize w.alloc (.cells #[.int .i64 3, .int .i64 nn, .string t, .slice a l.length c] 24) = W1 at *
        go_loopw [9, 8] (fun i s wr => ∃ (j : Nat) (x : Int), i = .int .i64 j ∧ s = .int .i64 x ∧ j ≤ l.length ∧ Hid (((l.map Vl.er).take j).foldl (mstep n most) (some 1) = some x) ∧ 1 ≤ x ∧ x ≤ most ∧ Below W1.heap.size W1 wr) (fun i _ _ => l.length - (intOf i).toNat)
        case atStart => exact ⟨0, 1, rfl, rfl, Nat.zero_le _, rfl, by omega, by omega, Below.refl _ _⟩
        case round =>
          obtain ⟨j, x, rfl, rfl, hj, hx, hx1, hx2, hb⟩ := hrel
          have hBr := hB.later hb
          obtain ⟨k1, -, -, k4⟩ := hBr.at_
          change wr.cell? ⟨w.heap.size, 3, none⟩ = some (.slice a l.length c) at k4
          change wr.cell? ⟨w.heap.size, 0, none⟩ = some (.int .i64 3) at k1
          by_cases hlj : j < l.length
          · obtain ⟨u, bb, off, hu, -, ea, -, -, ⟨c1, c2, c3, c4⟩, hru⟩ := hBr.rd.vals.get hlj
            change a = _ at ea
            change l[j]? = _ at hu
            subst ea
            have hst : ((l.map Vl.er).take (j + 1)).foldl (mstep n most) (some 1) = (measR n (most - x) u.er).bind fun k => some (x + k) := by
              rw [take_er hu, List.foldl_append, hx.out]; rfl
            have HF := IH.out S u wr (most - x) hnn (by omega) (by omega) hru
            rw [HN1.out] at HF
            have sw : IntKind.i64.wrap (most - x) = most - x := IntWalk.i64_in _ (by omega)
            cases hl : measR n (most - x) u.er with
            | none =>
              rw [hl] at HF hst
              have hfin : Hid (M = none) := by
                show _ = _
                rw [HX.out, ← List.take_append_drop (j + 1) (l.map Vl.er), List.foldl_append, hst]
                exact mstep_none _ _ _
              replace HF := Lib.hid HF
              obtain ⟨uk, un, ut, ua, uc, ul⟩ := u
              dsimp only [Vl.kind, Vl.num, Vl.text, Vl.sl, Vl.addr, Vl.items, Vl.cap] at c1 c2 c3 c4
              dsimp only [Vl.val, Vl.cells, Vl.kind, Vl.num, Vl.text, Vl.sl, Vl.addr, Vl.items, Vl.cap, mgot, mbad, Option.getD, Option.isNone] at HF
              clear hx hru hu hl hst
              go_wp2_with (go_at_call 43; refine HF.out.mono ?_; rintro e w' ⟨rfl, hb'⟩)
              go_ret2
              exact ⟨by rw [hfin.out]; rfl, hBE.trans ((hb.trans (hb'.mono hb.size)).mono hlt)⟩
            | some y =>
              obtain ⟨y1, y2⟩ := measR_le hl
              rw [hl] at HF hst
              have hst2 : Hid (((l.map Vl.er).take (j + 1)).foldl (mstep n most) (some 1) = some (x + y)) := hst
              replace HF := Lib.hid HF
              obtain ⟨uk, un, ut, ua, uc, ul⟩ := u
              dsimp only [Vl.kind, Vl.num, Vl.text, Vl.sl, Vl.addr, Vl.items, Vl.cap] at c1 c2 c3 c4
              dsimp only [Vl.val, Vl.cells, Vl.kind, Vl.num, Vl.text, Vl.sl, Vl.addr, Vl.items, Vl.cap, mgot, mbad, Option.getD, Option.isNone] at HF
              have sw2 : IntKind.i64.wrap (x + y) = x + y := IntWalk.i64_in _ (by omega)
              clear hx hru hu hl hst
              go_wp2_with (go_at_call 43; refine HF.out.mono ?_; rintro e w' ⟨rfl, hb'⟩)
              go_roundw
              case rel => exact ⟨j + 1, x + y, by go_num, rfl, by omega, hst2.out, by omega, by omega, hb.trans (hb'.mono hb.size)⟩
              case measure => simp [intOf]; omega
          · obtain rfl : j = l.length := by omega
            have hfin : Hid (M = some x) := by
              show _ = _
              rw [HX.out, ← hx.out, List.take_of_length_le (by simp)]
            clear hx
            go_wp2
            go_ret2
            exact ⟨by rw [hfin.out]; rfl, hBE.trans (hb.mono hlt)⟩
      · have HX : Hid (M = some 1) := by show _ = _; rw [hE.out, if_neg hm, if_neg hk]
        have dk : ((k : Int) == 3) = false := by simp; omega
        obtain ⟨-, -, -, k4⟩ := hB.at_
        clear hE hm hk
        go_enter Tryd.func43, Tryd.ntmps43
        go_wp2
        generalize w.alloc (.cells #[.int .i64 k, .int .i64 nn, .string t, .slice a l.length c] 24) = W1 at *
        change W1.cell? ⟨w.heap.size, 3, none⟩ = some (.slice a l.length c) at k4
        obtain ⟨k1, -, -, -⟩ := hB.at_
        change W1.cell? ⟨w.heap.size, 0, none⟩ = some (.int .i64 k) at k1
        go_loopw [9, 8] (fun i s wr => i = .int .i64 0 ∧ s = .int .i64 1 ∧ wr = W1) (fun i _ _ => 1)
        case atStart => exact ⟨rfl, rfl, rfl⟩
        case round =>
          obtain ⟨rfl, rfl, rfl⟩ := hrel
          by_cases hl0 : 0 < l.length
          · go_wp2
            go_ret2
            exact ⟨by rw [HX.out]; rfl, hBE⟩
          · go_wp2
            go_ret2
            exact ⟨by rw [HX.out]; rfl, hBE⟩
end Go.Proofs.YtancjkaoocgeeaaDoor
