/- The law SequenceHeavy returns true, for every input, and writes nothing that was there. -/
import Derived.Test.YtdkokpehcmcnpaaWRise
import Derived.Test.YtdkokpehcmcnpaaWComp
import Derived.Test.YtdkokpehcmcnpaaWSum
import Derived.Test.YtdkokpehcmcnpaaWWgt
import Derived.Test.YtdkokpehcmcnpaaWAwake
import Derived.Test.YtdkokpehcmcnpaaRow
import Derived.RangeFuncBox
namespace Go.Proofs.Ytdkokpehcmcnpaa
open Go.RowKit

/-- The slice value 'a n cap' reads as a list of bytes. -/
def U8s (w : World) (a : Option Addr) (n cap : Nat) (l : List Int) : Prop :=
  n = l.length ∧ n ≤ cap ∧ (∀ x ∈ l, 0 ≤ x ∧ x ≤ 255) ∧ ∀ j, j < n → ∃ b off, a = some ⟨b, off, none⟩ ∧ w.cell? ⟨b, off + j, none⟩ = some (.int .u8 (l[j]?.getD 0))
namespace U8s
variable {w w' : World} {a : Option Addr} {n cap : Nat} {l : List Int}
theorem len (h : U8s w a n cap l) : n = l.length := h.1
theorem le (h : U8s w a n cap l) : n ≤ cap := h.2.1
theorem byte (h : U8s w a n cap l) (j : Nat) : 0 ≤ l[j]?.getD 0 ∧ l[j]?.getD 0 ≤ 255 := by
  by_cases hj : j < l.length
  · rw [List.getElem?_eq_getElem hj]; exact h.2.2.1 _ (List.getElem_mem hj)
  · rw [List.getElem?_eq_none (by omega)]; decide
theorem at_ (h : U8s w a n cap l) (hn : 0 < n) : ∃ b off, a = some ⟨b, off, none⟩ ∧ b < w.heap.size ∧ Hid (∀ j, j < n → w.cell? ⟨b, off + j, none⟩ = some (.int .u8 (l[j]?.getD 0))) := by
  obtain ⟨b, off, e, hc⟩ := h.2.2.2 0 hn
  refine ⟨b, off, e, World.block_lt_of_cell? _ _ hc, fun j hj => ?_⟩
  obtain ⟨b', off', e', hc'⟩ := h.2.2.2 j hj
  rw [e] at e'; cases e'
  exact hc'
theorem below (h : U8s w a n cap l) (hb : Below w.heap.size w w') : U8s w' a n cap l := by
  obtain ⟨h1, h2, h4, h5⟩ := h
  refine ⟨h1, h2, h4, fun j hj => ?_⟩
  obtain ⟨b, off, e, hc⟩ := h5 j hj
  exact ⟨b, off, e, cell_later hb hc⟩
end U8s
theorem IsRow.u8s {w : World} {a : Option Addr} {n cap : Nat} {zs : List Int} (h : IsRow .u8 w a n cap zs) : U8s w a n cap (zs.take n) := by
  rcases h with ⟨rfl, rfl, rfl, rfl⟩ | ⟨x, rfl, hl, hm, hz, hc, hw⟩
  · exact ⟨rfl, Nat.le_refl _, by simp, fun j hj => by omega⟩
  · refine ⟨by simp [hz]; omega, hl, fun y hy => ?_, fun j hj => ?_⟩
    · have := hw y (List.mem_of_mem_take hy)
      simp [Lit.wf, IntKind.min, IntKind.max, IntKind.signed, IntKind.bits] at this
      omega
    · obtain ⟨b, off, rfl⟩ := addr_plain (hc 0 (by omega))
      refine ⟨b, off, rfl, ?_⟩
      have := hc j (by omega)
      rw [Addr.add_lit] at this
      rw [this, List.getElem?_take, if_pos hj]
      rfl

theorem run_max3_zero (P : Program) (ts : Array TypeId) (t : TypeId) (w : World) : (Builtin.max_ ts t #[.int .i64 0, .int .i64 0, .int .i64 0]).run P w = .ok (.int .i64 0) w := by
  simp [Builtin.max_, Builtin.max2]
attribute [local go_sem] run_max3_zero

theorem own_apart {a b : Option Addr} {m c : Nat} (h : Apart a b) : ∀ x, a = some x → some x.block ≠ (Value.slice b m c).ownBlock := by
  intro x hx
  cases hb : b with
  | none => simp [Value.ownBlock]
  | some y => intro e; exact h x y hx hb (Option.some.inj e)
theorem apart_step {a b b' : Option Addr} {m c m' c' s : Nat} (h : Apart a b) (hs : ∀ x, a = some x → x.block < s) (hv : (Value.slice b' m' c').ownBlock = (Value.slice b m c).ownBlock ∨ (Value.slice b' m' c').ownBlock = some s) : Apart a b' := by
  intro x y hx hy e
  subst hy
  rcases hv with h1 | h1
  · cases hb : b with
    | none => rw [hb] at h1; cases h1
    | some z => rw [hb] at h1; exact h x z hx hb (by rw [e]; exact Option.some.inj h1)
  · have := hs x hx; have := Option.some.inj h1; omega

set_option maxHeartbeats 4000000 in
theorem law_heavy (a au : Option Addr) (n cap m capu : Nat) (l wt : List Int) (d c : Int) (w : World) (h : n ≤ 12 → Ints w a n cap l) (hu : U8s w au m capu wt) (hd0 : 0 ≤ d) (hd1 : d ≤ 255) :
    Calls Try.prog 8 #[.slice a n cap, .slice au m capu, .int .u8 d, .int .u16 c] w fun e w' => e = .returned (.bool true) ∧ Below w.heap.size w w' := by
  by_cases hn : 12 < n
  · go_enter Try.func8, Try.ntmps8
    go_wp2_with (go_at_call 11; refine (awake_any _).mono ?_; rintro e w' ⟨rfl, hb⟩)
    go_ret
    exact ⟨rfl, hb⟩
  · have hn2 : decide ((12 : Int) < (n : Int)) = false := decide_eq_false (by omega)
    by_cases hnm : m = n
    · subst hnm
      replace h := h (by omega)
      have H := Lib.hid h.len
      have HU := Lib.hid hu.len
      have hub := hu.byte
      have HUB := Lib.hid hub
      clear hub
      have enm : ((m : Int) != (m : Int)) = false := by simp
      obtain ⟨i0, hi, hz0, hz1, hz2⟩ := info_parts Try.infoInt
      go_enter Try.func8, Try.ntmps8
      go_wp2
      have X0 := Boxed.new w 22 (.slice none 0 0)
      have D0 := (Below.refl w.heap.size w).alloc (Nat.le_refl _) (.cells #[.slice none 0 0] 22)
      have S0 : w.heap.size < (w.alloc (.cells #[.slice none 0 0] 22)).heap.size := by simp
      generalize w.alloc (.cells #[.slice none 0 0] 22) = W at *
      go_loopw [10, 37] (fun o i wr => ∃ (k : Nat) (aw : Option Addr) (cw : Nat) (ae : Option Addr) (ce : Nat), k ≤ m ∧ i = .int .i64 k ∧ o = .slice ae k ce ∧ Boxed wr w.heap.size 22 (.slice aw k cw) ∧
          OwnI wr (w.heap.size + 1) aw k cw (wt.take k) ∧ OwnI wr (w.heap.size + 1) ae k ce (equalW k (1 + d)) ∧ Apart aw ae ∧ Below w.heap.size w wr ∧ w.heap.size < wr.heap.size) (fun _ i _ => m - (intOf i).toNat)
      case atStart => exact ⟨0, none, 0, none, 0, Nat.zero_le _, rfl, rfl, X0, OwnI.nil _ _, OwnI.nil _ _, (fun x y hx => by cases hx), D0, S0⟩
      case round =>
        clear X0 D0 S0 W
        obtain ⟨k, aw, cw, ae, ce, hk, rfl, rfl, hX, how, hoe, hap, hB, hS⟩ := hrel
        have hc := hX.cell
        have hz := hX.frozen
        have hwt : (wt.take k).length = k := by rw [List.length_take]; have := HU.out; omega
        have HWT := Lib.hid hwt
        clear hwt
        by_cases hlt : k < m
        · obtain ⟨bu, offu, rfl, -, hcu⟩ := (hu.below hB).at_ (by omega)
          have u1 := hcu.out k hlt
          obtain ⟨u2, u3⟩ := HUB.out k
          have eW : Hid (wt.take (k + 1) = wt.take k ++ [wt[k]?.getD 0]) := take_succ' wt 0 k (by rw [← HU.out]; exact hlt)
          have eE : Hid (equalW (k + 1) (1 + d) = equalW k (1 + d) ++ [1 + d]) := by show List.replicate _ _ = _; rw [List.replicate_succ']; rfl
          have hltw : Hid (∀ x, aw = some x → x.block < wr.heap.size) := fun x hx => (how.2.lt x.block (ownBlock_some hx)).2
          have hlte : Hid (∀ x, ae = some x → x.block < wr.heap.size) := fun x hx => (hoe.2.lt x.block (ownBlock_some hx)).2
          have hbw : Hid (∀ q, (Value.slice aw k cw).ownBlock = some q → w.heap.size + 1 ≤ q) := fun q hq => (how.2.lt q hq).1
          have hbe : Hid (∀ q, (Value.slice ae k ce).ownBlock = some q → w.heap.size + 1 ≤ q) := fun q hq => (hoe.2.lt q hq).1
          go_wp2_with (first | (at_builtin; refine wpList_append_own_at _ rfl _ _ 22 rfl (w.heap.size + 1) 3 i0 (.int .i64 0) 1 8 Try.underlying22 hi hz0 hz1 hz2 rfl (by decide) (.slice aw k cw) k _ rfl (how.2.alloc _) ⟨wr.heap.size, 0, none⟩ 1 1 [.int .i64 (wt[k]?.getD 0)] rfl rfl (cell_one_new _ _ _) (by simp [Value.oneCell']) (by unfold maxLen; omega) (by omega) (by simp; omega) ?_; intro v1 w3 hown1 hgrow1 _ hat1; obtain ⟨a3, cap3, rfl⟩ := own_shape hown1; have hs3 : wr.heap.size + 1 ≤ w3.heap.size := by { have := hgrow1.size; simpa using this }; have hoe3 := (hoe.alloc (.cells #[.int .i64 (wt[k]?.getD 0)] 3)).kept hgrow1 (own_apart hap.symm); have hap3 : Apart ae a3 := apart_step (b := aw) (m := k) (c := cw) (m' := k + 1) (c' := cap3) (s := wr.heap.size + 1) hap.symm (fun x hx => by have := hlte.out x hx; omega) (by simpa using hat1); have hX3 : Boxed w3 w.heap.size 22 (.slice aw k cw) := (hX.alloc _).kept hgrow1 (fun e => by have := hbw.out _ e.symm; omega); have hB3 : Below w.heap.size w w3 := (hB.alloc (by omega) _).grown hgrow1 (by simp; omega) (fun q hq => by have := hbw.out q hq; omega)) | (at_builtin; refine wpList_append_own_at _ rfl _ _ 22 rfl (w.heap.size + 1) 3 i0 (.int .i64 0) 1 8 Try.underlying22 hi hz0 hz1 hz2 rfl (by decide) (.slice ae k ce) k _ rfl (hoe3.2.alloc _) ⟨w3.heap.size, 0, none⟩ 1 1 [.int .i64 (1 + d)] rfl rfl (cell_one_new _ _ _) (by simp [Value.oneCell']) (by unfold maxLen; omega) (by omega) (by simp; omega) ?_; intro v2 w4 hown2 hgrow2 _ hat2; obtain ⟨a4, cap4, rfl⟩ := own_shape hown2; have hX4 : Boxed w4 w.heap.size 22 (.slice aw k cw) := (hX3.alloc _).kept hgrow2 (fun e => by have := hbe.out _ e.symm; omega); have hc4 := hX4.cell; have hz4 := hX4.frozen))
          go_roundw
          case rel =>
            have hlt3 : ∀ x, a3 = some x → x.block < w3.heap.size := fun x hx => (hown1.lt x.block (ownBlock_some hx)).2
            have hap4 : Apart a3 a4 := apart_step (b := ae) (m := k) (c := ce) (m' := k + 1) (c' := cap4) hap3.symm (s := w3.heap.size + 1) (fun x hx => by have := hlt3 x hx; omega) (by simpa using hat2)
            have how4 : OwnI w4 (w.heap.size + 1) a3 (k + 1) cap3 (wt.take k ++ [wt[k]?.getD 0]) :=
              OwnI.kept (OwnI.alloc ⟨by simp [HWT.out], by rw [List.map_append]; exact hown1⟩ _) hgrow2 (own_apart hap3.symm)
            have hoe4 : OwnI w4 (w.heap.size + 1) a4 (k + 1) cap4 (equalW k (1 + d) ++ [1 + d]) := ⟨by simp [equalW], by rw [List.map_append]; exact hown2⟩
            have hs4 : w3.heap.size + 1 ≤ w4.heap.size := by have := hgrow2.size; simpa using this
            have hB4 : Below w.heap.size w w4 := (hB3.alloc (by omega) _).grown hgrow2 (by simp; omega) (fun q hq => by have := hbe.out q hq; omega)
            refine ⟨k + 1, a3, cap3, a4, cap4, by omega, by go_num, rfl, hX4.set _, ?_, ?_, hap4, hB4.setCell (Nat.le_refl _) _, by simp [World.setCell]; omega⟩
            · rw [eW.out]; exact ⟨how4.1, ownsRow_setCell_below how4.2 (by show w.heap.size < w.heap.size + 1; omega) _⟩
            · rw [eE.out]; exact ⟨hoe4.1, ownsRow_setCell_below hoe4.2 (by show w.heap.size < w.heap.size + 1; omega) _⟩
          case measure => simp [intOf]; omega
        · obtain rfl : k = m := by omega
          have et : Hid (wt.take k = wt) := by show wt.take k = wt; rw [HU.out, List.take_length]
          rw [et.out] at how
          have hsB := hB.size
          have j0 := h.below hB
          have iw : Ints wr aw k cw wt := how.ints (by omega) (fun x hx => by have := hu.2.2.1 x hx; exact I64.small (by omega) (by omega))
          have ie : Ints wr ae k ce (equalW k (1 + d)) := hoe.ints (by omega) (fun x hx => by
            have : x = 1 + d := List.eq_of_mem_replicate hx
            subst this; exact I64.small (by omega) (by omega))
          have nb : anyBad wt = false := none_bad HU.out (fun j _ => decide_eq_false (by have := HUB.out j; omega))
          have ne : anyBad (equalW k (1 + d)) = false := none_bad (n := k) (by simp [equalW]) (fun j hj => decide_eq_false (by simp [equalW, hj]; omega))
          obtain ⟨f1, f2, f3⟩ := w_ok (l := l) (wt := wt) (by rw [← H.out]; omega) (by rw [← H.out, ← HU.out]; simp) nb
          obtain ⟨g1, g2, g3⟩ := w_ok (l := l) (wt := equalW k (1 + d)) (by rw [← H.out]; omega) (by rw [← H.out]; simp [equalW]) ne
          have he := heavy_equal l (1 + d) (by omega)
          rw [← H.out] at he
          rw [he.1] at g1
          rw [he.2] at g2
          have WA : Hid (∀ w, Ints w a k cap l → Ints w ae k ce (equalW k (1 + d)) → Calls Try.prog 35 #[.slice a k cap, .slice ae k ce] w fun e w' => ∃ (a' : Option Addr) (q cap' : Nat), e = .returned (.tuple #[.slice a' q cap', .int .i64 (((lis l).length : Int) * (1 + d)), .int .i64 0]) ∧ Ints w' a' q cap' (lis l) ∧ Below w.heap.size w w') := fun w h1 h2 => by
            have := weighted_any a ae k cap k ce l (equalW k (1 + d)) w h1 h2
            rw [g1, g2, g3] at this
            exact this
          have WB : Hid (∀ w, Ints w a k cap l → Ints w aw k cw wt → Calls Try.prog 35 #[.slice a k cap, .slice aw k cw] w fun e w' => ∃ (a' : Option Addr) (q cap' : Nat), e = .returned (.tuple #[.slice a' q cap', .int .i64 (weight l wt), .int .i64 0]) ∧ Ints w' a' q cap' (heavy l wt) ∧ Below w.heap.size w w') := fun w h1 h2 => by
            have := weighted_any a aw k cap k cw l wt w h1 h2
            rw [f1, f2, f3] at this
            exact this
          clear f1 f2 f3 g1 g2 g3 he nb ne how hoe hX hz
          obtain ⟨hinc, hsum, hbest⟩ := heavy_best l wt (fun j => (HUB.out j).1)
          have HINC := Lib.hid hinc
          have HSUM := Lib.hid hsum
          have HBEST := Lib.hid hbest
          have hTb := wsum_bound HUB.out (heavy l wt)
          have HTB := Lib.hid hTb
          clear hinc hsum hbest hTb
          go_wp2_with fail
          refine (increasing_any a k cap l wr j0 (by omega)).mono ?_
          rintro e w1 ⟨a1, q1, c1, rfl, o1, b1⟩
          have D1 := hB.trans (b1.mono hsB)
          have s1 : Ints w1 a1 q1 c1 (lis l) := heavy_ints (wt := ones l) o1 H.out (by omega)
          have hq1 := s1.len
          have hq1k : q1 ≤ k := by rw [hq1, H.out]; exact heavy_length _ _
          have HQ1 := Lib.hid hq1
          have j1 := j0.below b1
          have hc1 := cell_later b1 hc
          have iw1 := iw.below b1
          have ie1 := ie.below b1
          clear hq1 o1 b1 j0 hc iw ie hB
          go_wp2_with fail
          refine (WA.out w1 j1 ie1).mono ?_
          rintro e w2 ⟨a2, q2, c2, rfl, s2, b2⟩
          rw [← HQ1.out]
          have D2 := D1.trans (b2.mono D1.size)
          have j2 := j1.below b2
          have hc2 := cell_later b2 hc1
          have iw2 := iw1.below b2
          have s12 := s1.below b2
          clear s1 b2 j1 hc1 iw1 ie1 D1
          go_wp2_with fail
          refine (WB.out w2 j2 iw2).mono ?_
          rintro e w3 ⟨a3, q3, c3, rfl, s3, b3⟩
          have D3 := D2.trans (b3.mono D2.size)
          have j3 := j2.below b3
          have hc3 := cell_later b3 hc2
          have iw3 := iw2.below b3
          have s13 := s12.below b3
          have s23 := s2.below b3
          clear s12 s2 b3 j2 hc2 iw2 D2
          go_wp2_with fail
          refine (equal_any a1 a2 q1 c1 q2 c2 (lis l) (lis l) w3 s13 s23).mono ?_
          rintro e w4 ⟨rfl, d4⟩
          rw [decide_eq_true rfl]
          have D4 := D3.trans (d4.below _)
          have j4 := j3.drews d4
          have hc4 := cell_later (d4.below _) hc3
          have iw4 := iw3.drews d4
          have s34 := s3.drews d4
          clear s13 s23 s3 d4 j3 hc3 iw3 D3
          have p0 : (0 : Int) ≤ (q1 : Int) * (1 + d) := Int.mul_nonneg (by omega) (by omega)
          have p1 : (q1 : Int) * (1 + d) ≤ 12 * 256 := Int.mul_le_mul (by omega) (by omega) (by omega) (by omega)
          have pw : IntKind.i64.wrap ((q1 : Int) * (1 + d)) = (q1 : Int) * (1 + d) := IntWalk.i64_in _ (by omega)
          have pe : ((q1 : Int) * (1 + d) != (q1 : Int) * (1 + d)) = false := by simp
          have hq3 := s34.len
          have HQ3 := Lib.hid hq3
          have hq3k : q3 ≤ k := by rw [hq3, H.out]; exact heavy_length _ _
          clear hq3
          go_wp2_with fail
          refine (sum_any w.heap.size aw a3 k cw q3 c3 wt (heavy l wt) w4 iw4 s34 hc4 HUB.out (fun j hj => by
            obtain ⟨x, e, _, hx, _⟩ := HINC.out.at_ j (by rw [← HQ3.out]; exact hj)
            rw [e]; have := H.out; omega) (by omega)).mono ?_
          rintro e w5 ⟨rfl, rfl⟩
          rw [HSUM.out]
          generalize hT : weight l wt = T at *
          have te : (T != T) = false := by simp
          go_wp2_with fail
          refine (rises_any a k cap l c w5 j4 (by omega)).mono ?_
          rintro e w6 ⟨is, a6, q6, c6, b, rfl, o6, hb6, b6⟩
          have D6 := D4.trans (b6.mono D4.size)
          have hc6 := cell_later b6 hc4
          have iw6 := iw4.below b6
          have s36 := s34.below b6
          clear s34 b6 j4 hc4 iw4 D4
          cases is with
          | false =>
            clear hb6
            go_wp2_with (go_at_call 11; refine (awake_any _).mono ?_; rintro e w' ⟨rfl, hb⟩)
            go_ret
            exact ⟨rfl, D6.trans (hb.mono D6.size)⟩
          | true =>
            have hi6 := hb6 rfl
            have hle := (HBEST.out b hi6).1
            have HI6 := Lib.hid hi6
            have HC6 : Hid (wsum wt b = T → cmpL (heavy l wt) b ≤ 0) := (HBEST.out b hi6).2
            have hq6 := o6.len
            have hat6 : Hid (∀ j, j < q6 → ∃ x : Nat, b[j]?.getD 0 = (x : Int) ∧ x < k) := fun j hj => by
              obtain ⟨x, e, _, hx, _⟩ := HI6.out.at_ j (by rw [← hq6]; exact hj)
              exact ⟨x, e, by rw [H.out]; exact hx⟩
            have hlb := (lis_best l).2 b hi6
            have hq6k : q6 ≤ k := by rw [hq6]; have := hlb.1; have := heavy_length l (ones l); have e : (lis l).length = (heavy l (ones l)).length := rfl; have := H.out; omega
            have t6 : Ints w6 a6 q6 c6 b := o6.ints (by omega) (fun x hx => by
              obtain ⟨j, hj, rfl⟩ := List.getElem_of_mem hx
              obtain ⟨y, e, hy⟩ := hat6.out j (by rw [hq6]; exact hj)
              rw [List.getElem?_eq_getElem hj, Option.getD_some] at e
              rw [e]; exact I64.small (by omega) (by omega))
            have F := Lib.hid (sum_any w.heap.size aw a6 k cw q6 c6 wt b w6 iw6 t6 hc6 HUB.out (fun j hj => by
              obtain ⟨x, e, hx⟩ := hat6.out j hj
              rw [e]; omega) (by omega))
            have G := Lib.hid (compare_any a3 a6 q3 c3 q6 c6 (heavy l wt) b w6 s36 t6)
            clear hb6 hi6 hq6 hlb o6
            generalize wsum wt b = U at *
            generalize cmpL (heavy l wt) b = cc at *
            by_cases hlt6 : U < T
            · go_wp2_with (first | (go_at_call 39; refine F.out.mono ?_; rintro e w' ⟨rfl, rfl⟩) | (go_at_call 11; refine (awake_any _).mono ?_; rintro e w' ⟨rfl, hb⟩))
              go_ret
              exact ⟨rfl, D6.trans (hb.mono D6.size)⟩
            · obtain rfl : U = T := by omega
              have hcc := HC6.out rfl
              have d1 : decide (U < U) = false := decide_eq_false (by omega)
              have d2 : (U == U) = true := by simp
              clear hlt6 hle
              go_wp2_with (first | (go_at_call 39; refine F.out.mono ?_; rintro e w' ⟨rfl, rfl⟩) | (go_at_call 33; refine G.out.mono ?_; rintro e w7 ⟨rfl, hd7⟩; have D7 := D6.trans (hd7.below _)) | (go_at_call 11; refine (awake_any _).mono ?_; rintro e w' ⟨rfl, hb⟩))
              go_ret
              exact ⟨rfl, D7.trans (hb.mono D7.size)⟩
    · have enm : ((m : Int) != (n : Int)) = true := by simp; omega
      go_enter Try.func8, Try.ntmps8
      go_wp2_with (go_at_call 11; refine (awake_any _).mono ?_; rintro e w' ⟨rfl, hb⟩)
      go_ret
      exact ⟨rfl, hb⟩
end Go.Proofs.Ytdkokpehcmcnpaa
