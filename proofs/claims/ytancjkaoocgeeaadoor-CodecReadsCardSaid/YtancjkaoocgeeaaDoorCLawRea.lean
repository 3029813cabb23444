/- CodecReads. -/
import Derived.Test.YtancjkaoocgeeaaDoorCAwk
import Derived.Test.YtancjkaoocgeeaaDoorCFine
import Derived.Test.YtancjkaoocgeeaaDoorCDecR
namespace Go.Proofs.YtancjkaoocgeeaaDoor
open Go.RowKit

set_option maxRecDepth 100000 in
set_option maxHeartbeats 8000000 in
theorem law_reads (s : ByteArray) (z : Int) (a : Option Addr) (n c : Nat) (l : List Vl) (w : World) (hz : I64 z) (h : Vals (fun b => b < w.heap.size) w a n c l) (h0 : a = none → n = 0 ∧ c = 0) (hE : Env w) :
    Calls Tryd.prog 5 #[.string s, .int .i64 z, .slice a n c] w fun e w' => e = .returned (.bool true) ∧ Below w.heap.size w w' := by
  have HE := Lib.hid hE
  have GR := contains_great _ _ _ _ _ _ h
  have H := Lib.hid h
  have HN := Lib.hid h.1
  have hbnd := h.2.2.1
  clear h
  have AW : Hid (∀ W, Below w.heap.size w W → Calls Tryd.prog 11 #[] W fun e w' => e = .returned (.bool true) ∧ Below W.heap.size W w') := fun W hb => awake_any W (HE.out.below hb)
  by_cases hs4 : 1048580 < s.size
  · have i1 : (300 : Int) < (s.size : Int) := by omega
    have i2 : ¬ ((s.size : Int) ≤ 1048576) := by omega
    have i3 : (1048580 : Int) < (s.size : Int) := by omega
    clear GR
    go_enter Tryd.func5, Tryd.ntmps5
    go_wp2_with (go_at_call 11; refine (AW.out _ (Below.refl _ _)).mono ?_; rintro e w2 ⟨rfl, b2⟩)
    go_ret
    exact ⟨rfl, b2⟩
  · by_cases hs2 : 300 < s.size ∧ s.size ≤ 1048576
    · have i1 : (300 : Int) < (s.size : Int) := by omega
      have i2 : ((s.size : Int) ≤ 1048576) := by omega
      clear GR
      go_enter Tryd.func5, Tryd.ntmps5
      go_wp2_with (go_at_call 11; refine (AW.out _ (Below.refl _ _)).mono ?_; rintro e w2 ⟨rfl, b2⟩)
      go_ret
      exact ⟨rfl, b2⟩
    · have hss : s.size ≤ 140737488355328 := by omega
      have hcase : (¬ ((300 : Int) < (s.size : Int)) ∧ ¬ ((1048580 : Int) < (s.size : Int))) ∨ ((300 : Int) < (s.size : Int) ∧ ¬ ((s.size : Int) ≤ 1048576) ∧ ¬ ((1048580 : Int) < (s.size : Int))) := by omega
      have HC := Lib.hid hcase
      have HSS := Lib.hid hss
      clear hs4 hs2 hcase
      by_cases h8 : 8 < n
      · have h8I : (8 : Int) < (n : Int) := by omega
        clear GR
        rcases HC.out with ⟨i1, i2⟩ | ⟨i1, i2, i3⟩
        all_goals
          go_enter Tryd.func5, Tryd.ntmps5
          go_wp2_with (go_at_call 11; refine (AW.out _ (Below.refl _ _)).mono ?_; rintro e w2 ⟨rfl, b2⟩)
          go_ret
          exact ⟨rfl, b2⟩
      · have h8I : ¬ (8 : Int) < (n : Int) := by omega
        generalize (l.map Vl.er).any greatV = GB at *
        have HGR := Lib.hid GR
        clear GR
        cases GB with
        | true =>
          rcases HC.out with ⟨i1, i2⟩ | ⟨i1, i2, i3⟩
          all_goals
            go_enter Tryd.func5, Tryd.ntmps5
            go_wp2_with fail
            refine HGR.out.mono ?_
            rintro e w1 ⟨rfl, b1⟩
            go_wp2_with (go_at_call 11; refine (AW.out _ b1).mono ?_; rintro e w2 ⟨rfl, b2⟩)
            go_ret
            exact ⟨rfl, b1.trans (b2.mono b1.size)⟩
        | false =>
          have D1 : Hid (∀ W, Below w.heap.size w W → Calls Tryd.prog 20 #[.string s] W fun e w' => ∃ (S : Nat → Prop) (v : Vl), e = .returned (.tuple #[v.val, .int .i64 (decode s.data.toList).2]) ∧ v.er = (decode s.data.toList).1 ∧ Rd S w' v ∧ Below W.heap.size W w') := fun W hb => (decode_any s hss W (HE.out.below hb)).mono (fun e w' ⟨S, v, h1, h2, h3, _, h5⟩ => ⟨S, v, h1, h2, h3, h5⟩)
          have D2 : Hid (∀ W, Below w.heap.size w W → Calls Tryd.prog 22 #[.string s] W fun e w' => ∃ (S : Nat → Prop) (v : Vl), e = .returned (.tuple #[v.val, .int .i64 (decode s.data.toList).2]) ∧ v.er = (decode s.data.toList).1 ∧ Rd S w' v ∧ Below W.heap.size W w') := fun W hb => (decode_ref s hss W (HE.out.below hb)).mono (fun e w' ⟨S, v, h1, h2, h3, _, h5⟩ => ⟨S, v, h1, h2, h3, h5⟩)
          have MI : Hid (∀ W, Calls Tryd.prog 19 #[.agg #[.int .i64 1, .int .i64 z, .string ⟨#[]⟩, .slice none 0 0], .agg #[.int .i64 1, .int .i64 z, .string ⟨#[]⟩, .slice none 0 0]] W fun e w' => e = .returned (.bool true) ∧ Below W.heap.size W w') := fun W => by
            have := same_ref (fun _ => False) (fun _ => False) (mkInt z) (mkInt z) W (rd_int hz) (rd_int hz)
            rw [(sameV_iff _ _).2 rfl] at this
            exact this
          have MT : Hid (∀ W, Calls Tryd.prog 19 #[.agg #[.int .i64 2, .int .i64 0, .string s, .slice none 0 0], .agg #[.int .i64 2, .int .i64 0, .string s, .slice none 0 0]] W fun e w' => e = .returned (.bool true) ∧ Below W.heap.size W w') := fun W => by
            have := same_ref (fun _ => False) (fun _ => False) (mkText s) (mkText s) W (rd_text hss) (rd_text hss)
            rw [(sameV_iff _ _).2 rfl] at this
            exact this
          have I1 : Hid (∀ W, Calls Tryd.prog 23 #[.int .i64 z] W fun e w' => e = .returned (.agg #[.int .i64 1, .int .i64 z, .string ⟨#[]⟩, .slice none 0 0]) ∧ Below W.heap.size W w') := fun W => int_any z W
          have I2 : Hid (∀ W, Calls Tryd.prog 24 #[.int .i64 z] W fun e w' => e = .returned (.agg #[.int .i64 1, .int .i64 z, .string ⟨#[]⟩, .slice none 0 0]) ∧ Below W.heap.size W w') := fun W => int_ref z W
          have T1 : Hid (∀ W, Calls Tryd.prog 25 #[.string s] W fun e w' => e = .returned (.agg #[.int .i64 2, .int .i64 0, .string s, .slice none 0 0]) ∧ Below W.heap.size W w') := fun W => text_any s W
          have T2 : Hid (∀ W, Calls Tryd.prog 26 #[.string s] W fun e w' => e = .returned (.agg #[.int .i64 2, .int .i64 0, .string s, .slice none 0 0]) ∧ Below W.heap.size W w') := fun W => text_ref s W
          generalize decode s.data.toList = DD at *
          obtain ⟨dv, de⟩ := DD
          have dee : (de == de) = true := by simp
          clear hE hss hz
          rcases HC.out with ⟨i1, i2⟩ | ⟨i1, i2, i3⟩
          all_goals
            go_enter Tryd.func5, Tryd.ntmps5
            go_wp2_with fail
            refine HGR.out.mono ?_
            rintro e w1 ⟨rfl, b1⟩
            go_wp2_with fail
            refine (D1.out _ b1).mono ?_
            rintro e w2 ⟨S, v, he, hv, hr2, b2⟩
            obtain ⟨k, nn, t, aa, ca, la⟩ := v
            change e = .returned (.tuple #[.agg #[.int .i64 k, .int .i64 nn, .string t, .slice aa la.length ca], .int .i64 de]) at he
            subst he
            have b3 : Below w2.heap.size w2 (w2.alloc (.cells #[.int .i64 k, .int .i64 nn, .string t, .slice aa la.length ca] 24)) := (Below.refl _ _).alloc (Nat.le_refl _) _
            have hr3 := hr2.below b3
            have b02 := b1.trans (b2.mono b1.size)
            have b03 := b02.trans (b3.mono b02.size)
            obtain ⟨d0, d1, d2, d3, -⟩ := box_cells (World.alloc_heap_new w2 (.cells #[.int .i64 k, .int .i64 nn, .string t, .slice aa la.length ca] 24))
            clear b1 b2 b3 b02 hr2
            go_wp2_with fail
            generalize w2.alloc (.cells #[.int .i64 k, .int .i64 nn, .string t, .slice aa la.length ca] 24) = w3 at *
            refine (D2.out _ b03).mono ?_
            rintro e w4 ⟨S', v', he, hv', hr4, b4⟩
            obtain ⟨k', nn', t', ab, cb, lb⟩ := v'
            change e = .returned (.tuple #[.agg #[.int .i64 k', .int .i64 nn', .string t', .slice ab lb.length cb], .int .i64 de]) at he
            subst he
            have b5 : Below w4.heap.size w4 (w4.alloc (.cells #[.int .i64 k', .int .i64 nn', .string t', .slice ab lb.length cb] 24)) := (Below.refl _ _).alloc (Nat.le_refl _) _
            have b35 := b4.trans (b5.mono b4.size)
            have hr5 := hr4.below b5
            have hr5' := hr3.below b35
            have b05 := b03.trans (b35.mono b03.size)
            obtain ⟨e0, e1, e2, e3, -⟩ := box_cells (World.alloc_heap_new w4 (.cells #[.int .i64 k', .int .i64 nn', .string t', .slice ab lb.length cb] 24))
            have x0 := cell_later b35 d0
            have x1 := cell_later b35 d1
            have x2 := cell_later b35 d2
            have x3 := cell_later b35 d3
            have SM := same_ref _ _ _ _ _ hr5' hr5
            rw [hv, hv', (sameV_iff _ _).2 rfl] at SM
            dsimp only [Vl.val, Vl.cells, Vl.kind, Vl.num, Vl.text, Vl.sl, Vl.addr, Vl.items, Vl.cap] at SM
            have HSM := Lib.hid SM
            have HB05 := Lib.hid b05
            clear b03 b4 b5 b35 hr3 hr4 hr5 hr5' b05 SM d0 d1 d2 d3 hv hv'
            go_wp2_with fail
            generalize w4.alloc (.cells #[.int .i64 k', .int .i64 nn', .string t', .slice ab lb.length cb] 24) = w5 at *
            refine HSM.out.mono ?_
            rintro e w6 ⟨rfl, b6⟩
            go_wp2_with fail
            refine (I1.out _).mono ?_
            rintro e w7 ⟨rfl, b7⟩
            go_wp2_with fail
            refine (I2.out _).mono ?_
            rintro e w8 ⟨rfl, b8⟩
            go_wp2_with fail
            refine (MI.out _).mono ?_
            rintro e w9 ⟨rfl, b9⟩
            go_wp2_with fail
            refine (T1.out _).mono ?_
            rintro e w10 ⟨rfl, b10⟩
            go_wp2_with fail
            refine (T2.out _).mono ?_
            rintro e w11 ⟨rfl, b11⟩
            go_wp2_with fail
            refine (MT.out _).mono ?_
            rintro e w12 ⟨rfl, b12⟩
            have c7 := b6.trans (b7.mono b6.size)
            have c8 := c7.trans (b8.mono c7.size)
            have c9 := c8.trans (b9.mono c8.size)
            have c10 := c9.trans (b10.mono c9.size)
            have c11 := c10.trans (b11.mono c10.size)
            have c12 := c11.trans (b12.mono c11.size)
            have g12 := HB05.out.trans (c12.mono HB05.out.size)
            clear b6 b7 b8 b9 b10 b11 b12 c7 c8 c9 c10 c11 c12
            have L1 := Lib.hid (list_any _ a n c l w12 (H.out.below g12) h0)
            go_wp2_with fail
            refine L1.out.mono ?_
            rintro e w13 ⟨a1, c1, he, o13, b13⟩
            change e = .returned (.agg #[.int .i64 3, .int .i64 0, .string ⟨#[]⟩, .slice a1 l.length c1]) at he
            subst he
            have g13 := g12.trans (b13.mono g12.size)
            have L2 := Lib.hid (list_ref _ a n c l w13 (H.out.below g13) h0)
            have v13 := o13.vals (S' := fun x => x < w.heap.size ∨ (Value.slice a1 n c1).ownBlock = some x) hbnd (fun _ h => .inl h) (fun x hx => .inr (ownBlock_some hx))
            rw [HN.out] at v13
            have r13 := rd_list v13
            clear o13 v13
            go_wp2_with fail
            refine L2.out.mono ?_
            rintro e w14 ⟨a2, c2, he, o14, b14⟩
            change e = .returned (.agg #[.int .i64 3, .int .i64 0, .string ⟨#[]⟩, .slice a2 l.length c2]) at he
            subst he
            have g14 := g13.trans (b14.mono g13.size)
            have v14 := o14.vals (S' := fun x => x < w.heap.size ∨ (Value.slice a2 n c2).ownBlock = some x) hbnd (fun _ h => .inl h) (fun x hx => .inr (ownBlock_some hx))
            rw [HN.out] at v14
            have r14 := rd_list v14
            have SL := same_ref _ _ _ _ _ (r13.below b14) r14
            rw [(sameV_iff _ _).2 (by rw [Vl.er, Vl.er])] at SL
            dsimp only [Vl.val, Vl.cells, Vl.kind, Vl.num, Vl.text, Vl.sl, Vl.addr, Vl.items, Vl.cap] at SL
            have HSL := Lib.hid SL
            clear o14 v14 r14 r13 SL
            go_wp2_with fail
            refine HSL.out.mono ?_
            rintro e w15 ⟨rfl, b15⟩
            have g15 := g14.trans (b15.mono g14.size)
            go_wp2_with (go_at_call 11; refine (AW.out _ g15).mono ?_; rintro e w16 ⟨rfl, b16⟩)
            go_ret
            exact ⟨rfl, g15.trans (b16.mono g15.size)⟩
end Go.Proofs.YtancjkaoocgeeaaDoor
