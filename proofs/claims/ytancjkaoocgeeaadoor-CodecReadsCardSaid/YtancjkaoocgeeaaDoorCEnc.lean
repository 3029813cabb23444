/- Check and Encode. -/
import Derived.Test.YtancjkaoocgeeaaDoorCWri
import Derived.Test.YtancjkaoocgeeaaDoorCSize
import Derived.Test.YtancjkaoocgeeaaDoorCEncR
import Derived.Laws.EntriesVeiled
namespace Go.Proofs.YtancjkaoocgeeaaDoor
open Go.RowKit Go.Shelf

set_option maxRecDepth 100000 in
set_option maxHeartbeats 1000000 in
theorem check_any (S : Nat → Prop) : ∀ (v : Vl) (w : World), Rd S w v →
    Calls Tryd.prog 16 #[v.val] w fun e w' => e = .returned (.int .i64 (chkV v.er)) ∧ Below w.heap.size w w'
  | .mk k nn t a c l, w, h => by
    have hB := boxed S w _ h
    have hBE := hB.below
    have hlt := hB.lt
    have F := size_any S _ _ hB.rd
    change Below _ w (w.alloc (.cells #[.int .i64 k, .int .i64 nn, .string t, .slice a l.length c] 24)) at hBE
    change w.heap.size ≤ (w.alloc (.cells #[.int .i64 k, .int .i64 nn, .string t, .slice a l.length c] 24)).heap.size at hlt
    have HF := Lib.hid F
    dsimp only [Vl.val, Vl.cells, Vl.kind, Vl.num, Vl.text, Vl.sl, Vl.addr, Vl.items, Vl.cap] at HF
    clear F h hB
    change Calls _ _ #[.agg #[.int .i64 k, .int .i64 nn, .string t, .slice a l.length c]] _ _
    generalize chkV (Vl.mk k nn t a c l).er = C at *
    generalize sizV (Vl.mk k nn t a c l).er = Z at *
    go_enter Tryd.func16, Tryd.ntmps16
    go_wp2_with fail
    generalize w.alloc (.cells #[.int .i64 k, .int .i64 nn, .string t, .slice a l.length c] 24) = W1 at *
    refine HF.out.mono ?_
    rintro e W2 ⟨rfl, hb2⟩
    go_wp2
    go_ret
    exact ⟨rfl, hBE.trans (hb2.mono hlt)⟩
set_option maxRecDepth 100000 in
set_option maxHeartbeats 4000000 in
theorem encode_A (S : Nat → Prop) : ∀ (v : Vl) (w : World), Rd S w v → (∀ b, S b → b < w.heap.size) → Env w →
    Calls Tryd.prog 12 #[v.val] w fun e w' => e = .returned (.tuple #[.string ⟨(encB v.er).toArray⟩, .int .i64 (encE v.er)]) ∧ Below w.heap.size w w'
  | .mk k nn t a c l, w, h, hS, hE => by
    have hB := boxed S w _ h
    have hBE := hB.below
    have hlt := hB.lt
    have F := check_any S (Vl.mk k nn t a c l) _ hB.rd
    have hWR : Hid (GoodD 64 (Vl.mk k nn t a c l).er → ∀ W B b bw, w.heap.size ≤ B → bw ≠ b → Rd S W (Vl.mk k nn t a c l) → Bld B b (Lib.byteCells []) W → B ≤ W.heap.size → EnvB B W → W.heap[bw]? = some (.cells #[wriFn b bw] 25 (0, 0)) → _) := fun hg W B b bw hB' hne hr ho hz he hw =>
      write_any b bw B hne 64 S (Vl.mk k nn t a c l) W [] (Nat.le_refl _) hg hr (fun x hx => Nat.lt_of_lt_of_le (hS x hx) hB') ho (by simp) hz he hw
    have hE1 : EnvB w.heap.size _ := (EnvB.of hE).below hBE
    have hrd1 := h.below hBE
    change EnvB w.heap.size (w.alloc (.cells #[.int .i64 k, .int .i64 nn, .string t, .slice a l.length c] 24)) at hE1
    change Rd S (w.alloc (.cells #[.int .i64 k, .int .i64 nn, .string t, .slice a l.length c] 24)) _ at hrd1
    change Boxed S w (w.alloc (.cells #[.int .i64 k, .int .i64 nn, .string t, .slice a l.length c] 24)) _ _ at hB
    change Below _ w (w.alloc (.cells #[.int .i64 k, .int .i64 nn, .string t, .slice a l.length c] 24)) at hBE
    change w.heap.size ≤ (w.alloc (.cells #[.int .i64 k, .int .i64 nn, .string t, .slice a l.length c] 24)).heap.size at hlt
    have HF := Lib.hid F
    dsimp only [Vl.val, Vl.cells, Vl.kind, Vl.num, Vl.text, Vl.sl, Vl.addr, Vl.items, Vl.cap] at HF hWR
    have hgood : Hid (chkV (Vl.mk k nn t a c l).er = 0 → GoodD 64 (Vl.mk k nn t a c l).er) := chkV_good
    have hb0 : Hid (encB (Vl.mk k nn t a c l).er = if chkV (Vl.mk k nn t a c l).er = 0 ∧ (encV (Vl.mk k nn t a c l).er).length ≤ 1048576 then encV (Vl.mk k nn t a c l).er else []) := rfl
    have he0 : Hid (encE (Vl.mk k nn t a c l).er = if chkV (Vl.mk k nn t a c l).er ≠ 0 then chkV (Vl.mk k nn t a c l).er else if 1048576 < (encV (Vl.mk k nn t a c l).er).length then 4 else 0) := rfl
    have HRD := Lib.hid hrd1
    clear F h hS hE hrd1
    change Calls _ _ #[.agg #[.int .i64 k, .int .i64 nn, .string t, .slice a l.length c]] _ _
    generalize encB (Vl.mk k nn t a c l).er = RB at *
    generalize encE (Vl.mk k nn t a c l).er = RE at *
    generalize chkV (Vl.mk k nn t a c l).er = C at *
    by_cases hc : C = 0
    · subst hc
      have A2 := Lib.hid (hWR.out (hgood.out rfl))
      generalize encV (Vl.mk k nn t a c l).er = EV at *
      clear hWR hgood
      go_enter Tryd.func12, Tryd.ntmps12
      go_wp2_with fail
      generalize w.alloc (.cells #[.int .i64 k, .int .i64 nn, .string t, .slice a l.length c] 24) = W1 at *
      refine HF.out.mono ?_
      rintro e W2 ⟨rfl, hb2⟩
      have hB2 := hB.later hb2
      obtain ⟨c1, c2, c3, c4⟩ := hB2.at_
      change W2.cell? ⟨w.heap.size, 0, none⟩ = some (.int .i64 k) at c1
      change W2.cell? ⟨w.heap.size, 1, none⟩ = some (.int .i64 nn) at c2
      change W2.cell? ⟨w.heap.size, 2, none⟩ = some (.string t) at c3
      change W2.cell? ⟨w.heap.size, 3, none⟩ = some (.slice a l.length c) at c4
      have hbw2 := hB2.below
      have hsw2 := hB2.lt
      have hrd2 := HRD.out.below hb2
      have hE2 := hE1.below (hb2.mono hlt)
      have hb3 : Below W2.heap.size W2 (W2.alloc (.cells #[.pointer none, .slice none 0 0] 50)) := (Below.refl _ _).alloc (Nat.le_refl _) _
      have hb4 : Below W2.heap.size W2 ((W2.alloc (.cells #[.pointer none, .slice none 0 0] 50)).alloc (.cells #[wriFn W2.heap.size (W2.heap.size + 1)] 25)) := hb3.alloc hb3.size _
      obtain ⟨d1, d2, d3, d4⟩ := (hB.later (hb2.trans (hb4.mono hb2.size))).at_
      change ((W2.alloc (.cells #[.pointer none, .slice none 0 0] 50)).alloc (.cells #[wriFn W2.heap.size (W2.heap.size + 1)] 25)).cell? ⟨w.heap.size, 0, none⟩ = some (.int .i64 k) at d1
      change ((W2.alloc (.cells #[.pointer none, .slice none 0 0] 50)).alloc (.cells #[wriFn W2.heap.size (W2.heap.size + 1)] 25)).cell? ⟨w.heap.size, 1, none⟩ = some (.int .i64 nn) at d2
      change ((W2.alloc (.cells #[.pointer none, .slice none 0 0] 50)).alloc (.cells #[wriFn W2.heap.size (W2.heap.size + 1)] 25)).cell? ⟨w.heap.size, 2, none⟩ = some (.string t) at d3
      change ((W2.alloc (.cells #[.pointer none, .slice none 0 0] 50)).alloc (.cells #[wriFn W2.heap.size (W2.heap.size + 1)] 25)).cell? ⟨w.heap.size, 3, none⟩ = some (.slice a l.length c) at d4
      have ho : Bld W2.heap.size W2.heap.size (Lib.byteCells []) ((W2.alloc (.cells #[.pointer none, .slice none 0 0] 50)).alloc (.cells #[wriFn W2.heap.size (W2.heap.size + 1)] 25)) := by
        refine .inl ⟨Nat.le_refl _, .slice none 0 0, ?_, World.ownsRow_nil _ _ _ _, by simp [Value.ownBlock]⟩
        rw [Below.heap_alloc _ _ _ (by simp)]; exact World.alloc_heap_new _ _
      have A3 := A2.out _ W2.heap.size W2.heap.size (W2.heap.size + 1) (hsw2) (by omega) (hrd2.below hb4) ho hb4.size ((EnvB.mono (B' := W2.heap.size) hE2 (hsw2)).below hb4) (by rw [show W2.heap.size + 1 = (W2.alloc (.cells #[.pointer none, .slice none 0 0] 50)).heap.size by simp]; exact World.alloc_heap_new _ _)
      have HA3 := Lib.hid A3
      clear A2 A3 hb2 hB2 hB HF hBE hlt
      go_wp2_with fail
      have hsW4 := hb4.size
      generalize ((W2.alloc (.cells #[.pointer none, .slice none 0 0] 50)).alloc (.cells #[wriFn W2.heap.size (W2.heap.size + 1)] 25)) = W4 at *
      refine HA3.out.mono ?_
      rintro e W5 ⟨ok, r, rfl, o5, b5, k5, h5, h6⟩
      have hbT := hbw2.trans ((hb4.mono hsw2).trans (b5.mono hsw2))
      by_cases hM : EV.length ≤ 1048576
      · obtain ⟨rfl, hr5⟩ := h5 (by simpa using hM)
        have R1 : Hid (RB = r ∧ RE = 0) := ⟨by rw [hb0.out, hr5]; simp [hM], by rw [he0.out]; simp; omega⟩
        have ST := Tryd.Builder_String_any W2.heap.size W2.heap.size r W5 o5 (Nat.le_trans hsW4 k5.1)
        have HST := Lib.hid ST
        clear ST h5 h6 hr5 hM HA3
        go_wp2_with (go_at_call 38; refine HST.out.mono ?_; rintro e w6 ⟨rfl, b6⟩)
        go_ret2
        exact ⟨by rw [R1.out.1, R1.out.2]; rfl, hbT.trans (b6.mono hsw2)⟩
      · obtain rfl := h6 (by simp; omega)
        have R1 : Hid (RB = [] ∧ RE = 4) := ⟨by rw [hb0.out]; simp [hM], by rw [he0.out]; simp; omega⟩
        clear h5 h6 hM HA3
        go_wp2
        go_ret2
        exact ⟨by rw [R1.out.1, R1.out.2]; rfl, hbT⟩
    · have R1 : Hid (RB = [] ∧ RE = C) := ⟨by rw [hb0.out, if_neg (fun h => hc h.1)], by rw [he0.out, if_pos hc]⟩
      have dc : ((C : Int) != 0) = true := by simp [hc]
      clear hWR hgood hc hb0 he0
      go_enter Tryd.func12, Tryd.ntmps12
      go_wp2_with fail
      generalize w.alloc (.cells #[.int .i64 k, .int .i64 nn, .string t, .slice a l.length c] 24) = W1 at *
      refine HF.out.mono ?_
      rintro e W2 ⟨rfl, hb2⟩
      go_wp2
      go_ret2
      exact ⟨by rw [R1.out.1, R1.out.2]; rfl, hBE.trans (hb2.mono hlt)⟩
end Go.Proofs.YtancjkaoocgeeaaDoor
