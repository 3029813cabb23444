/- pairwise.check: two sources, with the costs of their gaps. -/
import Derived.Test.YtaelfjlmkgimhaaGreatDoorPCol
import Derived.Test.YtaelfjlmkgimhaaGreatDoorEPut
import Derived.Deep.RegionWith
set_option linter.unusedVariables false
set_option linter.unusedSimpArgs false
namespace Go.Proofs.YtaelfjlmkgimhaaGreatDoor
open Go.RowKit

/-- The costs of the gaps beside tokens. -/
def gL (c : Cst) (l : List Tok) : List Int := l.map fun t => (gT c t : Int)
theorem take_gap (c : Cst) {l : List Tok} {j : Nat} {t : Tok} (h : l[j]? = some t) : (gL c l).take (j + 1) = (gL c l).take j ++ [(gT c t : Int)] := by
  rw [List.take_add_one]; simp [gL, h]
/-- The box of the sources, while the costs of their gaps are found. -/
structure St (c : Cst) (a b : Option Addr) (n m cp cq sb : Nat) (w : World) (ga gb : Option Addr) (na nb gc gd : Nat) (la lb : List Int) : Prop where
  box : w.heap[sb]? = some (.cells #[.int .i64 c.g, .int .i64 c.n, .int .i64 c.l, .int .i64 c.m, .slice a n cp, .slice b m cq, .slice ga na gc, .slice gb nb gd] 60 (0, 0))
  own1 : OwnQ 3 1 encI w (sb + 1) ga na gc la
  own2 : OwnQ 3 1 encI w (sb + 1) gb nb gd lb
  ap : Apart ga gb
theorem St.below {c : Cst} {a b : Option Addr} {n m cp cq sb : Nat} {w w' : World} {ga gb : Option Addr} {na nb gc gd : Nat} {la lb : List Int} (h : St c a b n m cp cq sb w ga gb na nb gc gd la lb) (hb : Below w.heap.size w w') : St c a b n m cp cq sb w' ga gb na nb gc gd la lb :=
  ⟨by rw [hb.block _ (Array.getElem?_eq_some_iff.1 h.box).1]; exact h.box, h.own1.below hb, h.own2.below hb, h.ap⟩
theorem St.put1 {c : Cst} {a b : Option Addr} {n m cp cq sb : Nat} {w w5 : World} {ga gb a5 : Option Addr} {na nb gc gd n5 c5 : Nat} {la lb l5 : List Int} (h : St c a b n m cp cq sb w ga gb na nb gc gd la lb)
    (ho : OwnQ 3 1 encI w5 (sb + 1) a5 n5 c5 l5) (hb : Below (sb + 1) w w5) (hg : w.grownBy w5 (Value.slice ga na gc).ownBlock) (hv : (Value.slice a5 n5 c5).ownBlock = (Value.slice ga na gc).ownBlock ∨ (Value.slice a5 n5 c5).ownBlock = some w.heap.size) :
    St c a b n m cp cq sb (w5.setCell ⟨sb, 6, none⟩ (.slice a5 n5 c5)) a5 gb n5 nb c5 gd l5 lb := by
  have hbx : w5.heap[sb]? = _ := (hb.block sb (by omega)).trans h.box
  have hgb : ∀ x, gb = some x → x.block < w.heap.size := fun x hx => (h.own2.lt x hx).2
  refine ⟨by rw [heap_setCell_self hbx]; rfl, ho.same fun x hx => heap_setCell_other (fun e => by have := (ho.lt x hx).1; omega) _, ?_, ?_⟩
  · have h2 := h.own2.kept hg (fun x hx e => by
      cases hga : ga with
      | none => subst hga; cases e
      | some y => subst hga; exact h.ap y x rfl hx (Option.some.inj e).symm)
    exact h2.same fun x hx => heap_setCell_other (fun e => by have := (h2.lt x hx).1; omega) _
  · intro x y hx hy e
    subst hx
    rcases hv with q | q
    · cases hga : ga with
      | none => subst hga; cases q
      | some z => subst hga; exact h.ap z y rfl hy (by rw [← e]; exact (Option.some.inj q).symm)
    · have := hgb y hy
      have := Option.some.inj q
      omega
theorem St.put2 {c : Cst} {a b : Option Addr} {n m cp cq sb : Nat} {w w5 : World} {ga gb a5 : Option Addr} {na nb gc gd n5 c5 : Nat} {la lb l5 : List Int} (h : St c a b n m cp cq sb w ga gb na nb gc gd la lb)
    (ho : OwnQ 3 1 encI w5 (sb + 1) a5 n5 c5 l5) (hb : Below (sb + 1) w w5) (hg : w.grownBy w5 (Value.slice gb nb gd).ownBlock) (hv : (Value.slice a5 n5 c5).ownBlock = (Value.slice gb nb gd).ownBlock ∨ (Value.slice a5 n5 c5).ownBlock = some w.heap.size) :
    St c a b n m cp cq sb (w5.setCell ⟨sb, 7, none⟩ (.slice a5 n5 c5)) ga a5 na n5 gc c5 la l5 := by
  have hbx : w5.heap[sb]? = _ := (hb.block sb (by omega)).trans h.box
  have hgb : ∀ x, ga = some x → x.block < w.heap.size := fun x hx => (h.own1.lt x hx).2
  refine ⟨by rw [heap_setCell_self hbx]; rfl, ?_, ho.same fun x hx => heap_setCell_other (fun e => by have := (ho.lt x hx).1; omega) _, ?_⟩
  · have h2 := h.own1.kept hg (fun x hx e => by
      cases hga : gb with
      | none => subst hga; cases e
      | some y => subst hga; exact h.ap x y hx rfl (Option.some.inj e))
    exact h2.same fun x hx => heap_setCell_other (fun e => by have := (h2.lt x hx).1; omega) _
  · intro y x hy hx e
    subst hx
    rcases hv with q | q
    · cases hga : gb with
      | none => subst hga; cases q
      | some z => subst hga; exact h.ap y z hy rfl (by rw [e]; exact Option.some.inj q)
    · have := hgb y hy
      have := Option.some.inj q
      omega
abbrev put8 (W : World) (b : Nat) (d0 d1 d2 d3 d4 d5 d6 d7 : Value) : World := (((((((W.setCell ⟨b, 0, none⟩ d0).setCell ⟨b, 1, none⟩ d1).setCell ⟨b, 2, none⟩ d2).setCell ⟨b, 3, none⟩ d3).setCell ⟨b, 4, none⟩ d4).setCell ⟨b, 5, none⟩ d5).setCell ⟨b, 6, none⟩ d6).setCell ⟨b, 7, none⟩ d7
theorem put8_at {W : World} {b : Nat} {c0 c1 c2 c3 c4 c5 c6 c7 : Value} {t : TypeId} {fr : Nat × Nat} (h : W.heap[b]? = some (.cells #[c0, c1, c2, c3, c4, c5, c6, c7] t fr)) (d0 d1 d2 d3 d4 d5 d6 d7 : Value) : (put8 W b d0 d1 d2 d3 d4 d5 d6 d7).heap[b]? = some (.cells #[d0, d1, d2, d3, d4, d5, d6, d7] t fr) := by
  have h0 := heap_set_at (j := 0) h d0
  have h1 := heap_set_at (j := 1) h0 d1
  have h2 := heap_set_at (j := 2) h1 d2
  have h3 := heap_set_at (j := 3) h2 d3
  have h4 := heap_set_at (j := 4) h3 d4
  have h5 := heap_set_at (j := 5) h4 d5
  have h6 := heap_set_at (j := 6) h5 d6
  have h7 := heap_set_at (j := 7) h6 d7
  rw [h7]; simp
theorem put8_other {W : World} {b b' : Nat} (hb : b' ≠ b) (d0 d1 d2 d3 d4 d5 d6 d7 : Value) : (put8 W b d0 d1 d2 d3 d4 d5 d6 d7).heap[b']? = W.heap[b']? := by
  have hh : ∀ (W : World) (j : Nat) (v : Value), (W.setCell ⟨b, j, none⟩ v).heap[b']? = W.heap[b']? := fun W j v => Below.heap_setCell _ _ _ _ (by simpa using hb)
  rw [hh, hh, hh, hh, hh, hh, hh, hh]
theorem put8_below {n : Nat} {A W : World} (h : Below n A W) {b : Nat} (hb : n ≤ b) (d0 d1 d2 d3 d4 d5 d6 d7 : Value) : Below n A (put8 W b d0 d1 d2 d3 d4 d5 d6 d7) :=
  (((((((h.setCell (p := ⟨b, 0, none⟩) hb _).setCell (p := ⟨b, 1, none⟩) hb _).setCell (p := ⟨b, 2, none⟩) hb _).setCell (p := ⟨b, 3, none⟩) hb _).setCell (p := ⟨b, 4, none⟩) hb _).setCell (p := ⟨b, 5, none⟩) hb _).setCell (p := ⟨b, 6, none⟩) hb _).setCell (p := ⟨b, 7, none⟩) hb _
theorem gL_nums {c : Cst} (hc : c.ok) {l : List Tok} {W : World} {B : Nat} {a : Option Addr} {n cp n0 : Nat} (h : OwnQ 3 1 encI W B a n cp (gL c l)) (hn : l.length ≤ 1000000) (hB : n0 ≤ B) : Nums (fun b => n0 ≤ b) W a n cp (gL c l) :=
  h.sq (R := rInt) (fun _ => rfl) (by have := h.len; simp [gL] at this; omega) (fun x hx => Nat.le_trans hB (h.lt x hx).1) (fun x hx => ⟨rfl, by
    obtain ⟨t, -, rfl⟩ := List.mem_map.1 hx
    have := gT_le hc t
    exact ⟨by omega, by omega⟩⟩)
theorem box8 {W : World} {b : Nat} {c0 c1 c2 c3 c4 c5 c6 c7 : Value} {t : TypeId} (h : W.heap[b]? = some (.cells #[c0, c1, c2, c3, c4, c5, c6, c7] t (0, 0))) :
    W.cell? ⟨b, 0, none⟩ = some c0 ∧ W.cell? ⟨b, 1, none⟩ = some c1 ∧ W.cell? ⟨b, 2, none⟩ = some c2 ∧ W.cell? ⟨b, 3, none⟩ = some c3 ∧ W.cell? ⟨b, 4, none⟩ = some c4 ∧ W.cell? ⟨b, 5, none⟩ = some c5 ∧ W.cell? ⟨b, 6, none⟩ = some c6 ∧ W.cell? ⟨b, 7, none⟩ = some c7 ∧ ∀ j, W.frozen? ⟨b, j, none⟩ = false :=
  ⟨by rw [Lib.cell_of_heap h]; rfl, by rw [Lib.cell_of_heap h]; rfl, by rw [Lib.cell_of_heap h]; rfl, by rw [Lib.cell_of_heap h]; rfl, by rw [Lib.cell_of_heap h]; rfl, by rw [Lib.cell_of_heap h]; rfl, by rw [Lib.cell_of_heap h]; rfl, by rw [Lib.cell_of_heap h]; rfl, fun j => Lib.frozen_of_heap h j⟩
set_option maxRecDepth 100000 in
theorem two_0 (W : World) (a b : Option Addr) (n m cp cq : Nat) : (Instr.index 90 (.agg #[.slice a n cp, .slice b m cq]) (.int .i64 0)).run Tryz.prog W = .ok (.slice a n cp) W := by kernel_rfl
set_option maxRecDepth 100000 in
theorem two_1 (W : World) (a b : Option Addr) (n m cp cq : Nat) : (Instr.index 90 (.agg #[.slice a n cp, .slice b m cq]) (.int .i64 1)).run Tryz.prog W = .ok (.slice b m cq) W := by kernel_rfl
theorem infoI : (Tryz.prog.info? 3).map (fun i => (i.zero, i.size, i.bytes)) = some (some (.int .i64 0), 1, 8) := by kernel_rfl
set_option maxRecDepth 100000 in
set_option maxHeartbeats 4000000 in
theorem pcheck_any (S S2 : Nat → Prop) (c : Cst) (l r : List Tok) (a b : Option Addr) (n m cp cq : Nat) (w : World) (hl : Toks S w a n cp l) (hr : Toks S2 w b m cq r) (hn : n ≤ 32) (hm : m ≤ 32) (hc : c.ok)
    (hvl : ∀ t ∈ l, t.err = 0) (hvr : ∀ t ∈ r, t.err = 0) (hE : Env w) :
    Calls Tryz.prog 27 #[c.val, .slice a n cp, .slice b m cq] w fun e w' => ∃ ga gc gb gd, e = .returned (.tuple #[.agg #[.int .i64 c.g, .int .i64 c.n, .int .i64 c.l, .int .i64 c.m, .slice a n cp, .slice b m cq, .slice ga n gc, .slice gb m gd], .int .i64 0]) ∧
      Nums (fun b => w.heap.size ≤ b) w' ga n gc (gL c l) ∧ Nums (fun b => w.heap.size ≤ b) w' gb m gd (gL c r) ∧ Below w.heap.size w w' := by
  have HC := Lib.hid (fun W => ccheck_any c W hc)
  have HTL := Lib.hid (fun W (hW : Below w.heap.size w W) => contains_pairw S a n cp l W (hl.below rTok_ok hW) (fun t ht V hV => bad_pairw t V (hvl t ht) ((hE.below hW).below hV)))
  have HTR := Lib.hid (fun W (hW : Below w.heap.size w W) => contains_pairw S2 b m cq r W (hr.below rTok_ok hW) (fun t ht V hV => bad_pairw t V (hvr t ht) ((hE.below hW).below hV)))
  obtain ⟨cg, cn, cl, cm⟩ := c
  dsimp only [Cst.val, Cst.arr] at HC
  have HB : Hid (w.heap.size ≤ (((w.alloc (.cells #[.int .i64 cg, .int .i64 cn, .int .i64 cl, .int .i64 cm] 23)).alloc (.cells #[.int .i64 0, .int .i64 0, .int .i64 0, .int .i64 0, .slice none 0 0, .slice none 0 0, .slice none 0 0, .slice none 0 0] 60))).heap.size ∧ Below w.heap.size w ((w.alloc (.cells #[.int .i64 cg, .int .i64 cn, .int .i64 cl, .int .i64 cm] 23)).alloc (.cells #[.int .i64 0, .int .i64 0, .int .i64 0, .int .i64 0, .slice none 0 0, .slice none 0 0, .slice none 0 0, .slice none 0 0] 60))) := ⟨by simp; omega, ((Below.refl _ _).alloc (Nat.le_refl _) _).alloc (by simp) _⟩
  have HLL := Lib.hid hl
  have HRR := Lib.hid hr
  have HV := Lib.hid (And.intro hvl (And.intro hvr (And.intro hE hc)))
  clear hl hr hvl hvr hE hc
  change Calls _ _ #[.agg #[.int .i64 cg, .int .i64 cn, .int .i64 cl, .int .i64 cm], _, _] _ _
  go_enter Tryz.func27, Tryz.ntmps27
  have hX := atC_new w #[.int .i64 cg, .int .i64 cn, .int .i64 cl, .int .i64 cm] 23
  have hY := World.alloc_heap_new (w.alloc (.cells #[.int .i64 cg, .int .i64 cn, .int .i64 cl, .int .i64 cm] 23)) (.cells #[.int .i64 0, .int .i64 0, .int .i64 0, .int .i64 0, .slice none 0 0, .slice none 0 0, .slice none 0 0, .slice none 0 0] 60)
  have hb1 : Below (w.alloc (.cells #[.int .i64 cg, .int .i64 cn, .int .i64 cl, .int .i64 cm] 23)).heap.size (w.alloc (.cells #[.int .i64 cg, .int .i64 cn, .int .i64 cl, .int .i64 cm] 23)) ((w.alloc (.cells #[.int .i64 cg, .int .i64 cn, .int .i64 cl, .int .i64 cm] 23)).alloc (.cells #[.int .i64 0, .int .i64 0, .int .i64 0, .int .i64 0, .slice none 0 0, .slice none 0 0, .slice none 0 0, .slice none 0 0] 60)) := (Below.refl _ _).alloc (Nat.le_refl _) _
  have hz1 : (w.alloc (.cells #[.int .i64 cg, .int .i64 cn, .int .i64 cl, .int .i64 cm] 23)).heap.size = w.heap.size + 1 := by simp
  have hsA : (((w.alloc (.cells #[.int .i64 cg, .int .i64 cn, .int .i64 cl, .int .i64 cm] 23)).alloc (.cells #[.int .i64 0, .int .i64 0, .int .i64 0, .int .i64 0, .slice none 0 0, .slice none 0 0, .slice none 0 0, .slice none 0 0] 60))).heap.size = w.heap.size + 2 := by simp
  replace hX := hX.below (by omega) hb1
  rw [hz1] at hY
  have hX' := Lib.hid hX
  have HAC := hX'
  have HAR := Lib.hid hY
  clear hb1 hz1 hX hY
  generalize hWA : ((w.alloc (.cells #[.int .i64 cg, .int .i64 cn, .int .i64 cl, .int .i64 cm] 23)).alloc (.cells #[.int .i64 0, .int .i64 0, .int .i64 0, .int .i64 0, .slice none 0 0, .slice none 0 0, .slice none 0 0, .slice none 0 0] 60)) = WA at *
  have HBA := HB
  have HKA : Hid (Below WA.heap.size WA WA) := Below.refl _ _
  have a0 := HAC.out 0 _ rfl
  have a1 := HAC.out 1 _ rfl
  have a2 := HAC.out 2 _ rfl
  have a3 := HAC.out 3 _ rfl
  go_wp2_with (first | (go_at_call 45; refine (HC.out _).mono ?_; rintro e w1 ⟨rfl, hb1⟩; replace HB := belowH HB hb1; replace HKA := Lib.hid (HKA.out.trans (hb1.mono HKA.out.size)); clear hb1) | (go_at_call_of 16 (Value.slice a n cp); refine (HTL.out _ HB.out.2).mono ?_; rintro e w2 ⟨rfl, hb2⟩; replace HB := belowH HB hb2; replace HKA := Lib.hid (HKA.out.trans (hb2.mono HKA.out.size)); clear hb2))
  refine (HTR.out _ HB.out.2).mono ?_
  rintro e w3 ⟨rfl, hb3⟩
  have hcc := HAC.out.below (by omega) (HKA.out.trans (hb3.mono HKA.out.size))
  clear a0 a1 a2 a3
  have a0 := hcc 0 _ rfl
  have a1 := hcc 1 _ rfl
  have a2 := hcc 2 _ rfl
  have a3 := hcc 3 _ rfl
  replace HB := belowH HB hb3
  replace HKA := Lib.hid (HKA.out.trans (hb3.mono HKA.out.size))
  clear hb3 hcc
  clear hWA
  obtain ⟨Q, hQ, hQ2⟩ : ∃ Q : Nat, wrap64 (((n : Int) + 1) * ((m : Int) + 1)) = (Q : Int) ∧ Q ≤ 1089 := by
    have h1 : (n + 1) * (m + 1) ≤ 33 * 33 := Nat.mul_le_mul (by omega) (by omega)
    refine ⟨(n + 1) * (m + 1), ?_, h1⟩
    have e : ((n : Int) + 1) * ((m : Int) + 1) = (((n + 1) * (m + 1) : Nat) : Int) := by push_cast; rfl
    rw [e]
    have h2 := IntKind.wrap_i64 (((n + 1) * (m + 1) : Nat) : Int)
    unfold wrap64
    omega
  have t1 : decide ((n : Int) ≥ 1048576) = false := decide_eq_false (by omega)
  have t2 : decide ((m : Int) ≥ 1048576) = false := decide_eq_false (by omega)
  have t3 : decide (1048576 ≤ n) = false := decide_eq_false (by omega)
  have t4 : decide (1048576 ≤ m) = false := decide_eq_false (by omega)
  have t5 : decide (1048576 ≤ (n : Int)) = false := decide_eq_false (by omega)
  have t6 : decide (1048576 ≤ (m : Int)) = false := decide_eq_false (by omega)
  have t7 : decide (1048576 < (Q : Int)) = false := decide_eq_false (by omega)
  have t8 : decide (1048576 < Q) = false := decide_eq_false (by omega)
  have t9 : decide ((Q : Int) > 1048576) = false := decide_eq_false (by omega)
  go_wp2_with (fail)
  have hK1 := HKA.out
  have hst0 : St ⟨cg, cn, cl, cm⟩ a b n m cp cq w3.heap.size (w3.alloc (.cells #[.int .i64 cg, .int .i64 cn, .int .i64 cl, .int .i64 cm, .slice a n cp, .slice b m cq, .slice none 0 0, .slice none 0 0] 60)) none none 0 0 0 0 [] [] :=
    ⟨World.alloc_heap_new _ _, OwnQ.nil _ _ _ _ _, OwnQ.nil _ _ _ _ _, fun x y hx => by cases hx⟩
  have hk0 : Below WA.heap.size WA (w3.alloc (.cells #[.int .i64 cg, .int .i64 cn, .int .i64 cl, .int .i64 cm, .slice a n cp, .slice b m cq, .slice none 0 0, .slice none 0 0] 60)) := hK1.alloc hK1.size _
  have HSB : Hid (WA.heap.size ≤ w3.heap.size) := hK1.size
  have HBW : Hid (Below w.heap.size w WA) := HBA.out.2
  generalize hsb : w3.heap.size = sb at *
  clear a0 a1 a2 a3 hK1 t1 t2 t3 t4 t5 t6 t7 t8 t9 hQ HBA HB HKA
  go_loopw [56] (fun i wr => ∃ (z : Int) (k na nb : Nat) (ga gb : Option Addr) (gc gd : Nat), i = .int .i64 z ∧ z = k ∧ k ≤ 2 ∧ St ⟨cg, cn, cl, cm⟩ a b n m cp cq sb wr ga gb na nb gc gd (if 1 ≤ k then gL ⟨cg, cn, cl, cm⟩ l else []) (if 2 ≤ k then gL ⟨cg, cn, cl, cm⟩ r else []) ∧ Hid (Below WA.heap.size WA wr)) (fun i _ => 2 - (intOf i).toNat)
  case atStart => exact ⟨0, 0, 0, 0, none, none, 0, 0, rfl, rfl, by omega, hst0, hk0⟩
  case round =>
    clear hst0 hk0 hsb
    obtain ⟨z, k, na, nb, ga, gb, gc, gd, rfl, hz, hk2, hst, hkk⟩ := hrel
    have hk := hkk.out
    clear hkk
    have hk3 : k = 0 ∨ k = 1 ∨ k = 2 := by omega
    rcases hk3 with rfl | rfl | rfl
    · obtain rfl : z = 0 := by omega
      clear hz hk2
      rw [if_neg (by omega), if_neg (by omega)] at hst
      have hix := two_0 wr a b n m cp cq
      go_wp2_with (fail)
      go_loopw [62] (fun i wr => ∃ (j na nb : Nat) (ga gb : Option Addr) (gc gd : Nat), i = .int .i64 j ∧ j ≤ n ∧ St ⟨cg, cn, cl, cm⟩ a b n m cp cq sb wr ga gb na nb gc gd ((gL ⟨cg, cn, cl, cm⟩ l).take j) [] ∧ Hid (Below WA.heap.size WA wr)) (fun i _ => n - (intOf i).toNat)
      case atStart => exact ⟨0, na, nb, ga, gb, gc, gd, rfl, Nat.zero_le _, by first | exact hst | simpa using hst, hk⟩
      case round =>
        clear hst hk hix
        obtain ⟨j, na, nb, ga, gb, gc, gd, rfl, hj, hst, hk⟩ := hrel
        have hkw := HBW.out.trans (hk.out.mono HBW.out.size)
        by_cases hjl : j < n
        · obtain ⟨t, bt, off, hu, hmem, ea, -, hbl, htk, ⟨d0, d1, d2, d3, d4, d5⟩⟩ := (HLL.out.below rTok_ok hkw).tok hjl
          subst ea
          have HGA := Lib.hid (fun W (hW : Below w.heap.size w W) => tGap_any ⟨cg, cn, cl, cm⟩ t W HV.out.2.2.2 (HV.out.1 t hmem) htk (HV.out.2.2.1.below hW))
          have HTK := Lib.hid (take_gap ⟨cg, cn, cl, cm⟩ hu)
          have hgb := gT_le (c := ⟨cg, cn, cl, cm⟩) HV.out.2.2.2 t
          generalize gT ⟨cg, cn, cl, cm⟩ t = V at *
          clear hu hmem htk
          obtain ⟨tx, nm, pg, ln, fl, nme⟩ := t
          dsimp only [Tok.val] at d0 d1 d2 d3 d4 d5 HGA
          have hb2 : Below wr.heap.size wr (wr.alloc (.cells #[.string tx, .string nm, .string pg, .int .i64 ln, .int .i64 fl, .string nme] 47)) := (Below.refl _ _).alloc (Nat.le_refl _) _
          have hcc := HAC.out.below (B := WA.heap.size) (by omega) (hk.out.trans (hb2.mono hk.out.size))
          have a0 := hcc 0 _ rfl
          have a1 := hcc 1 _ rfl
          have a2 := hcc 2 _ rfl
          have a3 := hcc 3 _ rfl
          have HS2 := Lib.hid (hst.below hb2)
          have HK2 := Lib.hid (hk.out.trans (hb2.mono hk.out.size))
          clear hcc hst hb2 hk hkw
          go_wp2_with (fail)
          refine (HGA.out _ (HBW.out.trans (HK2.out.mono HBW.out.size))).mono ?_
          rintro e w4 ⟨rfl, hb4⟩
          have hst := HS2.out.below hb4
          have HK := Lib.hid (HK2.out.trans (hb4.mono HK2.out.size))
          clear a0 a1 a2 a3 HS2 HK2 hb4 d0 d1 d2 d3 d4 d5 HGA
          have hnl : na = j := by have := hst.own1.len; simpa [gL, Nat.min_eq_left (show j ≤ l.length by rw [← HLL.out.len]; omega)] using this
          subst hnl
          have hb5 : Below w4.heap.size w4 (w4.alloc (.cells #[.int .i64 (V : Int)] 3)) := (Below.refl _ _).alloc (Nat.le_refl _) _
          have x6 := (box8 hst.box).2.2.2.2.2.2.1
          have hsb4 := (Array.getElem?_eq_some_iff.1 hst.box).1
          have HS5 := Lib.hid (hst.below hb5)
          have HL5 : Hid (∀ j u, (([(V : Int)] : List Int).flatMap encI)[j]? = some u → (w4.alloc (.cells #[.int .i64 (V : Int)] 3)).cell? ((⟨w4.heap.size, 0, none⟩ : Addr).add j) = some u) := fun j u hj => lit_cells (w := w4) (e := 3) (cs := #[.int .i64 (V : Int)]) (j := j) (u := u) (by exact hj)
          have hB9 : sb + 1 ≤ (w4.alloc (.cells #[.int .i64 (V : Int)] 3)).heap.size := by simp; omega
          have HI := infoI
          clear hst hb5
          go_wp2_with (
            at_builtin
            refine wpList_appQ (w0 := w4.alloc (.cells #[.int .i64 (V : Int)] 3)) (l := (gL ⟨cg, cn, cl, cm⟩ l).take na) (ys := [(V : Int)]) HI Tryz.underlying27 rfl (by omega) (fun _ => rfl) one_i rfl _ _ rfl rfl rfl HS5.out.own1 rfl HL5.out (by unfold maxLen; omega) (by omega) hB9 (Below.refl _ _) ?_
            intro a5 c5 w5 ho5 hb6 hg5 hv5
            have hst := HS5.out.put1 ho5 hb6 hg5 hv5
            rw [← HTK.out] at hst
            have hk := Lib.hid (below_setc ((HK.out.trans (((Below.refl w4.heap.size w4).alloc (Nat.le_refl _) (.cells #[.int .i64 (V : Int)] 3)).mono HK.out.size)).trans (hb6.mono (by have := HSB.out; omega))) (by have := HSB.out; omega) 6 (.slice a5 (na + 1) c5))
            have hbx := (hb6.block sb (by omega)).trans HS5.out.box
            have y6 := (box8 hbx).2.2.2.2.2.2.1
            have yf := (box8 hbx).2.2.2.2.2.2.2.2 6
            have HST := Lib.hid hst
            clear HS5 HL5 hbx hb6 ho5 hg5 hv5 x6 hst)
          go_roundw
          case rel => exact ⟨na + 1, _, _, _, _, _, _, by go_num, by omega, HST.out, hk⟩
          case measure => simp [intOf]; omega
        · obtain rfl : j = n := by omega
          have hfull : (gL ⟨cg, cn, cl, cm⟩ l).take j = gL ⟨cg, cn, cl, cm⟩ l := List.take_of_length_le (by simp [gL]; rw [← HLL.out.len]; omega)
          rw [hfull] at hst
          have HST := Lib.hid hst
          clear hfull hst
          go_wp2_with (fail)
          go_roundw
          case rel => exact ⟨1, 1, _, _, _, _, _, _, by go_num, rfl, by omega, by simpa using HST.out, hk⟩
          case measure => simp [intOf]
    · obtain rfl : z = 1 := by omega
      clear hz hk2
      rw [if_pos (by omega), if_neg (by omega)] at hst
      have hix := two_1 wr a b n m cp cq
      go_wp2_with (fail)
      go_loopw [62] (fun i wr => ∃ (j na nb : Nat) (ga gb : Option Addr) (gc gd : Nat), i = .int .i64 j ∧ j ≤ m ∧ St ⟨cg, cn, cl, cm⟩ a b n m cp cq sb wr ga gb na nb gc gd (gL ⟨cg, cn, cl, cm⟩ l) ((gL ⟨cg, cn, cl, cm⟩ r).take j) ∧ Hid (Below WA.heap.size WA wr)) (fun i _ => m - (intOf i).toNat)
      case atStart => exact ⟨0, na, nb, ga, gb, gc, gd, rfl, Nat.zero_le _, by first | exact hst | simpa using hst, hk⟩
      case round =>
        clear hst hk hix
        obtain ⟨j, na, nb, ga, gb, gc, gd, rfl, hj, hst, hk⟩ := hrel
        have hkw := HBW.out.trans (hk.out.mono HBW.out.size)
        by_cases hjl : j < m
        · obtain ⟨t, bt, off, hu, hmem, ea, -, hbl, htk, ⟨d0, d1, d2, d3, d4, d5⟩⟩ := (HRR.out.below rTok_ok hkw).tok hjl
          subst ea
          have HGA := Lib.hid (fun W (hW : Below w.heap.size w W) => tGap_any ⟨cg, cn, cl, cm⟩ t W HV.out.2.2.2 (HV.out.2.1 t hmem) htk (HV.out.2.2.1.below hW))
          have HTK := Lib.hid (take_gap ⟨cg, cn, cl, cm⟩ hu)
          have hgb := gT_le (c := ⟨cg, cn, cl, cm⟩) HV.out.2.2.2 t
          generalize gT ⟨cg, cn, cl, cm⟩ t = V at *
          clear hu hmem htk
          obtain ⟨tx, nm, pg, ln, fl, nme⟩ := t
          dsimp only [Tok.val] at d0 d1 d2 d3 d4 d5 HGA
          have hb2 : Below wr.heap.size wr (wr.alloc (.cells #[.string tx, .string nm, .string pg, .int .i64 ln, .int .i64 fl, .string nme] 47)) := (Below.refl _ _).alloc (Nat.le_refl _) _
          have hcc := HAC.out.below (B := WA.heap.size) (by omega) (hk.out.trans (hb2.mono hk.out.size))
          have a0 := hcc 0 _ rfl
          have a1 := hcc 1 _ rfl
          have a2 := hcc 2 _ rfl
          have a3 := hcc 3 _ rfl
          have HS2 := Lib.hid (hst.below hb2)
          have HK2 := Lib.hid (hk.out.trans (hb2.mono hk.out.size))
          clear hcc hst hb2 hk hkw
          go_wp2_with (fail)
          refine (HGA.out _ (HBW.out.trans (HK2.out.mono HBW.out.size))).mono ?_
          rintro e w4 ⟨rfl, hb4⟩
          have hst := HS2.out.below hb4
          have HK := Lib.hid (HK2.out.trans (hb4.mono HK2.out.size))
          clear a0 a1 a2 a3 HS2 HK2 hb4 d0 d1 d2 d3 d4 d5 HGA
          have hnl : nb = j := by have := hst.own2.len; simpa [gL, Nat.min_eq_left (show j ≤ r.length by rw [← HRR.out.len]; omega)] using this
          subst hnl
          have hb5 : Below w4.heap.size w4 (w4.alloc (.cells #[.int .i64 (V : Int)] 3)) := (Below.refl _ _).alloc (Nat.le_refl _) _
          have x6 := (box8 hst.box).2.2.2.2.2.2.2.1
          have hsb4 := (Array.getElem?_eq_some_iff.1 hst.box).1
          have HS5 := Lib.hid (hst.below hb5)
          have HL5 : Hid (∀ j u, (([(V : Int)] : List Int).flatMap encI)[j]? = some u → (w4.alloc (.cells #[.int .i64 (V : Int)] 3)).cell? ((⟨w4.heap.size, 0, none⟩ : Addr).add j) = some u) := fun j u hj => lit_cells (w := w4) (e := 3) (cs := #[.int .i64 (V : Int)]) (j := j) (u := u) (by exact hj)
          have hB9 : sb + 1 ≤ (w4.alloc (.cells #[.int .i64 (V : Int)] 3)).heap.size := by simp; omega
          have HI := infoI
          clear hst hb5
          go_wp2_with (
            at_builtin
            refine wpList_appQ (w0 := w4.alloc (.cells #[.int .i64 (V : Int)] 3)) (l := (gL ⟨cg, cn, cl, cm⟩ r).take nb) (ys := [(V : Int)]) HI Tryz.underlying27 rfl (by omega) (fun _ => rfl) one_i rfl _ _ rfl rfl rfl HS5.out.own2 rfl HL5.out (by unfold maxLen; omega) (by omega) hB9 (Below.refl _ _) ?_
            intro a5 c5 w5 ho5 hb6 hg5 hv5
            have hst := HS5.out.put2 ho5 hb6 hg5 hv5
            rw [← HTK.out] at hst
            have hk := Lib.hid (below_setc ((HK.out.trans (((Below.refl w4.heap.size w4).alloc (Nat.le_refl _) (.cells #[.int .i64 (V : Int)] 3)).mono HK.out.size)).trans (hb6.mono (by have := HSB.out; omega))) (by have := HSB.out; omega) 7 (.slice a5 (nb + 1) c5))
            have hbx := (hb6.block sb (by omega)).trans HS5.out.box
            have y6 := (box8 hbx).2.2.2.2.2.2.2.1
            have yf := (box8 hbx).2.2.2.2.2.2.2.2 7
            have HST := Lib.hid hst
            clear HS5 HL5 hbx hb6 ho5 hg5 hv5 x6 hst)
          go_roundw
          case rel => exact ⟨nb + 1, _, _, _, _, _, _, by go_num, by omega, HST.out, hk⟩
          case measure => simp [intOf]; omega
        · obtain rfl : j = m := by omega
          have hfull : (gL ⟨cg, cn, cl, cm⟩ r).take j = gL ⟨cg, cn, cl, cm⟩ r := List.take_of_length_le (by simp [gL]; rw [← HRR.out.len]; omega)
          rw [hfull] at hst
          have HST := Lib.hid hst
          clear hfull hst
          go_wp2_with (fail)
          go_roundw
          case rel => exact ⟨2, 2, _, _, _, _, _, _, by go_num, rfl, by omega, by simpa using HST.out, hk⟩
          case measure => simp [intOf]
    · obtain rfl : z = 2 := by omega
      clear hz hk2
      rw [if_pos (by omega), if_pos (by omega)] at hst
      obtain ⟨x0, x1, x2, x3, x4, x5, x6, x7, xf⟩ := box8 hst.box
      have hR := (hk.block _ (by omega)).trans HAR.out
      obtain ⟨y0, y1, y2, y3, y4, y5, y6, y7, yf⟩ := box8 hR
      have yf0 := yf 0
      have yf1 := yf 1
      have yf2 := yf 2
      have yf3 := yf 3
      have yf4 := yf 4
      have yf5 := yf 5
      have yf6 := yf 6
      have yf7 := yf 7
      have HST := Lib.hid hst
      have HK := Lib.hid hk
      clear hst hk hR yf xf
      go_wp2_with (fail)
      have hR := (HK.out.block _ (by omega)).trans HAR.out
      have hRF := put8_at hR (.int .i64 cg) (.int .i64 cn) (.int .i64 cl) (.int .i64 cm) (.slice a n cp) (.slice b m cq) (.slice ga na gc) (.slice gb nb gd)
      have hbf : Below w.heap.size w (put8 wr (w.heap.size + 1) (.int .i64 cg) (.int .i64 cn) (.int .i64 cl) (.int .i64 cm) (.slice a n cp) (.slice b m cq) (.slice ga na gc) (.slice gb nb gd)) := put8_below (HBW.out.trans (HK.out.mono HBW.out.size)) (by omega) _ _ _ _ _ _ _ _
      have hSB := HSB.out
      have ho1 := HST.out.own1.same (w' := put8 wr (w.heap.size + 1) (.int .i64 cg) (.int .i64 cn) (.int .i64 cl) (.int .i64 cm) (.slice a n cp) (.slice b m cq) (.slice ga na gc) (.slice gb nb gd)) (fun x hx => put8_other (by have := (HST.out.own1.lt x hx).1; omega) _ _ _ _ _ _ _ _)
      have ho2 := HST.out.own2.same (w' := put8 wr (w.heap.size + 1) (.int .i64 cg) (.int .i64 cn) (.int .i64 cl) (.int .i64 cm) (.slice a n cp) (.slice b m cq) (.slice ga na gc) (.slice gb nb gd)) (fun x hx => put8_other (by have := (HST.out.own2.lt x hx).1; omega) _ _ _ _ _ _ _ _)
      have en : na = n := by have := HST.out.own1.len; rw [this, HLL.out.len]; simp [gL]
      have em : nb = m := by have := HST.out.own2.len; rw [this, HRR.out.len]; simp [gL]
      change bodyPost _ _ _ _ _ (put8 wr (w.heap.size + 1) (.int .i64 cg) (.int .i64 cn) (.int .i64 cl) (.int .i64 cm) (.slice a n cp) (.slice b m cq) (.slice ga na gc) (.slice gb nb gd))
      generalize put8 wr (w.heap.size + 1) (.int .i64 cg) (.int .i64 cn) (.int .i64 cl) (.int .i64 cm) (.slice a n cp) (.slice b m cq) (.slice ga na gc) (.slice gb nb gd) = WF at *
      obtain ⟨r0, r1, r2, r3, r4, r5, r6, r7, -⟩ := box8 hRF
      have hl1 : l.length ≤ 1000000 := by rw [← HLL.out.len]; omega
      have hl2 : r.length ≤ 1000000 := by rw [← HRR.out.len]; omega
      refine bodyPost_ret (v := .tuple #[.agg #[.int .i64 cg, .int .i64 cn, .int .i64 cl, .int .i64 cm, .slice a n cp, .slice b m cq, .slice ga na gc, .slice gb nb gd], .int .i64 0]) (by simp [results, Tryz.results27, go_sem, r0, r1, r2, r3, r4, r5, r6, r7]) rfl ?_
      rw [en] at ho1 ⊢
      rw [em] at ho2 ⊢
      exact ⟨ga, gc, gb, gd, rfl, gL_nums HV.out.2.2.2 ho1 hl1 (by omega), gL_nums HV.out.2.2.2 ho2 hl2 (by omega), hbf⟩
end Go.Proofs.YtaelfjlmkgimhaaGreatDoor
