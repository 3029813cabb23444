/- tokencost.check, Pair, Gap. -/
import Derived.Test.YtaelfjlmkgimhaaGreatDoorPTk3
set_option linter.unusedVariables false
set_option linter.unusedSimpArgs false
namespace Go.Proofs.YtaelfjlmkgimhaaGreatDoor
open Go.RowKit

set_option maxRecDepth 100000 in
set_option maxHeartbeats 2000000 in
theorem tcheck_any (S : Nat → Prop) (c : Cst) (l : List Tok) (a : Option Addr) (n cp : Nat) (w : World) (h : Toks S w a n cp l) (hc : c.ok) (hv : ∀ t ∈ l, t.err = 0) (hE : Env w) :
    Calls Tryz.prog 80 #[c.val, .slice a n cp] w fun e w' => e = .returned (.int .i64 0) ∧ Below w.heap.size w w' := by
  have HC := Lib.hid (fun W => ccheck_any c W hc)
  have HT := Lib.hid (fun W (hW : Below w.heap.size w W) => contains_tcost S a n cp l W (h.below rTok_ok hW) (fun t ht V hV => bad_tcost t V (hv t ht) ((hE.below hW).below hV)))
  obtain ⟨cg, cn, cl, cm⟩ := c
  dsimp only [Cst.val, Cst.arr] at HC
  clear h hc hv hE
  have HB : Hid (w.heap.size ≤ ((w.alloc (.cells #[.int .i64 cg, .int .i64 cn, .int .i64 cl, .int .i64 cm] 23))).heap.size ∧ Below w.heap.size w (w.alloc (.cells #[.int .i64 cg, .int .i64 cn, .int .i64 cl, .int .i64 cm] 23))) := ⟨by simp, (Below.refl _ _).alloc (Nat.le_refl _) _⟩
  change Calls _ _ #[.agg #[.int .i64 cg, .int .i64 cn, .int .i64 cl, .int .i64 cm], _] _ _
  go_enter Tryz.func80, Tryz.ntmps80
  go_wp2_with (first | (go_at_call 45; refine (HC.out _).mono ?_; rintro e w1 ⟨rfl, hb1⟩; replace HB := belowH HB hb1; clear hb1) | (go_at_call 16; refine (HT.out _ HB.out.2).mono ?_; rintro e w2 ⟨rfl, hb2⟩; replace HB := belowH HB hb2; clear hb2))
  go_ret
  exact ⟨rfl, HB.out.2⟩
theorem toks_lit1 (W : World) (tx nm pg na : ByteArray) (ln fl : Int) (hk : Tok.ok ⟨tx, nm, pg, ln, fl, na⟩) : Toks (fun _ => True) (W.alloc (.cells #[.string tx, .string nm, .string pg, .int .i64 ln, .int .i64 fl, .string na] 47)) (some ⟨W.heap.size, 0, none⟩) 1 1 [⟨tx, nm, pg, ln, fl, na⟩] := by
  have h : OwnQ 47 6 Tok.cells (W.alloc (.cells #[.string tx, .string nm, .string pg, .int .i64 ln, .int .i64 fl, .string na] 47)) W.heap.size (some ⟨W.heap.size, 0, none⟩) 1 1 [⟨tx, nm, pg, ln, fl, na⟩] := OwnQ.lit (l := [(⟨tx, nm, pg, ln, fl, na⟩ : Tok)]) (enc := Tok.cells) (cs := #[.string tx, .string nm, .string pg, .int .i64 ln, .int .i64 fl, .string na]) W _ (Nat.le_refl _) rfl tok_len (by simp)
  exact h.sq (R := rTok) tok_len (by omega) (fun _ _ => trivial) (fun t ht => ⟨rfl, by simp at ht; subst ht; exact hk⟩)
theorem toks_lit2 (W : World) (tx nm pg na tx2 nm2 pg2 na2 : ByteArray) (ln fl ln2 fl2 : Int) (hk : Tok.ok ⟨tx, nm, pg, ln, fl, na⟩) (hk2 : Tok.ok ⟨tx2, nm2, pg2, ln2, fl2, na2⟩) : Toks (fun _ => True) (W.alloc (.cells #[.string tx, .string nm, .string pg, .int .i64 ln, .int .i64 fl, .string na, .string tx2, .string nm2, .string pg2, .int .i64 ln2, .int .i64 fl2, .string na2] 47)) (some ⟨W.heap.size, 0, none⟩) 2 2 [⟨tx, nm, pg, ln, fl, na⟩, ⟨tx2, nm2, pg2, ln2, fl2, na2⟩] := by
  have h : OwnQ 47 6 Tok.cells (W.alloc (.cells #[.string tx, .string nm, .string pg, .int .i64 ln, .int .i64 fl, .string na, .string tx2, .string nm2, .string pg2, .int .i64 ln2, .int .i64 fl2, .string na2] 47)) W.heap.size (some ⟨W.heap.size, 0, none⟩) 2 2 [⟨tx, nm, pg, ln, fl, na⟩, ⟨tx2, nm2, pg2, ln2, fl2, na2⟩] := OwnQ.lit (l := [(⟨tx, nm, pg, ln, fl, na⟩ : Tok), ⟨tx2, nm2, pg2, ln2, fl2, na2⟩]) (enc := Tok.cells) (cs := #[.string tx, .string nm, .string pg, .int .i64 ln, .int .i64 fl, .string na, .string tx2, .string nm2, .string pg2, .int .i64 ln2, .int .i64 fl2, .string na2]) W _ (Nat.le_refl _) rfl tok_len (by simp)
  exact h.sq (R := rTok) tok_len (by omega) (fun _ _ => trivial) (fun t ht => ⟨rfl, by simp at ht; rcases ht with rfl | rfl; exact hk; exact hk2⟩)
set_option maxRecDepth 100000 in
set_option maxHeartbeats 2000000 in
theorem tPair_any (c : Cst) (a b : Tok) (w : World) (hc : c.ok) (ha : a.err = 0) (hb : b.err = 0) (hka : a.ok) (hkb : b.ok) (hE : Env w) :
    Calls Tryz.prog 82 #[c.val, a.val, b.val] w fun e w' => e = .returned (.tuple #[.int .i64 (pT c a b : Nat), .int .i64 0]) ∧ Below w.heap.size w w' := by
  have HI := Lib.hid (pT_int hc a b)
  have s1 := vt_small ha
  have s2 := vt_small hb
  have HCH := Lib.hid (fun W (hW : Below w.heap.size w W) S x n p (hT : Toks S W x n p [a, b]) => tcheck_any S c [a, b] x n p W hT hc (fun t ht => by simp at ht; rcases ht with rfl | rfl; exact ha; exact hb) (hE.below hW))
  have HPA := Lib.hid (fun W => pair_any c.g c.n c.l c.m a.text a.norm a.page a.name b.text b.norm b.page b.name a.line a.flags b.line b.flags W hc s1.2.2.1 s1.2.2.2 s2.2.2.1 s2.2.2.2 (by omega) (by omega))
  clear hc ha hb hE s1 s2
  obtain ⟨cg, cn, cl, cm⟩ := c
  obtain ⟨tx, nm, pg, ln, fl, na⟩ := a
  obtain ⟨tx2, nm2, pg2, ln2, fl2, na2⟩ := b
  dsimp only at HI HPA
  generalize pairF cn cl cm tx nm fl tx2 nm2 fl2 = R at *
  generalize pT ⟨cg, cn, cl, cm⟩ ⟨tx, nm, pg, ln, fl, na⟩ ⟨tx2, nm2, pg2, ln2, fl2, na2⟩ = V at *
  dsimp only [Cst.val, Cst.arr] at HCH
  have HAT := Lib.hid (box3_at w cg cn cl cm tx nm pg na tx2 nm2 pg2 na2 ln fl ln2 fl2)
  have HT := toks_lit2 (((((w.alloc (.cells #[.int .i64 cg, .int .i64 cn, .int .i64 cl, .int .i64 cm] 23))).alloc (.cells #[.string tx, .string nm, .string pg, .int .i64 ln, .int .i64 fl, .string na] 47))).alloc (.cells #[.string tx2, .string nm2, .string pg2, .int .i64 ln2, .int .i64 fl2, .string na2] 47)) tx nm pg na tx2 nm2 pg2 na2 ln fl ln2 fl2 hka hkb
  have e3 : ((((((w.alloc (.cells #[.int .i64 cg, .int .i64 cn, .int .i64 cl, .int .i64 cm] 23))).alloc (.cells #[.string tx, .string nm, .string pg, .int .i64 ln, .int .i64 fl, .string na] 47))).alloc (.cells #[.string tx2, .string nm2, .string pg2, .int .i64 ln2, .int .i64 fl2, .string na2] 47))).heap.size = w.heap.size + 3 := by simp
  rw [e3] at HT
  have HB0 : Hid (w.heap.size ≤ ((((((w.alloc (.cells #[.int .i64 cg, .int .i64 cn, .int .i64 cl, .int .i64 cm] 23))).alloc (.cells #[.string tx, .string nm, .string pg, .int .i64 ln, .int .i64 fl, .string na] 47))).alloc (.cells #[.string tx2, .string nm2, .string pg2, .int .i64 ln2, .int .i64 fl2, .string na2] 47))).heap.size ∧ Below w.heap.size w (((((w.alloc (.cells #[.int .i64 cg, .int .i64 cn, .int .i64 cl, .int .i64 cm] 23))).alloc (.cells #[.string tx, .string nm, .string pg, .int .i64 ln, .int .i64 fl, .string na] 47))).alloc (.cells #[.string tx2, .string nm2, .string pg2, .int .i64 ln2, .int .i64 fl2, .string na2] 47))) := ⟨by simp; omega, box3_below w cg cn cl cm tx nm pg na tx2 nm2 pg2 na2 ln fl ln2 fl2⟩
  have hbx : Below ((((((w.alloc (.cells #[.int .i64 cg, .int .i64 cn, .int .i64 cl, .int .i64 cm] 23))).alloc (.cells #[.string tx, .string nm, .string pg, .int .i64 ln, .int .i64 fl, .string na] 47))).alloc (.cells #[.string tx2, .string nm2, .string pg2, .int .i64 ln2, .int .i64 fl2, .string na2] 47))).heap.size (((((w.alloc (.cells #[.int .i64 cg, .int .i64 cn, .int .i64 cl, .int .i64 cm] 23))).alloc (.cells #[.string tx, .string nm, .string pg, .int .i64 ln, .int .i64 fl, .string na] 47))).alloc (.cells #[.string tx2, .string nm2, .string pg2, .int .i64 ln2, .int .i64 fl2, .string na2] 47)) (((((((w.alloc (.cells #[.int .i64 cg, .int .i64 cn, .int .i64 cl, .int .i64 cm] 23))).alloc (.cells #[.string tx, .string nm, .string pg, .int .i64 ln, .int .i64 fl, .string na] 47))).alloc (.cells #[.string tx2, .string nm2, .string pg2, .int .i64 ln2, .int .i64 fl2, .string na2] 47))).alloc (.cells #[.string tx, .string nm, .string pg, .int .i64 ln, .int .i64 fl, .string na, .string tx2, .string nm2, .string pg2, .int .i64 ln2, .int .i64 fl2, .string na2] 47)) := (Below.refl _ _).alloc (Nat.le_refl _) _
  have HBX := Lib.hid hbx
  have HB := belowH HB0 hbx
  have HC1 := Lib.hid (HCH.out _ HB.out.2 _ _ _ _ HT)
  clear HT HCH hbx hka hkb HB0
  change Calls _ _ #[.agg #[.int .i64 cg, .int .i64 cn, .int .i64 cl, .int .i64 cm], .agg #[.string tx, .string nm, .string pg, .int .i64 ln, .int .i64 fl, .string na], .agg #[.string tx2, .string nm2, .string pg2, .int .i64 ln2, .int .i64 fl2, .string na2]] _ _
  go_enter Tryz.func82, Tryz.ntmps82
  go_wp2_with (first | (go_at_call 80; refine HC1.out.mono ?_; rintro e w2 ⟨rfl, hb2⟩; obtain ⟨HX, HY, HZ⟩ := HAT.out w2 (HBX.out.trans (hb2.mono HBX.out.size)); replace HB := belowH HB hb2; clear hb2; have a0 := HX 0 _ rfl; have a1 := HX 1 _ rfl; have a2 := HX 2 _ rfl; have a3 := HX 3 _ rfl; have b0 := HY 0 _ rfl; have b1 := HY 1 _ rfl; have b2 := HY 2 _ rfl; have b3 := HY 3 _ rfl; have b4 := HY 4 _ rfl; have b5 := HY 5 _ rfl; have d0 := HZ 0 _ rfl; have d1 := HZ 1 _ rfl; have d2 := HZ 2 _ rfl; have d3 := HZ 3 _ rfl; have d4 := HZ 4 _ rfl; have d5 := HZ 5 _ rfl; clear HX HY HZ HAT HBX) | (go_at_call 88; refine (HPA.out _).mono ?_; rintro e w3 ⟨rfl, hb3⟩; replace HB := belowH HB hb3; clear hb3))
  go_ret2
  exact ⟨by first | rfl | (rw [HI.out]; rfl), HB.out.2⟩
theorem box2_at (w : World) (cg cn cl cm : Int) (tx nm pg na : ByteArray) (ln fl : Int) (W : World) (h : Below ((((w.alloc (.cells #[.int .i64 cg, .int .i64 cn, .int .i64 cl, .int .i64 cm] 23))).alloc (.cells #[.string tx, .string nm, .string pg, .int .i64 ln, .int .i64 fl, .string na] 47))).heap.size (((w.alloc (.cells #[.int .i64 cg, .int .i64 cn, .int .i64 cl, .int .i64 cm] 23))).alloc (.cells #[.string tx, .string nm, .string pg, .int .i64 ln, .int .i64 fl, .string na] 47)) W) :
    AtC W w.heap.size 0 (#[.int .i64 cg, .int .i64 cn, .int .i64 cl, .int .i64 cm] : Array Value).toList ∧ AtC W (w.heap.size + 1) 0 (#[.string tx, .string nm, .string pg, .int .i64 ln, .int .i64 fl, .string na] : Array Value).toList := by
  have h1 := atC_new w #[.int .i64 cg, .int .i64 cn, .int .i64 cl, .int .i64 cm] 23
  have h2 := atC_new (w.alloc (.cells #[.int .i64 cg, .int .i64 cn, .int .i64 cl, .int .i64 cm] 23)) #[.string tx, .string nm, .string pg, .int .i64 ln, .int .i64 fl, .string na] 47
  have e1 : Below ((w.alloc (.cells #[.int .i64 cg, .int .i64 cn, .int .i64 cl, .int .i64 cm] 23))).heap.size (w.alloc (.cells #[.int .i64 cg, .int .i64 cn, .int .i64 cl, .int .i64 cm] 23)) (((w.alloc (.cells #[.int .i64 cg, .int .i64 cn, .int .i64 cl, .int .i64 cm] 23))).alloc (.cells #[.string tx, .string nm, .string pg, .int .i64 ln, .int .i64 fl, .string na] 47)) := (Below.refl _ _).alloc (Nat.le_refl _) _
  have z1 : ((w.alloc (.cells #[.int .i64 cg, .int .i64 cn, .int .i64 cl, .int .i64 cm] 23))).heap.size = w.heap.size + 1 := by simp
  rw [z1] at h2
  rw [z1] at e1
  exact ⟨(h1.below (by omega) e1).below (by simp; try omega) h, h2.below (by simp) h⟩
set_option maxRecDepth 100000 in
set_option maxHeartbeats 2000000 in
theorem tGap_any (c : Cst) (a : Tok) (w : World) (hc : c.ok) (ha : a.err = 0) (hka : a.ok) (hE : Env w) :
    Calls Tryz.prog 55 #[c.val, a.val] w fun e w' => e = .returned (.tuple #[.int .i64 (gT c a : Nat), .int .i64 0]) ∧ Below w.heap.size w w' := by
  have HI := Lib.hid (gT_int hc a)
  have s1 := vt_small ha
  have HCH := Lib.hid (fun W (hW : Below w.heap.size w W) S x n p (hT : Toks S W x n p [a]) => tcheck_any S c [a] x n p W hT hc (fun t ht => by simp at ht; subst ht; exact ha) (hE.below hW))
  have HPA := Lib.hid (fun W => tgap_any c.g c.n c.l c.m a.text a.norm a.page a.name a.line a.flags W hc.1 s1.2.2.1 s1.2.2.2)
  clear hc ha hE s1
  obtain ⟨cg, cn, cl, cm⟩ := c
  obtain ⟨tx, nm, pg, ln, fl, na⟩ := a
  dsimp only at HI HPA
  generalize gapF cg fl = R at *
  generalize gT ⟨cg, cn, cl, cm⟩ ⟨tx, nm, pg, ln, fl, na⟩ = V at *
  dsimp only [Cst.val, Cst.arr] at HCH
  have HAT := Lib.hid (box2_at w cg cn cl cm tx nm pg na ln fl)
  have HT := toks_lit1 (((w.alloc (.cells #[.int .i64 cg, .int .i64 cn, .int .i64 cl, .int .i64 cm] 23))).alloc (.cells #[.string tx, .string nm, .string pg, .int .i64 ln, .int .i64 fl, .string na] 47)) tx nm pg na ln fl hka
  have e3 : ((((w.alloc (.cells #[.int .i64 cg, .int .i64 cn, .int .i64 cl, .int .i64 cm] 23))).alloc (.cells #[.string tx, .string nm, .string pg, .int .i64 ln, .int .i64 fl, .string na] 47))).heap.size = w.heap.size + 2 := by simp
  rw [e3] at HT
  have HB0 : Hid (w.heap.size ≤ ((((w.alloc (.cells #[.int .i64 cg, .int .i64 cn, .int .i64 cl, .int .i64 cm] 23))).alloc (.cells #[.string tx, .string nm, .string pg, .int .i64 ln, .int .i64 fl, .string na] 47))).heap.size ∧ Below w.heap.size w (((w.alloc (.cells #[.int .i64 cg, .int .i64 cn, .int .i64 cl, .int .i64 cm] 23))).alloc (.cells #[.string tx, .string nm, .string pg, .int .i64 ln, .int .i64 fl, .string na] 47))) := ⟨by simp; omega, ((Below.refl _ _).alloc (Nat.le_refl _) _).alloc (by simp) _⟩
  have hbx : Below ((((w.alloc (.cells #[.int .i64 cg, .int .i64 cn, .int .i64 cl, .int .i64 cm] 23))).alloc (.cells #[.string tx, .string nm, .string pg, .int .i64 ln, .int .i64 fl, .string na] 47))).heap.size (((w.alloc (.cells #[.int .i64 cg, .int .i64 cn, .int .i64 cl, .int .i64 cm] 23))).alloc (.cells #[.string tx, .string nm, .string pg, .int .i64 ln, .int .i64 fl, .string na] 47)) (((((w.alloc (.cells #[.int .i64 cg, .int .i64 cn, .int .i64 cl, .int .i64 cm] 23))).alloc (.cells #[.string tx, .string nm, .string pg, .int .i64 ln, .int .i64 fl, .string na] 47))).alloc (.cells #[.string tx, .string nm, .string pg, .int .i64 ln, .int .i64 fl, .string na] 47)) := (Below.refl _ _).alloc (Nat.le_refl _) _
  have HBX := Lib.hid hbx
  have HB := belowH HB0 hbx
  have HC1 := Lib.hid (HCH.out _ HB.out.2 _ _ _ _ HT)
  clear HT HCH hbx hka HB0
  change Calls _ _ #[.agg #[.int .i64 cg, .int .i64 cn, .int .i64 cl, .int .i64 cm], .agg #[.string tx, .string nm, .string pg, .int .i64 ln, .int .i64 fl, .string na]] _ _
  go_enter Tryz.func55, Tryz.ntmps55
  go_wp2_with (first | (go_at_call 80; refine HC1.out.mono ?_; rintro e w2 ⟨rfl, hb2⟩; obtain ⟨HX, HY⟩ := HAT.out w2 (HBX.out.trans (hb2.mono HBX.out.size)); replace HB := belowH HB hb2; clear hb2; have a0 := HX 0 _ rfl; have a1 := HX 1 _ rfl; have a2 := HX 2 _ rfl; have a3 := HX 3 _ rfl; have b0 := HY 0 _ rfl; have b1 := HY 1 _ rfl; have b2 := HY 2 _ rfl; have b3 := HY 3 _ rfl; have b4 := HY 4 _ rfl; have b5 := HY 5 _ rfl; clear HX HY HAT HBX) | (go_at_call 81; refine (HPA.out _).mono ?_; rintro e w3 ⟨rfl, hb3⟩; replace HB := belowH HB hb3; clear hb3))
  go_ret2
  exact ⟨by first | rfl | (rw [HI.out]; rfl), HB.out.2⟩
end Go.Proofs.YtaelfjlmkgimhaaGreatDoor
