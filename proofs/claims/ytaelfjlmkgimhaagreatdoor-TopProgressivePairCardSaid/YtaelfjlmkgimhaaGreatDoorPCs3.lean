/- pairwise.Cost. -/
import Derived.Test.YtaelfjlmkgimhaaGreatDoorPCs2
set_option linter.unusedVariables false
set_option linter.unusedSimpArgs false
namespace Go.Proofs.YtaelfjlmkgimhaaGreatDoor
open Go.RowKit

set_option maxRecDepth 100000 in
set_option maxHeartbeats 4000000 in
theorem cost_any (S S2 S3 : Nat → Prop) (c : Cst) (l r : List Tok) (cols : List (Cln Nat Nat)) (a b xa : Option Addr) (n m cp cq q xc : Nat) (w : World) (hl : Toks S w a n cp l) (hr : Toks S2 w b m cq r) (hx : Numss S3 w xa q xc (prI cols)) (hal : Aln n m cols) (hn : n ≤ 32) (hm : m ≤ 32) (hc : c.ok)
    (hvl : ∀ t ∈ l, t.err = 0) (hvr : ∀ t ∈ r, t.err = 0) (hE : Env w) :
    Calls Tryz.prog 9 #[c.val, .slice a n cp, .slice b m cq, .slice xa q xc] w fun e w' => e = .returned (.tuple #[.int .i64 (cstL (pN c l r) (gN c l) (gN c r) cols : Nat), .int .i64 0]) ∧ Below w.heap.size w w' := by
  have hb0 : Below w.heap.size w (w.alloc (.cells c.arr 23)) := (Below.refl _ _).alloc (Nat.le_refl _) _
  have HCH := Lib.hid (pcheck_any S S2 c l r a b n m cp cq (w.alloc (.cells c.arr 23)) (hl.below rTok_ok hb0) (hr.below rTok_ok hb0) hn hm hc hvl hvr (hE.below hb0))
  have HGR := Lib.hid (fun W (hW : Below w.heap.size w W) v (hv : v.n ≤ 32 ∧ v.m ≤ 32) (ha : Aln v.n v.m cols) (h : RdS (fun _ => True) W c v l r) => scost_any (fun _ => True) S3 c v l r cols xa q xc W h (hx.below (rSl_ok rInt_ok) hW) ha ⟨hc, hvl, hvr⟩ hv.1 hv.2 (hE.below hW))
  have HL := Lib.hid (And.intro hl hr)
  have HB0 := Lib.hid hb0
  have HAL := Lib.hid hal
  clear hl hr hc hvl hvr hE hb0 hx hal
  generalize hT : cstL (pN c l r) (gN c l) (gN c r) cols = T at *
  have a0 := atC_new w c.arr 23
  obtain ⟨cg, cn, cl, cm⟩ := c
  dsimp only [Cst.val, Cst.arr] at HCH HB0 a0 ⊢
  clear hT
  have k0 := a0 0 _ rfl
  have k1 := a0 1 _ rfl
  have k2 := a0 2 _ rfl
  have k3 := a0 3 _ rfl
  clear a0
  generalize hWA : (w.alloc (.cells #[.int .i64 cg, .int .i64 cn, .int .i64 cl, .int .i64 cm] 23)) = WA at *
  go_enter Tryz.func9, Tryz.ntmps9
  go_wp2_with fail
  refine HCH.out.mono ?_
  rintro e w1 ⟨ga, gc, gb, gd, rfl, h1, h2, hb1⟩
  have hb01 := HB0.out.trans (hb1.mono HB0.out.size)
  have hb2 : Below w1.heap.size w1 (w1.alloc (.cells #[.int .i64 cg, .int .i64 cn, .int .i64 cl, .int .i64 cm, .slice a n cp, .slice b m cq, .slice ga n gc, .slice gb m gd] 60)) := (Below.refl _ _).alloc (Nat.le_refl _) _
  have hb02 := hb01.trans (hb2.mono hb01.size)
  have HR := Lib.hid ((rds_of HL.out.1 HL.out.2 hb01 h1 h2).below hb2)
  have hX := World.alloc_heap_new w1 (.cells #[.int .i64 cg, .int .i64 cn, .int .i64 cl, .int .i64 cm, .slice a n cp, .slice b m cq, .slice ga n gc, .slice gb m gd] 60)
  have HG1 := Lib.hid (HGR.out _ hb02 _ ⟨hn, hm⟩ HAL.out HR.out)
  have HB2 := Lib.hid hb02
  clear hb1 hb2 hb01 hb02 h1 h2 HR HGR HCH k0 k1 k2 k3
  dsimp only [SV.val, SV.arr] at HG1
  generalize hWB : w1.alloc (.cells #[.int .i64 cg, .int .i64 cn, .int .i64 cl, .int .i64 cm, .slice a n cp, .slice b m cq, .slice ga n gc, .slice gb m gd] 60) = WB at *
  obtain ⟨s0, s1, s2, s3, s4, s5, s6, s7, -⟩ := box8 hX
  clear hX
  go_wp2_with (go_at_call 28; refine HG1.out.mono ?_; rintro e w3 ⟨rfl, hb3⟩)
  go_ret2
  exact ⟨rfl, HB2.out.trans (hb3.mono HB2.out.size)⟩
end Go.Proofs.YtaelfjlmkgimhaaGreatDoor
