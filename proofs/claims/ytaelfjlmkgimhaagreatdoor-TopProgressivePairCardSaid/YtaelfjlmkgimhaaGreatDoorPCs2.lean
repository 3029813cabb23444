/- pairwise: the loop over columns. -/
import Derived.Test.YtaelfjlmkgimhaaGreatDoorPCst
set_option linter.unusedVariables false
set_option linter.unusedSimpArgs false
namespace Go.Proofs.YtaelfjlmkgimhaaGreatDoor
open Go.RowKit

set_option maxRecDepth 100000 in
set_option maxHeartbeats 8000000 in
theorem scost_any (S S2 : Nat → Prop) (c : Cst) (v : SV) (l r : List Tok) (cols : List (Cln Nat Nat)) (xa : Option Addr) (q xc : Nat) (w : World) (h : RdS S w c v l r) (hx : Numss S2 w xa q xc (prI cols)) (hal : Aln v.n v.m cols) (hv : VdS c l r) (hn : v.n ≤ 32) (hm : v.m ≤ 32) (hE : Env w) :
    Calls Tryz.prog 28 #[v.val c, .slice xa q xc] w fun e w' => e = .returned (.tuple #[.int .i64 (cstL (pN c l r) (gN c l) (gN c r) cols : Nat), .bool true]) ∧ Below w.heap.size w w' := by
  have hbA : Below w.heap.size w (w.alloc (.cells (v.arr c) 60)) := (Below.refl _ _).alloc (Nat.le_refl _) _
  have hX := World.alloc_heap_new w (.cells (v.arr c) 60)
  have hsA : (w.alloc (.cells (v.arr c) 60)).heap.size = w.heap.size + 1 := by simp
  have HLN := Lib.hid (And.intro h.tl.len h.tr.len)
  have HP := Lib.hid (fun W (hW : Below w.heap.size w W) i k x y hx hy => spair_any S c v l r i k x y W (h.below hW) hv hx hy hn hm (hE.below hW))
  have HGL := Lib.hid (fun W (hW : Below w.heap.size w W) i (hin : i < v.n) => (h.gl.below rInt_ok hW).int hin)
  have HGR := Lib.hid (fun W (hW : Below w.heap.size w W) i (hkm : i < v.m) => (h.gr.below rInt_ok hW).int hkm)
  have HXX := Lib.hid hx
  have HAL := Lib.hid hal
  have HOK := Lib.hid hv.ok
  have hql : q = cols.length := by have := hx.len; simpa [prI] using this
  have hqb : q ≤ 64 := by have := aln_len hal; omega
  have hbd := hx.bound
  clear h hx hal hv hE
  obtain ⟨cg, cn, cl, cm⟩ := c
  obtain ⟨a, n, cp, b, m, cq, ga, gc, gb, gd⟩ := v
  dsimp only at hn hm HLN HGL HGR HAL
  dsimp only [SV.val, SV.arr] at hbA hX hsA HP ⊢
  generalize hWA : w.alloc (.cells #[.int .i64 cg, .int .i64 cn, .int .i64 cl, .int .i64 cm, .slice a n cp, .slice b m cq, .slice ga n gc, .slice gb m gd] 60) = WA at *
  have HX := Lib.hid hX
  have HBA := Lib.hid hbA
  have HSA := Lib.hid hsA
  have HQL := Lib.hid hql
  clear hX hbA hsA hql
  go_enter Tryz.func28, Tryz.ntmps28
  go_wp2_with fail
  go_loopw [6, 7, 8, 13] (fun s i k jv wr => ∃ (j sm i' k' : Nat), s = .int .i64 (sm : Int) ∧ i = .int .i64 (i' : Int) ∧ k = .int .i64 (k' : Int) ∧ jv = .int .i64 (j : Int) ∧ j ≤ q ∧
    Hid (sm = cstL (pN ⟨cg, cn, cl, cm⟩ l r) (gN ⟨cg, cn, cl, cm⟩ l) (gN ⟨cg, cn, cl, cm⟩ r) (cols.take j)) ∧ Hid (i' = ((cols.take j).filterMap (·.1)).length) ∧ Hid (k' = ((cols.take j).filterMap (·.2)).length) ∧ Hid (Below WA.heap.size WA wr)) (fun _ _ _ j _ => q - (intOf j).toNat)
  case atStart => exact ⟨0, 0, 0, 0, rfl, rfl, rfl, rfl, Nat.zero_le _, rfl, rfl, rfl, Below.refl _ _⟩
  case round =>
    obtain ⟨j, sm, i, k, rfl, rfl, rfl, rfl, hj, H1, H2, H3, HBR⟩ := hrel
    have hbw := HBA.out.trans (HBR.out.mono HBA.out.size)
    have hsmb : sm ≤ 1000 * 64 := by
      rw [H1.out]
      have h1 := cstL_le (pN ⟨cg, cn, cl, cm⟩ l r) (gN ⟨cg, cn, cl, cm⟩ l) (gN ⟨cg, cn, cl, cm⟩ r) (B := 1000) (fun _ _ => pT_le HOK.out _ _) (fun _ => gT_le HOK.out _) (fun _ => gT_le HOK.out _) (cols.take j)
      have h2 : (cols.take j).length ≤ 64 := by rw [List.length_take]; omega
      omega
    obtain ⟨s0, s1, s2, s3, s4, s5, s6, s7, -⟩ := box8 (((HBR.out).block w.heap.size (by have := HSA.out; omega)).trans HX.out)
    by_cases hjq : j < q
    · obtain ⟨row, bx, off, a', n', c', hu, -, ea, -, hbl, hrow, hc0⟩ := (HXX.out.below (rSl_ok rInt_ok) hbw).row hjq
      obtain ⟨⟨x1, x2⟩, hcol⟩ : ∃ x, cols[j]? = some x := ⟨_, List.getElem?_eq_getElem (by have := HQL.out; omega)⟩
      have hre : row = [toI x1, toI x2] := by
        rw [prI, List.getElem?_map, hcol] at hu
        exact (Option.some.inj hu).symm
      subst ea
      subst hre
      have hn2 : n' = 2 := hrow.len
      subst hn2
      obtain ⟨y0, by0, oy0, hy0, -, ey0, -, -, -, c0⟩ := hrow.int (j := 0) (by omega)
      obtain ⟨y1, by1, oy1, hy1, -, ey1, -, -, -, c1⟩ := hrow.int (j := 1) (by omega)
      subst ey0
      cases ey1
      have e0 : y0 = toI x1 := (Option.some.inj hy0).symm
      have e1 : y1 = toI x2 := (Option.some.inj hy1).symm
      subst e0
      subst e1
      have hne := HAL.out.ne _ (List.mem_of_getElem? hcol)
      have hst := cstL_take (pN ⟨cg, cn, cl, cm⟩ l r) (gN ⟨cg, cn, cl, cm⟩ l) (gN ⟨cg, cn, cl, cm⟩ r) hcol
      have hf1 := fil_take (fun x : Cln Nat Nat => x.1) hcol
      have hf2 := fil_take (fun x : Cln Nat Nat => x.2) hcol
      have hA1 : ∀ z, x1 = some z → z = i ∧ z < n := fun z hz => by have := ent_at HAL.out.l hcol hz; rw [← H2.out] at this; exact this
      have hA2 : ∀ z, x2 = some z → z = k ∧ z < m := fun z hz => by have := ent_at HAL.out.r hcol hz; rw [← H3.out] at this; exact this
      clear hu hy0 hy1 hrow
      cases x1 with
      | some z1 =>
        obtain ⟨rfl, hin⟩ := hA1 z1 rfl
        obtain ⟨x, hx⟩ : ∃ x, l[z1]? = some x := ⟨_, List.getElem?_eq_getElem (by have := HLN.out.1; omega)⟩
        cases x2 with
        | some z2 =>
          obtain ⟨rfl, hkm⟩ := hA2 z2 rfl
          obtain ⟨y, hy⟩ : ∃ y, r[z2]? = some y := ⟨_, List.getElem?_eq_getElem (by have := HLN.out.2; omega)⟩
          have HP2 := Lib.hid (fun W hW => HP.out W hW z1 z2 x y hx hy)
          have hpv : pN ⟨cg, cn, cl, cm⟩ l r z1 z2 = pT ⟨cg, cn, cl, cm⟩ x y := by unfold pN; rw [tkAt_get hx, tkAt_get hy]
          have hpb := pT_le HOK.out x y
          obtain ⟨V, hV⟩ : ∃ V, V = pT ⟨cg, cn, cl, cm⟩ x y := ⟨_, rfl⟩
          rw [← hV] at HP2 hpv hpb
          have HN1 : Hid (sm + V = cstL (pN ⟨cg, cn, cl, cm⟩ l r) (gN ⟨cg, cn, cl, cm⟩ l) (gN ⟨cg, cn, cl, cm⟩ r) (cols.take (j + 1))) := by show _ = _; rw [hst, ← H1.out, ← hpv]; rfl
          have HN2 : Hid (z1 + 1 = ((cols.take (j + 1)).filterMap (·.1)).length) := by show _ = _; rw [hf1, ← H2.out]; rfl
          have HN3 : Hid (z2 + 1 = ((cols.take (j + 1)).filterMap (·.2)).length) := by show _ = _; rw [hf2, ← H3.out]; rfl
          have hw1 : IntKind.i64.wrap ((sm : Int) + (V : Int)) = ((sm + V : Nat) : Int) := by rw [IntKind.wrap_i64]; omega
          have d0 : wr.cell? ⟨bx, off + j, none⟩ = _ := hc0
          replace c0 : wr.cell? ⟨by0, oy0, none⟩ = some (.int .i64 (z1 : Int)) := c0
          replace c1 : wr.cell? ⟨by0, oy0 + 1, none⟩ = some (.int .i64 (z2 : Int)) := c1
          have HBW := Lib.hid hbw
          clear hst hf1 hf2 hA1 hA2 hcol hne hx hy hV hpv H1 H2 H3 HP hc0 hbw
          go_wp2_with (go_at_call 56; refine (HP2.out _ HBW.out).mono ?_; rintro e w4 ⟨rfl, hb4⟩; replace HBR := Lib.hid (HBR.out.trans (hb4.mono HBR.out.size)); clear hb4)
          go_roundw
          case rel => exact ⟨j + 1, _, _, _, by first | rfl | go_num, by first | rfl | go_num, by first | rfl | go_num, by first | rfl | go_num, by omega, HN1.out, HN2.out, HN3.out, HBR.out⟩
          case measure => simp [intOf]; omega
        | none =>
          obtain ⟨gv, bg, og, hgv, -, ega, -, -, -, g0⟩ := HGL.out wr hbw z1 hin
          subst ega
          have hge : gv = (gT ⟨cg, cn, cl, cm⟩ x : Int) := by
            rw [gL, List.getElem?_map, hx] at hgv
            exact (Option.some.inj hgv).symm
          subst hge
          have hpb := gT_le HOK.out x
          have hpv : gN ⟨cg, cn, cl, cm⟩ l z1 = gT ⟨cg, cn, cl, cm⟩ x := by unfold gN; rw [tkAt_get hx]
          obtain ⟨V, hV⟩ : ∃ V, V = gT ⟨cg, cn, cl, cm⟩ x := ⟨_, rfl⟩
          rw [← hV] at g0 hpv hpb
          have HN1 : Hid (sm + V = cstL (pN ⟨cg, cn, cl, cm⟩ l r) (gN ⟨cg, cn, cl, cm⟩ l) (gN ⟨cg, cn, cl, cm⟩ r) (cols.take (j + 1))) := by show _ = _; rw [hst, ← H1.out, ← hpv]; rfl
          have HN2 : Hid (z1 + 1 = ((cols.take (j + 1)).filterMap (·.1)).length) := by show _ = _; rw [hf1, ← H2.out]; rfl
          have HN3 : Hid (k = ((cols.take (j + 1)).filterMap (·.2)).length) := by show _ = _; rw [hf2, ← H3.out]; rfl
          have hw1 : IntKind.i64.wrap ((sm : Int) + (V : Int)) = ((sm + V : Nat) : Int) := by rw [IntKind.wrap_i64]; omega
          replace c0 : wr.cell? ⟨by0, oy0, none⟩ = some (.int .i64 (z1 : Int)) := c0
          replace c1 : wr.cell? ⟨by0, oy0 + 1, none⟩ = some (.int .i64 (-1)) := c1
          clear hst hf1 hf2 hA1 hA2 hcol hne hx hV hpv H1 H2 H3 HP hbw hgv
          go_wp2_with (fail)
          go_roundw
          case rel => exact ⟨j + 1, _, _, _, by first | rfl | go_num, by first | rfl | go_num, by first | rfl | go_num, by first | rfl | go_num, by omega, HN1.out, HN2.out, HN3.out, HBR.out⟩
          case measure => simp [intOf]; omega
      | none =>
        cases x2 with
        | some z2 =>
          obtain ⟨rfl, hkm⟩ := hA2 z2 rfl
          obtain ⟨y, hy⟩ : ∃ y, r[z2]? = some y := ⟨_, List.getElem?_eq_getElem (by have := HLN.out.2; omega)⟩
          obtain ⟨gv, bg, og, hgv, -, ega, -, -, -, g0⟩ := HGR.out wr hbw z2 hkm
          subst ega
          have hge : gv = (gT ⟨cg, cn, cl, cm⟩ y : Int) := by
            rw [gL, List.getElem?_map, hy] at hgv
            exact (Option.some.inj hgv).symm
          subst hge
          have hpb := gT_le HOK.out y
          have hpv : gN ⟨cg, cn, cl, cm⟩ r z2 = gT ⟨cg, cn, cl, cm⟩ y := by unfold gN; rw [tkAt_get hy]
          obtain ⟨V, hV⟩ : ∃ V, V = gT ⟨cg, cn, cl, cm⟩ y := ⟨_, rfl⟩
          rw [← hV] at g0 hpv hpb
          have HN1 : Hid (sm + V = cstL (pN ⟨cg, cn, cl, cm⟩ l r) (gN ⟨cg, cn, cl, cm⟩ l) (gN ⟨cg, cn, cl, cm⟩ r) (cols.take (j + 1))) := by show _ = _; rw [hst, ← H1.out, ← hpv]; rfl
          have HN2 : Hid (i = ((cols.take (j + 1)).filterMap (·.1)).length) := by show _ = _; rw [hf1, ← H2.out]; rfl
          have HN3 : Hid (z2 + 1 = ((cols.take (j + 1)).filterMap (·.2)).length) := by show _ = _; rw [hf2, ← H3.out]; rfl
          have hw1 : IntKind.i64.wrap ((sm : Int) + (V : Int)) = ((sm + V : Nat) : Int) := by rw [IntKind.wrap_i64]; omega
          replace c0 : wr.cell? ⟨by0, oy0, none⟩ = some (.int .i64 (-1)) := c0
          replace c1 : wr.cell? ⟨by0, oy0 + 1, none⟩ = some (.int .i64 (z2 : Int)) := c1
          clear hst hf1 hf2 hA1 hA2 hcol hne hy hV hpv H1 H2 H3 HP hbw hgv
          go_wp2_with (fail)
          go_roundw
          case rel => exact ⟨j + 1, _, _, _, by first | rfl | go_num, by first | rfl | go_num, by first | rfl | go_num, by first | rfl | go_num, by omega, HN1.out, HN2.out, HN3.out, HBR.out⟩
          case measure => simp [intOf]; omega
        | none => exact absurd rfl hne
    · have hjl : j = cols.length := by have := HQL.out; omega
      have h1 : sm = cstL (pN ⟨cg, cn, cl, cm⟩ l r) (gN ⟨cg, cn, cl, cm⟩ l) (gN ⟨cg, cn, cl, cm⟩ r) cols := by rw [H1.out, hjl, List.take_length]
      have h2 : i = n := by rw [H2.out, hjl, List.take_length, HAL.out.l, List.length_range]
      have h3 : k = m := by rw [H3.out, hjl, List.take_length, HAL.out.r, List.length_range]
      subst h2
      subst h3
      have HS1 := Lib.hid h1
      have HBW := Lib.hid hbw
      clear h1 hjl H1 H2 H3 HP hbw hsmb
      go_wp2_with (fail)
      go_quiet (fail)
      go_wp2
      go_ret2
      exact ⟨by rw [← HS1.out]; rfl, HBW.out.trans (drewN_below _ _ _)⟩
end Go.Proofs.YtaelfjlmkgimhaaGreatDoor
