/- pairwise: the moves at a place. -/
import Derived.Test.YtaelfjlmkgimhaaGreatDoorPPr
set_option linter.unusedVariables false
set_option linter.unusedSimpArgs false
namespace Go.Proofs.YtaelfjlmkgimhaaGreatDoor
open Go.RowKit

/-- A move: whether it has a token of the first source, of the second one, and its cost. -/
abbrev Mv := Nat × Nat × Nat
abbrev encM (x : Mv) : List Value := [.int .i64 (x.1 : Int), .int .i64 (x.2.1 : Int), .int .i64 (x.2.2 : Int)]
theorem infoM : (Tryz.prog.info? 98).map (fun i => (i.zero, i.size, i.bytes)) = some (some (.agg #[.int .i64 0, .int .i64 0, .int .i64 0]), 3, 24) := by kernel_rfl
theorem one_m (x : Mv) : ∀ v ∈ encM x, v.oneCell' = true := by intro v hv; simp at hv; rcases hv with rfl | rfl | rfl <;> rfl
/-- The moves at a place. -/
def mvs (c : Cst) : Option Tok → Option Tok → List Mv
  | some x, some y => [(1, 1, pT c x y), (1, 0, gT c x), (0, 1, gT c y)]
  | some x, none => [(1, 0, gT c x)]
  | none, some y => [(0, 1, gT c y)]
  | none, none => []
theorem gap_cell {S : Nat → Prop} {w : World} {a : Option Addr} {n gc i : Nat} {c : Cst} {l : List Tok} {x : Tok} (h : Nums S w a n gc (gL c l)) (hx : l[i]? = some x) :
    ∃ b off, a = some ⟨b, off, none⟩ ∧ Hid (∀ W, Below w.heap.size w W → W.cell? ⟨b, off + i, none⟩ = some (.int .i64 (gT c x : Nat))) := by
  have hi : i < n := by rw [h.len]; simpa [gL] using (List.getElem?_eq_some_iff.1 hx).1
  obtain ⟨z, b, off, hz, -, ea, -, hbl, -, hc⟩ := h.int hi
  have e : z = (gT c x : Int) := by
    rw [gL, List.getElem?_map, hx] at hz
    exact (Option.some.inj hz).symm
  exact ⟨b, off, ea, fun W hW => by rw [← e]; exact (hW.cell (p := ⟨b, off + i, none⟩) hbl).trans hc⟩
def MovPost (c : Cst) (l r : List Tok) (i k : Nat) (w : World) : Ending → World → Prop := fun e w' => ∃ a' q c', e = .returned (.slice a' q c') ∧ OwnQ 98 3 encM w' w.heap.size a' q c' (mvs c l[i]? r[k]?) ∧ Below w.heap.size w w'
set_option maxRecDepth 100000 in
set_option maxHeartbeats 8000000 in
theorem moves_any (S : Nat → Prop) (c : Cst) (v : SV) (l r : List Tok) (i k : Nat) (w : World) (h : RdS S w c v l r) (hv : VdS c l r) (hi : i ≤ v.n) (hk : k ≤ v.m) (hn : v.n ≤ 32) (hm : v.m ≤ 32) (hE : Env w) :
    Calls Tryz.prog 58 #[v.val c, .int .i64 (i : Int), .int .i64 (k : Int)] w (MovPost c l r i k w) := by
  have hbA : Below w.heap.size w (w.alloc (.cells (v.arr c) 60)) := (Below.refl _ _).alloc (Nat.le_refl _) _
  have hlN := h.tl.len
  have hlM := h.tr.len
  have HP := Lib.hid (fun W (hW : Below w.heap.size w W) x y hx hy => spair_any S c v l r i k x y W (h.below hW) hv hx hy hn hm (hE.below hW))
  have HOK := Lib.hid hv.ok
  have HGL := h.gl
  have HGR := h.gr
  clear h hv hE
  obtain ⟨cg, cn, cl, cm⟩ := c
  obtain ⟨a, n, cp, b, m, cq, ga, gc, gb, gd⟩ := v
  dsimp only at hi hk hn hm hlN hlM HGL HGR
  dsimp only [SV.val, SV.arr] at hbA HP ⊢
  by_cases hin : i < n
  · obtain ⟨x, hx⟩ : ∃ x, l[i]? = some x := ⟨_, List.getElem?_eq_getElem (by omega)⟩
    obtain ⟨bg, og, ega, HGA⟩ := gap_cell HGL hx
    subst ega
    have hgx := gT_le HOK.out x
    by_cases hkm : k < m
    · obtain ⟨y, hy⟩ : ∃ y, r[k]? = some y := ⟨_, List.getElem?_eq_getElem (by omega)⟩
      obtain ⟨bh, oh, egb, HGB⟩ := gap_cell HGR hy
      subst egb
      have hgy := gT_le HOK.out y
      have HP2 := Lib.hid (fun W hW => HP.out W hW x y hx hy)
      have hpx := pT_le HOK.out x y
      have HE : Hid (mvs ⟨cg, cn, cl, cm⟩ l[i]? r[k]? = [(1, 1, pT ⟨cg, cn, cl, cm⟩ x y), (1, 0, gT ⟨cg, cn, cl, cm⟩ x), (0, 1, gT ⟨cg, cn, cl, cm⟩ y)]) := by show _ = _; rw [hx, hy]; rfl
      clear HP HGL HGR hx hy hlN hlM
      have hX := World.alloc_heap_new w (.cells #[.int .i64 cg, .int .i64 cn, .int .i64 cl, .int .i64 cm, .slice a n cp, .slice b m cq, .slice (some ⟨bg, og, none⟩) n gc, .slice (some ⟨bh, oh, none⟩) m gd] 60)
      have hsA : (w.alloc (.cells #[.int .i64 cg, .int .i64 cn, .int .i64 cl, .int .i64 cm, .slice a n cp, .slice b m cq, .slice (some ⟨bg, og, none⟩) n gc, .slice (some ⟨bh, oh, none⟩) m gd] 60)).heap.size = w.heap.size + 1 := by simp
      generalize hWA : w.alloc (.cells #[.int .i64 cg, .int .i64 cn, .int .i64 cl, .int .i64 cm, .slice a n cp, .slice b m cq, .slice (some ⟨bg, og, none⟩) n gc, .slice (some ⟨bh, oh, none⟩) m gd] 60) = WA at *
      have HX := Lib.hid hX
      have HBA := Lib.hid hbA
      have HBC : Hid (Below WA.heap.size WA WA) := Below.refl _ _
      have HO : Hid (OwnQ 98 3 encM WA WA.heap.size none 0 0 []) := OwnQ.nil _ _ _ _ _
      have hWs : w.heap.size < WA.heap.size := by omega
      obtain ⟨s0, s1, s2, s3, s4, s5, s6, s7, -⟩ := box8 (((HBC.out).block _ (by omega)).trans HX.out)
      have hsz := (HBC.out).size
      have HSA := Lib.hid hsA
      clear hX hbA hsA
      go_enter Tryz.func58, Tryz.ntmps58
      generalize pT ⟨cg, cn, cl, cm⟩ x y = Z1 at *
      generalize gT ⟨cg, cn, cl, cm⟩ x = Z2 at *
      generalize gT ⟨cg, cn, cl, cm⟩ y = Z3 at *
      go_wp2_with (fail)
      refine (HP2.out _ (HBA.out.trans (HBC.out.mono HBA.out.size))).mono ?_
      rintro e w4 ⟨rfl, hb4⟩
      replace HO := Lib.hid (HO.out.below hb4)
      replace HBC := Lib.hid (HBC.out.trans (hb4.mono HBC.out.size))
      clear hb4 s0 s1 s2 s3 s4 s5 s6 s7
      obtain ⟨s0, s1, s2, s3, s4, s5, s6, s7, -⟩ := box8 (((HBC.out).block _ (by omega)).trans HX.out)
      have hsz := (HBC.out).size
      have HI := infoM
      have hbL : Below w4.heap.size w4 (w4.alloc (.cells #[.int .i64 1, .int .i64 1, .int .i64 (Z1 : Int)] 98)) := (Below.refl _ _).alloc (Nat.le_refl _) _
      have hsC := HBC.out.size
      have hO7 := Lib.hid (HO.out.below hbL)
      have hL7 : Hid (∀ j u, (([(1, 1, Z1)] : List Mv).flatMap encM)[j]? = some u → (w4.alloc (.cells #[.int .i64 1, .int .i64 1, .int .i64 (Z1 : Int)] 98)).cell? ((⟨w4.heap.size, 0, none⟩ : Addr).add j) = some u) := fun j u hj => lit_cells (w := w4) (e := 98) (cs := #[.int .i64 1, .int .i64 1, .int .i64 (Z1 : Int)]) (j := j) (u := u) (by exact hj)
      have hB7 : WA.heap.size ≤ (w4.alloc (.cells #[.int .i64 1, .int .i64 1, .int .i64 (Z1 : Int)] 98)).heap.size := by simp; try omega
      have hb7 := HBC.out.trans (hbL.mono HBC.out.size)
      clear hbL hsC
      go_wp2_with (first
        | (
          at_builtin
          refine wpList_appQ (w0 := WA) (l := []) (ys := [(1, 1, Z1)]) HI Tryz.underlying95 rfl (by omega) (fun _ => rfl) one_m rfl _ _ rfl rfl rfl hO7.out rfl hL7.out (by unfold maxLen; omega) (by omega) hB7 hb7 ?_
          intro a7 c7 w7 ho5 hb6 hg5 hv5
          clear HO HBC hB7 hb7 hO7 hL7 hg5 hv5 s0 s1 s2 s3 s4 s5 s6 s7 hsz
          have HO := Lib.hid ho5
          have HBC := Lib.hid hb6
          clear ho5 hb6
          obtain ⟨s0, s1, s2, s3, s4, s5, s6, s7, -⟩ := box8 (((HBC.out).block _ (by omega)).trans HX.out)
          have hsz := (HBC.out).size
          have gA := HGA.out _ (HBA.out.trans (HBC.out.mono HBA.out.size))
          have hbL : Below w7.heap.size w7 (w7.alloc (.cells #[.int .i64 1, .int .i64 0, .int .i64 (Z2 : Int)] 98)) := (Below.refl _ _).alloc (Nat.le_refl _) _
          have hsC := HBC.out.size
          have hO8 := Lib.hid (HO.out.below hbL)
          have hL8 : Hid (∀ j u, (([(1, 0, Z2)] : List Mv).flatMap encM)[j]? = some u → (w7.alloc (.cells #[.int .i64 1, .int .i64 0, .int .i64 (Z2 : Int)] 98)).cell? ((⟨w7.heap.size, 0, none⟩ : Addr).add j) = some u) := fun j u hj => lit_cells (w := w7) (e := 98) (cs := #[.int .i64 1, .int .i64 0, .int .i64 (Z2 : Int)]) (j := j) (u := u) (by exact hj)
          have hB8 : WA.heap.size ≤ (w7.alloc (.cells #[.int .i64 1, .int .i64 0, .int .i64 (Z2 : Int)] 98)).heap.size := by simp; try omega
          have hb8 := HBC.out.trans (hbL.mono HBC.out.size)
          clear hbL hsC
          )
        | (
          at_builtin
          refine wpList_appQ (w0 := WA) (l := [(1, 1, Z1)]) (ys := [(1, 0, Z2)]) HI Tryz.underlying95 rfl (by omega) (fun _ => rfl) one_m rfl _ _ rfl rfl rfl hO8.out rfl hL8.out (by unfold maxLen; omega) (by omega) hB8 hb8 ?_
          intro a8 c8 w8 ho5 hb6 hg5 hv5
          clear HO HBC hB8 hb8 hO8 hL8 hg5 hv5 s0 s1 s2 s3 s4 s5 s6 s7 hsz
          have HO := Lib.hid ho5
          have HBC := Lib.hid hb6
          clear ho5 hb6
          obtain ⟨s0, s1, s2, s3, s4, s5, s6, s7, -⟩ := box8 (((HBC.out).block _ (by omega)).trans HX.out)
          have hsz := (HBC.out).size
          have gB := HGB.out _ (HBA.out.trans (HBC.out.mono HBA.out.size))
          have hbL : Below w8.heap.size w8 (w8.alloc (.cells #[.int .i64 0, .int .i64 1, .int .i64 (Z3 : Int)] 98)) := (Below.refl _ _).alloc (Nat.le_refl _) _
          have hsC := HBC.out.size
          have hO9 := Lib.hid (HO.out.below hbL)
          have hL9 : Hid (∀ j u, (([(0, 1, Z3)] : List Mv).flatMap encM)[j]? = some u → (w8.alloc (.cells #[.int .i64 0, .int .i64 1, .int .i64 (Z3 : Int)] 98)).cell? ((⟨w8.heap.size, 0, none⟩ : Addr).add j) = some u) := fun j u hj => lit_cells (w := w8) (e := 98) (cs := #[.int .i64 0, .int .i64 1, .int .i64 (Z3 : Int)]) (j := j) (u := u) (by exact hj)
          have hB9 : WA.heap.size ≤ (w8.alloc (.cells #[.int .i64 0, .int .i64 1, .int .i64 (Z3 : Int)] 98)).heap.size := by simp; try omega
          have hb9 := HBC.out.trans (hbL.mono HBC.out.size)
          clear hbL hsC
          )
        | (
          at_builtin
          refine wpList_appQ (w0 := WA) (l := [(1, 1, Z1), (1, 0, Z2)]) (ys := [(0, 1, Z3)]) HI Tryz.underlying95 rfl (by omega) (fun _ => rfl) one_m rfl _ _ rfl rfl rfl hO9.out rfl hL9.out (by unfold maxLen; omega) (by omega) hB9 hb9 ?_
          intro a9 c9 w9 ho5 hb6 hg5 hv5
          clear HO HBC hB9 hb9 hO9 hL9 hg5 hv5 s0 s1 s2 s3 s4 s5 s6 s7 hsz
          have HO := Lib.hid ho5
          have HBC := Lib.hid hb6
          clear ho5 hb6
          obtain ⟨s0, s1, s2, s3, s4, s5, s6, s7, -⟩ := box8 (((HBC.out).block _ (by omega)).trans HX.out)
          have hsz := (HBC.out).size
          ))
      go_ret
      exact ⟨_, _, _, rfl, by show OwnQ _ _ _ _ _ _ _ _ _; rw [HE.out]; exact HO.out.mono (by have := HSA.out; omega), HBA.out.trans (HBC.out.mono HBA.out.size)⟩
    · have hkm' : k = m := by omega
      have HE : Hid (mvs ⟨cg, cn, cl, cm⟩ l[i]? r[k]? = [(1, 0, gT ⟨cg, cn, cl, cm⟩ x)]) := by show _ = _; rw [hx, List.getElem?_eq_none (by omega)]; rfl
      clear HP HGL HGR hx hlN hlM
      subst hkm'
      have hX := World.alloc_heap_new w (.cells #[.int .i64 cg, .int .i64 cn, .int .i64 cl, .int .i64 cm, .slice a n cp, .slice b k cq, .slice (some ⟨bg, og, none⟩) n gc, .slice gb k gd] 60)
      have hsA : (w.alloc (.cells #[.int .i64 cg, .int .i64 cn, .int .i64 cl, .int .i64 cm, .slice a n cp, .slice b k cq, .slice (some ⟨bg, og, none⟩) n gc, .slice gb k gd] 60)).heap.size = w.heap.size + 1 := by simp
      generalize hWA : w.alloc (.cells #[.int .i64 cg, .int .i64 cn, .int .i64 cl, .int .i64 cm, .slice a n cp, .slice b k cq, .slice (some ⟨bg, og, none⟩) n gc, .slice gb k gd] 60) = WA at *
      have HX := Lib.hid hX
      have HBA := Lib.hid hbA
      have HBC : Hid (Below WA.heap.size WA WA) := Below.refl _ _
      have HO : Hid (OwnQ 98 3 encM WA WA.heap.size none 0 0 []) := OwnQ.nil _ _ _ _ _
      have hWs : w.heap.size < WA.heap.size := by omega
      obtain ⟨s0, s1, s2, s3, s4, s5, s6, s7, -⟩ := box8 (((HBC.out).block _ (by omega)).trans HX.out)
      have hsz := (HBC.out).size
      have HSA := Lib.hid hsA
      clear hX hbA hsA
      go_enter Tryz.func58, Tryz.ntmps58
      generalize gT ⟨cg, cn, cl, cm⟩ x = Z2 at *
      have gA := HGA.out _ (HBA.out.trans (HBC.out.mono HBA.out.size))
      have HI := infoM
      have hbL : Below WA.heap.size WA (WA.alloc (.cells #[.int .i64 1, .int .i64 0, .int .i64 (Z2 : Int)] 98)) := (Below.refl _ _).alloc (Nat.le_refl _) _
      have hsC := HBC.out.size
      have hO7 := Lib.hid (HO.out.below hbL)
      have hL7 : Hid (∀ j u, (([(1, 0, Z2)] : List Mv).flatMap encM)[j]? = some u → (WA.alloc (.cells #[.int .i64 1, .int .i64 0, .int .i64 (Z2 : Int)] 98)).cell? ((⟨WA.heap.size, 0, none⟩ : Addr).add j) = some u) := fun j u hj => lit_cells (w := WA) (e := 98) (cs := #[.int .i64 1, .int .i64 0, .int .i64 (Z2 : Int)]) (j := j) (u := u) (by exact hj)
      have hB7 : WA.heap.size ≤ (WA.alloc (.cells #[.int .i64 1, .int .i64 0, .int .i64 (Z2 : Int)] 98)).heap.size := by simp; try omega
      have hb7 := HBC.out.trans (hbL.mono HBC.out.size)
      clear hbL hsC
      go_wp2_with (
        at_builtin
        refine wpList_appQ (w0 := WA) (l := []) (ys := [(1, 0, Z2)]) HI Tryz.underlying95 rfl (by omega) (fun _ => rfl) one_m rfl _ _ rfl rfl rfl hO7.out rfl hL7.out (by unfold maxLen; omega) (by omega) hB7 hb7 ?_
        intro a7 c7 w7 ho5 hb6 hg5 hv5
        clear HO HBC hB7 hb7 hO7 hL7 hg5 hv5 s0 s1 s2 s3 s4 s5 s6 s7 hsz
        have HO := Lib.hid ho5
        have HBC := Lib.hid hb6
        clear ho5 hb6
        obtain ⟨s0, s1, s2, s3, s4, s5, s6, s7, -⟩ := box8 (((HBC.out).block _ (by omega)).trans HX.out)
        have hsz := (HBC.out).size
        )
      go_ret
      exact ⟨_, _, _, rfl, by show OwnQ _ _ _ _ _ _ _ _ _; rw [HE.out]; exact HO.out.mono (by have := HSA.out; omega), HBA.out.trans (HBC.out.mono HBA.out.size)⟩
  · have hin' : i = n := by omega
    by_cases hkm : k < m
    · obtain ⟨y, hy⟩ : ∃ y, r[k]? = some y := ⟨_, List.getElem?_eq_getElem (by omega)⟩
      obtain ⟨bh, oh, egb, HGB⟩ := gap_cell HGR hy
      subst egb
      have hgy := gT_le HOK.out y
      have HE : Hid (mvs ⟨cg, cn, cl, cm⟩ l[i]? r[k]? = [(0, 1, gT ⟨cg, cn, cl, cm⟩ y)]) := by show _ = _; rw [hy, List.getElem?_eq_none (by omega)]; rfl
      clear HP HGL HGR hy hlN hlM
      subst hin'
      have hX := World.alloc_heap_new w (.cells #[.int .i64 cg, .int .i64 cn, .int .i64 cl, .int .i64 cm, .slice a i cp, .slice b m cq, .slice ga i gc, .slice (some ⟨bh, oh, none⟩) m gd] 60)
      have hsA : (w.alloc (.cells #[.int .i64 cg, .int .i64 cn, .int .i64 cl, .int .i64 cm, .slice a i cp, .slice b m cq, .slice ga i gc, .slice (some ⟨bh, oh, none⟩) m gd] 60)).heap.size = w.heap.size + 1 := by simp
      generalize hWA : w.alloc (.cells #[.int .i64 cg, .int .i64 cn, .int .i64 cl, .int .i64 cm, .slice a i cp, .slice b m cq, .slice ga i gc, .slice (some ⟨bh, oh, none⟩) m gd] 60) = WA at *
      have HX := Lib.hid hX
      have HBA := Lib.hid hbA
      have HBC : Hid (Below WA.heap.size WA WA) := Below.refl _ _
      have HO : Hid (OwnQ 98 3 encM WA WA.heap.size none 0 0 []) := OwnQ.nil _ _ _ _ _
      have hWs : w.heap.size < WA.heap.size := by omega
      obtain ⟨s0, s1, s2, s3, s4, s5, s6, s7, -⟩ := box8 (((HBC.out).block _ (by omega)).trans HX.out)
      have hsz := (HBC.out).size
      have HSA := Lib.hid hsA
      clear hX hbA hsA
      go_enter Tryz.func58, Tryz.ntmps58
      generalize gT ⟨cg, cn, cl, cm⟩ y = Z3 at *
      have gB := HGB.out _ (HBA.out.trans (HBC.out.mono HBA.out.size))
      have HI := infoM
      have hbL : Below WA.heap.size WA (WA.alloc (.cells #[.int .i64 0, .int .i64 1, .int .i64 (Z3 : Int)] 98)) := (Below.refl _ _).alloc (Nat.le_refl _) _
      have hsC := HBC.out.size
      have hO7 := Lib.hid (HO.out.below hbL)
      have hL7 : Hid (∀ j u, (([(0, 1, Z3)] : List Mv).flatMap encM)[j]? = some u → (WA.alloc (.cells #[.int .i64 0, .int .i64 1, .int .i64 (Z3 : Int)] 98)).cell? ((⟨WA.heap.size, 0, none⟩ : Addr).add j) = some u) := fun j u hj => lit_cells (w := WA) (e := 98) (cs := #[.int .i64 0, .int .i64 1, .int .i64 (Z3 : Int)]) (j := j) (u := u) (by exact hj)
      have hB7 : WA.heap.size ≤ (WA.alloc (.cells #[.int .i64 0, .int .i64 1, .int .i64 (Z3 : Int)] 98)).heap.size := by simp; try omega
      have hb7 := HBC.out.trans (hbL.mono HBC.out.size)
      clear hbL hsC
      go_wp2_with (
        at_builtin
        refine wpList_appQ (w0 := WA) (l := []) (ys := [(0, 1, Z3)]) HI Tryz.underlying95 rfl (by omega) (fun _ => rfl) one_m rfl _ _ rfl rfl rfl hO7.out rfl hL7.out (by unfold maxLen; omega) (by omega) hB7 hb7 ?_
        intro a7 c7 w7 ho5 hb6 hg5 hv5
        clear HO HBC hB7 hb7 hO7 hL7 hg5 hv5 s0 s1 s2 s3 s4 s5 s6 s7 hsz
        have HO := Lib.hid ho5
        have HBC := Lib.hid hb6
        clear ho5 hb6
        obtain ⟨s0, s1, s2, s3, s4, s5, s6, s7, -⟩ := box8 (((HBC.out).block _ (by omega)).trans HX.out)
        have hsz := (HBC.out).size
        )
      go_ret
      exact ⟨_, _, _, rfl, by show OwnQ _ _ _ _ _ _ _ _ _; rw [HE.out]; exact HO.out.mono (by have := HSA.out; omega), HBA.out.trans (HBC.out.mono HBA.out.size)⟩
    · have hkm' : k = m := by omega
      have HE : Hid (mvs ⟨cg, cn, cl, cm⟩ l[i]? r[k]? = []) := by show _ = _; rw [List.getElem?_eq_none (by omega), List.getElem?_eq_none (by omega)]; rfl
      clear HP HGL HGR hlN hlM
      subst hin'
      subst hkm'
      have hX := World.alloc_heap_new w (.cells #[.int .i64 cg, .int .i64 cn, .int .i64 cl, .int .i64 cm, .slice a i cp, .slice b k cq, .slice ga i gc, .slice gb k gd] 60)
      have hsA : (w.alloc (.cells #[.int .i64 cg, .int .i64 cn, .int .i64 cl, .int .i64 cm, .slice a i cp, .slice b k cq, .slice ga i gc, .slice gb k gd] 60)).heap.size = w.heap.size + 1 := by simp
      generalize hWA : w.alloc (.cells #[.int .i64 cg, .int .i64 cn, .int .i64 cl, .int .i64 cm, .slice a i cp, .slice b k cq, .slice ga i gc, .slice gb k gd] 60) = WA at *
      have HX := Lib.hid hX
      have HBA := Lib.hid hbA
      have HBC : Hid (Below WA.heap.size WA WA) := Below.refl _ _
      have HO : Hid (OwnQ 98 3 encM WA WA.heap.size none 0 0 []) := OwnQ.nil _ _ _ _ _
      have hWs : w.heap.size < WA.heap.size := by omega
      obtain ⟨s0, s1, s2, s3, s4, s5, s6, s7, -⟩ := box8 (((HBC.out).block _ (by omega)).trans HX.out)
      have hsz := (HBC.out).size
      have HSA := Lib.hid hsA
      clear hX hbA hsA
      go_enter Tryz.func58, Tryz.ntmps58
      go_wp2_with (fail)
      go_ret
      exact ⟨_, _, _, rfl, by show OwnQ _ _ _ _ _ _ _ _ _; rw [HE.out]; exact HO.out.mono (by have := HSA.out; omega), HBA.out.trans (HBC.out.mono HBA.out.size)⟩
end Go.Proofs.YtaelfjlmkgimhaaGreatDoor
