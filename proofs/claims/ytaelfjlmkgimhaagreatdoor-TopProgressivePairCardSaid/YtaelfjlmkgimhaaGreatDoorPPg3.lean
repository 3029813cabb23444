/- progressive.order. -/
import Derived.Test.YtaelfjlmkgimhaaGreatDoorPPg2
import Derived.Test.YtaelfjlmkgimhaaGreatDoorShelf
set_option linter.unusedVariables false
set_option linter.unusedSimpArgs false
namespace Go.Proofs.YtaelfjlmkgimhaaGreatDoor
open Go.RowKit

/-- The tokens of a source. -/
def srcAt (l : List (List Tok)) (i : Nat) : List Tok := (l[i]?).getD []
/-- The distance of two sources. -/
def dstN (c : Cst) (l : List (List Tok)) (i k : Nat) : Nat := tabS c (srcAt l i) (srcAt l k) 0 0
def ordF (c : Cst) (l : List (List Tok)) : List Nat := ordN (dstN c l) l.length
theorem contn_any (S : Nat → Prop) (a : Option Addr) (n c : Nat) (l : List Nat) (x : Nat) (w : World) (h : Nums S w a n c (natI l)) (h0 : 0 < n) (hn : n ≤ 1000) :
    Calls Tryz.prog 11 #[.slice a n c, .int .i64 (x : Int)] w fun e w' => e = .returned (.bool (decide (x ∈ l))) ∧ w = w' := by
  obtain ⟨_, b, off, -, -, ea, -, -, -, -⟩ := h.int h0
  subst ea
  have hl := h.len
  have := Tryz.slices_Contains_int b off n c (natI l) x w (by omega) (by omega) (fun j hj => by
    obtain ⟨y, b', off', hu, -, ea, -, -, -, hc⟩ := h.int (j := j) (by omega)
    cases ea
    rw [hc, List.getD_eq_getElem?_getD, hu]; rfl)
  refine this.mono ?_
  rintro e w' ⟨rfl, rfl⟩
  refine ⟨ret_bool ?_, rfl⟩
  rw [List.take_of_length_le (by omega), Bool.eq_iff_iff]
  simp [natI]
  constructor
  · rintro ⟨a, h, e⟩
    have e2 : a = x := by omega
    rw [← e2]; exact h
  · intro h; exact ⟨x, h, rfl⟩
set_option maxRecDepth 100000 in
set_option maxHeartbeats 16000000 in
theorem order_any (S : Nat → Prop) (c : Cst) (a : Option Addr) (n cp : Nat) (l : List (List Tok)) (w : World) (h : Tokss S w a n cp l) (hv : VdL l) (hc : c.ok) (h2 : n = 2 ∨ n = 3) (hE : Env w) :
    Calls Tryz.prog 22 #[c.val, .slice a n cp] w fun e w' => ∃ a' c', e = .returned (.tuple #[.slice a' n c', .int .i64 0]) ∧ Nums (fun b => w.heap.size ≤ b) w' a' n c' (natI (ordF c l)) ∧ Below w.heap.size w w' := by
  have hb0 : Below w.heap.size w (w.alloc (.cells c.arr 23)) := (Below.refl _ _).alloc (Nat.le_refl _) _
  have hX := World.alloc_heap_new w (.cells c.arr 23)
  have hsA : (w.alloc (.cells c.arr 23)).heap.size = w.heap.size + 1 := by simp
  have hn2 : 2 ≤ n := by omega
  have hn3 : n ≤ 3 := by omega
  have hnw : IntKind.i64.wrap (n : Int) = n := by rw [IntKind.wrap_i64]; omega
  have HLN := Lib.hid h.len
  obtain ⟨_, bs, os, _, _, _, -, -, has, -, hbs, -, -⟩ := h.row (j := 0) (by omega)
  subst has
  have HDS : Hid (∀ i k, i < n → k < n → ∃ ai ni ci ak nk ck, ∀ W, Below w.heap.size w W → W.cell? ⟨bs, os + i, none⟩ = some (.slice ai ni ci) ∧ W.cell? ⟨bs, os + k, none⟩ = some (.slice ak nk ck) ∧
      Calls Tryz.prog 10 #[c.val, .slice ai ni ci, .slice ak nk ck] W fun e w' => e = .returned (.tuple #[.int .i64 (dstN c l i k : Nat), .int .i64 0]) ∧ Below W.heap.size W w') := fun i k hi hk => by
    obtain ⟨x, b, off, ai, ni, ci, hu, hm, ea, -, hbl, hr, hc0⟩ := h.row hi
    obtain ⟨y, b', off', ak, nk, ck, hu', hm', ea', -, -, hr', hc0'⟩ := h.row hk
    cases ea
    cases ea'
    have hx : srcAt l i = x := by unfold srcAt; rw [hu]; rfl
    have hy : srcAt l k = y := by unfold srcAt; rw [hu']; rfl
    refine ⟨ai, ni, ci, ak, nk, ck, fun W hW => ⟨(hW.cell (p := ⟨bs, os + i, none⟩) hbl).trans hc0, (hW.cell (p := ⟨bs, os + k, none⟩) hbl).trans hc0', ?_⟩⟩
    have hd := dist_any S S c x y ai ak ni nk ci ck W (hr.below rTok_ok hW) (hr'.below rTok_ok hW) (by have := hr.len; have := hv.len x hm; omega) (by have := hr'.len; have := hv.len y hm'; omega) hc (hv.err x hm) (hv.err y hm') (hE.below hW)
    rw [← hx, ← hy] at hd
    exact hd
  have hbd := h.bound
  have HO : Hid (ordF c l = ordN (dstN c l) n) := by show _ = _; unfold ordF; rw [HLN.out]
  clear h hv hc h2 hE
  rw [HO.out]
  generalize dstN c l = D at *
  clear HO
  obtain ⟨cg, cn, cl, cm⟩ := c
  dsimp only [Cst.val, Cst.arr] at hb0 hX hsA HDS ⊢
  generalize hWA : w.alloc (.cells #[.int .i64 cg, .int .i64 cn, .int .i64 cl, .int .i64 cm] 23) = WA at *
  have HX := Lib.hid hX
  have HBA := Lib.hid hb0
  have HSA := Lib.hid hsA
  clear hX hb0 hsA
  obtain ⟨i0, hi, hz0, hz1, hz2⟩ := info_parts Tryz.infoInts
  go_enter Tryz.func22, Tryz.ntmps22
  go_wp2_with (at_make; refine wpList_make_full _ rfl _ _ 31 rfl WA.heap.size 27 i0 (.slice none 0 0) 1 Tryz.underlying31 hi hz0 hz1 .i64 .i64 n n n rfl rfl rfl rfl (by rw [hz2]; omega) (by unfold maxLen; omega) (Nat.le_refl _) ?_; intro w1 hrow hg; have hmo := made_out n hrow; have hbw : Below WA.heap.size WA w1 := (Below.refl _ _).grown hg (Nat.le_refl _) (by simp); have hmo := Lib.hid hmo; have hbw := Lib.hid hbw; clear hrow hg)
  have hb1 : Below w1.heap.size w1 (w1.alloc (.cells #[.slice (some ⟨WA.heap.size, 0, none⟩) n n] 31)) := (Below.refl _ _).alloc (Nat.le_refl _) _
  have hgl : WA.heap.size < w1.heap.size := (Array.getElem?_eq_some_iff.1 hmo.out).1
  have hT0 : Tbl (w1.alloc (.cells #[.slice (some ⟨WA.heap.size, 0, none⟩) n n] 31)) WA.heap.size WA.heap.size n n 0 (fun _ => 0) (fun _ _ => 0) :=
    ⟨(hb1.block _ hgl).trans hmo.out, fun i h => by omega, Nat.le_refl _, fun i h => by omega, fun i h => by omega, fun i k h => by omega⟩
  have hF0 := World.alloc_heap_new w1 (.cells #[.slice (some ⟨WA.heap.size, 0, none⟩) n n] 31)
  have hd0 : Below WA.heap.size WA (w1.alloc (.cells #[.slice (some ⟨WA.heap.size, 0, none⟩) n n] 31)) := hbw.out.trans (hb1.mono hbw.out.size)
  have HG0 := Lib.hid (And.intro hT0 (And.intro hF0 hd0))
  have HGD : Hid (WA.heap.size < w1.heap.size) := hgl
  generalize hbd : w1.heap.size = bd at *
  obtain ⟨g, hg⟩ : ∃ g, g = WA.heap.size := ⟨_, rfl⟩
  rw [← hg] at HG0 HGD ⊢
  have HGE := Lib.hid hg
  clear hT0 hF0 hd0 hmo hbw hb1 hgl hg
  go_loopw [26] (fun i wr => ∃ (j : Nat) (rows : Nat → Nat), i = .int .i64 j ∧ j ≤ n ∧ Hid (Tbl wr g g n n j rows (fun _ _ => 0) ∧ (∀ i, i < j → rows i ≠ bd) ∧ wr.heap[bd]? = some (.cells #[(.slice (some ⟨g, 0, none⟩) n n)] 31 (0, 0)) ∧ Below WA.heap.size WA wr)) (fun i _ => n - (intOf i).toNat)
  case atStart => exact ⟨0, _, rfl, Nat.zero_le _, by rw [HGE.out] at HG0 ⊢; exact ⟨HG0.out.1, fun i h => by omega, HG0.out.2.1, HG0.out.2.2⟩⟩
  case round =>
    clear HG0 hbd
    obtain ⟨j, rows, rfl, hj, hst⟩ := hrel
    by_cases hjn : j < n
    · obtain ⟨TL, A1, Fb, hd⟩ := hst.out
      clear hst
      obtain ⟨X, Wf, hX2, hS1, hS2⟩ := family (fun V : World => V.heap[bd]? = some (.cells #[(.slice (some ⟨g, 0, none⟩) n n)] 31 (0, 0))) wr.drew Fb
      have HS2 := Lib.hid hS2
      have q7 := fun x => (one_box (hS1 x)).1
      have hS0 := HS2.out wr.drew Fb
      obtain ⟨i1, ki, kz0, kz1, kz2⟩ := info_parts Tryz.infoInt
      have TL2 : Tbl wr.drew g g n n j rows (fun _ _ => 0) := TL.below (Below.refl _ _).drew
      have Fb2 : wr.drew.heap[bd]? = some (.cells #[(.slice (some ⟨g, 0, none⟩) n n)] 31 (0, 0)) := Fb
      have hd2 : Below WA.heap.size WA wr.drew := hd.drew
      clear hS1 hS2 TL Fb hd
      go_wp2_with fail
      refine wp_region_tree (Wf := Wf) 5 (.read 0 (.read 1 (.read 2 (.act 3 (.read 4 .fin))))) (by kernel_rfl) (by kernel_rfl) (fun _ _ d _ _ h => by cases d <;> exact h) hS0 ?_
      refine wpTree_read _ rfl (fun K hK => ?_); unfold rOp; go_simp; (refine hK _ ?_; clear hK K)
      refine wpTree_read _ rfl (fun K hK => ?_); unfold rOp; go_simp; (refine hK _ ?_; clear hK K)
      refine wpTree_read _ rfl (fun K hK => ?_); unfold rOp; go_simp; (refine hK _ ?_; clear hK K)
      clear q7 hS0
      generalize wr.drew = V at *
      refine wpTree_act _ rfl ?_
      refine wpList_make_full V rfl _ _ 27 rfl V.heap.size 3 i1 (.int .i64 0) 1 Tryz.underlying27 ki kz0 kz1 .i64 .i64 n n n rfl rfl rfl rfl (by rw [kz2]; omega) (by unfold maxLen; omega) (Nat.le_refl _) ?_
      intro V1 hrow hg
      have hst : Below V.heap.size V V1 := (Below.refl _ _).grown hg (Nat.le_refl _) (by simp)
      have F1 := made_row hrow
      have hlt : Hid (g < V.heap.size ∧ bd < V.heap.size ∧ ∀ i, i < j → rows i < V.heap.size) := ⟨TL2.glt, (Array.getElem?_eq_some_iff.1 Fb2).1, fun i hi => TL2.rlt hi⟩
      have Fb3 := (hst.block _ (Array.getElem?_eq_some_iff.1 Fb2).1).trans Fb2
      have TL3 := TL2.below hst
      have hd3 := hd2.trans (hst.mono hd2.size)
      have hgV : g ≤ V.heap.size := by have := hlt.out.1; omega
      clear TL2 Fb2 hd2 hst hrow hg
      generalize V.heap.size = b1 at *
      go_wp2_with fail
      refine ⟨HS2.out _ Fb3, ?_⟩
      refine wpTree_read _ rfl (fun K hK => ?_); unfold rOp; go_simp; (refine hK _ ?_; clear hK K)
      refine wpTree_fin ?_
      have c17 := TL3.cellN (Nat.lt_irrefl j) hjn
      have f17 := TL3.freeO j
      have hTL := TL3.addRow F1 hgV (by have := hlt.out.1; omega) (fun i hi => by have := hlt.out.2.2 i hi; omega)
      have hFb := (heap_setCell_other (b := g) (j := j) (by have := HGD.out; omega) (.slice (some ⟨b1, 0, none⟩) n n)).trans Fb3
      have hdd := below_setc (b := g) hd3 (by have := HGE.out; omega) j (.slice (some ⟨b1, 0, none⟩) n n)
      have e1 : ∀ i, i < j + 1 → (fun i => if i = j then b1 else rows i) i ≠ bd := fun i hi => by
        dsimp only
        split
        · have := hlt.out.2.1; omega
        · exact A1 i (by omega)
      have HEND := Lib.hid (And.intro hTL (And.intro e1 (And.intro hFb hdd)))
      clear hTL e1 hFb hdd TL3 F1 Fb3 hd3 A1
      go_wp2_with fail
      go_roundw
      case rel => exact ⟨j + 1, _, by go_num, by omega, HEND.out⟩
      case measure => simp [intOf]; omega
    · have hjj : n = j := by omega
      subst hjj
      obtain ⟨TL, A1, Fb, hd⟩ := hst.out
      have HA1 := Lib.hid A1
      have HST : Hid (Tbl wr g g n n n rows (fun i k => ((0 : Nat) : Int)) ∧ wr.heap[bd]? = some (.cells #[(.slice (some ⟨g, 0, none⟩) n n)] 31 (0, 0)) ∧ Below WA.heap.size WA wr) := ⟨TL, Fb, hd⟩
      have HOK0 := Lib.hid (stO_ok (D := D) hn2)
      clear hst TL A1 Fb hd
      go_wp2_with fail
      go_loopw [9, 10, 36] (fun fv sv iv wr => ∃ (f s i : Nat) (T : Nat → Nat → Nat), fv = .int .i64 (f : Int) ∧ sv = .int .i64 (s : Int) ∧ iv = .int .i64 (i : Int) ∧ i ≤ n ∧ Hid ((f, s) = stO D n i) ∧ (f < s ∧ s < n) ∧ Hid ((i = 0 ∧ f = 0 ∧ s = 1) ∨ T f s = D f s) ∧
        Hid (Tbl wr g g n n n rows (fun i k => (T i k : Int)) ∧ wr.heap[bd]? = some (.cells #[(.slice (some ⟨g, 0, none⟩) n n)] 31 (0, 0)) ∧ Below WA.heap.size WA wr)) (fun _ _ iv _ => n - (intOf iv).toNat)
      case atStart => exact ⟨0, 1, 0, fun _ _ => 0, rfl, rfl, rfl, Nat.zero_le _, rfl, ⟨by omega, by omega⟩, .inl ⟨rfl, rfl, rfl⟩, HST.out⟩
      case round =>
        clear HST
        obtain ⟨f, s, i, T, rfl, rfl, rfl, hi2, hfs, hfsb, hTf, hst⟩ := hrel
        by_cases hin : i < n
        · have hsz : Hid ((f, s) = stI D i (stO D n i) (i + 1)) := by show _ = _; rw [stI_low (i + 1) (Nat.le_refl _)]; exact hfs.out
          have hT2 : Hid ((i = 0 ∧ i + 1 = 1 ∧ f = 0 ∧ s = 1) ∨ T f s = D f s) := by
            rcases hTf.out with q | q
            · exact .inl ⟨q.1, by omega, q.2.1, q.2.2⟩
            · exact .inr q
          have hI1 : IntKind.i64.wrap ((i : Int) + 1) = ((i + 1 : Nat) : Int) := by rw [IntKind.wrap_i64]; omega
          have HB3 := Lib.hid (And.intro hfsb hst.out)
          clear hfs hTf hst hfsb
          obtain ⟨wo, rfl⟩ : ∃ wo : World, wo = wr := ⟨_, rfl⟩
          go_wp2_with fail
          go_loopw [9, 10, 12] (fun fv sv kv wr => ∃ (f s k : Nat) (T : Nat → Nat → Nat), fv = .int .i64 (f : Int) ∧ sv = .int .i64 (s : Int) ∧ kv = .int .i64 (k : Int) ∧ k ≤ n ∧ i < k ∧ Hid ((f, s) = stI D i (stO D n i) k) ∧ (f < s ∧ s < n) ∧ Hid ((i = 0 ∧ k = 1 ∧ f = 0 ∧ s = 1) ∨ T f s = D f s) ∧
            Hid (Tbl wr g g n n n rows (fun i k => (T i k : Int)) ∧ wr.heap[bd]? = some (.cells #[(.slice (some ⟨g, 0, none⟩) n n)] 31 (0, 0)) ∧ Below WA.heap.size WA wr)) (fun _ _ kv _ => n - (intOf kv).toNat)
          case atStart => exact ⟨f, s, i + 1, T, rfl, rfl, by first | rfl | go_num, by omega, by omega, hsz, HB3.out.1, hT2, HB3.out.2⟩
          case round =>
            clear HB3 hsz hT2 hI1
            obtain ⟨f, s, k, T, rfl, rfl, rfl, hk2, hik, hfs, hfsb, hTf, hst⟩ := hrel
            by_cases hkn : k < n
            · obtain ⟨TL, Fb, hd⟩ := hst.out
              have hbw := HBA.out.trans (hd.mono HBA.out.size)
              obtain ⟨ai, ni, ci, ak, nk, ck, hDS⟩ := HDS.out i k hin hkn
              obtain ⟨d0, d1, -⟩ := hDS wr hbw
              obtain ⟨x, hx⟩ : ∃ x, x = D i k := ⟨_, rfl⟩
              have HDC : Hid (∀ W, Below wr.heap.size wr W → Calls Tryz.prog 10 #[.agg #[.int .i64 cg, .int .i64 cn, .int .i64 cl, .int .i64 cm], .slice ai ni ci, .slice ak nk ck] W fun e w' => e = .returned (.tuple #[.int .i64 (x : Nat), .int .i64 0]) ∧ Below W.heap.size W w') := fun W hW => by rw [hx]; exact (hDS W (hbw.trans (hW.mono hbw.size))).2.2
              obtain ⟨k0, k1, k2, k3, -⟩ := box_cells4 ((hd.block w.heap.size (by have := HSA.out; omega)).trans HX.out)
              have hv0 : Hid ((if i = k ∧ k = i then x else if i = i ∧ k = k then x else T i k) = x) := by show _ = _; rw [if_neg (by omega), if_pos ⟨rfl, rfl⟩]
              have hvf : Hid ((if f = k ∧ s = i then x else if f = i ∧ s = k then x else T f s) = D f s) := by
                show _ = _
                rw [if_neg (by omega)]
                by_cases e : f = i ∧ s = k
                · rw [if_pos e, hx, e.1, e.2]
                · rw [if_neg e]
                  rcases hTf.out with q | q
                  · omega
                  · exact q
              have hnext : Hid (stI D i (stO D n i) (k + 1) = if x < D f s then (i, k) else (f, s)) := by
                show _ = _
                rw [stI, if_pos hik, ← hfs.out, nxtP, ← hx]
              have hDfs : Hid (x = D i k) := hx
              obtain ⟨y, hy⟩ : ∃ y, y = D f s := ⟨_, rfl⟩
              rw [← hy] at hvf hnext
              have hyfs : Hid (y = D f s) := hy
              have hkw : IntKind.i64.wrap ((k : Int) + 1) = ((k + 1 : Nat) : Int) := by rw [IntKind.wrap_i64]; omega
              have HT := Lib.hid (And.intro TL (And.intro Fb hd))
              clear TL Fb hd hbw hDS hx hy hst hTf hfs
              go_wp2_with fail
              obtain ⟨X, Wf, hX, hS1, hS2⟩ := family (fun V => Below wr.heap.size wr V) wr (Below.refl _ _)
              have HS2 := Lib.hid hS2
              have q_d0 := fun x => cell_later (hS1 x) d0
              have q_d1 := fun x => cell_later (hS1 x) d1
              have q_k0 := fun x => cell_later (hS1 x) k0
              have q_k1 := fun x => cell_later (hS1 x) k1
              have q_k2 := fun x => cell_later (hS1 x) k2
              have q_k3 := fun x => cell_later (hS1 x) k3
              clear hS1 hS2
              have hd0 : Below wr.heap.size wr wr.drew := (Below.refl _ _).drew
              refine wp_region_tree (Wf := Wf) 14 (.read 0 (.read 1 (.read 2 (.read 3 (.read 4 (.read 5 (.read 6 (.read 7 (.read 8 (.act 9 (.read 10 (.read 11 (.read 12 (.act 13 .fin)))))))))))))) (by kernel_rfl) (by kernel_rfl) (fun _ _ d _ _ h => by cases d <;> exact h) (HS2.out _ hd0) ?_
              refine wpTree_read _ rfl (fun K hK => ?_); unfold rOp; go_simp; (refine hK _ ?_; clear hK K)
              refine wpTree_read _ rfl (fun K hK => ?_); unfold rOp; go_simp; (refine hK _ ?_; clear hK K)
              refine wpTree_read _ rfl (fun K hK => ?_); unfold rOp; go_simp; (refine hK _ ?_; clear hK K)
              refine wpTree_read _ rfl (fun K hK => ?_); unfold rOp; go_simp; (refine hK _ ?_; clear hK K)
              refine wpTree_read _ rfl (fun K hK => ?_); unfold rOp; go_simp; (refine hK _ ?_; clear hK K)
              refine wpTree_read _ rfl (fun K hK => ?_); unfold rOp; go_simp; (refine hK _ ?_; clear hK K)
              refine wpTree_read _ rfl (fun K hK => ?_); unfold rOp; go_simp; (refine hK _ ?_; clear hK K)
              refine wpTree_read _ rfl (fun K hK => ?_); unfold rOp; go_simp; (refine hK _ ?_; clear hK K)
              refine wpTree_read _ rfl (fun K hK => ?_); unfold rOp; go_simp; (refine hK _ ?_; clear hK K)
              refine wpTree_act _ rfl ?_
              go_wp2_with (go_at_call 10; refine (HDC.out _ hd0).mono ?_; rintro e w4 ⟨rfl, hb4⟩)
              have hd4 := hd0.trans (hb4.mono hd0.size)
              refine ⟨HS2.out _ hd4, ?_⟩
              refine wpTree_read _ rfl (fun K hK => ?_); unfold rOp; go_simp; (refine hK _ ?_; clear hK K)
              refine wpTree_read _ rfl (fun K hK => ?_); unfold rOp; go_simp; (refine hK _ ?_; clear hK K)
              refine wpTree_read _ rfl (fun K hK => ?_); unfold rOp; go_simp; (refine hK _ ?_; clear hK K)
              refine wpTree_act _ rfl ?_
              go_wp2_with fail
              refine ⟨HS2.out _ hd4, ?_⟩
              refine wpTree_fin ?_
              obtain ⟨TL, Fb, hd⟩ := HT.out
              have TL4 := TL.below hd4
              have Fb4 := (hd4.block _ (Array.getElem?_eq_some_iff.1 Fb).1).trans Fb
              have hd5 := hd.trans (hd4.mono hd.size)
              clear q_d0 q_d1 q_k0 q_k1 q_k2 q_k3 HS2 hd0 hb4 hd4 TL Fb hd HT HDC d0 d1 k0 k1 k2 k3
              go_wp2_with fail
              -- region 18
              have TLd : Tbl w4.drew g g n n n rows (fun i k => (T i k : Int)) := TL4.below (Below.refl _ _).drew
              have Fbd : w4.drew.heap[bd]? = some (.cells #[(.slice (some ⟨g, 0, none⟩) n n)] 31 (0, 0)) := Fb4
              have hdd : Below WA.heap.size WA w4.drew := hd5.drew
              have x1 := (one_box Fbd).1
              have x2 := TLd.cellO hin hin
              have x3 := TLd.cellO hkn hkn
              obtain ⟨Y, Wg, hY, hS1, hS2'⟩ := family (fun V : World => V.cell? ⟨bd, 0, none⟩ = some (.slice (some ⟨g, 0, none⟩) n n) ∧ V.cell? ⟨g, i, none⟩ = some (.slice (some ⟨rows i, 0, none⟩) n n) ∧ V.cell? ⟨g, k, none⟩ = some (.slice (some ⟨rows k, 0, none⟩) n n)) w4.drew ⟨x1, x2, x3⟩
              have q1 := fun x => (hS1 x).1
              have q2 := fun x => (hS1 x).2.1
              have q3 := fun x => (hS1 x).2.2
              have hS0 := hS2' w4.drew ⟨x1, x2, x3⟩
              have n1 := TLd.ne i hin
              have n2 := TLd.ne k hkn
              have l1 := TLd.lor i hin
              have l2 := TLd.lor k hkn
              have y1 := cell?_setc_other (b := rows i) (j := k) (v := .int .i64 (x : Int)) (HA1.out i hin).symm x1
              have y2 := cell?_setc_other (b := rows i) (j := k) (v := .int .i64 (x : Int)) n1.symm x2
              have y3 := cell?_setc_other (b := rows i) (j := k) (v := .int .i64 (x : Int)) n1.symm x3
              have hS3 := hS2' (w4.drew.setCell ⟨rows i, k, none⟩ (.int .i64 (x : Int))) ⟨y1, y2, y3⟩
              have TL5 := TLd.put hin k (x : Int)
              have c13 := TLd.cellI hin hkn
              have f13 := TLd.freeI hin k
              have c15 := TL5.cellI hkn hin
              have f15 := TL5.freeI hkn i
              have TL6 := (TL5.put hkn i (x : Int)).congr (U := fun a b => ((if a = k ∧ b = i then x else if a = i ∧ b = k then x else T a b : Nat) : Int)) (fun a b _ _ => by split <;> (try split) <;> rfl)
              have Fb6 : ((w4.drew.setCell ⟨rows i, k, none⟩ (.int .i64 (x : Int))).setCell ⟨rows k, i, none⟩ (.int .i64 (x : Int))).heap[bd]? = some (.cells #[(.slice (some ⟨g, 0, none⟩) n n)] 31 (0, 0)) := (heap_setCell_other (HA1.out k hkn).symm _).trans ((heap_setCell_other (HA1.out i hin).symm _).trans Fbd)
              have hd6 := below_setc (below_setc hdd (b := rows i) (by have := HGE.out; omega) k (.int .i64 (x : Int))) (b := rows k) (by have := HGE.out; omega) i (.int .i64 (x : Int))
              have z0 := (one_box Fb6).1
              have z1 := TL6.cellO (i := f) (by omega) (by omega)
              have z2 := TL6.cellI (i := f) (k := s) (by omega) (by omega)
              rw [hvf.out] at z2
              have HEND := Lib.hid (And.intro TL6 (And.intro Fb6 hd6))
              clear TL6 Fb6 hd6 TL5 TLd Fbd hdd y1 y2 y3 x1 x2 x3 n1 n2 l1 l2 hS1 TL4 Fb4 hd5
              refine wp_region_tree (Wf := Wg) 15 (.read 0 (.read 1 (.read 2 (.read 3 (.read 4 (.read 5 (.read 6 (.read 7 (.read 8 (.read 9 (.read 10 (.read 11 (.read 12 (.act 13 (.read 14 .fin))))))))))))))) (by kernel_rfl) (by kernel_rfl) (fun _ _ d _ _ h => by cases d <;> exact h) hS0 ?_
              generalize w4.drew = wd at *
              refine wpTree_read _ rfl (fun K hK => ?_); unfold rOp; go_simp; (refine hK _ ?_; clear hK K)
              refine wpTree_read _ rfl (fun K hK => ?_); unfold rOp; go_simp; (refine hK _ ?_; clear hK K)
              refine wpTree_read _ rfl (fun K hK => ?_); unfold rOp; go_simp; (refine hK _ ?_; clear hK K)
              refine wpTree_read _ rfl (fun K hK => ?_); unfold rOp; go_simp; (refine hK _ ?_; clear hK K)
              refine wpTree_read _ rfl (fun K hK => ?_); unfold rOp; go_simp; (refine hK _ ?_; clear hK K)
              refine wpTree_read _ rfl (fun K hK => ?_); unfold rOp; go_simp; (refine hK _ ?_; clear hK K)
              refine wpTree_read _ rfl (fun K hK => ?_); unfold rOp; go_simp; (refine hK _ ?_; clear hK K)
              refine wpTree_read _ rfl (fun K hK => ?_); unfold rOp; go_simp; (refine hK _ ?_; clear hK K)
              refine wpTree_read _ rfl (fun K hK => ?_); unfold rOp; go_simp; (refine hK _ ?_; clear hK K)
              refine wpTree_read _ rfl (fun K hK => ?_); unfold rOp; go_simp; (refine hK _ ?_; clear hK K)
              refine wpTree_read _ rfl (fun K hK => ?_); unfold rOp; go_simp; (refine hK _ ?_; clear hK K)
              refine wpTree_read _ rfl (fun K hK => ?_); unfold rOp; go_simp; (refine hK _ ?_; clear hK K)
              refine wpTree_read _ rfl (fun K hK => ?_); unfold rOp; go_simp; (refine hK _ ?_; clear hK K)
              refine wpTree_act _ rfl ?_
              go_wp2_with fail
              refine ⟨hS3, ?_⟩
              clear hS3 hS0 c13 f13
              generalize wd.setCell ⟨rows i, k, none⟩ (.int .i64 (x : Int)) = V1 at *
              refine wpTree_read _ rfl (fun K hK => ?_); unfold rOp; go_simp; (refine hK _ ?_; clear hK K)
              refine wpTree_fin ?_
              clear q1 q2 q3 hS2'
              by_cases hxy : x < y
              · have hfs2 : Hid ((i, k) = stI D i (stO D n i) (k + 1)) := by show _ = _; rw [hnext.out, if_pos hxy]
                go_wp2_with fail
                go_roundw
                case rel => exact ⟨i, k, k + 1, (fun a b => if a = k ∧ b = i then x else if a = i ∧ b = k then x else T a b), by first | rfl | go_num, by first | rfl | go_num, by first | rfl | go_num, by omega, by omega, hfs2, ⟨hik, hkn⟩, .inr (by dsimp only; rw [if_neg (by omega), if_pos ⟨rfl, rfl⟩]; exact hDfs.out), HEND.out⟩
                case measure => simp [intOf]; omega
              · have hfs2 : Hid ((f, s) = stI D i (stO D n i) (k + 1)) := by show _ = _; rw [hnext.out, if_neg hxy]
                go_wp2_with fail
                go_roundw
                case rel => exact ⟨f, s, k + 1, _, by first | rfl | go_num, by first | rfl | go_num, by first | rfl | go_num, by omega, by omega, hfs2, hfsb, .inr (hvf.out.trans hyfs.out), HEND.out⟩
                case measure => simp [intOf]; omega
            · have hkk : k = n := by omega
              have hfs2 : Hid ((f, s) = stO D n (i + 1)) := by show _ = stI D i (stO D n i) n; have q := hfs.out; rw [hkk] at q; exact q
              have hT3 : Hid ((i + 1 = 0 ∧ f = 0 ∧ s = 1) ∨ T f s = D f s) := by
                rcases hTf.out with q | q
                · omega
                · exact .inr q
              clear hfs hTf
              go_wp2_with fail
              go_roundw
              case rel => exact ⟨f, s, i + 1, T, by first | rfl | go_num, by first | rfl | go_num, by first | rfl | go_num, by omega, hfs2, hfsb, hT3, hst⟩
              case measure => simp [intOf]; omega
        · have hii : i = n := by omega
          have HFS : Hid ((f, s) = stO D n n) := by have q := hfs.out; rw [hii] at q; exact q
          have HII := Lib.hid hii
          clear hii
          obtain ⟨TL, Fb, hd⟩ := hst.out
          obtain ⟨wo, rfl⟩ : ∃ wo : World, wo = wr := ⟨_, rfl⟩
          have HT := Lib.hid (And.intro TL (And.intro Fb hd))
          have HRD : Hid (∀ W i' a' b', Below wo.heap.size wo W → i' < n → a' < n → b' < n → ∃ x y : Int, W.cell? ⟨bd, 0, none⟩ = some (.slice (some ⟨g, 0, none⟩) n n) ∧ W.cell? ⟨g, i', none⟩ = some (.slice (some ⟨rows i', 0, none⟩) n n) ∧ W.cell? ⟨rows i', a', none⟩ = some (.int .i64 x) ∧ W.cell? ⟨rows i', b', none⟩ = some (.int .i64 y)) := fun W i' a' b' hW h1 h2 h3 =>
            ⟨_, _, (one_box ((hW.block _ (Array.getElem?_eq_some_iff.1 Fb).1).trans Fb)).1, (TL.below hW).cellO h1 h1, (TL.below hW).cellI h1 h2, (TL.below hW).cellI h1 h3⟩
          have hwr : w.heap.size < wo.heap.size := by have := hd.size; have := HSA.out; omega
          have hbwr : Below w.heap.size w wo := HBA.out.trans (hd.mono HBA.out.size)
          clear TL Fb hd hst hfs hTf HT HDS HX HOK0 HA1
          have hL : Nums (fun b => w.heap.size ≤ b) (wo.alloc (.cells #[.int .i64 (f : Int), .int .i64 (s : Int)] 3)) (some ⟨wo.heap.size, 0, none⟩) 2 2 (natI [f, s]) := by
            have hq : OwnQ 3 1 encI (wo.alloc (.cells #[.int .i64 (f : Int), .int .i64 (s : Int)] 3)) wo.heap.size (some ⟨wo.heap.size, 0, none⟩) 2 2 (natI [f, s]) := OwnQ.lit (l := natI [f, s]) (enc := encI) (cs := #[.int .i64 (f : Int), .int .i64 (s : Int)]) wo _ (Nat.le_refl _) rfl (fun _ => rfl) (by simp [natI])
            exact hq.sq (R := rInt) (fun _ => rfl) (by omega) (fun x hx => by cases hx; exact Nat.le_of_lt hwr) (fun x hx => ⟨rfl, by simp [natI] at hx; exact ⟨by omega, by omega⟩⟩)
          have hQ : OwnQ 3 1 encI (wo.alloc (.cells #[.int .i64 (f : Int), .int .i64 (s : Int)] 3)) wo.heap.size (some ⟨wo.heap.size, 0, none⟩) 2 2 (natI [f, s]) := OwnQ.lit (l := natI [f, s]) (enc := encI) (cs := #[.int .i64 (f : Int), .int .i64 (s : Int)]) wo _ (Nat.le_refl _) rfl (fun _ => rfl) (by simp [natI])
          have hb2 : Below wo.heap.size wo (wo.alloc (.cells #[.int .i64 (f : Int), .int .i64 (s : Int)] 3)) := (Below.refl _ _).alloc (Nat.le_refl _) _
          have HLL := Lib.hid (And.intro hL (And.intro hQ hb2))
          clear hL hQ hb2
          have hn23 : n = 2 ∨ n = 3 := by omega
          rcases hn23 with hne | hne
          · have HOR : Hid (ordN D n = [f, s]) := by show _ = _; unfold ordN; rw [if_neg (by omega), ← HFS.out]
            subst hne
            go_wp2_with fail
            go_loopw [15] (fun o W => o = .slice (some ⟨wo.heap.size, 0, none⟩) 2 2 ∧ W = wo.alloc (.cells #[.int .i64 (f : Int), .int .i64 (s : Int)] 3)) (fun _ _ => 0)
            case atStart => exact ⟨rfl, rfl⟩
            case round =>
              obtain ⟨rfl, rfl⟩ := hrel
              go_wp2_with fail
              go_ret2
              exact ⟨_, _, rfl, by rw [HOR.out]; exact HLL.out.1, hbwr.trans (HLL.out.2.2.mono hbwr.size)⟩
          · have HOR : Hid (ordN D n = [f, s, 3 - f - s]) := by show _ = _; unfold ordN; rw [if_pos hne, ← HFS.out]
            have HN3 := Lib.hid hne
            have hge : 3 ≤ n := by omega
            have hmin : min (n : Int) 2 = 2 := by omega
            have t2n : decide (2 < (n : Int)) = true := decide_eq_true (by omega)
            have t2m : decide (2 < n) = true := decide_eq_true (by omega)
            obtain ⟨r, hr⟩ : ∃ r, r = 3 - f - s := ⟨_, rfl⟩
            rw [← hr] at HOR
            have hr3 : r < n := by omega
            have hrfs : r ≠ f ∧ r ≠ s := by omega
            have honly : ∀ j, j < n → ¬ (j = f ∨ j = s) → j = r := fun j h1 h2 => by omega
            have HRR := Lib.hid (And.intro hrfs honly)
            clear hr hrfs honly hne
            go_wp2_with fail
            go_loopw [15] (fun o W => ∃ (a' : Option Addr) (mm c' : Nat), o = .slice a' mm c' ∧ ((mm = 2 ∧ Hid (OwnQ 3 1 encI W wo.heap.size a' mm c' (natI [f, s]))) ∨ (mm = n ∧ Hid (OwnQ 3 1 encI W wo.heap.size a' mm c' (natI [f, s, r])))) ∧ Hid (Below wo.heap.size wo W)) (fun o _ => match o with | .slice _ mm _ => n - mm | _ => 0)
            case atStart => exact ⟨_, 2, 2, rfl, .inl ⟨rfl, HLL.out.2.1⟩, HLL.out.2.2⟩
            case round =>
              obtain ⟨a', mm, c', rfl, hway, hbo⟩ := hrel
              obtain ⟨W, rfl⟩ : ∃ W : World, W = wr := ⟨_, rfl⟩
              rcases hway with ⟨hmm, hO⟩ | ⟨hmm, hO⟩
              · subst hmm
                have hqq := hO.out.sq (R := rInt) (s := 8) (S := fun _ => True) (fun _ => rfl) (by omega) (fun _ _ => trivial) (fun x hx => ⟨rfl, by simp [natI] at hx; exact ⟨by omega, by omega⟩⟩)
                have HQQ := Lib.hid hqq
                obtain ⟨gb, ea⟩ : ∃ gb, a' = some ⟨gb, 0, none⟩ := by obtain ⟨_, gb, -, -, ea, -⟩ := hO.out.at_ (j := 0) (fun _ => rfl) (by omega); exact ⟨gb, ea⟩
                subst ea
                clear hqq
                go_wp2_with fail
                go_loopw [16, 17, 99] (fun bv lv jv wr => ∃ (b z : Int) (j : Nat), bv = .int .i64 b ∧ lv = .int .i64 z ∧ jv = .int .i64 (j : Int) ∧ j ≤ n ∧ Hid (b = if r < j then (r : Int) else -1) ∧ Hid (Below W.heap.size W wr)) (fun _ _ jv _ => n - (intOf jv).toNat)
                case atStart => exact ⟨-1, 0, 0, rfl, rfl, rfl, by omega, by show _ = _; rw [if_neg (by omega)], Below.refl _ _⟩
                case round =>
                  obtain ⟨b, z, j, rfl, rfl, rfl, hj, hbv, hbW⟩ := hrel
                  by_cases hj3 : j < n
                  · have hb1 : Below wr.heap.size wr (wr.alloc (.cells #[.int .i64 (j : Int)] 3)) := (Below.refl _ _).alloc (Nat.le_refl _) _
                    have gbi := World.alloc_heap_new wr (.cells #[.int .i64 (j : Int)] 3)
                    have cbi := (one_box gbi).1
                    have hbW1 := hbW.out.trans (hb1.mono hbW.out.size)
                    have HCT := Lib.hid (contn_any (fun _ => True) _ 2 c' [f, s] j _ (HQQ.out.below rInt_ok hbW1) (by omega) (by omega))
                    by_cases hjfs : j = f ∨ j = s
                    · have t1 : decide (j ∈ [f, s]) = true := by simp; exact hjfs
                      rw [t1] at HCT
                      have HBV : Hid (b = if r < j + 1 then (r : Int) else -1) := by
                        show _ = _
                        rw [hbv.out]
                        have := HRR.out.1
                        by_cases e : r < j
                        · rw [if_pos e, if_pos (by omega)]
                        · rw [if_neg e, if_neg (by omega)]
                      have HB1 := Lib.hid hbW1
                      clear t1 hbv hb1 gbi hbW1 hbW
                      go_wp2_with (go_at_call 11; refine HCT.out.mono ?_; rintro e w5 ⟨rfl, rfl⟩)
                      go_roundw
                      case rel => exact ⟨b, z, j + 1, by first | rfl | go_num, by first | rfl | go_num, by first | rfl | go_num, by omega, HBV, HB1.out⟩
                      case measure => simp [intOf]; omega
                    · have t1 : decide (j ∈ [f, s]) = false := by simp; omega
                      rw [t1] at HCT
                      have hjr := HRR.out.2 j hj3 hjfs
                      have hb0 : b = -1 := by rw [hbv.out, if_neg (by omega)]
                      subst hb0
                      subst hjr
                      have hWO := hbo.out.trans (hbW1.mono hbo.out.size)
                      have HNR : Hid (∀ V (x y : Nat), Below (wr.alloc (.cells #[.int .i64 (j : Int)] 3)).heap.size (wr.alloc (.cells #[.int .i64 (j : Int)] 3)) V → x < n → y < n → Calls Tryz.prog 48 #[.int .i64 (x : Int), .int .i64 (y : Int), .pointer (some ⟨bd, 0, none⟩), .pointer (some ⟨wr.heap.size, 0, none⟩)] V fun e w' => (∃ z : Int, e = .returned (.int .i64 z)) ∧ Drew V w') := fun V x y hV hx hy => by
                        obtain ⟨u, v, g1, g2, g3, g4⟩ := HRD.out V j x y (hWO.trans (hV.mono hWO.size)) hj3 hx hy
                        exact near1_any bd wr.heap.size g (rows j) n j x y u v V g1 ((hV.cell (p := ⟨wr.heap.size, 0, none⟩) (by simp)).trans cbi) g2 g3 g4 hj3 hx hy
                      have HMF := Lib.hid (minf_any (fun _ => True) bd wr.heap.size n (some ⟨gb, 0, none⟩) 2 c' [f, s] _ (HQQ.out.below rInt_ok hbW1) (by omega) (by omega) (fun x hx => by simp at hx; omega) HNR.out)
                      have HCB : Hid (∀ V, Below (wr.alloc (.cells #[.int .i64 (j : Int)] 3)).heap.size (wr.alloc (.cells #[.int .i64 (j : Int)] 3)) V → V.cell? ⟨wr.heap.size, 0, none⟩ = some (.int .i64 (j : Int))) := fun V hV => (hV.cell (p := ⟨wr.heap.size, 0, none⟩) (by simp)).trans cbi
                      have HWO := Lib.hid hWO
                      have HB1 := Lib.hid hbW1
                      clear t1 hbv hb1 gbi hbW1 hbW hWO HNR
                      go_wp2_with (first | (go_at_call 11; refine HCT.out.mono ?_; rintro e w5 ⟨rfl, rfl⟩) | (go_at_call 47; refine HMF.out.mono ?_; rintro e w6 ⟨⟨z1, rfl, hz1⟩, hb6⟩; have HB6 := Lib.hid hb6; have hz3 : z1 < n := (by simp at hz1; omega); obtain ⟨u, v, g1, g2, g3, g4⟩ := HRD.out w6 j z1 z1 (HWO.out.trans (hb6.mono HWO.out.size)) hj3 hz3 hz3; have g5 := HCB.out w6 hb6; clear hz1 hb6 g4))
                      obtain ⟨X, Wf, hX, hS1, hS2⟩ := family (fun V => Below w6.heap.size w6 V) w6 (Below.refl _ _)
                      have HS2 := Lib.hid hS2
                      have q_g1 := fun x => cell_later (hS1 x) g1
                      have q_g2 := fun x => cell_later (hS1 x) g2
                      have q_g3 := fun x => cell_later (hS1 x) g3
                      have q_g5 := fun x => cell_later (hS1 x) g5
                      clear hS1 hS2
                      have hd0 : Below w6.heap.size w6 w6.drew := (Below.refl _ _).drew
                      refine wp_region_tree (Wf := Wf) 9 (.read 0 (.read 1 (.read 2 (.read 3 (.read 4 (.read 5 (.read 6 (.read 7 (.act 8 .fin))))))))) (by kernel_rfl) (by kernel_rfl) (fun _ _ d _ _ h => by cases d <;> exact h) (HS2.out _ hd0) ?_
                      refine wpTree_read _ rfl (fun K hK => ?_); unfold rOp; go_simp; (refine hK _ ?_; clear hK K)
                      refine wpTree_read _ rfl (fun K hK => ?_); unfold rOp; go_simp; (refine hK _ ?_; clear hK K)
                      refine wpTree_read _ rfl (fun K hK => ?_); unfold rOp; go_simp; (refine hK _ ?_; clear hK K)
                      refine wpTree_read _ rfl (fun K hK => ?_); unfold rOp; go_simp; (refine hK _ ?_; clear hK K)
                      refine wpTree_read _ rfl (fun K hK => ?_); unfold rOp; go_simp; (refine hK _ ?_; clear hK K)
                      refine wpTree_read _ rfl (fun K hK => ?_); unfold rOp; go_simp; (refine hK _ ?_; clear hK K)
                      refine wpTree_read _ rfl (fun K hK => ?_); unfold rOp; go_simp; (refine hK _ ?_; clear hK K)
                      refine wpTree_read _ rfl (fun K hK => ?_); unfold rOp; go_simp; (refine hK _ ?_; clear hK K)
                      refine wpTree_act _ rfl ?_
                      go_wp2_with fail
                      refine ⟨HS2.out _ hd0, ?_⟩
                      refine wpTree_fin ?_
                      have HBN := Lib.hid ((HB1.out.trans (HB6.out.mono HB1.out.size)).trans (hd0.mono (HB1.out.trans (HB6.out.mono HB1.out.size)).size))
                      have HBV : Hid ((j : Int) = if j < j + 1 then (j : Int) else -1) := by show _ = _; rw [if_pos (by omega)]
                      clear q_g1 q_g2 q_g3 q_g5 HS2 hd0 g1 g2 g3 g5
                      go_wp2_with fail
                      go_roundw
                      case rel => exact ⟨j, _, j + 1, by first | rfl | go_num, by first | rfl | go_num, by first | rfl | go_num, by omega, HBV, HBN.out⟩
                      case measure => simp [intOf]; omega
                  · have hj33 : j = n := by omega
                    have hbr : b = (r : Int) := by rw [hbv.out, if_pos (by omega)]
                    subst hbr
                    have hb1 : Below wr.heap.size wr (wr.alloc (.cells #[.int .i64 (r : Int)] 3)) := (Below.refl _ _).alloc (Nat.le_refl _) _
                    have HB1 := Lib.hid (hbW.out.trans (hb1.mono hbW.out.size))
                    have HO1 := Lib.hid (hO.out.below HB1.out)
                    have HL5 : Hid (∀ j u, (([(r : Int)] : List Int).flatMap encI)[j]? = some u → (wr.alloc (.cells #[.int .i64 (r : Int)] 3)).cell? ((⟨wr.heap.size, 0, none⟩ : Addr).add j) = some u) := fun j u hj => lit_cells (w := wr) (e := 3) (cs := #[.int .i64 (r : Int)]) (j := j) (u := u) (by exact hj)
                    have hB9 : wo.heap.size ≤ (wr.alloc (.cells #[.int .i64 (r : Int)] 3)).heap.size := by have := hbo.out.size; have := HB1.out.size; omega
                    have hbB := hbo.out.trans (HB1.out.mono hbo.out.size)
                    have HI := infoI
                    clear hb1 hbv hj33
                    go_wp2_with (at_builtin; refine wpList_appQ (w0 := wo) (l := natI [f, s]) (ys := [(r : Int)]) HI Tryz.underlying27 rfl (by omega) (fun _ => rfl) one_i rfl _ _ rfl rfl rfl HO1.out rfl HL5.out (by unfold maxLen; omega) (by omega) hB9 hbB ?_; intro a5 c5 w5 ho5 hb6 hg5 hv5; have HO5 : Hid (OwnQ 3 1 encI w5 wo.heap.size a5 3 c5 (natI [f, s, r])) := ho5; have HB5 := Lib.hid hb6; clear ho5 hb6 hg5 hv5)
                    go_roundw
                    case rel => exact ⟨a5, n, c5, by rw [HN3.out], .inr ⟨rfl, by rw [HN3.out]; exact HO5.out⟩, HB5.out⟩
                    case measure => have := HN3.out; simp; omega
              · subst hmm
                have hqq := hO.out.sq (R := rInt) (s := 8) (S := fun b => w.heap.size ≤ b) (fun _ => rfl) (by omega) (fun x hx => Nat.le_trans (Nat.le_of_lt hwr) (hO.out.lt x hx).1) (fun x hx => ⟨rfl, by simp [natI] at hx; exact ⟨by omega, by omega⟩⟩)
                have HQQ := Lib.hid hqq
                clear hqq
                go_wp2_with fail
                go_ret2
                exact ⟨_, _, rfl, by rw [HOR.out]; exact HQQ.out, hbwr.trans (hbo.out.mono hbwr.size)⟩
end Go.Proofs.YtaelfjlmkgimhaaGreatDoor
