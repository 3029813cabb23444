/- transcript.Merge. -/
import Derived.Test.YtbjanlmnmeegnaaDoorTOx
import Derived.Test.YtbjanlmnmeegnaaDoorETree
set_option linter.unusedVariables false
set_option linter.unusedSimpArgs false
namespace Go.Proofs.YtbjanlmnmeegnaaDoor
open Go.RowKit

mutual
/-- All texts' bytes. -/
def bytN : Nd → Nat
  | .mk _ t _ ps => t.size + bytL ps
def bytL : List Nd → Nat
  | [] => 0
  | x :: r => bytN x + bytL r
end
theorem byt_mem : ∀ {l : List Nd} {x : Nd}, x ∈ l → bytN x ≤ bytL l
  | [], x, h => by cases h
  | y :: r, x, h => by
    unfold bytL
    rcases List.mem_cons.1 h with rfl | h
    · omega
    · have := byt_mem h; omega
theorem byt_append : ∀ a b : List Nd, bytL (a ++ b) = bytL a + bytL b
  | [], b => by simp [bytL]
  | x :: a, b => by simp [bytL, byt_append a b, Nat.add_assoc]
theorem byt_cat : ∀ (x : Nd) (r : List Nd), bytL (cat x r) ≤ bytN x + bytL r
  | .mk k t n ps, r => by
    by_cases hk : k = 1
    · by_cases ht : t.size = 0
      · simp only [cat, if_pos hk, if_pos ht]; omega
      · cases r with
        | nil => simp only [cat, if_pos hk, if_neg ht, bytL]; omega
        | cons y r =>
          obtain ⟨k', t', n', ps'⟩ := y
          by_cases hk' : k' = 1
          · rw [cat_text hk hk' ht]; simp only [bytL, bytN, ByteArray.size_append]; omega
          · rw [cat_edge hk hk' ht]; simp only [bytL]; omega
    · rw [cat_other hk]; simp [bytL]
mutual
theorem byt_mergeN : ∀ x : Nd, bytN (mergeN x) ≤ bytN x
  | .mk k t n ps => by
    have ih := byt_mergeL ps
    unfold mergeN bytN; omega
theorem byt_mergeL : ∀ l : List Nd, bytL (mergeL l) ≤ bytL l
  | [] => Nat.le_refl _
  | x :: r => by
    have h1 := byt_mergeN x
    have h2 := byt_mergeL r
    have h3 := byt_cat (mergeN x) (mergeL r)
    show bytL (cat (mergeN x) (mergeL r)) ≤ bytN x + bytL r
    omega
end
theorem lit_one {S : Nat → Prop} {W : World} {x : Vl} (h : Rd S W x) : Vals (fun b => (S b ∧ b < W.heap.size) ∨ b = W.heap.size) (W.alloc (.cells x.cells 37)) (some ⟨W.heap.size, 0, none⟩) 1 1 [x] := by
  have hb : Below W.heap.size W (W.alloc (.cells x.cells 37)) := (Below.refl _ _).alloc (Nat.le_refl _) _
  refine ⟨rfl, Nat.le_refl _, by omega, fun j v hj => ?_⟩
  cases j with
  | succ j => simp at hj
  | zero =>
    simp at hj; subst hj
    obtain ⟨k, nn, t, ax, cx, lx⟩ := x
    obtain ⟨x0, x1, x2, x3, -⟩ := box_cells4 (World.alloc_heap_new W (.cells #[.int .i64 k, .string t, .int .i64 nn, .slice ax lx.length cx] 37))
    refine ⟨⟨_, 0, rfl, .inr rfl, ?_⟩, (h.mono (fun b h1 h2 => ⟨h1, h2⟩)).below hb |>.mono (fun b h1 _ => .inl h1)⟩
    rw [Nat.zero_mul, Nat.zero_add]
    exact ⟨x0, x1, x2, x3⟩
theorem len_map (l : List Vl) : l.length ≤ cntL (l.map Vl.er) := by have := len_cnt (l.map Vl.er); rwa [List.length_map] at this
set_option maxRecDepth 100000 in
set_option maxHeartbeats 4000000 in
theorem merge_any : ∀ (N : Nat) (S : Nat → Prop) (a : Option Addr) (n c : Nat) (vs : List Vl) (w : World), cntL (vs.map Vl.er) ≤ N → N ≤ 900000 → okL (vs.map Vl.er) → bytL (vs.map Vl.er) ≤ 1000000 → (∀ b, S b → b < w.heap.size) → Vals S w a n c vs →
    Calls Tryd.prog 41 #[.slice a n c] w (LstP S (mergeL (vs.map Vl.er)) w) := by
  intro N
  induction N using Nat.strongRecOn with
  | _ N ih =>
    intro S a n c vs w hN hN9 hok hby hS hv
    have HV := Lib.hid hv
    have HOK := Lib.hid hok
    have HBY := Lib.hid hby
    have hnb := hv.2.2.1
    have hn9 : n ≤ 900000 := by
      rw [hv.1]
      have := len_map vs
      omega
    have HS := Lib.hid hS
    have HIH : Hid (∀ (v : Vl) (W : World), v ∈ vs → (∀ b, S b → b < W.heap.size) → Vals S W v.addr v.items.length v.cap v.items → Calls Tryd.prog 41 #[.slice v.addr v.items.length v.cap] W (LstP S (mergeL (v.items.map Vl.er)) W)) := fun v W hm hT hvv => by
      have hc := cnt_mem (List.mem_map_of_mem (f := Vl.er) hm)
      rw [er_kind v, cntN] at hc
      have hb := byt_mem (List.mem_map_of_mem (f := Vl.er) hm)
      rw [er_kind v, bytN] at hb
      have ho : okN v.er := ok_mem hok (List.mem_map_of_mem hm)
      rw [er_kind v] at ho
      exact ih (cntL (v.items.map Vl.er)) (by omega) S _ _ _ v.items W (Nat.le_refl _) (by omega) ho.2.2 (by omega) hT hvv
    clear hN hok hby hS hv ih hN9
    unfold LstP at HIH ⊢
    go_enter Tryd.func41, Tryd.ntmps41
    go_wp2
    go_loopw [9, 3] (fun i t wr => ∃ (j : Nat) (b : Option Addr) (m d : Nat) (us : List Vl), i = .int .i64 j ∧ t = .slice b m d ∧ j ≤ n ∧ m ≤ j ∧ Hid (OwnX S wr w.heap.size b m d us) ∧
      Hid (glue (us.map Vl.er) (mergeL ((vs.drop j).map Vl.er)) = mergeL (vs.map Vl.er) ∧ okL (us.map Vl.er) ∧ bytL (us.map Vl.er) + bytL ((vs.drop j).map Vl.er) ≤ 1000000) ∧ Below w.heap.size w wr) (fun i _ _ => n - (intOf i).toNat)
    case atStart => exact ⟨0, none, 0, 0, [], rfl, rfl, Nat.zero_le _, Nat.le_refl _, OwnX.nil _ _ _, ⟨rfl, trivial, by have := HBY.out; simpa [bytL] using this⟩, Below.refl _ _⟩
    case round =>
      obtain ⟨j, b, m, d, us, rfl, rfl, hj, hm, hO, hG, hB⟩ := hrel
      by_cases hjl : j < n
      · obtain ⟨v, b1, o1, h1, hmem, ea, hSb, -, ⟨d0, d1, d2, d3⟩, hr⟩ := (HV.out.below hB).get hjl
        subst ea
        have hsp : vs.drop j = v :: vs.drop (j + 1) := by
          rw [List.drop_eq_getElem_cons (by rw [← HV.out.1]; exact hjl), (List.getElem?_eq_some_iff.1 h1).2]
        obtain ⟨g1, g2, g3⟩ := hG.out
        rw [hsp, List.map_cons, mergeL] at g1
        rw [hsp, List.map_cons, bytL] at g3
        have hov : okN v.er := ok_mem HOK.out (List.mem_map_of_mem hmem)
        have hb1 : Below wr.heap.size wr (wr.alloc (.cells v.cells 37)) := (Below.refl _ _).alloc (Nat.le_refl _) _
        have hwz := hB.size
        have HQM := Lib.hid (HIH.out v (wr.alloc (.cells v.cells 37)) hmem (fun q hq => by have := HS.out q hq; have := hb1.size; omega) ((rd_iff.1 hr).2.2.2.below hb1))
        have hbx := World.alloc_heap_new wr (.cells v.cells 37)
        have HOX := Lib.hid (fun V (h : Below wr.heap.size wr V) => hO.out.below h)
        have HRI := Lib.hid (And.intro (rd_iff.1 hr).1 (And.intro (rd_iff.1 hr).2.1 (rd_iff.1 hr).2.2.1))
        have HLT := Lib.hid hO.out.own.lt
        have HLN := Lib.hid hO.out.len
        have HEK := er_kind v
        rw [HEK] at g1 g3 hov
        rw [mergeN] at g1
        rw [bytN] at g3
        clear HEK hr h1 hsp hmem hSb hG
        obtain ⟨k, nn, t, ax, cx, lx⟩ := v
        dsimp only [Vl.val, Vl.cells, Vl.kind, Vl.num, Vl.text, Vl.sl, Vl.addr, Vl.items, Vl.cap] at d0 d1 d2 d3 hb1 HQM hbx HRI g1 g3 hov
        change Below _ wr (wr.alloc (.cells #[.int .i64 k, .string t, .int .i64 nn, .slice ax lx.length cx] 37)) at hb1
        change ((wr.alloc (.cells #[.int .i64 k, .string t, .int .i64 nn, .slice ax lx.length cx] 37))).heap[wr.heap.size]? = some (.cells #[.int .i64 k, .string t, .int .i64 nn, .slice ax lx.length cx] 37 (0, 0)) at hbx
        obtain ⟨x0, x1, x2, x3, fx⟩ := box_cells4 hbx
        have hu1 : wr.heap.size < ((wr.alloc (.cells #[.int .i64 k, .string t, .int .i64 nn, .slice ax lx.length cx] 37))).heap.size := by simp
        have hom : okN (.mk k t nn (mergeL (lx.map Vl.er))) := by have := ok_mergeN _ hov; rwa [mergeN] at this
        have HOM := Lib.hid hom
        have HG := Lib.hid (And.intro g1 (And.intro g2 g3))
        have HBX := Lib.hid hbx
        have HB1 := Lib.hid hb1
        have HOV := Lib.hid hov
        clear g1 g2 g3 hov hom hbx
        by_cases hk1 : k = 1
        · have hts0 : (t.toList == (⟨#[]⟩ : ByteArray).toList) = false := str_no (fun e => (HOV.out.1 hk1).1 (by rw [e]; rfl))
          have hts : t.toList.isEmpty = false := by
            cases hq : t.toList with
            | nil => rw [hq] at hts0; simp at hts0
            | cons => rfl
          clear hts0
          have t1 : ((k : Int) == 1) = true := by simp [hk1]
          by_cases hm0 : m = 0
          · have t2 : decide ((m : Int) - 1 ≥ 0) = false := by rw [decide_eq_false_iff_not]; omega
            have t3 : decide (1 ≤ (m : Int)) = false := by rw [decide_eq_false_iff_not]; omega
            have t4 : decide ((m : Int) < 1) = true := by rw [decide_eq_true_eq]; omega
            have t5 : (m : Int) < 1 := by omega
            have HNT : Hid (∀ l y, us.map Vl.er = l ++ [y] → ¬ (y.isT ∧ (Nd.mk k t nn (mergeL (lx.map Vl.er))).isT)) := fun l y e => by
              have := congrArg List.length e
              rw [List.length_map, ← HLN.out, hm0] at this
              simp at this
            clear hm0 hk1
            go_wp2_with fail
            refine HQM.out.mono ?_
            rintro e w2 ⟨a2, n2, c2, ws, rfl, hv2, he2, hst⟩
            obtain rfl : n2 = ws.length := hv2.1
            have hv3 := hv2.setc (g := wr.heap.size) (j := 3) (fun h => by rcases h with h | h
                                                                           · have := HS.out _ h; omega
                                                                           · omega) (.slice a2 ws.length c2)
            have hB2 := HB1.out.trans (hst.mono (Nat.le_of_lt hu1))
            have HB3 : Hid (Below wr.heap.size wr (w2.setCell ⟨wr.heap.size, 3, none⟩ (.slice a2 ws.length c2))) := below_setc hB2 (Nat.le_refl _) 3 _
            have hRx : Rd (fun b => S b ∨ ((wr.alloc (.cells #[.int .i64 k, .string t, .int .i64 nn, .slice ax lx.length cx] 37))).heap.size ≤ b) (w2.setCell ⟨wr.heap.size, 3, none⟩ (.slice a2 ws.length c2)) (.mk k nn t a2 c2 ws) := rd_iff.2 ⟨HRI.out.1, HRI.out.2.1, HRI.out.2.2, hv3⟩
            have hszc : (w2.setCell ⟨wr.heap.size, 3, none⟩ (.slice a2 ws.length c2)).heap.size = w2.heap.size := by simp [World.setCell]
            have HLV := lit_one hRx
            rw [hszc] at HLV
            replace HLV := Lib.hid HLV
            have HB3s := HB3.out.size
            rw [hszc] at HB3s
            replace HB3s := Lib.hid HB3s
            clear hszc
            have HE2 : Hid ((Vl.mk k nn t a2 c2 ws).er = .mk k t nn (mergeL (lx.map Vl.er))) := by show _ = _; rw [er_kind]; show Nd.mk k t nn (ws.map Vl.er) = _; rw [he2]
            have hbx2 : w2.heap[wr.heap.size]? = some (.cells #[.int .i64 k, .string t, .int .i64 nn, .slice ax lx.length cx] 37 (0, 0)) := (hst.block _ hu1).trans HBX.out
            have hW2 : wr.heap.size < w2.heap.size := (Array.getElem?_eq_some_iff.1 hbx2).1
            clear x0 x1 x2 x3 fx hv2 hv3 hst hRx he2 hb1 d0 d1 d2 d3
            obtain ⟨x0, x1, x2, x3, fx⟩ := box_cells4 hbx2
            clear hbx2 hB2
            have HY1 : Hid (∀ q, ((S q ∨ ((wr.alloc (.cells #[.int .i64 k, .string t, .int .i64 nn, .slice ax lx.length cx] 37))).heap.size ≤ q) ∧ q < w2.heap.size) ∨ q = w2.heap.size → S q ∨ w.heap.size ≤ q) := by
              intro q hq
              rcases hq with ⟨h | h, -⟩ | h
              · exact .inl h
              · exact .inr (by omega)
              · exact .inr (by have := HB3s.out; omega)
            have HY2 : Hid (∀ y : Addr, (b : Option Addr) = some y → ¬ (((S y.block ∨ ((wr.alloc (.cells #[.int .i64 k, .string t, .int .i64 nn, .slice ax lx.length cx] 37))).heap.size ≤ y.block) ∧ y.block < w2.heap.size) ∨ y.block = w2.heap.size)) := by
              intro y hy hq
              have := HLT.out y hy
              rcases hq with ⟨h | h, -⟩ | h
              · have := HS.out _ h; omega
              · omega
              · have := HB3s.out; omega
            have HBV : Hid (Below wr.heap.size wr ((w2.setCell ⟨wr.heap.size, 3, none⟩ (.slice a2 ws.length c2)).alloc (.cells #[.int .i64 k, .string t, .int .i64 nn, .slice a2 ws.length c2] 37))) := HB3.out.alloc HB3.out.size _
            have HBW := Lib.hid (hB.trans (HBV.out.mono hwz))
            have HBS : Hid (w.heap.size ≤ ((w2.setCell ⟨wr.heap.size, 3, none⟩ (.slice a2 ws.length c2)).alloc (.cells #[.int .i64 k, .string t, .int .i64 nn, .slice a2 ws.length c2] 37)).heap.size) := HBW.out.size
            go_wp2_with (at_builtin; refine wpList_appV (w0 := w) (B := w.heap.size) (S := S) (l := us) (ys := [Vl.mk k nn t a2 c2 ws]) (n := m) (cap := d) (a := b) rfl _ _ rfl rfl rfl (HOX.out _ HBV.out) HLV.out HY1.out HY2.out (by omega) HBS.out HBW.out ?_)
            · intro a' c' w' hO2 hb2
              have HO2 := Lib.hid hO2
              have HB2 := Lib.hid hb2
              clear hO2 hb2 x0 x1 x2 x3 fx
              generalize (w2.setCell ⟨wr.heap.size, 3, none⟩ (.slice a2 ws.length c2)).alloc _ = V at *
              go_wp2
              go_roundw
              case rel =>
                refine ⟨j + 1, a', m + 1, c', us ++ [.mk k nn t a2 c2 ws], by go_num, rfl, by omega, by omega, HO2, ?_, HB2.out⟩
                obtain ⟨g1, g2, g3⟩ := HG.out
                show _ ∧ _
                rw [List.map_append, List.map_cons, List.map_nil, HE2.out]
                have hgl := glue_push (us.map Vl.er) (.mk k t nn (mergeL (lx.map Vl.er))) (mergeL ((vs.drop (j + 1)).map Vl.er)) g2 HOM.out HNT.out
                refine ⟨by rw [← hgl]; exact g1, (okL_append _ _).2 ⟨g2, HOM.out, trivial⟩, ?_⟩
                rw [byt_append]
                have := byt_mergeL (lx.map Vl.er)
                simp only [bytL, bytN]; omega
              case measure => simp [intOf]; omega
          · obtain ⟨p, rfl⟩ : ∃ p, m = p + 1 := ⟨m - 1, by omega⟩
            obtain ⟨y, g, e1, -, rfl, hBg, hgl, hfr, hat⟩ := (HOX.out _ hb1).own.at_ encN_len (j := p) (by omega)
            have HE1 := Lib.hid e1
            have y0 : ((wr.alloc (.cells #[.int .i64 k, .string t, .int .i64 nn, .slice ax lx.length cx] 37))).cell? ⟨g, p * 4, none⟩ = some (.int .i64 y.kind) := hat 0 _ rfl
            have y1 : ((wr.alloc (.cells #[.int .i64 k, .string t, .int .i64 nn, .slice ax lx.length cx] 37))).cell? ⟨g, p * 4 + 1, none⟩ = some (.string y.text) := hat 1 _ rfl
            have HLY : Hid (∀ l z, us.map Vl.er = l ++ [z] → z = y.er) := fun l z e => by
              have h1 : (us.map Vl.er)[p]? = some y.er := by rw [List.getElem?_map, HE1.out]; rfl
              have hl : l.length = p := by
                have := congrArg List.length e
                rw [List.length_map, ← HLN.out] at this
                simpa using this.symm
              rw [e, List.getElem?_append_right (by omega), hl] at h1
              simpa using h1
            have t2 : decide (((p + 1 : Nat) : Int) - 1 ≥ 0) = true := by rw [decide_eq_true_eq]; omega
            have t3 : decide (1 ≤ ((p + 1 : Nat) : Int)) = true := by rw [decide_eq_true_eq]; omega
            have t4 : decide (((p + 1 : Nat) : Int) < 1) = false := by rw [decide_eq_false_iff_not]; omega
            have t5 : ¬ ((p + 1 : Nat) : Int) < 1 := by omega
            clear hm0 hat e1
            obtain ⟨yk, yn, yt, ya, yc, yl⟩ := y
            dsimp only [Vl.kind, Vl.text] at y0 y1
            by_cases hy1 : yk = 1
            · have t6 : ((yk : Int) == 1) = true := by simp [hy1]
              have HYK := Lib.hid hy1
              have HK1 := Lib.hid hk1
              clear hy1 hk1
              generalize hm9 : p + 1 = m at *
              obtain rfl : p = m - 1 := by omega
              have hbs : yt.size ≤ bytL (us.map Vl.er) := by
                have h1 := byt_mem (List.mem_map_of_mem (f := Vl.er) (List.mem_of_getElem? HE1.out))
                rw [er_kind, bytN] at h1
                have : yt.size + _ ≤ _ := h1
                omega
              have hsz : ¬ 9223372036854775807 < yt.size + t.size := by have := HG.out.2.2; omega
              have hsz2 : yt.size + t.size ≤ 9223372036854775807 := by omega
              have hm1 : 1 ≤ m := by omega
              have hm2 : 0 < m := hm1
              clear hm9
              go_wp2_with fail
              obtain ⟨X, Wf, hX, hS1, hS2⟩ := family (fun V => Below (wr.alloc (.cells #[.int .i64 k, .string t, .int .i64 nn, .slice ax lx.length cx] 37)).heap.size (wr.alloc (.cells #[.int .i64 k, .string t, .int .i64 nn, .slice ax lx.length cx] 37)) V) (wr.alloc (.cells #[.int .i64 k, .string t, .int .i64 nn, .slice ax lx.length cx] 37)) (Below.refl _ _)
              have HS2 := Lib.hid hS2
              have q_x1 := fun x => cell_later (hS1 x) x1
              have q_y0 := fun x => cell_later (hS1 x) y0
              have q_y1 := fun x => cell_later (hS1 x) y1
              clear hS1 hS2
              have hd0 : Below (wr.alloc (.cells #[.int .i64 k, .string t, .int .i64 nn, .slice ax lx.length cx] 37)).heap.size (wr.alloc (.cells #[.int .i64 k, .string t, .int .i64 nn, .slice ax lx.length cx] 37)) (wr.alloc (.cells #[.int .i64 k, .string t, .int .i64 nn, .slice ax lx.length cx] 37)).drew := (Below.refl _ _).drew
              refine wp_region_tree (Wf := Wf) 10 (.read 0 (.read 1 (.read 2 (.read 3 (.read 4 (.read 5 (.read 6 (.read 7 (.read 8 (.read 9 .fin)))))))))) (by kernel_rfl) (by kernel_rfl) (fun _ _ d _ _ h => by cases d <;> exact h) (HS2.out _ hd0) ?_
              refine wpTree_read _ rfl (fun K hK => ?_); unfold rOp; go_simp; (refine hK _ ?_; clear hK K)
              refine wpTree_read _ rfl (fun K hK => ?_); unfold rOp; go_simp; (refine hK _ ?_; clear hK K)
              refine wpTree_read _ rfl (fun K hK => ?_); unfold rOp; go_simp; (refine ⟨_, fun x => by rw [if_pos (by omega)], hK _ ?_⟩; clear hK K)
              refine wpTree_read _ rfl (fun K hK => ?_); unfold rOp; go_simp; (refine hK _ ?_; clear hK K)
              refine wpTree_read _ rfl (fun K hK => ?_); unfold rOp; go_simp; (refine hK _ ?_; clear hK K)
              refine wpTree_read _ rfl (fun K hK => ?_); unfold rOp; go_simp; (refine hK _ ?_; clear hK K)
              refine wpTree_read _ rfl (fun K hK => ?_); unfold rOp; go_simp; (refine hK _ ?_; clear hK K)
              refine wpTree_read _ rfl (fun K hK => ?_); unfold rOp; go_simp; (refine hK _ ?_; clear hK K)
              refine wpTree_read _ rfl (fun K hK => ?_); unfold rOp; go_simp; (refine ⟨_, fun x => by rw [if_pos (by omega)], hK _ ?_⟩; clear hK K)
              refine wpTree_read _ rfl (fun K hK => ?_); unfold rOp; go_simp; (refine hK _ ?_; clear hK K)
              refine wpTree_fin ?_
              clear HS2 hX q_x1 q_y0 q_y1 hd0
              have HPT := Lib.hid ((HOX.out _ HB1.out).putText (j := m - 1) (x := .mk yk yn (yt ++ t) ya yc yl) (v := yt ++ t) HE1.out rfl (by rw [ByteArray.size_append]; have := HG.out.2.2; omega))
              have HBZ := Lib.hid (below_setc (hB.trans (HB1.out.mono hwz)) hBg ((m - 1) * 4 + 1) (.string (yt ++ t)))
              have ff := hfr ((m - 1) * 4 + 1)
              have HUS : Hid (∃ l0, us = l0 ++ [.mk yk yn yt ya yc yl] ∧ l0.length = m - 1) := by
                refine ⟨us.take (m - 1), ?_, by rw [List.length_take]; have := HLN.out; omega⟩
                have h1 := List.getElem?_eq_some_iff.1 HE1.out
                obtain ⟨h1, h2⟩ := h1
                rw [← h2, List.take_append_getElem h1, List.take_of_length_le (by have := HLN.out; omega)]
              clear hfr x0 x1 x2 x3 fx
              go_wp2
              go_roundw
              case rel =>
                refine ⟨j + 1, some ⟨g, 0, none⟩, m, d, us.set (m - 1) (.mk yk yn (yt ++ t) ya yc yl), by go_num, rfl, by omega, by omega, HPT.out.below (Below.refl _ _).drew, ?_, HBZ.out.drew⟩
                obtain ⟨g1, g2, g3⟩ := HG.out
                obtain ⟨l0, hl0, hl1⟩ := HUS.out
                show _ ∧ _
                rw [hl0, set_last hl1.symm]
                rw [hl0, List.map_append, List.map_cons, List.map_nil, er_kind] at g1 g2 g3
                rw [List.map_append, List.map_cons, List.map_nil, er_kind]
                dsimp only [Vl.kind, Vl.num, Vl.text, Vl.items] at g1 g2 g3 ⊢
                rw [okL_append] at g2
                rw [glue_add _ _ _ _ _ _ _ _ _ _ HYK.out HK1.out (g2.2.1.1 HYK.out).1 (HOV.out.1 HK1.out).1] at g1
                refine ⟨g1, (okL_append _ _).2 ⟨g2.1, ⟨fun e => ⟨app_ne (g2.2.1.1 e).1, (g2.2.1.1 e).2⟩, g2.2.1.2⟩, trivial⟩, ?_⟩
                rw [byt_append] at g3 ⊢
                simp only [bytL, bytN, ByteArray.size_append] at g3 ⊢
                omega
              case measure => simp [intOf]; omega
            · have t6 : ((yk : Int) == 1) = false := by simpa using hy1
              have HNT : Hid (∀ l y, us.map Vl.er = l ++ [y] → ¬ (y.isT ∧ (Nd.mk k t nn (mergeL (lx.map Vl.er))).isT)) := fun l z e h => by
                rw [HLY.out l z e] at h
                rw [er_kind] at h
                exact hy1 h.1
              clear hy1 hk1 HLY
              generalize hm9 : p + 1 = m at *
              obtain rfl : p = m - 1 := by omega
              clear hm9
              go_wp2_with fail
              refine HQM.out.mono ?_
              rintro e w2 ⟨a2, n2, c2, ws, rfl, hv2, he2, hst⟩
              obtain rfl : n2 = ws.length := hv2.1
              have hv3 := hv2.setc (g := wr.heap.size) (j := 3) (fun h => by rcases h with h | h
                                                                             · have := HS.out _ h; omega
                                                                             · omega) (.slice a2 ws.length c2)
              have hB2 := HB1.out.trans (hst.mono (Nat.le_of_lt hu1))
              have HB3 : Hid (Below wr.heap.size wr (w2.setCell ⟨wr.heap.size, 3, none⟩ (.slice a2 ws.length c2))) := below_setc hB2 (Nat.le_refl _) 3 _
              have hRx : Rd (fun b => S b ∨ ((wr.alloc (.cells #[.int .i64 k, .string t, .int .i64 nn, .slice ax lx.length cx] 37))).heap.size ≤ b) (w2.setCell ⟨wr.heap.size, 3, none⟩ (.slice a2 ws.length c2)) (.mk k nn t a2 c2 ws) := rd_iff.2 ⟨HRI.out.1, HRI.out.2.1, HRI.out.2.2, hv3⟩
              have hszc : (w2.setCell ⟨wr.heap.size, 3, none⟩ (.slice a2 ws.length c2)).heap.size = w2.heap.size := by simp [World.setCell]
              have HLV := lit_one hRx
              rw [hszc] at HLV
              replace HLV := Lib.hid HLV
              have HB3s := HB3.out.size
              rw [hszc] at HB3s
              replace HB3s := Lib.hid HB3s
              clear hszc
              have HE2 : Hid ((Vl.mk k nn t a2 c2 ws).er = .mk k t nn (mergeL (lx.map Vl.er))) := by show _ = _; rw [er_kind]; show Nd.mk k t nn (ws.map Vl.er) = _; rw [he2]
              have hbx2 : w2.heap[wr.heap.size]? = some (.cells #[.int .i64 k, .string t, .int .i64 nn, .slice ax lx.length cx] 37 (0, 0)) := (hst.block _ hu1).trans HBX.out
              have hW2 : wr.heap.size < w2.heap.size := (Array.getElem?_eq_some_iff.1 hbx2).1
              clear x0 x1 x2 x3 fx hv2 hv3 hst hRx he2 hb1 d0 d1 d2 d3
              obtain ⟨x0, x1, x2, x3, fx⟩ := box_cells4 hbx2
              clear hbx2 hB2
              have HY1 : Hid (∀ q, ((S q ∨ ((wr.alloc (.cells #[.int .i64 k, .string t, .int .i64 nn, .slice ax lx.length cx] 37))).heap.size ≤ q) ∧ q < w2.heap.size) ∨ q = w2.heap.size → S q ∨ w.heap.size ≤ q) := by
                intro q hq
                rcases hq with ⟨h | h, -⟩ | h
                · exact .inl h
                · exact .inr (by omega)
                · exact .inr (by have := HB3s.out; omega)
              have HY2 : Hid (∀ y : Addr, ((some ⟨g, 0, none⟩) : Option Addr) = some y → ¬ (((S y.block ∨ ((wr.alloc (.cells #[.int .i64 k, .string t, .int .i64 nn, .slice ax lx.length cx] 37))).heap.size ≤ y.block) ∧ y.block < w2.heap.size) ∨ y.block = w2.heap.size)) := by
                intro y hy hq
                have := HLT.out y hy
                rcases hq with ⟨h | h, -⟩ | h
                · have := HS.out _ h; omega
                · omega
                · have := HB3s.out; omega
              have HBV : Hid (Below wr.heap.size wr ((w2.setCell ⟨wr.heap.size, 3, none⟩ (.slice a2 ws.length c2)).alloc (.cells #[.int .i64 k, .string t, .int .i64 nn, .slice a2 ws.length c2] 37))) := HB3.out.alloc HB3.out.size _
              have HBW := Lib.hid (hB.trans (HBV.out.mono hwz))
              have HBS : Hid (w.heap.size ≤ ((w2.setCell ⟨wr.heap.size, 3, none⟩ (.slice a2 ws.length c2)).alloc (.cells #[.int .i64 k, .string t, .int .i64 nn, .slice a2 ws.length c2] 37)).heap.size) := HBW.out.size
              go_wp2_with (at_builtin; refine wpList_appV (w0 := w) (B := w.heap.size) (S := S) (l := us) (ys := [Vl.mk k nn t a2 c2 ws]) (n := m) (cap := d) (a := (some ⟨g, 0, none⟩)) rfl _ _ rfl rfl rfl (HOX.out _ HBV.out) HLV.out HY1.out HY2.out (by omega) HBS.out HBW.out ?_)
              · intro a' c' w' hO2 hb2
                have HO2 := Lib.hid hO2
                have HB2 := Lib.hid hb2
                clear hO2 hb2 x0 x1 x2 x3 fx
                generalize (w2.setCell ⟨wr.heap.size, 3, none⟩ (.slice a2 ws.length c2)).alloc _ = V at *
                go_wp2
                go_roundw
                case rel =>
                  refine ⟨j + 1, a', m + 1, c', us ++ [.mk k nn t a2 c2 ws], by go_num, rfl, by omega, by omega, HO2, ?_, HB2.out⟩
                  obtain ⟨g1, g2, g3⟩ := HG.out
                  show _ ∧ _
                  rw [List.map_append, List.map_cons, List.map_nil, HE2.out]
                  have hgl := glue_push (us.map Vl.er) (.mk k t nn (mergeL (lx.map Vl.er))) (mergeL ((vs.drop (j + 1)).map Vl.er)) g2 HOM.out HNT.out
                  refine ⟨by rw [← hgl]; exact g1, (okL_append _ _).2 ⟨g2, HOM.out, trivial⟩, ?_⟩
                  rw [byt_append]
                  have := byt_mergeL (lx.map Vl.er)
                  simp only [bytL, bytN]; omega
                case measure => simp [intOf]; omega
        · have t1 : ((k : Int) == 1) = false := by simpa using hk1
          have HNT : Hid (∀ l y, us.map Vl.er = l ++ [y] → ¬ (y.isT ∧ (Nd.mk k t nn (mergeL (lx.map Vl.er))).isT)) := fun l y _ h => hk1 h.2
          clear hk1
          by_cases hm0 : m = 0
          · have t2 : decide ((m : Int) - 1 ≥ 0) = false := by rw [decide_eq_false_iff_not]; omega
            have t3 : decide (1 ≤ (m : Int)) = false := by rw [decide_eq_false_iff_not]; omega
            have t4 : decide ((m : Int) < 1) = true := by rw [decide_eq_true_eq]; omega
            have t5 : (m : Int) < 1 := by omega
            clear hm0
            go_wp2_with fail
            refine HQM.out.mono ?_
            rintro e w2 ⟨a2, n2, c2, ws, rfl, hv2, he2, hst⟩
            obtain rfl : n2 = ws.length := hv2.1
            have hv3 := hv2.setc (g := wr.heap.size) (j := 3) (fun h => by rcases h with h | h
                                                                           · have := HS.out _ h; omega
                                                                           · omega) (.slice a2 ws.length c2)
            have hB2 := HB1.out.trans (hst.mono (Nat.le_of_lt hu1))
            have HB3 : Hid (Below wr.heap.size wr (w2.setCell ⟨wr.heap.size, 3, none⟩ (.slice a2 ws.length c2))) := below_setc hB2 (Nat.le_refl _) 3 _
            have hRx : Rd (fun b => S b ∨ ((wr.alloc (.cells #[.int .i64 k, .string t, .int .i64 nn, .slice ax lx.length cx] 37))).heap.size ≤ b) (w2.setCell ⟨wr.heap.size, 3, none⟩ (.slice a2 ws.length c2)) (.mk k nn t a2 c2 ws) := rd_iff.2 ⟨HRI.out.1, HRI.out.2.1, HRI.out.2.2, hv3⟩
            have hszc : (w2.setCell ⟨wr.heap.size, 3, none⟩ (.slice a2 ws.length c2)).heap.size = w2.heap.size := by simp [World.setCell]
            have HLV := lit_one hRx
            rw [hszc] at HLV
            replace HLV := Lib.hid HLV
            have HB3s := HB3.out.size
            rw [hszc] at HB3s
            replace HB3s := Lib.hid HB3s
            clear hszc
            have HE2 : Hid ((Vl.mk k nn t a2 c2 ws).er = .mk k t nn (mergeL (lx.map Vl.er))) := by show _ = _; rw [er_kind]; show Nd.mk k t nn (ws.map Vl.er) = _; rw [he2]
            have hbx2 : w2.heap[wr.heap.size]? = some (.cells #[.int .i64 k, .string t, .int .i64 nn, .slice ax lx.length cx] 37 (0, 0)) := (hst.block _ hu1).trans HBX.out
            have hW2 : wr.heap.size < w2.heap.size := (Array.getElem?_eq_some_iff.1 hbx2).1
            clear x0 x1 x2 x3 fx hv2 hv3 hst hRx he2 hb1 d0 d1 d2 d3
            obtain ⟨x0, x1, x2, x3, fx⟩ := box_cells4 hbx2
            clear hbx2 hB2
            have HY1 : Hid (∀ q, ((S q ∨ ((wr.alloc (.cells #[.int .i64 k, .string t, .int .i64 nn, .slice ax lx.length cx] 37))).heap.size ≤ q) ∧ q < w2.heap.size) ∨ q = w2.heap.size → S q ∨ w.heap.size ≤ q) := by
              intro q hq
              rcases hq with ⟨h | h, -⟩ | h
              · exact .inl h
              · exact .inr (by omega)
              · exact .inr (by have := HB3s.out; omega)
            have HY2 : Hid (∀ y : Addr, (b : Option Addr) = some y → ¬ (((S y.block ∨ ((wr.alloc (.cells #[.int .i64 k, .string t, .int .i64 nn, .slice ax lx.length cx] 37))).heap.size ≤ y.block) ∧ y.block < w2.heap.size) ∨ y.block = w2.heap.size)) := by
              intro y hy hq
              have := HLT.out y hy
              rcases hq with ⟨h | h, -⟩ | h
              · have := HS.out _ h; omega
              · omega
              · have := HB3s.out; omega
            have HBV : Hid (Below wr.heap.size wr ((w2.setCell ⟨wr.heap.size, 3, none⟩ (.slice a2 ws.length c2)).alloc (.cells #[.int .i64 k, .string t, .int .i64 nn, .slice a2 ws.length c2] 37))) := HB3.out.alloc HB3.out.size _
            have HBW := Lib.hid (hB.trans (HBV.out.mono hwz))
            have HBS : Hid (w.heap.size ≤ ((w2.setCell ⟨wr.heap.size, 3, none⟩ (.slice a2 ws.length c2)).alloc (.cells #[.int .i64 k, .string t, .int .i64 nn, .slice a2 ws.length c2] 37)).heap.size) := HBW.out.size
            go_wp2_with (at_builtin; refine wpList_appV (w0 := w) (B := w.heap.size) (S := S) (l := us) (ys := [Vl.mk k nn t a2 c2 ws]) (n := m) (cap := d) (a := b) rfl _ _ rfl rfl rfl (HOX.out _ HBV.out) HLV.out HY1.out HY2.out (by omega) HBS.out HBW.out ?_)
            · intro a' c' w' hO2 hb2
              have HO2 := Lib.hid hO2
              have HB2 := Lib.hid hb2
              clear hO2 hb2 x0 x1 x2 x3 fx
              generalize (w2.setCell ⟨wr.heap.size, 3, none⟩ (.slice a2 ws.length c2)).alloc _ = V at *
              go_wp2
              go_roundw
              case rel =>
                refine ⟨j + 1, a', m + 1, c', us ++ [.mk k nn t a2 c2 ws], by go_num, rfl, by omega, by omega, HO2, ?_, HB2.out⟩
                obtain ⟨g1, g2, g3⟩ := HG.out
                show _ ∧ _
                rw [List.map_append, List.map_cons, List.map_nil, HE2.out]
                have hgl := glue_push (us.map Vl.er) (.mk k t nn (mergeL (lx.map Vl.er))) (mergeL ((vs.drop (j + 1)).map Vl.er)) g2 HOM.out HNT.out
                refine ⟨by rw [← hgl]; exact g1, (okL_append _ _).2 ⟨g2, HOM.out, trivial⟩, ?_⟩
                rw [byt_append]
                have := byt_mergeL (lx.map Vl.er)
                simp only [bytL, bytN]; omega
              case measure => simp [intOf]; omega
          · have t2 : decide ((m : Int) - 1 ≥ 0) = true := by rw [decide_eq_true_eq]; omega
            have t3 : decide (1 ≤ (m : Int)) = true := by rw [decide_eq_true_eq]; omega
            have t4 : decide ((m : Int) < 1) = false := by rw [decide_eq_false_iff_not]; omega
            have t5 : ¬ (m : Int) < 1 := by omega
            clear hm0
            go_wp2_with fail
            refine HQM.out.mono ?_
            rintro e w2 ⟨a2, n2, c2, ws, rfl, hv2, he2, hst⟩
            obtain rfl : n2 = ws.length := hv2.1
            have hv3 := hv2.setc (g := wr.heap.size) (j := 3) (fun h => by rcases h with h | h
                                                                           · have := HS.out _ h; omega
                                                                           · omega) (.slice a2 ws.length c2)
            have hB2 := HB1.out.trans (hst.mono (Nat.le_of_lt hu1))
            have HB3 : Hid (Below wr.heap.size wr (w2.setCell ⟨wr.heap.size, 3, none⟩ (.slice a2 ws.length c2))) := below_setc hB2 (Nat.le_refl _) 3 _
            have hRx : Rd (fun b => S b ∨ ((wr.alloc (.cells #[.int .i64 k, .string t, .int .i64 nn, .slice ax lx.length cx] 37))).heap.size ≤ b) (w2.setCell ⟨wr.heap.size, 3, none⟩ (.slice a2 ws.length c2)) (.mk k nn t a2 c2 ws) := rd_iff.2 ⟨HRI.out.1, HRI.out.2.1, HRI.out.2.2, hv3⟩
            have hszc : (w2.setCell ⟨wr.heap.size, 3, none⟩ (.slice a2 ws.length c2)).heap.size = w2.heap.size := by simp [World.setCell]
            have HLV := lit_one hRx
            rw [hszc] at HLV
            replace HLV := Lib.hid HLV
            have HB3s := HB3.out.size
            rw [hszc] at HB3s
            replace HB3s := Lib.hid HB3s
            clear hszc
            have HE2 : Hid ((Vl.mk k nn t a2 c2 ws).er = .mk k t nn (mergeL (lx.map Vl.er))) := by show _ = _; rw [er_kind]; show Nd.mk k t nn (ws.map Vl.er) = _; rw [he2]
            have hbx2 : w2.heap[wr.heap.size]? = some (.cells #[.int .i64 k, .string t, .int .i64 nn, .slice ax lx.length cx] 37 (0, 0)) := (hst.block _ hu1).trans HBX.out
            have hW2 : wr.heap.size < w2.heap.size := (Array.getElem?_eq_some_iff.1 hbx2).1
            clear x0 x1 x2 x3 fx hv2 hv3 hst hRx he2 hb1 d0 d1 d2 d3
            obtain ⟨x0, x1, x2, x3, fx⟩ := box_cells4 hbx2
            clear hbx2 hB2
            have HY1 : Hid (∀ q, ((S q ∨ ((wr.alloc (.cells #[.int .i64 k, .string t, .int .i64 nn, .slice ax lx.length cx] 37))).heap.size ≤ q) ∧ q < w2.heap.size) ∨ q = w2.heap.size → S q ∨ w.heap.size ≤ q) := by
              intro q hq
              rcases hq with ⟨h | h, -⟩ | h
              · exact .inl h
              · exact .inr (by omega)
              · exact .inr (by have := HB3s.out; omega)
            have HY2 : Hid (∀ y : Addr, (b : Option Addr) = some y → ¬ (((S y.block ∨ ((wr.alloc (.cells #[.int .i64 k, .string t, .int .i64 nn, .slice ax lx.length cx] 37))).heap.size ≤ y.block) ∧ y.block < w2.heap.size) ∨ y.block = w2.heap.size)) := by
              intro y hy hq
              have := HLT.out y hy
              rcases hq with ⟨h | h, -⟩ | h
              · have := HS.out _ h; omega
              · omega
              · have := HB3s.out; omega
            have HBV : Hid (Below wr.heap.size wr ((w2.setCell ⟨wr.heap.size, 3, none⟩ (.slice a2 ws.length c2)).alloc (.cells #[.int .i64 k, .string t, .int .i64 nn, .slice a2 ws.length c2] 37))) := HB3.out.alloc HB3.out.size _
            have HBW := Lib.hid (hB.trans (HBV.out.mono hwz))
            have HBS : Hid (w.heap.size ≤ ((w2.setCell ⟨wr.heap.size, 3, none⟩ (.slice a2 ws.length c2)).alloc (.cells #[.int .i64 k, .string t, .int .i64 nn, .slice a2 ws.length c2] 37)).heap.size) := HBW.out.size
            go_wp2_with (at_builtin; refine wpList_appV (w0 := w) (B := w.heap.size) (S := S) (l := us) (ys := [Vl.mk k nn t a2 c2 ws]) (n := m) (cap := d) (a := b) rfl _ _ rfl rfl rfl (HOX.out _ HBV.out) HLV.out HY1.out HY2.out (by omega) HBS.out HBW.out ?_)
            · intro a' c' w' hO2 hb2
              have HO2 := Lib.hid hO2
              have HB2 := Lib.hid hb2
              clear hO2 hb2 x0 x1 x2 x3 fx
              generalize (w2.setCell ⟨wr.heap.size, 3, none⟩ (.slice a2 ws.length c2)).alloc _ = V at *
              go_wp2
              go_roundw
              case rel =>
                refine ⟨j + 1, a', m + 1, c', us ++ [.mk k nn t a2 c2 ws], by go_num, rfl, by omega, by omega, HO2, ?_, HB2.out⟩
                obtain ⟨g1, g2, g3⟩ := HG.out
                show _ ∧ _
                rw [List.map_append, List.map_cons, List.map_nil, HE2.out]
                have hgl := glue_push (us.map Vl.er) (.mk k t nn (mergeL (lx.map Vl.er))) (mergeL ((vs.drop (j + 1)).map Vl.er)) g2 HOM.out HNT.out
                refine ⟨by rw [← hgl]; exact g1, (okL_append _ _).2 ⟨g2, HOM.out, trivial⟩, ?_⟩
                rw [byt_append]
                have := byt_mergeL (lx.map Vl.er)
                simp only [bytL, bytN]; omega
              case measure => simp [intOf]; omega
      · obtain rfl : j = n := by omega
        have hZ : Hid (us.map Vl.er = mergeL (vs.map Vl.er)) := by
          obtain ⟨g1, g2, g3⟩ := hG.out
          have h0 : vs.drop j = [] := List.drop_of_length_le (by rw [← HV.out.1]; exact Nat.le_refl _)
          rw [h0, List.map_nil, mergeL, glue_nil _ g2] at g1
          exact g1
        have hV := Lib.hid (hO.out.vals (by omega))
        clear hO hG
        go_wp2
        go_ret
        exact ⟨b, m, d, us, rfl, hV.out, hZ.out, hB⟩
end Go.Proofs.YtbjanlmnmeegnaaDoor
