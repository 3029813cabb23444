/- hands.advanced: the walk over a list, and what it makes of it. -/
import Derived.Test.YtbjanlmnmeegnaaDoorTAdv
set_option linter.unusedVariables false
set_option linter.unusedSimpArgs false
namespace Go.Proofs.YtbjanlmnmeegnaaDoor
open Go.RowKit

set_option maxRecDepth 100000 in
set_option maxHeartbeats 4000000 in
theorem each_adv : ∀ (N : Nat) (S : Nat → Prop) (a : Option Addr) (n c : Nat) (vs : List Vl) (w : World) (rb eb hb : Nat) (h : Int), cntL (vs.map Vl.er) ≤ N → N ≤ 4096 → okL (vs.map Vl.er) → (∀ b, S b → b < w.heap.size) → Vals S w a n c vs →
    w.cell? ⟨rb, 0, none⟩ = some (.func (.func 28) #[] #[.pointer (some ⟨hb, 0, none⟩)]) → w.cell? ⟨eb, 0, none⟩ = some (.func (.func 38) #[] #[.pointer (some ⟨rb, 0, none⟩), .pointer (some ⟨eb, 0, none⟩)]) → w.cell? ⟨hb, 0, none⟩ = some (.int .i64 h) →
    Calls Tryd.prog 38 #[.slice a n c, .pointer (some ⟨rb, 0, none⟩), .pointer (some ⟨eb, 0, none⟩)] w (LstP S (advL h (vs.map Vl.er)) w) := by
  intro N
  induction N using Nat.strongRecOn with
  | _ N ih =>
    intro S a n c vs w rb eb hb h hN hN9 hok hS hv cr ce ch
    have HV := Lib.hid hv
    have HOK := Lib.hid hok
    have hnb := hv.2.2.1
    have hn9 : n ≤ 4096 := by
      rw [hv.1]
      have := len_map vs
      omega
    have HS := Lib.hid hS
    have HLEN : Hid (∀ j, (advL h ((vs.take j).map Vl.er)).length ≤ 4096) := fun j => by
      have hq : okL ((vs.take j).map Vl.er) ∧ okL ((vs.drop j).map Vl.er) := by
        have := hok
        rw [← List.take_append_drop j vs, List.map_append, okL_append] at this; exact this
      have h1 := len_cnt (advL h ((vs.take j).map Vl.er))
      have h2 := cnt_advL h _ hq.1
      have h3 : cntL ((vs.take j).map Vl.er) ≤ cntL (vs.map Vl.er) := by
        conv => rhs; rw [← List.take_append_drop j vs, List.map_append, cntL_append]
        omega
      omega
    have HIH : Hid (∀ (v : Vl) (W : World), v ∈ vs → Below w.heap.size w W → Vals S W v.addr v.items.length v.cap v.items → Calls Tryd.prog 38 #[v.sl, .pointer (some ⟨rb, 0, none⟩), .pointer (some ⟨eb, 0, none⟩)] W (LstP S (advL h (v.items.map Vl.er)) W)) := fun v W hm hbW hvv => by
      have hc := cnt_mem (List.mem_map_of_mem (f := Vl.er) hm)
      rw [er_kind v, cntN] at hc
      have ho : okN v.er := ok_mem hok (List.mem_map_of_mem hm)
      rw [er_kind v] at ho
      exact ih (cntL (v.items.map Vl.er)) (by omega) S _ _ _ v.items W rb eb hb h (Nat.le_refl _) (by omega) ho.2.2 (fun b hb' => Nat.lt_of_lt_of_le (hS b hb') hbW.size) hvv (cell_later hbW cr) (cell_later hbW ce) (cell_later hbW ch)
    have HCN : Hid (∀ v ∈ vs, cntL (v.items.map Vl.er) ≤ 4096) := fun v hm => by
      have hc := cnt_mem (List.mem_map_of_mem (f := Vl.er) hm)
      rw [er_kind v, cntN] at hc
      omega
    have HC := Lib.hid (And.intro cr (And.intro ce ch))
    clear hN hok hS hv ih hN9 cr ce ch
    go_enter Tryd.func38, Tryd.ntmps38
    go_wp2
    go_loopw [10, 5] (fun i t wr => ∃ (j : Nat) (b : Option Addr) (m d : Nat) (us : List Vl), i = .int .i64 j ∧ t = .slice b m d ∧ j ≤ n ∧ Hid (OwnX S wr w.heap.size b m d us) ∧ Hid (us.map Vl.er = advL h ((vs.take j).map Vl.er)) ∧ Below w.heap.size w wr) (fun i _ _ => n - (intOf i).toNat)
    case atStart => exact ⟨0, none, 0, 0, [], rfl, rfl, Nat.zero_le _, OwnX.nil _ _ _, rfl, Below.refl _ _⟩
    case round =>
      obtain ⟨j, b, m, d, us, rfl, rfl, hj, hO, hE, hB⟩ := hrel
      by_cases hjl : j < n
      · obtain ⟨v, b1, o1, h1, hmem, ea, hSb, -, ⟨d0, d1, d2, d3⟩, hr⟩ := (HV.out.below hB).get hjl
        subst ea
        have hsp : vs.take (j + 1) = vs.take j ++ [v] := by rw [List.take_add_one, h1]; rfl
        have HNX : Hid (us.map Vl.er ++ advN h v.er = advL h ((vs.take (j + 1)).map Vl.er)) := by
          show _ = _
          rw [hsp, List.map_append, advL_append, hE.out, List.map_cons, List.map_nil]
          show _ = _ ++ (advN h v.er ++ [])
          rw [List.append_nil]
        have hm : m ≤ 4096 := by
          have h1 := hO.out.len
          have h2 := HLEN.out j
          rw [← hE.out, List.length_map] at h2; omega
        have hov : okN v.er := ok_mem HOK.out (List.mem_map_of_mem hmem)
        have hb1 : Below wr.heap.size wr (wr.alloc (.cells v.cells 37)) := (Below.refl _ _).alloc (Nat.le_refl _) _
        have hwz := hB.size
        have HSW := Lib.hid hwz
        have HE : Hid (∀ W, Below wr.heap.size wr W → Calls Tryd.prog 38 #[v.sl, .pointer (some ⟨rb, 0, none⟩), .pointer (some ⟨eb, 0, none⟩)] W (LstP S (advL h (v.items.map Vl.er)) W)) := fun W hb => HIH.out v W hmem (hB.trans (hb.mono hwz)) ((rd_iff.1 hr).2.2.2.below hb)
        have hbx := World.alloc_heap_new wr (.cells v.cells 37)
        have HOX := Lib.hid (fun V (h : Below wr.heap.size wr V) => hO.out.below h)
        have HLT := Lib.hid hO.out.own.lt
        have HRD := Lib.hid hr
        have HCV := Lib.hid (HCN.out v hmem)
        have HOV := Lib.hid hov
        have HL2 : Hid ((advN h v.er).length ≤ 4096) := by
          have := HLEN.out (j + 1)
          rw [← HNX.out, List.length_append] at this
          show _ ≤ _; omega
        have HCO := correction_any v (wr.alloc (.cells v.cells 37))
        have HEV := Lib.hid (er_kind v)
        obtain ⟨cr, ce, ch⟩ := HC.out
        replace cr := cell_later (hB.trans (hb1.mono hwz)) cr
        replace ce := cell_later (hB.trans (hb1.mono hwz)) ce
        replace ch := cell_later (hB.trans (hb1.mono hwz)) ch
        clear hr h1 hsp hmem hSb hov hE hO
        by_cases k89 : v.kind = 8 ∨ v.kind = 9
        · rw [decide_eq_true k89] at HCO
          have HCO2 := Lib.hid HCO
          have HK := Lib.hid k89
          clear HCO k89
          obtain ⟨k, nn, t, ax, cx, lx⟩ := v
          dsimp only [Vl.val, Vl.cells, Vl.kind, Vl.num, Vl.text, Vl.sl, Vl.addr, Vl.items, Vl.cap] at d0 d1 d2 d3 hb1 hbx HK HCO2 HE HCV cr ce ch HEV
          change Below _ wr (wr.alloc (.cells #[.int .i64 k, .string t, .int .i64 nn, .slice ax lx.length cx] 37)) at hb1
          change ((wr.alloc (.cells #[.int .i64 k, .string t, .int .i64 nn, .slice ax lx.length cx] 37))).heap[wr.heap.size]? = some (.cells #[.int .i64 k, .string t, .int .i64 nn, .slice ax lx.length cx] 37 (0, 0)) at hbx
          have hu1 : wr.heap.size < ((wr.alloc (.cells #[.int .i64 k, .string t, .int .i64 nn, .slice ax lx.length cx] 37))).heap.size := by simp
          have HU1 := Lib.hid hu1
          have HBX := Lib.hid hbx
          have HB1 := Lib.hid hb1
          clear hbx
          go_wp2_with fail
          refine HCO2.out.mono ?_
          rintro e w2 ⟨rfl, hst⟩
          have hB2 := HB1.out.trans (hst.mono (Nat.le_of_lt HU1.out))
          have hbx2 : w2.heap[wr.heap.size]? = some (.cells #[.int .i64 k, .string t, .int .i64 nn, .slice ax lx.length cx] 37 (0, 0)) := (hst.block _ HU1.out).trans HBX.out
          have hW2 : wr.heap.size < w2.heap.size := (Array.getElem?_eq_some_iff.1 hbx2).1
          replace cr := cell_later hst cr
          replace ce := cell_later hst ce
          replace ch := cell_later hst ch
          clear hst hb1 d0 d1 d2 d3 hu1
          obtain ⟨x0, x1, x2, x3, fx⟩ := box_cells4 hbx2
          have HBX2 := Lib.hid hbx2
          clear hbx2
          have HF := Lib.hid (repl_adv S (.mk k nn t ax cx lx) wr.heap.size eb hb h w2 (HRD.out.below hB2) HOV.out HCV.out ch (fun q hq => by have := HS.out q hq; omega) HK.out (fun W hb => parts_any _ S (.mk k nn t ax cx lx) wr.heap.size eb rb W (cell_later hb ce) (cell_later hb x3) (HE.out W (hB2.trans (hb.mono (Nat.le_of_lt hW2))))))
          go_wp2_with fail
          refine HF.out.mono ?_
          rintro e w3 ⟨a2, n2, c2, ys, rfl, hy, he2, hst3⟩
          have hB3 := hB2.trans (hst3.mono (Nat.le_of_lt hW2))
          have HB3 := Lib.hid hB3
          have hn2 : n2 ≤ 4096 := by
            have := HL2.out
            rw [← he2, List.length_map, ← hy.1] at this; exact this
          have HY := Lib.hid hy
          have HE2 : Hid (ys.map Vl.er = advN h (Vl.mk k nn t ax cx lx).er) := he2
          have HY1 : Hid (∀ q, S q ∨ w2.heap.size ≤ q → S q ∨ w.heap.size ≤ q) := fun q hq => hq.imp id (fun h => by omega)
          have HY2 : Hid (∀ y : Addr, b = some y → ¬ (S y.block ∨ w2.heap.size ≤ y.block)) := by
            intro y hy hq
            have := HLT.out y hy
            rcases hq with h | h
            · have := HS.out _ h; omega
            · omega
          have HBW := Lib.hid (hB.trans (hB3.mono hwz))
          have HBS : Hid (w.heap.size ≤ w3.heap.size) := HBW.out.size
          clear x0 x1 x2 x3 fx cr ce ch hB2 hst3 he2 hy hW2 hB3
          go_wp2_with (at_builtin; refine wpList_appV (w0 := w) (B := w.heap.size) (S := S) (l := us) (ys := ys) (n := m) (cap := d) (a := b) rfl _ _ rfl rfl rfl (HOX.out _ HB3.out) HY.out HY1.out HY2.out (by omega) HBS.out HBW.out ?_)
          · intro a' c' w' hO2 hb2
            have HO2 := Lib.hid hO2
            have HB2 := Lib.hid hb2
            clear hO2 hb2
            go_wp2
            go_roundw
            case rel =>
              refine ⟨j + 1, a', m + n2, c', us ++ ys, by go_num, rfl, by omega, HO2, ?_, HB2.out⟩
              rw [List.map_append, HE2.out]
              exact HNX.out
            case measure => simp [intOf]; omega
        · rw [decide_eq_false k89] at HCO
          have HCO2 := Lib.hid HCO
          have HK := Lib.hid k89
          clear HCO k89
          obtain ⟨k, nn, t, ax, cx, lx⟩ := v
          dsimp only [Vl.val, Vl.cells, Vl.kind, Vl.num, Vl.text, Vl.sl, Vl.addr, Vl.items, Vl.cap] at d0 d1 d2 d3 hb1 hbx HK HCO2 HE HCV cr ce ch HEV
          change Below _ wr (wr.alloc (.cells #[.int .i64 k, .string t, .int .i64 nn, .slice ax lx.length cx] 37)) at hb1
          change ((wr.alloc (.cells #[.int .i64 k, .string t, .int .i64 nn, .slice ax lx.length cx] 37))).heap[wr.heap.size]? = some (.cells #[.int .i64 k, .string t, .int .i64 nn, .slice ax lx.length cx] 37 (0, 0)) at hbx
          have hu1 : wr.heap.size < ((wr.alloc (.cells #[.int .i64 k, .string t, .int .i64 nn, .slice ax lx.length cx] 37))).heap.size := by simp
          have HU1 := Lib.hid hu1
          have HBX := Lib.hid hbx
          have HB1 := Lib.hid hb1
          clear hbx
          go_wp2_with fail
          refine HCO2.out.mono ?_
          rintro e w2 ⟨rfl, hst⟩
          have hB2 := HB1.out.trans (hst.mono (Nat.le_of_lt HU1.out))
          have hbx2 : w2.heap[wr.heap.size]? = some (.cells #[.int .i64 k, .string t, .int .i64 nn, .slice ax lx.length cx] 37 (0, 0)) := (hst.block _ HU1.out).trans HBX.out
          have hW2 : wr.heap.size < w2.heap.size := (Array.getElem?_eq_some_iff.1 hbx2).1
          replace cr := cell_later hst cr
          replace ce := cell_later hst ce
          replace ch := cell_later hst ch
          clear hst hb1 d0 d1 d2 d3 hu1
          obtain ⟨x0, x1, x2, x3, fx⟩ := box_cells4 hbx2
          have HBX2 := Lib.hid hbx2
          clear hbx2
          by_cases hl0 : lx.length = 0
          · have HE2 : Hid ([(Vl.mk k nn t ax cx lx).er] = advN h (Vl.mk k nn t ax cx lx).er) := by
              show _ = _
              rw [HEV.out]
              show _ = advN h (.mk k t nn (lx.map Vl.er))
              have hl : lx = [] := List.eq_nil_of_length_eq_zero hl0
              subst hl
              rw [advN, if_neg HK.out]; rfl
            have s1 : decide ((lx.length : Int) > 0) = false := by rw [decide_eq_false_iff_not]; omega
            have s2 : decide (0 < lx.length) = false := by rw [decide_eq_false_iff_not]; omega
            have HB3 := Lib.hid hB2
            have HB3s := Lib.hid hB2.size
            have HLV := Lib.hid (lit_one ((HRD.out.below hB2).mono (S' := fun q => S q ∨ w2.heap.size ≤ q) (fun q h _ => .inl h)))
            clear hl0
            rw [← HE2.out] at HNX
            have HY1 : Hid (∀ q, ((S q ∨ w2.heap.size ≤ q) ∧ q < w2.heap.size) ∨ q = w2.heap.size → S q ∨ w.heap.size ≤ q) := by
              intro q hq
              have := HB3s.out
              have := HSW.out
              rcases hq with ⟨h | h, -⟩ | h
              · exact .inl h
              · exact .inr (by omega)
              · exact .inr (by omega)
            have HY2 : Hid (∀ y : Addr, b = some y → ¬ (fun q => ((S q ∨ w2.heap.size ≤ q) ∧ q < w2.heap.size) ∨ q = w2.heap.size) y.block) := by
              intro y hy hq
              have := HLT.out y hy
              have := HB3s.out
              have := HSW.out
              rcases hq with ⟨h | h, -⟩ | h
              · have := HS.out _ h; omega
              · omega
              · have : y.block = w2.heap.size := h
                omega
            have HBV : Hid (Below wr.heap.size wr ((w2).alloc (.cells #[.int .i64 k, .string t, .int .i64 nn, .slice ax lx.length cx] 37))) := HB3.out.alloc HB3.out.size _
            have HBW := Lib.hid (hB.trans (HBV.out.mono hwz))
            have HBS : Hid (w.heap.size ≤ ((w2).alloc (.cells #[.int .i64 k, .string t, .int .i64 nn, .slice ax lx.length cx] 37)).heap.size) := HBW.out.size
            go_wp2_with (at_builtin; refine wpList_appV (w0 := w) (B := w.heap.size) (S := S) (l := us) (ys := [Vl.mk k nn t ax cx lx]) (n := m) (cap := d) (a := b) rfl _ _ rfl rfl rfl (HOX.out _ HBV.out) HLV.out HY1.out HY2.out (by omega) HBS.out HBW.out ?_)
            · intro a' c' w' hO2 hb2
              have HO2 := Lib.hid hO2
              have HB2 := Lib.hid hb2
              clear hO2 hb2 x0 x1 x2 x3 fx cr ce ch
              generalize (w2).alloc _ = V at *
              go_wp2
              go_roundw
              case rel =>
                refine ⟨j + 1, a', m + 1, c', us ++ [Vl.mk k nn t ax cx lx], by go_num, rfl, by omega, HO2, ?_, HB2.out⟩
                rw [List.map_append, List.map_cons, List.map_nil]
                skip
                exact HNX.out
              case measure => simp [intOf]; omega
          · have s1 : decide ((lx.length : Int) > 0) = true := by rw [decide_eq_true_eq]; omega
            have s2 : decide (0 < lx.length) = true := by rw [decide_eq_true_eq]; omega
            have HF := Lib.hid (HE.out w2 hB2)
            have HL0 := Lib.hid hl0
            clear hl0
            go_wp2_with fail
            refine HF.out.mono ?_
            rintro e w3 ⟨a2, n2, c2, ws, rfl, hv2, he2, hst3⟩
            obtain rfl : n2 = ws.length := hv2.1
            have hB3 := hB2.trans (hst3.mono (Nat.le_of_lt hW2))
            have hbx3 : w3.heap[wr.heap.size]? = some (.cells #[.int .i64 k, .string t, .int .i64 nn, .slice ax lx.length cx] 37 (0, 0)) := (hst3.block _ hW2).trans HBX2.out
            have hW3 : wr.heap.size < w3.heap.size := (Array.getElem?_eq_some_iff.1 hbx3).1
            have HX3 : Hid (w2.heap.size ≤ w3.heap.size) := hst3.size
            replace cr := cell_later hst3 cr
            replace ce := cell_later hst3 ce
            replace ch := cell_later hst3 ch
            have hv3 := hv2.setc (g := wr.heap.size) (j := 3) (fun h => by rcases h with h | h
                                                                           · have := HS.out _ h; omega
                                                                           · omega) (.slice a2 ws.length c2)
            have HB3 : Hid (Below wr.heap.size wr (w3.setCell ⟨wr.heap.size, 3, none⟩ (.slice a2 ws.length c2))) := below_setc hB3 (Nat.le_refl _) 3 _
            have HI := Lib.hid (rd_iff.1 HRD.out)
            have hRx : Rd (fun b => S b ∨ w2.heap.size ≤ b) (w3.setCell ⟨wr.heap.size, 3, none⟩ (.slice a2 ws.length c2)) (.mk k nn t a2 c2 ws) := rd_iff.2 ⟨HI.out.1, HI.out.2.1, HI.out.2.2.1, hv3⟩
            have hszc : (w3.setCell ⟨wr.heap.size, 3, none⟩ (.slice a2 ws.length c2)).heap.size = w3.heap.size := by simp [World.setCell]
            have HLV := lit_one hRx
            rw [hszc] at HLV
            replace HLV := Lib.hid HLV
            have HB3s := HB3.out.size
            rw [hszc] at HB3s
            replace HB3s := Lib.hid HB3s
            have HW2 := Lib.hid (Nat.le_of_lt hW2)
            have HEW : Hid ((Vl.mk k nn t a2 c2 ws).er = .mk k t nn (advL h (lx.map Vl.er))) := by show _ = _; rw [er_kind]; show Nd.mk k t nn (ws.map Vl.er) = _; rw [he2]
            have HN2 : Hid (ws.map Vl.er = advL h (lx.map Vl.er)) := he2
            have HRN : Hid (advN h (Vl.mk k nn t ax cx lx).er = if (advL h (lx.map Vl.er)).isEmpty = true then [] else [.mk k t nn (advL h (lx.map Vl.er))]) := by
              show _ = _
              rw [HEV.out]
              show advN h (.mk k t nn (lx.map Vl.er)) = _
              rw [advN, if_neg HK.out, if_neg]
              intro e
              apply HL0.out
              cases lx with
              | nil => rfl
              | cons => cases e
            clear hv2 hv3 hst3 hRx he2 x0 x1 x2 x3 fx hszc hB2 hB3 hW2 hW3
            obtain ⟨x0, x1, x2, x3, fx⟩ := box_cells4 hbx3
            clear hbx3
            by_cases hw0 : ws.length = 0
            · have HE0 : Hid (advN h (Vl.mk k nn t ax cx lx).er = []) := by
                show _ = _
                rw [HRN.out, ← HN2.out, List.eq_nil_of_length_eq_zero hw0]; rfl
              have s3 : decide ((ws.length : Int) > 0) = false := by rw [decide_eq_false_iff_not]; omega
              have s4 : decide (0 < ws.length) = false := by rw [decide_eq_false_iff_not]; omega
              clear hw0
              go_wp2
              go_roundw
              case rel =>
                refine ⟨j + 1, b, m, d, us, by go_num, rfl, by omega, HOX.out _ HB3.out, ?_, hB.trans (HB3.out.mono HSW.out)⟩
                have := HNX.out
                rw [HE0.out, List.append_nil] at this
                exact this
              case measure => simp [intOf]; omega
            · have HE2 : Hid ([(Vl.mk k nn t a2 c2 ws).er] = advN h (Vl.mk k nn t ax cx lx).er) := by
                show _ = _
                rw [HRN.out, if_neg, HEW.out]
                rw [← HN2.out]
                intro e
                apply hw0
                cases ws with
                | nil => rfl
                | cons => cases e
              have s3 : decide ((ws.length : Int) > 0) = true := by rw [decide_eq_true_eq]; omega
              have s4 : decide (0 < ws.length) = true := by rw [decide_eq_true_eq]; omega
              clear hw0
              have HY1 : Hid (∀ q, ((S q ∨ w2.heap.size ≤ q) ∧ q < w3.heap.size) ∨ q = w3.heap.size → S q ∨ w.heap.size ≤ q) := by
                intro q hq
                have := HB3s.out
                have := HX3.out
                have := HW2.out
                have := HSW.out
                rcases hq with ⟨h | h, -⟩ | h
                · exact .inl h
                · exact .inr (by omega)
                · exact .inr (by omega)
              have HY2 : Hid (∀ y : Addr, b = some y → ¬ (fun q => ((S q ∨ w2.heap.size ≤ q) ∧ q < w3.heap.size) ∨ q = w3.heap.size) y.block) := by
                intro y hy hq
                have := HLT.out y hy
                have := HB3s.out
                have := HX3.out
                have := HW2.out
                have := HSW.out
                rcases hq with ⟨h | h, -⟩ | h
                · have := HS.out _ h; omega
                · omega
                · have : y.block = w3.heap.size := h
                  omega
              have HBV : Hid (Below wr.heap.size wr (((w3.setCell ⟨wr.heap.size, 3, none⟩ (.slice a2 ws.length c2))).alloc (.cells #[.int .i64 k, .string t, .int .i64 nn, .slice a2 ws.length c2] 37))) := HB3.out.alloc HB3.out.size _
              have HBW := Lib.hid (hB.trans (HBV.out.mono hwz))
              have HBS : Hid (w.heap.size ≤ (((w3.setCell ⟨wr.heap.size, 3, none⟩ (.slice a2 ws.length c2))).alloc (.cells #[.int .i64 k, .string t, .int .i64 nn, .slice a2 ws.length c2] 37)).heap.size) := HBW.out.size
              go_wp2_with (at_builtin; refine wpList_appV (w0 := w) (B := w.heap.size) (S := S) (l := us) (ys := [Vl.mk k nn t a2 c2 ws]) (n := m) (cap := d) (a := b) rfl _ _ rfl rfl rfl (HOX.out _ HBV.out) HLV.out HY1.out HY2.out (by omega) HBS.out HBW.out ?_)
              · intro a' c' w' hO2 hb2
                have HO2 := Lib.hid hO2
                have HB2 := Lib.hid hb2
                clear hO2 hb2 x0 x1 x2 x3 fx cr ce ch
                generalize ((w3.setCell ⟨wr.heap.size, 3, none⟩ (.slice a2 ws.length c2))).alloc _ = V at *
                go_wp2
                go_roundw
                case rel =>
                  refine ⟨j + 1, a', m + 1, c', us ++ [Vl.mk k nn t a2 c2 ws], by go_num, rfl, by omega, HO2, ?_, HB2.out⟩
                  rw [List.map_append, List.map_cons, List.map_nil]
                  rw [HE2.out]
                  exact HNX.out
                case measure => simp [intOf]; omega
      · obtain rfl : j = n := by omega
        have hZ : Hid (us.map Vl.er = advL h (vs.map Vl.er)) := by
          have h0 : vs.take j = vs := List.take_of_length_le (by rw [← HV.out.1]; exact Nat.le_refl _)
          have := hE.out
          rw [h0] at this; exact this
        have hm : m ≤ 4096 := by
          have h1 := hO.out.len
          have h2 := HLEN.out j
          rw [← hE.out, List.length_map] at h2; omega
        have hV := Lib.hid (hO.out.vals (by omega))
        clear hO hE hm
        go_wp2
        go_ret
        exact ⟨b, m, d, us, rfl, hV.out, hZ.out, hB⟩
end Go.Proofs.YtbjanlmnmeegnaaDoor
