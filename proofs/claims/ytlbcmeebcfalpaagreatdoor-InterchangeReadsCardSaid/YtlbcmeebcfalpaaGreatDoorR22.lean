/- Joined: CDecW. -/
import Derived.Test.YtlbcmeebcfalpaaGreatDoorR20
import Derived.Test.YtlbcmeebcfalpaaGreatDoorR21
import Derived.WalkMore
set_option linter.unusedVariables false
set_option linter.unusedSimpArgs false
set_option maxRecDepth 100000
set_option maxHeartbeats 16000000
namespace Go.Proofs.YtlbcmeebcfalpaaGreatDoor
open Go.RowKit

theorem cell_past {w w' : World} {b j : Nat} (h : w'.heap[b]? = w.heap[b]?) : w'.cell? ⟨b, j, none⟩ = w.cell? ⟨b, j, none⟩ := by unfold World.cell?; simp only [h]
theorem setCell_past {w : World} {b b' j : Nat} {u : Value} (h : b' ≠ b) : (w.setCell ⟨b, j, none⟩ u).heap[b']? = w.heap[b']? := Below.heap_setCell _ _ _ _ (by simpa using h)
theorem decode_any (s : ByteArray) (hs : s.size <= 140737488355328) (w : World) (hE : Env w) : Calls Tryz.prog 29 #[.string s] w (DecPost s w) := by
  have hb1 : Below w.heap.size w (w.alloc (.cells #[.int .i64 0, .int .i64 0, .string ⟨#[]⟩, .slice none 0 0] 24)) := (Below.refl _ _).alloc (Nat.le_refl _) _
  have hh1 : (w.alloc (.cells #[.int .i64 0, .int .i64 0, .string ⟨#[]⟩, .slice none 0 0] 24)).heap[w.heap.size]? = some (.cells #[.int .i64 0, .int .i64 0, .string ⟨#[]⟩, .slice none 0 0] 24 (0, 0)) := World.alloc_heap_new _ _
  have hz1 : (w.alloc (.cells #[.int .i64 0, .int .i64 0, .string ⟨#[]⟩, .slice none 0 0] 24)).heap.size = w.heap.size + 1 := by simp
  have hl : s.data.toList.length = s.size := Array.length_toList
  by_cases hS : 1048576 < s.size
  · have hde : decode s.data.toList = (zeroV, 4) := by rw [decode, if_pos (by omega)]
    have hsI : (1048576 : Int) < (s.size : Int) := by omega
    have HDE := hiq hde
    clear hde hl
    go_enter Tryz.func29, Tryz.ntmps29
    go_wp2_with fail
    go_step3
    go_wp2_with fail
    rw [Exit.noGoto_ret]
    obtain ⟨z0, z1, z2, z3, -⟩ := box_cells hh1
    generalize w.alloc (.cells #[.int .i64 0, .int .i64 0, .string ⟨#[]⟩, .slice none 0 0] 24) = W4 at *
    exact bodyPost_ret (v := .tuple #[(mkLeaf 0 0 ⟨#[]⟩).val, .int .i64 4]) (by simp [results, Tryz.results29, go_sem, z0, z1, z2, z3, Vl.val, Vl.cells, Vl.kind, Vl.num, Vl.text, Vl.sl, Vl.addr, Vl.items, Vl.cap]) rfl (dec_fail HDE.out hb1)
  · have ho := OwnVV.lit0 (S := fun _ => False) (w.alloc (.cells #[.int .i64 0, .int .i64 0, .string ⟨#[]⟩, .slice none 0 0] 24)) (w.heap.size + 1) (by omega) (fun _ h => h.elim)
    have d0 : DSt s (w.alloc (.cells #[.int .i64 0, .int .i64 0, .string ⟨#[]⟩, .slice none 0 0] 24)) (w.heap.size + 1) s (some ⟨(w.alloc (.cells #[.int .i64 0, .int .i64 0, .string ⟨#[]⟩, .slice none 0 0] 24)).heap.size, 0, none⟩) 1 1 (fun _ => False) [] [] _ :=
      ⟨ho, fun _ h => h.elim, rfl, by simp, by simp, (Below.refl _ _).alloc (by omega) _⟩
    have HE := hiq hE
    have HL := hiq hl
    have HZ1 := hiq hz1
    clear hE ho hl hz1
    go_enter Tryz.func29, Tryz.ntmps29
    go_wp2_with fail
    go_step3
    go_wp2_with fail
    go_step3
    go_wp2_with fail
    generalize hW1 : w.alloc (.cells #[.int .i64 0, .int .i64 0, .string ⟨#[]⟩, .slice none 0 0] 24) = W1 at *
    clear hW1
    go_loopw [0, 4] (fun x o wr => ∃ (sj : ByteArray) (aj : Option Addr) (nj cj : Nat) (S : Nat -> Prop) (ll : List (List Vl)) (top : List Vl), x = .string sj /\ o = .slice aj nj cj /\ DSt s W1 (w.heap.size + 1) sj aj nj cj S ll top wr) (fun x _ _ => match x with | .string sj => sj.size | _ => 0)
    case atStart =>
      rw [HZ1.out] at d0
      exact ⟨s, _, 1, 1, _, [], [], rfl, rfl, d0⟩
    case round =>
      obtain ⟨sj, aj, nj, cj, S, ll, top, rfl, rfl, D⟩ := hrel
      have hlen := D.own.len
      have HD := hiq D
      have HS0 := hiq (Nat.le_of_not_lt hS)
      have hsub := hiq D.own.sub
      clear d0 D hS
      by_cases hA : ll = [] /\ top.length = 1
      · obtain ⟨rfl, ht1⟩ := hA
        obtain ⟨x, rfl⟩ := List.length_eq_one_iff.1 ht1
        obtain rfl : nj = 1 := by simpa using hlen
        obtain ⟨g, ak, nk, ck, rfl, hgB, hgl, hfz, hck, hok, hapk, hfk⟩ := HD.out.own.at_ (j := 0) (l := [x]) rfl
        obtain rfl : nk = 1 := hok.1
        have hvx := hok.vals (S' := fun b => w.heap.size + 1 <= b) (by omega) (fun b hb => HD.out.low b hb) (fun y hy => (hok.lt y.block (ownBlock_some hy)).1)
        obtain ⟨x', bx, offx, hx', -, rfl, hSx, hbx, ⟨c0, c1, c2, c3⟩, hrx⟩ := hvx.get (j := 0) (by omega)
        obtain rfl : x = x' := by simpa using hx'
        rw [Nat.zero_mul, Nat.add_zero] at c0 c1 c2 c3
        have hbwr := HD.out.below
        have hhr : wr.heap[w.heap.size]? = _ := (hbwr.block w.heap.size (by omega)).trans hh1
        obtain ⟨e0, e1, e2, e3, f0⟩ := box_cells hhr
        have HHR := hiq hhr
        have hto := HD.out.to
        have HB0 : Hid (Below w.heap.size w wr) := hb1.trans (hbwr.mono (by omega))
        rw [decR_step] at hto
        simp only [List.map_cons, List.map_nil, erB, List.reverse_nil, decStep] at hto
        have HDEC : Hid (decode s.data.toList = decFin (some (x.er, sj.data.toList))) := decode_of (by rw [HL.out]; exact HS0.out) hto
        clear hto
        by_cases hne : sj.data.toList = []
        · have de : sj.toList.isEmpty = true := by rw [Lib.toList_data, hne]; rfl
          rw [hne] at HDEC
          rw [decFin_nil] at HDEC
          have hbx1 : Below wr.heap.size wr (wr.alloc (.cells x.cells 24)) := (Below.refl _ _).alloc (Nat.le_refl _) _
          have CK := check_any _ x (wr.alloc (.cells x.cells 24)) (hrx.below hbx1)
          have hVA : VAt (wr.alloc (.cells x.cells 24)) wr.heap.size 0 x := by
            obtain ⟨k, nn, t, a, c, l⟩ := x
            exact (boxed _ wr _ hrx).at_
          have HRX := hiq hrx
          have hlr : w.heap.size < wr.heap.size := by have := hbwr.size; omega
          have HVA := hiq hVA
          generalize hCV : chkV x.er = CV at *
          generalize hXE : x.er = XE at *
          have HXE := hiq hXE
          obtain ⟨k, nn, t, a, c, l⟩ := x
          dsimp only [Vl.val, Vl.cells, Vl.kind, Vl.num, Vl.text, Vl.sl, Vl.addr, Vl.items, Vl.cap] at c0 c1 c2 c3 CK hVA
          have HCK := hiq CK
          have HCV := hiq hCV
          clear CK ht1 hlen hok hapk hfk hfz hx' hvx hrx hVA hne hbx1 hXE hCV
          go_wp2_with fail
          refine HCK.out.mono ?_
          rintro e W3 ⟨rfl, hb3⟩
          have hb13 : Below wr.heap.size wr W3 := ((Below.refl _ _).alloc (Nat.le_refl _) _).trans (hb3.mono (by simp))
          have hh3 : W3.heap[w.heap.size]? = _ := (hb13.block w.heap.size hlr).trans HHR.out
          obtain ⟨g0, g1, g2, g3, f3⟩ := box_cells hh3
          have HH3 := hiq hh3
          have hbA := HB0.out.trans (hb13.mono (Nat.le_of_lt hlr))
          by_cases hcv : CV = 0
          · subst hcv
            obtain ⟨y0, y1, y2, y3⟩ := HVA.out.later hb3
            change W3.cell? ⟨wr.heap.size, 0, none⟩ = some (.int .i64 k) at y0
            change W3.cell? ⟨wr.heap.size, 1, none⟩ = some (.int .i64 nn) at y1
            change W3.cell? ⟨wr.heap.size, 2, none⟩ = some (.string t) at y2
            change W3.cell? ⟨wr.heap.size, 3, none⟩ = some (.slice a l.length c) at y3
            have hr3 := HRX.out.below hb13
            clear hb3 hb13 hh3 HCK e0 e1 e2 e3 f0 c0 c1 c2 c3 hlr
            go_wp2_with fail
            have hb4 := put4_below hbA (Nat.le_refl _) (.int .i64 k) (.int .i64 nn) (.string t) (.slice a l.length c)
            have hr4 := hr3.keep (put4_keep (W := W3) (b := w.heap.size) (by simp) (.int .i64 k) (.int .i64 nn) (.string t) (.slice a l.length c))
            have hz4 := put4_size W3 w.heap.size (.int .i64 k) (.int .i64 nn) (.string t) (.slice a l.length c)
            obtain ⟨z0, z1, z2, z3, -⟩ := box_cells (put4_at HH3.out (.int .i64 k) (.int .i64 nn) (.string t) (.slice a l.length c))
            rw [Exit.noGoto_ret]
            change bodyPost _ _ _ _ _ (put4 W3 w.heap.size (.int .i64 k) (.int .i64 nn) (.string t) (.slice a l.length c))
            generalize put4 W3 w.heap.size (.int .i64 k) (.int .i64 nn) (.string t) (.slice a l.length c) = W4 at *
            exact bodyPost_ret (v := .tuple #[(Vl.mk k nn t a c l).val, .int .i64 0]) (by simp [results, Tryz.results29, go_sem, z0, z1, z2, z3, Vl.val, Vl.cells, Vl.kind, Vl.num, Vl.text, Vl.sl, Vl.addr, Vl.items, Vl.cap]) rfl ⟨fun b => w.heap.size + 1 <= b /\ b < W4.heap.size, .mk k nn t a c l, by rw [HDEC.out, if_pos trivial], by rw [HDEC.out, if_pos trivial]; exact HXE.out, hr4.mono (fun b hb hlt => ⟨hb, hlt⟩), fun b hb => ⟨by omega, hb.2⟩, hb4⟩
          · have dcv : ((CV : Int) != 0) = true := by simp [hcv]
            clear hb3 hb13 hh3 HCK e0 e1 e2 e3 f0 c0 c1 c2 c3 hlr
            go_wp2_with fail
            have hb4 := put4_below hbA (Nat.le_refl _) (.int .i64 0) (.int .i64 0) (.string ⟨#[]⟩) (.slice none 0 0)
            obtain ⟨z0, z1, z2, z3, -⟩ := box_cells (put4_at HH3.out (.int .i64 0) (.int .i64 0) (.string ⟨#[]⟩) (.slice none 0 0))
            rw [Exit.noGoto_ret]
            change bodyPost _ _ _ _ _ (put4 W3 w.heap.size (.int .i64 0) (.int .i64 0) (.string ⟨#[]⟩) (.slice none 0 0))
            generalize put4 W3 w.heap.size (.int .i64 0) (.int .i64 0) (.string ⟨#[]⟩) (.slice none 0 0) = W4 at *
            exact bodyPost_ret (v := .tuple #[(mkLeaf 0 0 ⟨#[]⟩).val, .int .i64 4]) (by simp [results, Tryz.results29, go_sem, z0, z1, z2, z3, Vl.val, Vl.cells, Vl.kind, Vl.num, Vl.text, Vl.sl, Vl.addr, Vl.items, Vl.cap]) rfl (dec_fail (by rw [HDEC.out, if_neg hcv]) hb4)
        · have de : sj.toList.isEmpty = false := by rw [Lib.toList_data]; simpa using hne
          clear ht1 hlen hok hapk hfk hfz hx' hvx hrx
          go_wp2_with fail
          rw [Exit.noGoto_ret]
          have hb4 := put4_below HB0.out (Nat.le_refl _) (.int .i64 0) (.int .i64 0) (.string ⟨#[]⟩) (.slice none 0 0)
          obtain ⟨z0, z1, z2, z3, -⟩ := box_cells (put4_at HHR.out (.int .i64 0) (.int .i64 0) (.string ⟨#[]⟩) (.slice none 0 0))
          change bodyPost _ _ _ _ _ (put4 wr w.heap.size (.int .i64 0) (.int .i64 0) (.string ⟨#[]⟩) (.slice none 0 0))
          generalize put4 wr w.heap.size (.int .i64 0) (.int .i64 0) (.string ⟨#[]⟩) (.slice none 0 0) = W4 at *
          exact bodyPost_ret (v := .tuple #[(mkLeaf 0 0 ⟨#[]⟩).val, .int .i64 3]) (by simp [results, Tryz.results29, go_sem, z0, z1, z2, z3, Vl.val, Vl.cells, Vl.kind, Vl.num, Vl.text, Vl.sl, Vl.addr, Vl.items, Vl.cap]) rfl (dec_fail (by rw [HDEC.out, decFin_rest hne]) hb4)
      · have hto := HD.out.to
        have hbwr := HD.out.below
        have hwz := hbwr.size
        rw [HZ1.out] at hwz
        have hdeep := HD.out.deep
        rw [List.length_append, List.length_singleton] at hlen
        have hsz1 : sj.size <= 1048576 := by have := HS0.out; omega
        have hsw : IntKind.i64.wrap ((nj : Int) - 1) = (nj : Int) - 1 := IntWalk.i64_in _ (by have := HS0.out; omega)
        by_cases h0 : ll = []
        · subst h0
          have htl : ¬ top.length = 1 := fun e => hA ⟨rfl, e⟩
          obtain rfl : nj = 1 := by simpa using hlen
          obtain ⟨g, ak, nk, ck, rfl, hgB, hgl, hfz, hck, hok, hapk, hfk⟩ := HD.out.own.at_ (j := 0) (l := top) rfl
          have hnk := hok.1
          have dtl : ((nk : Int) == 1) = false := by rw [beq_eq_false_iff_ne]; omega
          have HNK := hiq hnk
          have HOK := hiq hok
          have HAPK := hiq hapk
          have HFK := hiq hfk
          have HFZ := hiq hfz
          clear hnk hok hapk hfk hfz hlen htl
          generalize hL : sj.data.toList = L at *
          cases L with
          | nil =>
            have FP1 : Hid (Calls Tryz.prog 28 #[.string sj, .string ⟨#[108]⟩] wr fun e w' => e = .returned (.bool false) /\ w' = wr) := by
              have := Tryz.strings_HasPrefix sj ⟨#[108]⟩ wr
              rw [hL] at this
              exact this
            have FP2 : Hid (Calls Tryz.prog 28 #[.string sj, .string ⟨#[101]⟩] wr fun e w' => e = .returned (.bool false) /\ w' = wr) := by
              have := Tryz.strings_HasPrefix sj ⟨#[101]⟩ wr
              rw [hL] at this
              exact this
            have hleaf : Hid (∀ c0 r0, sj.data.toList = c0 :: r0 -> c0 ≠ 108 /\ (c0 = 101 -> ([] : List (List Vl)) = [])) := fun c0 r0 he => by
              rw [hL] at he
              cases he
            have hbwr := HD.out.below
            have hzr := hbwr.size
            rw [HZ1.out] at hzr
            have HB0 : Hid (Below w.heap.size w wr) := hb1.trans (hbwr.mono (by omega))
            have SC := scalar_any sj hsz1 wr (HE.out.below HB0.out)
            have HSC := hiq SC
            have HBWR := hiq hbwr
            have HHR : Hid (wr.heap[w.heap.size]? = _) := (hbwr.block w.heap.size (by omega)).trans hh1
            have hdn : Hid (scalP sj.data.toList = none -> decode s.data.toList = (zeroV, 3)) := fun hp => HD.out.none hA hleaf.out hp HS0.out
            have hlf : Hid (∀ (k n : Int) (t rs : ByteArray) (c' : Nat) (w' : World), scalP sj.data.toList = some (.mk k n t [], rs.data.toList) -> OwnVV S w' (w.heap.size + 1) (some ⟨g, 0, none⟩) 1 c' (([] : List (List Vl)) ++ [top ++ [mkLeaf k n t]]) -> Below (w.heap.size + 1) W1 w' -> DSt s W1 (w.heap.size + 1) rs (some ⟨g, 0, none⟩) 1 c' S ([] : List (List Vl)) (top ++ [mkLeaf k n t]) w' /\ rs.size < sj.size) := fun k n t rs c' w' hp ho hb =>
              ⟨HD.out.leaf hA hleaf.out hp ho hb, by have := scalP_lt hp; rw [Array.length_toList, Array.length_toList] at this; exact this⟩
            clear hA hL SC hbwr hleaf
            go_wp2_with fail
            refine FP1.out.mono ?_
            rintro e w9 ⟨rfl, hw9⟩
            obtain rfl := hw9.symm
            go_wp2_with fail
            refine FP2.out.mono ?_
            rintro e w9 ⟨rfl, hw9⟩
            obtain rfl := hw9.symm
            go_wp2_with fail
            refine HSC.out.mono ?_
            rintro e w2 ⟨k, n, t, rs, ok, he, hk, hn, ht, hres, hb2⟩
            change e = .returned (.tuple #[.agg #[.int .i64 k, .int .i64 n, .string t, .slice none 0 0], .string rs, .bool ok]) at he
            subst he
            have hb3 : Below wr.heap.size wr (w2.alloc (.cells #[.int .i64 k, .int .i64 n, .string t, .slice none 0 0] 24)) := hb2.alloc hb2.size _
            have hz2 := hb2.size
            have hh3 : (w2.alloc (.cells #[.int .i64 k, .int .i64 n, .string t, .slice none 0 0] 24)).heap[w.heap.size]? = _ := (hb3.block w.heap.size (by omega)).trans HHR.out
            have HH3 := hiq hh3
            rcases hres with ⟨rfl, hp⟩ | ⟨rfl, hp⟩
            · have HP := hiq hp
              have hO3 := HD.out.own.below hb3
              have c3 := clq hb3 hck
              obtain ⟨v0, v1, v2, v3, -⟩ := box_cells (World.alloc_heap_new w2 (.cells #[.int .i64 k, .int .i64 n, .string t, .slice none 0 0] 24))
              have fg := HFZ.out (0)
              have f3 : (w2.alloc (.cells #[.int .i64 k, .int .i64 n, .string t, .slice none 0 0] 24)).frozen? ⟨g, 0, none⟩ = false := (hb3.frozen (p := ⟨g, 0, none⟩) hgl).trans fg
              have o3 := HOK.out.below hb3
              have hb13 : Below (w.heap.size + 1) W1 (w2.alloc (.cells #[.int .i64 k, .int .i64 n, .string t, .slice none 0 0] 24)) := HBWR.out.trans (hb3.mono (by omega))
              have hlv : Rd S (w2.alloc (.cells #[.int .i64 k, .int .i64 n, .string t, .slice none 0 0] 24)) (mkLeaf k n t) := rd_iff.2 ⟨hk, hn, (by show t.size <= _; omega), Vals.nil S _⟩
              have hnkb : nk <= 1048576 := by have := HD.out.long top (by simp); have := HNK.out; omega
              have hb2' := hb2
              clear hp HSC FP1 FP2 hh3 fg hck hb3 hb2
              go_wp2_with fail
              generalize w2.alloc (.cells #[.int .i64 k, .int .i64 n, .string t, .slice none 0 0] 24) = W3 at *
              obtain ⟨X, Wf, hX, hS1, hS2⟩ := family (fun W => W.cell? ⟨g, 0, none⟩ = some (.slice ak nk ck) /\ W.cell? ⟨w2.heap.size, 0, none⟩ = some (.int .i64 k) /\ W.cell? ⟨w2.heap.size, 1, none⟩ = some (.int .i64 n) /\ W.cell? ⟨w2.heap.size, 2, none⟩ = some (.string t) /\ W.cell? ⟨w2.heap.size, 3, none⟩ = some (.slice none 0 0)) W3 ⟨c3, v0, v1, v2, v3⟩
              have k0 : ∀ x, (Wf x).cell? ⟨g, 0, none⟩ = some (.slice ak nk ck) := fun x => (hS1 x).1
              have k1 : ∀ x, (Wf x).cell? ⟨w2.heap.size, 0, none⟩ = some (.int .i64 k) := fun x => (hS1 x).2.1
              have k2 : ∀ x, (Wf x).cell? ⟨w2.heap.size, 1, none⟩ = some (.int .i64 n) := fun x => (hS1 x).2.2.1
              have k3 : ∀ x, (Wf x).cell? ⟨w2.heap.size, 2, none⟩ = some (.string t) := fun x => (hS1 x).2.2.2.1
              have k4 : ∀ x, (Wf x).cell? ⟨w2.heap.size, 3, none⟩ = some (.slice none 0 0) := fun x => (hS1 x).2.2.2.2
              have HS2 := hiq hS2
              clear hS1 hS2
              refine wp_region_bar (Wf := Wf) 8 [0, 1, 2, 3, 4, 5] [6, 7] (by kernel_rfl) (by kernel_rfl) (fun _ _ d _ _ h => by cases d <;> exact h) (HS2.out _ ⟨c3, v0, v1, v2, v3⟩) ?_
              simp only [pickOps, List.filterMap_cons, List.filterMap_nil, List.getElem?_cons_zero, List.getElem?_cons_succ]
              repeat (refine wpReads_step (fun K hK => ?_); unfold rOp; go_simp; (refine hK _ ?_; clear hK K))
              have hb4 : Below W3.heap.size W3 (W3.drew.alloc (.cells #[.int .i64 0, .int .i64 0, .string ⟨#[]⟩, .slice none 0 0] 24)) := (Below.refl _ _).drew.alloc (Nat.le_refl _) _
              have hz3 := hb13.size
              rw [HZ1.out] at hz3
              have hb14 := hb13.trans (hb4.mono hz3)
              have o4 := o3.below hb4
              have va4 : VAt (W3.drew.alloc (.cells #[.int .i64 0, .int .i64 0, .string ⟨#[]⟩, .slice none 0 0] 24)) W3.heap.size 0 (mkLeaf 0 0 ⟨#[]⟩) := by
                obtain ⟨y0, y1, y2, y3, -⟩ := box_cells (World.alloc_heap_new W3.drew (.cells #[.int .i64 0, .int .i64 0, .string ⟨#[]⟩, .slice none 0 0] 24))
                exact ⟨y0, y1, y2, y3⟩
              have q0 := clq hb4 c3
              have q1 := clq hb4 v0
              have q2 := clq hb4 v1
              have q3 := clq hb4 v2
              have q4 := clq hb4 v3
              have fq : (W3.drew.alloc (.cells #[.int .i64 0, .int .i64 0, .string ⟨#[]⟩, .slice none 0 0] 24)).frozen? ⟨g, 0, none⟩ = false := (hb4.frozen (p := ⟨g, 0, none⟩) (World.block_lt_of_cell? _ _ c3)).trans f3
              have hgB4 := hb14.size
              rw [HZ1.out] at hgB4
              clear k0 k1 k2 k3 k4
              refine wpReads_nil (wpActs_cons ?_)
              go_wp2_with fail
              refine ⟨HS2.out _ ⟨q0, q1, q2, q3, q4⟩, wpActs_cons ?_⟩
              go_wp2_with (at_builtin; refine wpList_app1 (u := mkLeaf 0 0 ⟨#[]⟩) rfl (.tmp 31) (.tmp 34) rfl rfl rfl o4 va4 (rd_zero _ _) (by omega) hgB4 hb14 HFK.out ?_; intro a5 c5 w5 o5 b5 g5 h5)
              have neG : some g ≠ (Value.slice ak nk ck).ownBlock := HAPK.out.symm.own ⟨g, 0, none⟩ rfl
              have neB : some w2.heap.size ≠ (Value.slice ak nk ck).ownBlock := fun e => by have := (HOK.out.lt _ e.symm).2; omega
              have p0 := g5.cell q0 neG
              have p1 := g5.cell q1 neB
              have p2 := g5.cell q2 neB
              have p3 := g5.cell q3 neB
              have p4 := g5.cell q4 neB
              have fp : w5.frozen? ⟨g, 0, none⟩ = false := by
                rw [World.frozen?_of_block (g5.block g (World.block_lt_of_cell? _ _ q0) neG)]
                exact fq
              refine ⟨HS2.out _ ⟨p0, p1, p2, p3, p4⟩, wpActs_nil ?_⟩
              obtain ⟨r5, rfl, hB5, hne5, hfz5, hcl5, hO5⟩ := row_put (v := mkLeaf k n t) hO3 c3 hb4 g5 o5 h5 hlv HAPK.out HFK.out HNK.out
              have hb15 := put4o_below b5 hB5 (nk * 4) (.int .i64 k) (.int .i64 n) (.string t) (.slice none 0 0)
              have hfin := hlf.out k n t rs _ _ HP.out hO5 (hb15.setCell (p := ⟨g, 0, none⟩) (by omega) _)
              have hsw5 := put4o_swap w5 hne5 (nk * 4) (0) (.int .i64 k) (.int .i64 n) (.string t) (.slice none 0 0) (.slice (some ⟨r5, 0, none⟩) (nk + 1) c5)
              obtain ⟨u0, l0⟩ := hcl5 0 (by omega)
              obtain ⟨u1, l1⟩ := hcl5 1 (by omega)
              obtain ⟨u2, l2⟩ := hcl5 2 (by omega)
              obtain ⟨u3', l3⟩ := hcl5 3 (by omega)
              rw [Nat.add_zero] at l0
              have HFIN := hiq hfin
              have HSW5 := hiq hsw5
              clear hfin hsw5 hO5 hb15 o5 o4 o3 hO3 hcl5 va4 q0 q1 q2 q3 q4 c3 v0 v1 v2 v3 fq f3
              refine wpAny_take (i := 8) (v := .pointer (some ⟨r5, nk * 4, none⟩)) rfl (by kernel_rfl) (by kernel_rfl) (by kernel_rfl) (fun _ _ _ h => h) (Or.inl ⟨by rfl, fun W => by go_simp; intro h; omega⟩) ?_
              refine wpAny_take (i := 10) (v := .pointer (some ⟨g, 0, none⟩)) rfl (by kernel_rfl) (by kernel_rfl) (by kernel_rfl) (fun _ _ _ h => h) (Or.inl ⟨by rfl, fun W => by go_simp⟩) ?_
              refine wpAny_ready (rs := [9, 11]) (by kernel_rfl) (by simp) (AllReady.cons rfl (fun K hK => ?_) (AllReady.cons rfl (fun K hK => ?_) AllReady.nil))
              · go_simp
                refine hK _ _ ?_
                clear hK K
                have ho6 := put4o_other (W := w5) (b := r5) (b' := g) (o := nk * 4) (Ne.symm hne5) (.int .i64 k) (.int .i64 n) (.string t) (.slice none 0 0)
                have p6 := (cell_past (j := (0)) ho6).trans p0
                have f6 := (World.frozen?_of_block (a := ⟨g, 0, none⟩) ho6).trans fp
                change wpAny _ _ _ _ _ _ _ (put4o w5 r5 (nk * 4) (.int .i64 k) (.int .i64 n) (.string t) (.slice none 0 0))
                change Hid (DSt _ _ _ _ _ _ _ _ _ _ ((put4o w5 r5 (nk * 4) (.int .i64 k) (.int .i64 n) (.string t) (.slice none 0 0)).setCell _ _) /\ _) at HFIN
                generalize put4o w5 r5 (nk * 4) (.int .i64 k) (.int .i64 n) (.string t) (.slice none 0 0) = w6 at *
                refine wpAny_ready (rs := [11]) (by kernel_rfl) (by simp) (AllReady.cons rfl (fun K hK => ?_) AllReady.nil)
                go_simp
                refine hK _ _ ?_
                clear hK K
                refine wpAny_done (by kernel_rfl) ?_ _
                go_wp2
                go_roundw
                case rel => exact ⟨_, _, _, _, _, _, _, rfl, rfl, HFIN.out.1⟩
                case measure => exact HFIN.out.2
              · go_simp
                refine hK _ _ ?_
                clear hK K
                have ho6 := setCell_past (w := w5) (b := g) (b' := r5) (j := (0)) (u := .slice (some ⟨r5, 0, none⟩) (nk + 1) c5) hne5
                have m0 := (cell_past (j := nk * 4) ho6).trans l0
                have m1 := (cell_past (j := nk * 4 + 1) ho6).trans l1
                have m2 := (cell_past (j := nk * 4 + 2) ho6).trans l2
                have m3 := (cell_past (j := nk * 4 + 3) ho6).trans l3
                have f6 := fun j => (World.frozen?_of_block (a := ⟨r5, j, none⟩) ho6).trans (hfz5 j)
                have HSW6 := HSW5.out
                generalize w5.setCell ⟨g, 0, none⟩ (.slice (some ⟨r5, 0, none⟩) (nk + 1) c5) = w6 at *
                refine wpAny_ready (rs := [9]) (by kernel_rfl) (by simp) (AllReady.cons rfl (fun K hK => ?_) AllReady.nil)
                have HS6 := hiq HSW6
                clear HSW6
                go_simp
                refine hK _ _ ?_
                clear hK K
                refine wpAny_done (by kernel_rfl) ?_ _
                change Exit.then _ _ _ _ (put4o w6 r5 (nk * 4) (.int .i64 k) (.int .i64 n) (.string t) (.slice none 0 0))
                rw [HS6.out]
                go_wp2
                go_roundw
                case rel => exact ⟨_, _, _, _, _, _, _, rfl, rfl, HFIN.out.1⟩
                case measure => exact HFIN.out.2
            · have HDE : Hid (decode s.data.toList = (zeroV, 3)) := hdn.out hp
              have hbA := HB0.out.trans (hb3.mono (by omega))
              obtain ⟨g0, g1, g2, g3, f3⟩ := box_cells hh3
              clear hp HSC FP1 FP2 hh3 hb2 hb3
              go_wp2_with fail
              rw [Exit.noGoto_ret]
              have hb4 := put4_below hbA (Nat.le_refl _) (.int .i64 0) (.int .i64 0) (.string ⟨#[]⟩) (.slice none 0 0)
              obtain ⟨z0, z1, z2, z3, -⟩ := box_cells (put4_at HH3.out (.int .i64 0) (.int .i64 0) (.string ⟨#[]⟩) (.slice none 0 0))
              change bodyPost _ _ _ _ _ (put4 (w2.alloc (.cells #[.int .i64 k, .int .i64 n, .string t, .slice none 0 0] 24)) w.heap.size (.int .i64 0) (.int .i64 0) (.string ⟨#[]⟩) (.slice none 0 0))
              generalize put4 (w2.alloc (.cells #[.int .i64 k, .int .i64 n, .string t, .slice none 0 0] 24)) w.heap.size (.int .i64 0) (.int .i64 0) (.string ⟨#[]⟩) (.slice none 0 0) = W4 at *
              exact bodyPost_ret (v := .tuple #[(mkLeaf 0 0 ⟨#[]⟩).val, .int .i64 3]) (by simp [results, Tryz.results29, go_sem, z0, z1, z2, z3, Vl.val, Vl.cells, Vl.kind, Vl.num, Vl.text, Vl.sl, Vl.addr, Vl.items, Vl.cap]) rfl (dec_fail HDE.out hb4)

          | cons ch rest =>
            by_cases h108 : ch = 108
            · subst h108
              have FP : Hid (Calls Tryz.prog 28 #[.string sj, .string ⟨#[108]⟩] wr fun e w' => e = .returned (.bool true) /\ w' = wr) := by
                have := Tryz.strings_HasPrefix sj ⟨#[108]⟩ wr
                rw [hL] at this
                exact this
              have hsz := len_list hL
              rw [List.length_cons] at hsz
              have hx1 : (sj.extract 1 sj.size).data.toList = rest := by rw [ext_list, hL, List.take_of_length_le (by simp; omega)]; rfl
              have hnew : Hid (∀ (a' : Option Addr) (c' : Nat) (w' : World), OwnVV S w' (w.heap.size + 1) a' (1 + 1) c' (([] ++ [top]) ++ [[]]) -> Below (w.heap.size + 1) W1 w' -> DSt s W1 (w.heap.size + 1) (sj.extract 1 sj.size) a' (1 + 1) c' S ([] ++ [top]) [] w') := fun a' c' w' o b => HD.out.push hA hL hx1 o b
              have hmes : Hid ((sj.extract 1 sj.size).size < sj.size) := by show _ < _; rw [len_list hx1]; omega
              have hown := HD.out.own
              have hbwr := HD.out.below
              have hnb : 1 <= 1048577 := by have := HS0.out; have := HD.out.deep; have h9 := hown.len; rw [List.length_append, List.length_singleton] at h9; omega
              have hzr := hbwr.size
              rw [HZ1.out] at hzr
              have b5 : Below (w.heap.size + 1) W1 (wr.drew.alloc (.cells #[.slice none 0 0] 22)) := hbwr.drew.alloc (by show _ <= wr.heap.size; omega) _
              have o5 : OwnVV S (wr.drew.alloc (.cells #[.slice none 0 0] 22)) (w.heap.size + 1) _ 1 cj ([] ++ [top]) := (hown.below (Below.refl _ _).drew).below ((Below.refl _ _).alloc (Nat.le_refl _) _)
              have c5 : (wr.drew.alloc (.cells #[.slice none 0 0] 22)).cell? ⟨wr.heap.size, 0, none⟩ = some (.slice none 0 0) := cell_lit1 _ _ _ rfl
              have z5 := b5.size
              rw [HZ1.out] at z5
              obtain ⟨X, Wf, hX, -, hS2⟩ := family (fun _ => True) wr trivial
              have HS2 := hiq hS2
              have h1s : (1 : Int) <= (sj.size : Int) := by omega
              have h1n : 1 <= sj.size := by omega
              clear hA hx1 hL hS2 hown hbwr hsz
              go_wp2_with fail
              refine FP.out.mono ?_
              rintro e w9 ⟨rfl, hw9⟩
              subst hw9
              go_wp2_with fail
              refine wp_region_reads (Wf := Wf) 6 [0, 3, 4] [1, 2, 5] (by kernel_rfl) (by kernel_rfl) (fun _ _ d _ _ h => by cases d <;> exact h) (HS2.out _ trivial) ?_
              simp only [pickOps, List.filterMap_cons, List.filterMap_nil, List.getElem?_cons_zero, List.getElem?_cons_succ]
              repeat (refine wpReads_step (fun K hK => ?_); unfold rOp; go_simp; (refine hK _ ?_; clear hK K))
              refine wpReads_nil (wpActs_cons ?_)
              go_wp2_with fail
              refine ⟨HS2.out _ trivial, wpActs_cons ?_⟩
              go_wp2_with (at_builtin; refine wpList_push rfl (.tmp 52) (.tmp 53) rfl rfl rfl o5 c5 (by omega) z5 b5 ?_; intro a6 c6 w6 o6 b6 g6)
              refine ⟨HS2.out _ trivial, wpActs_cons ?_⟩
              go_wp2_with fail
              refine ⟨HS2.out _ trivial, wpActs_nil ?_⟩
              go_wp2_with fail
              go_roundw
              case rel => exact ⟨_, _, _, _, _, _, _, rfl, rfl, hnew.out _ _ _ o6 b6⟩
              case measure => exact hmes.out
            · by_cases h101 : ch = 101
              · subst h101
                have FP1 : Hid (Calls Tryz.prog 28 #[.string sj, .string ⟨#[108]⟩] wr fun e w' => e = .returned (.bool false) /\ w' = wr) := by
                  have := Tryz.strings_HasPrefix sj ⟨#[108]⟩ wr
                  rw [hL] at this
                  exact this
                have FP2 : Hid (Calls Tryz.prog 28 #[.string sj, .string ⟨#[101]⟩] wr fun e w' => e = .returned (.bool true) /\ w' = wr) := by
                  have := Tryz.strings_HasPrefix sj ⟨#[101]⟩ wr
                  rw [hL] at this
                  exact this
                have hleaf : Hid (∀ c0 r0, sj.data.toList = c0 :: r0 -> c0 ≠ 108 /\ (c0 = 101 -> ([] : List (List Vl)) = [])) := fun c0 r0 he => by
                  rw [hL] at he
                  cases he; exact ⟨by decide, fun _ => rfl⟩
                have hbwr := HD.out.below
                have hzr := hbwr.size
                rw [HZ1.out] at hzr
                have HB0 : Hid (Below w.heap.size w wr) := hb1.trans (hbwr.mono (by omega))
                have SC := scalar_any sj hsz1 wr (HE.out.below HB0.out)
                have HSC := hiq SC
                have HBWR := hiq hbwr
                have HHR : Hid (wr.heap[w.heap.size]? = _) := (hbwr.block w.heap.size (by omega)).trans hh1
                have hdn : Hid (scalP sj.data.toList = none -> decode s.data.toList = (zeroV, 3)) := fun hp => HD.out.none hA hleaf.out hp HS0.out
                have hlf : Hid (∀ (k n : Int) (t rs : ByteArray) (c' : Nat) (w' : World), scalP sj.data.toList = some (.mk k n t [], rs.data.toList) -> OwnVV S w' (w.heap.size + 1) (some ⟨g, 0, none⟩) 1 c' (([] : List (List Vl)) ++ [top ++ [mkLeaf k n t]]) -> Below (w.heap.size + 1) W1 w' -> DSt s W1 (w.heap.size + 1) rs (some ⟨g, 0, none⟩) 1 c' S ([] : List (List Vl)) (top ++ [mkLeaf k n t]) w' /\ rs.size < sj.size) := fun k n t rs c' w' hp ho hb =>
                  ⟨HD.out.leaf hA hleaf.out hp ho hb, by have := scalP_lt hp; rw [Array.length_toList, Array.length_toList] at this; exact this⟩
                clear hA hL SC hbwr hleaf
                go_wp2_with fail
                refine FP1.out.mono ?_
                rintro e w9 ⟨rfl, hw9⟩
                obtain rfl := hw9.symm
                go_wp2_with fail
                refine FP2.out.mono ?_
                rintro e w9 ⟨rfl, hw9⟩
                obtain rfl := hw9.symm
                go_wp2_with fail
                refine HSC.out.mono ?_
                rintro e w2 ⟨k, n, t, rs, ok, he, hk, hn, ht, hres, hb2⟩
                change e = .returned (.tuple #[.agg #[.int .i64 k, .int .i64 n, .string t, .slice none 0 0], .string rs, .bool ok]) at he
                subst he
                have hb3 : Below wr.heap.size wr (w2.alloc (.cells #[.int .i64 k, .int .i64 n, .string t, .slice none 0 0] 24)) := hb2.alloc hb2.size _
                have hz2 := hb2.size
                have hh3 : (w2.alloc (.cells #[.int .i64 k, .int .i64 n, .string t, .slice none 0 0] 24)).heap[w.heap.size]? = _ := (hb3.block w.heap.size (by omega)).trans HHR.out
                have HH3 := hiq hh3
                rcases hres with ⟨rfl, hp⟩ | ⟨rfl, hp⟩
                · have HP := hiq hp
                  have hO3 := HD.out.own.below hb3
                  have c3 := clq hb3 hck
                  obtain ⟨v0, v1, v2, v3, -⟩ := box_cells (World.alloc_heap_new w2 (.cells #[.int .i64 k, .int .i64 n, .string t, .slice none 0 0] 24))
                  have fg := HFZ.out (0)
                  have f3 : (w2.alloc (.cells #[.int .i64 k, .int .i64 n, .string t, .slice none 0 0] 24)).frozen? ⟨g, 0, none⟩ = false := (hb3.frozen (p := ⟨g, 0, none⟩) hgl).trans fg
                  have o3 := HOK.out.below hb3
                  have hb13 : Below (w.heap.size + 1) W1 (w2.alloc (.cells #[.int .i64 k, .int .i64 n, .string t, .slice none 0 0] 24)) := HBWR.out.trans (hb3.mono (by omega))
                  have hlv : Rd S (w2.alloc (.cells #[.int .i64 k, .int .i64 n, .string t, .slice none 0 0] 24)) (mkLeaf k n t) := rd_iff.2 ⟨hk, hn, (by show t.size <= _; omega), Vals.nil S _⟩
                  have hnkb : nk <= 1048576 := by have := HD.out.long top (by simp); have := HNK.out; omega
                  have hb2' := hb2
                  clear hp HSC FP1 FP2 hh3 fg hck hb3 hb2
                  go_wp2_with fail
                  generalize w2.alloc (.cells #[.int .i64 k, .int .i64 n, .string t, .slice none 0 0] 24) = W3 at *
                  obtain ⟨X, Wf, hX, hS1, hS2⟩ := family (fun W => W.cell? ⟨g, 0, none⟩ = some (.slice ak nk ck) /\ W.cell? ⟨w2.heap.size, 0, none⟩ = some (.int .i64 k) /\ W.cell? ⟨w2.heap.size, 1, none⟩ = some (.int .i64 n) /\ W.cell? ⟨w2.heap.size, 2, none⟩ = some (.string t) /\ W.cell? ⟨w2.heap.size, 3, none⟩ = some (.slice none 0 0)) W3 ⟨c3, v0, v1, v2, v3⟩
                  have k0 : ∀ x, (Wf x).cell? ⟨g, 0, none⟩ = some (.slice ak nk ck) := fun x => (hS1 x).1
                  have k1 : ∀ x, (Wf x).cell? ⟨w2.heap.size, 0, none⟩ = some (.int .i64 k) := fun x => (hS1 x).2.1
                  have k2 : ∀ x, (Wf x).cell? ⟨w2.heap.size, 1, none⟩ = some (.int .i64 n) := fun x => (hS1 x).2.2.1
                  have k3 : ∀ x, (Wf x).cell? ⟨w2.heap.size, 2, none⟩ = some (.string t) := fun x => (hS1 x).2.2.2.1
                  have k4 : ∀ x, (Wf x).cell? ⟨w2.heap.size, 3, none⟩ = some (.slice none 0 0) := fun x => (hS1 x).2.2.2.2
                  have HS2 := hiq hS2
                  clear hS1 hS2
                  refine wp_region_bar (Wf := Wf) 8 [0, 1, 2, 3, 4, 5] [6, 7] (by kernel_rfl) (by kernel_rfl) (fun _ _ d _ _ h => by cases d <;> exact h) (HS2.out _ ⟨c3, v0, v1, v2, v3⟩) ?_
                  simp only [pickOps, List.filterMap_cons, List.filterMap_nil, List.getElem?_cons_zero, List.getElem?_cons_succ]
                  repeat (refine wpReads_step (fun K hK => ?_); unfold rOp; go_simp; (refine hK _ ?_; clear hK K))
                  have hb4 : Below W3.heap.size W3 (W3.drew.alloc (.cells #[.int .i64 0, .int .i64 0, .string ⟨#[]⟩, .slice none 0 0] 24)) := (Below.refl _ _).drew.alloc (Nat.le_refl _) _
                  have hz3 := hb13.size
                  rw [HZ1.out] at hz3
                  have hb14 := hb13.trans (hb4.mono hz3)
                  have o4 := o3.below hb4
                  have va4 : VAt (W3.drew.alloc (.cells #[.int .i64 0, .int .i64 0, .string ⟨#[]⟩, .slice none 0 0] 24)) W3.heap.size 0 (mkLeaf 0 0 ⟨#[]⟩) := by
                    obtain ⟨y0, y1, y2, y3, -⟩ := box_cells (World.alloc_heap_new W3.drew (.cells #[.int .i64 0, .int .i64 0, .string ⟨#[]⟩, .slice none 0 0] 24))
                    exact ⟨y0, y1, y2, y3⟩
                  have q0 := clq hb4 c3
                  have q1 := clq hb4 v0
                  have q2 := clq hb4 v1
                  have q3 := clq hb4 v2
                  have q4 := clq hb4 v3
                  have fq : (W3.drew.alloc (.cells #[.int .i64 0, .int .i64 0, .string ⟨#[]⟩, .slice none 0 0] 24)).frozen? ⟨g, 0, none⟩ = false := (hb4.frozen (p := ⟨g, 0, none⟩) (World.block_lt_of_cell? _ _ c3)).trans f3
                  have hgB4 := hb14.size
                  rw [HZ1.out] at hgB4
                  clear k0 k1 k2 k3 k4
                  refine wpReads_nil (wpActs_cons ?_)
                  go_wp2_with fail
                  refine ⟨HS2.out _ ⟨q0, q1, q2, q3, q4⟩, wpActs_cons ?_⟩
                  go_wp2_with (at_builtin; refine wpList_app1 (u := mkLeaf 0 0 ⟨#[]⟩) rfl (.tmp 31) (.tmp 34) rfl rfl rfl o4 va4 (rd_zero _ _) (by omega) hgB4 hb14 HFK.out ?_; intro a5 c5 w5 o5 b5 g5 h5)
                  have neG : some g ≠ (Value.slice ak nk ck).ownBlock := HAPK.out.symm.own ⟨g, 0, none⟩ rfl
                  have neB : some w2.heap.size ≠ (Value.slice ak nk ck).ownBlock := fun e => by have := (HOK.out.lt _ e.symm).2; omega
                  have p0 := g5.cell q0 neG
                  have p1 := g5.cell q1 neB
                  have p2 := g5.cell q2 neB
                  have p3 := g5.cell q3 neB
                  have p4 := g5.cell q4 neB
                  have fp : w5.frozen? ⟨g, 0, none⟩ = false := by
                    rw [World.frozen?_of_block (g5.block g (World.block_lt_of_cell? _ _ q0) neG)]
                    exact fq
                  refine ⟨HS2.out _ ⟨p0, p1, p2, p3, p4⟩, wpActs_nil ?_⟩
                  obtain ⟨r5, rfl, hB5, hne5, hfz5, hcl5, hO5⟩ := row_put (v := mkLeaf k n t) hO3 c3 hb4 g5 o5 h5 hlv HAPK.out HFK.out HNK.out
                  have hb15 := put4o_below b5 hB5 (nk * 4) (.int .i64 k) (.int .i64 n) (.string t) (.slice none 0 0)
                  have hfin := hlf.out k n t rs _ _ HP.out hO5 (hb15.setCell (p := ⟨g, 0, none⟩) (by omega) _)
                  have hsw5 := put4o_swap w5 hne5 (nk * 4) (0) (.int .i64 k) (.int .i64 n) (.string t) (.slice none 0 0) (.slice (some ⟨r5, 0, none⟩) (nk + 1) c5)
                  obtain ⟨u0, l0⟩ := hcl5 0 (by omega)
                  obtain ⟨u1, l1⟩ := hcl5 1 (by omega)
                  obtain ⟨u2, l2⟩ := hcl5 2 (by omega)
                  obtain ⟨u3', l3⟩ := hcl5 3 (by omega)
                  rw [Nat.add_zero] at l0
                  have HFIN := hiq hfin
                  have HSW5 := hiq hsw5
                  clear hfin hsw5 hO5 hb15 o5 o4 o3 hO3 hcl5 va4 q0 q1 q2 q3 q4 c3 v0 v1 v2 v3 fq f3
                  refine wpAny_take (i := 8) (v := .pointer (some ⟨r5, nk * 4, none⟩)) rfl (by kernel_rfl) (by kernel_rfl) (by kernel_rfl) (fun _ _ _ h => h) (Or.inl ⟨by rfl, fun W => by go_simp; intro h; omega⟩) ?_
                  refine wpAny_take (i := 10) (v := .pointer (some ⟨g, 0, none⟩)) rfl (by kernel_rfl) (by kernel_rfl) (by kernel_rfl) (fun _ _ _ h => h) (Or.inl ⟨by rfl, fun W => by go_simp⟩) ?_
                  refine wpAny_ready (rs := [9, 11]) (by kernel_rfl) (by simp) (AllReady.cons rfl (fun K hK => ?_) (AllReady.cons rfl (fun K hK => ?_) AllReady.nil))
                  · go_simp
                    refine hK _ _ ?_
                    clear hK K
                    have ho6 := put4o_other (W := w5) (b := r5) (b' := g) (o := nk * 4) (Ne.symm hne5) (.int .i64 k) (.int .i64 n) (.string t) (.slice none 0 0)
                    have p6 := (cell_past (j := (0)) ho6).trans p0
                    have f6 := (World.frozen?_of_block (a := ⟨g, 0, none⟩) ho6).trans fp
                    change wpAny _ _ _ _ _ _ _ (put4o w5 r5 (nk * 4) (.int .i64 k) (.int .i64 n) (.string t) (.slice none 0 0))
                    change Hid (DSt _ _ _ _ _ _ _ _ _ _ ((put4o w5 r5 (nk * 4) (.int .i64 k) (.int .i64 n) (.string t) (.slice none 0 0)).setCell _ _) /\ _) at HFIN
                    generalize put4o w5 r5 (nk * 4) (.int .i64 k) (.int .i64 n) (.string t) (.slice none 0 0) = w6 at *
                    refine wpAny_ready (rs := [11]) (by kernel_rfl) (by simp) (AllReady.cons rfl (fun K hK => ?_) AllReady.nil)
                    go_simp
                    refine hK _ _ ?_
                    clear hK K
                    refine wpAny_done (by kernel_rfl) ?_ _
                    go_wp2
                    go_roundw
                    case rel => exact ⟨_, _, _, _, _, _, _, rfl, rfl, HFIN.out.1⟩
                    case measure => exact HFIN.out.2
                  · go_simp
                    refine hK _ _ ?_
                    clear hK K
                    have ho6 := setCell_past (w := w5) (b := g) (b' := r5) (j := (0)) (u := .slice (some ⟨r5, 0, none⟩) (nk + 1) c5) hne5
                    have m0 := (cell_past (j := nk * 4) ho6).trans l0
                    have m1 := (cell_past (j := nk * 4 + 1) ho6).trans l1
                    have m2 := (cell_past (j := nk * 4 + 2) ho6).trans l2
                    have m3 := (cell_past (j := nk * 4 + 3) ho6).trans l3
                    have f6 := fun j => (World.frozen?_of_block (a := ⟨r5, j, none⟩) ho6).trans (hfz5 j)
                    have HSW6 := HSW5.out
                    generalize w5.setCell ⟨g, 0, none⟩ (.slice (some ⟨r5, 0, none⟩) (nk + 1) c5) = w6 at *
                    refine wpAny_ready (rs := [9]) (by kernel_rfl) (by simp) (AllReady.cons rfl (fun K hK => ?_) AllReady.nil)
                    have HS6 := hiq HSW6
                    clear HSW6
                    go_simp
                    refine hK _ _ ?_
                    clear hK K
                    refine wpAny_done (by kernel_rfl) ?_ _
                    change Exit.then _ _ _ _ (put4o w6 r5 (nk * 4) (.int .i64 k) (.int .i64 n) (.string t) (.slice none 0 0))
                    rw [HS6.out]
                    go_wp2
                    go_roundw
                    case rel => exact ⟨_, _, _, _, _, _, _, rfl, rfl, HFIN.out.1⟩
                    case measure => exact HFIN.out.2
                · have HDE : Hid (decode s.data.toList = (zeroV, 3)) := hdn.out hp
                  have hbA := HB0.out.trans (hb3.mono (by omega))
                  obtain ⟨g0, g1, g2, g3, f3⟩ := box_cells hh3
                  clear hp HSC FP1 FP2 hh3 hb2 hb3
                  go_wp2_with fail
                  rw [Exit.noGoto_ret]
                  have hb4 := put4_below hbA (Nat.le_refl _) (.int .i64 0) (.int .i64 0) (.string ⟨#[]⟩) (.slice none 0 0)
                  obtain ⟨z0, z1, z2, z3, -⟩ := box_cells (put4_at HH3.out (.int .i64 0) (.int .i64 0) (.string ⟨#[]⟩) (.slice none 0 0))
                  change bodyPost _ _ _ _ _ (put4 (w2.alloc (.cells #[.int .i64 k, .int .i64 n, .string t, .slice none 0 0] 24)) w.heap.size (.int .i64 0) (.int .i64 0) (.string ⟨#[]⟩) (.slice none 0 0))
                  generalize put4 (w2.alloc (.cells #[.int .i64 k, .int .i64 n, .string t, .slice none 0 0] 24)) w.heap.size (.int .i64 0) (.int .i64 0) (.string ⟨#[]⟩) (.slice none 0 0) = W4 at *
                  exact bodyPost_ret (v := .tuple #[(mkLeaf 0 0 ⟨#[]⟩).val, .int .i64 3]) (by simp [results, Tryz.results29, go_sem, z0, z1, z2, z3, Vl.val, Vl.cells, Vl.kind, Vl.num, Vl.text, Vl.sl, Vl.addr, Vl.items, Vl.cap]) rfl (dec_fail HDE.out hb4)
              · have n1 : Lib.hasPrefix (ch :: rest) [108] = false := by simp [Lib.hasPrefix, List.isPrefixOf, Ne.symm h108]
                have n2 : Lib.hasPrefix (ch :: rest) [101] = false := by simp [Lib.hasPrefix, List.isPrefixOf, Ne.symm h101]
                have FP1 : Hid (Calls Tryz.prog 28 #[.string sj, .string ⟨#[108]⟩] wr fun e w' => e = .returned (.bool false) /\ w' = wr) := by
                  have := Tryz.strings_HasPrefix sj ⟨#[108]⟩ wr
                  rw [hL] at this
                  change Calls _ _ _ _ (fun e w' => e = .returned (.bool (Lib.hasPrefix (ch :: rest) [108])) /\ _) at this; rw [n1] at this; exact this
                have FP2 : Hid (Calls Tryz.prog 28 #[.string sj, .string ⟨#[101]⟩] wr fun e w' => e = .returned (.bool false) /\ w' = wr) := by
                  have := Tryz.strings_HasPrefix sj ⟨#[101]⟩ wr
                  rw [hL] at this
                  change Calls _ _ _ _ (fun e w' => e = .returned (.bool (Lib.hasPrefix (ch :: rest) [101])) /\ _) at this; rw [n2] at this; exact this
                have hleaf : Hid (∀ c0 r0, sj.data.toList = c0 :: r0 -> c0 ≠ 108 /\ (c0 = 101 -> ([] : List (List Vl)) = [])) := fun c0 r0 he => by
                  rw [hL] at he
                  cases he; exact ⟨h108, fun _ => rfl⟩
                have hbwr := HD.out.below
                have hzr := hbwr.size
                rw [HZ1.out] at hzr
                have HB0 : Hid (Below w.heap.size w wr) := hb1.trans (hbwr.mono (by omega))
                have SC := scalar_any sj hsz1 wr (HE.out.below HB0.out)
                have HSC := hiq SC
                have HBWR := hiq hbwr
                have HHR : Hid (wr.heap[w.heap.size]? = _) := (hbwr.block w.heap.size (by omega)).trans hh1
                have hdn : Hid (scalP sj.data.toList = none -> decode s.data.toList = (zeroV, 3)) := fun hp => HD.out.none hA hleaf.out hp HS0.out
                have hlf : Hid (∀ (k n : Int) (t rs : ByteArray) (c' : Nat) (w' : World), scalP sj.data.toList = some (.mk k n t [], rs.data.toList) -> OwnVV S w' (w.heap.size + 1) (some ⟨g, 0, none⟩) 1 c' (([] : List (List Vl)) ++ [top ++ [mkLeaf k n t]]) -> Below (w.heap.size + 1) W1 w' -> DSt s W1 (w.heap.size + 1) rs (some ⟨g, 0, none⟩) 1 c' S ([] : List (List Vl)) (top ++ [mkLeaf k n t]) w' /\ rs.size < sj.size) := fun k n t rs c' w' hp ho hb =>
                  ⟨HD.out.leaf hA hleaf.out hp ho hb, by have := scalP_lt hp; rw [Array.length_toList, Array.length_toList] at this; exact this⟩
                clear hA hL SC hbwr hleaf
                go_wp2_with fail
                refine FP1.out.mono ?_
                rintro e w9 ⟨rfl, hw9⟩
                obtain rfl := hw9.symm
                go_wp2_with fail
                refine FP2.out.mono ?_
                rintro e w9 ⟨rfl, hw9⟩
                obtain rfl := hw9.symm
                go_wp2_with fail
                refine HSC.out.mono ?_
                rintro e w2 ⟨k, n, t, rs, ok, he, hk, hn, ht, hres, hb2⟩
                change e = .returned (.tuple #[.agg #[.int .i64 k, .int .i64 n, .string t, .slice none 0 0], .string rs, .bool ok]) at he
                subst he
                have hb3 : Below wr.heap.size wr (w2.alloc (.cells #[.int .i64 k, .int .i64 n, .string t, .slice none 0 0] 24)) := hb2.alloc hb2.size _
                have hz2 := hb2.size
                have hh3 : (w2.alloc (.cells #[.int .i64 k, .int .i64 n, .string t, .slice none 0 0] 24)).heap[w.heap.size]? = _ := (hb3.block w.heap.size (by omega)).trans HHR.out
                have HH3 := hiq hh3
                rcases hres with ⟨rfl, hp⟩ | ⟨rfl, hp⟩
                · have HP := hiq hp
                  have hO3 := HD.out.own.below hb3
                  have c3 := clq hb3 hck
                  obtain ⟨v0, v1, v2, v3, -⟩ := box_cells (World.alloc_heap_new w2 (.cells #[.int .i64 k, .int .i64 n, .string t, .slice none 0 0] 24))
                  have fg := HFZ.out (0)
                  have f3 : (w2.alloc (.cells #[.int .i64 k, .int .i64 n, .string t, .slice none 0 0] 24)).frozen? ⟨g, 0, none⟩ = false := (hb3.frozen (p := ⟨g, 0, none⟩) hgl).trans fg
                  have o3 := HOK.out.below hb3
                  have hb13 : Below (w.heap.size + 1) W1 (w2.alloc (.cells #[.int .i64 k, .int .i64 n, .string t, .slice none 0 0] 24)) := HBWR.out.trans (hb3.mono (by omega))
                  have hlv : Rd S (w2.alloc (.cells #[.int .i64 k, .int .i64 n, .string t, .slice none 0 0] 24)) (mkLeaf k n t) := rd_iff.2 ⟨hk, hn, (by show t.size <= _; omega), Vals.nil S _⟩
                  have hnkb : nk <= 1048576 := by have := HD.out.long top (by simp); have := HNK.out; omega
                  have hb2' := hb2
                  clear hp HSC FP1 FP2 hh3 fg hck hb3 hb2
                  go_wp2_with fail
                  generalize w2.alloc (.cells #[.int .i64 k, .int .i64 n, .string t, .slice none 0 0] 24) = W3 at *
                  obtain ⟨X, Wf, hX, hS1, hS2⟩ := family (fun W => W.cell? ⟨g, 0, none⟩ = some (.slice ak nk ck) /\ W.cell? ⟨w2.heap.size, 0, none⟩ = some (.int .i64 k) /\ W.cell? ⟨w2.heap.size, 1, none⟩ = some (.int .i64 n) /\ W.cell? ⟨w2.heap.size, 2, none⟩ = some (.string t) /\ W.cell? ⟨w2.heap.size, 3, none⟩ = some (.slice none 0 0)) W3 ⟨c3, v0, v1, v2, v3⟩
                  have k0 : ∀ x, (Wf x).cell? ⟨g, 0, none⟩ = some (.slice ak nk ck) := fun x => (hS1 x).1
                  have k1 : ∀ x, (Wf x).cell? ⟨w2.heap.size, 0, none⟩ = some (.int .i64 k) := fun x => (hS1 x).2.1
                  have k2 : ∀ x, (Wf x).cell? ⟨w2.heap.size, 1, none⟩ = some (.int .i64 n) := fun x => (hS1 x).2.2.1
                  have k3 : ∀ x, (Wf x).cell? ⟨w2.heap.size, 2, none⟩ = some (.string t) := fun x => (hS1 x).2.2.2.1
                  have k4 : ∀ x, (Wf x).cell? ⟨w2.heap.size, 3, none⟩ = some (.slice none 0 0) := fun x => (hS1 x).2.2.2.2
                  have HS2 := hiq hS2
                  clear hS1 hS2
                  refine wp_region_bar (Wf := Wf) 8 [0, 1, 2, 3, 4, 5] [6, 7] (by kernel_rfl) (by kernel_rfl) (fun _ _ d _ _ h => by cases d <;> exact h) (HS2.out _ ⟨c3, v0, v1, v2, v3⟩) ?_
                  simp only [pickOps, List.filterMap_cons, List.filterMap_nil, List.getElem?_cons_zero, List.getElem?_cons_succ]
                  repeat (refine wpReads_step (fun K hK => ?_); unfold rOp; go_simp; (refine hK _ ?_; clear hK K))
                  have hb4 : Below W3.heap.size W3 (W3.drew.alloc (.cells #[.int .i64 0, .int .i64 0, .string ⟨#[]⟩, .slice none 0 0] 24)) := (Below.refl _ _).drew.alloc (Nat.le_refl _) _
                  have hz3 := hb13.size
                  rw [HZ1.out] at hz3
                  have hb14 := hb13.trans (hb4.mono hz3)
                  have o4 := o3.below hb4
                  have va4 : VAt (W3.drew.alloc (.cells #[.int .i64 0, .int .i64 0, .string ⟨#[]⟩, .slice none 0 0] 24)) W3.heap.size 0 (mkLeaf 0 0 ⟨#[]⟩) := by
                    obtain ⟨y0, y1, y2, y3, -⟩ := box_cells (World.alloc_heap_new W3.drew (.cells #[.int .i64 0, .int .i64 0, .string ⟨#[]⟩, .slice none 0 0] 24))
                    exact ⟨y0, y1, y2, y3⟩
                  have q0 := clq hb4 c3
                  have q1 := clq hb4 v0
                  have q2 := clq hb4 v1
                  have q3 := clq hb4 v2
                  have q4 := clq hb4 v3
                  have fq : (W3.drew.alloc (.cells #[.int .i64 0, .int .i64 0, .string ⟨#[]⟩, .slice none 0 0] 24)).frozen? ⟨g, 0, none⟩ = false := (hb4.frozen (p := ⟨g, 0, none⟩) (World.block_lt_of_cell? _ _ c3)).trans f3
                  have hgB4 := hb14.size
                  rw [HZ1.out] at hgB4
                  clear k0 k1 k2 k3 k4
                  refine wpReads_nil (wpActs_cons ?_)
                  go_wp2_with fail
                  refine ⟨HS2.out _ ⟨q0, q1, q2, q3, q4⟩, wpActs_cons ?_⟩
                  go_wp2_with (at_builtin; refine wpList_app1 (u := mkLeaf 0 0 ⟨#[]⟩) rfl (.tmp 31) (.tmp 34) rfl rfl rfl o4 va4 (rd_zero _ _) (by omega) hgB4 hb14 HFK.out ?_; intro a5 c5 w5 o5 b5 g5 h5)
                  have neG : some g ≠ (Value.slice ak nk ck).ownBlock := HAPK.out.symm.own ⟨g, 0, none⟩ rfl
                  have neB : some w2.heap.size ≠ (Value.slice ak nk ck).ownBlock := fun e => by have := (HOK.out.lt _ e.symm).2; omega
                  have p0 := g5.cell q0 neG
                  have p1 := g5.cell q1 neB
                  have p2 := g5.cell q2 neB
                  have p3 := g5.cell q3 neB
                  have p4 := g5.cell q4 neB
                  have fp : w5.frozen? ⟨g, 0, none⟩ = false := by
                    rw [World.frozen?_of_block (g5.block g (World.block_lt_of_cell? _ _ q0) neG)]
                    exact fq
                  refine ⟨HS2.out _ ⟨p0, p1, p2, p3, p4⟩, wpActs_nil ?_⟩
                  obtain ⟨r5, rfl, hB5, hne5, hfz5, hcl5, hO5⟩ := row_put (v := mkLeaf k n t) hO3 c3 hb4 g5 o5 h5 hlv HAPK.out HFK.out HNK.out
                  have hb15 := put4o_below b5 hB5 (nk * 4) (.int .i64 k) (.int .i64 n) (.string t) (.slice none 0 0)
                  have hfin := hlf.out k n t rs _ _ HP.out hO5 (hb15.setCell (p := ⟨g, 0, none⟩) (by omega) _)
                  have hsw5 := put4o_swap w5 hne5 (nk * 4) (0) (.int .i64 k) (.int .i64 n) (.string t) (.slice none 0 0) (.slice (some ⟨r5, 0, none⟩) (nk + 1) c5)
                  obtain ⟨u0, l0⟩ := hcl5 0 (by omega)
                  obtain ⟨u1, l1⟩ := hcl5 1 (by omega)
                  obtain ⟨u2, l2⟩ := hcl5 2 (by omega)
                  obtain ⟨u3', l3⟩ := hcl5 3 (by omega)
                  rw [Nat.add_zero] at l0
                  have HFIN := hiq hfin
                  have HSW5 := hiq hsw5
                  clear hfin hsw5 hO5 hb15 o5 o4 o3 hO3 hcl5 va4 q0 q1 q2 q3 q4 c3 v0 v1 v2 v3 fq f3
                  refine wpAny_take (i := 8) (v := .pointer (some ⟨r5, nk * 4, none⟩)) rfl (by kernel_rfl) (by kernel_rfl) (by kernel_rfl) (fun _ _ _ h => h) (Or.inl ⟨by rfl, fun W => by go_simp; intro h; omega⟩) ?_
                  refine wpAny_take (i := 10) (v := .pointer (some ⟨g, 0, none⟩)) rfl (by kernel_rfl) (by kernel_rfl) (by kernel_rfl) (fun _ _ _ h => h) (Or.inl ⟨by rfl, fun W => by go_simp⟩) ?_
                  refine wpAny_ready (rs := [9, 11]) (by kernel_rfl) (by simp) (AllReady.cons rfl (fun K hK => ?_) (AllReady.cons rfl (fun K hK => ?_) AllReady.nil))
                  · go_simp
                    refine hK _ _ ?_
                    clear hK K
                    have ho6 := put4o_other (W := w5) (b := r5) (b' := g) (o := nk * 4) (Ne.symm hne5) (.int .i64 k) (.int .i64 n) (.string t) (.slice none 0 0)
                    have p6 := (cell_past (j := (0)) ho6).trans p0
                    have f6 := (World.frozen?_of_block (a := ⟨g, 0, none⟩) ho6).trans fp
                    change wpAny _ _ _ _ _ _ _ (put4o w5 r5 (nk * 4) (.int .i64 k) (.int .i64 n) (.string t) (.slice none 0 0))
                    change Hid (DSt _ _ _ _ _ _ _ _ _ _ ((put4o w5 r5 (nk * 4) (.int .i64 k) (.int .i64 n) (.string t) (.slice none 0 0)).setCell _ _) /\ _) at HFIN
                    generalize put4o w5 r5 (nk * 4) (.int .i64 k) (.int .i64 n) (.string t) (.slice none 0 0) = w6 at *
                    refine wpAny_ready (rs := [11]) (by kernel_rfl) (by simp) (AllReady.cons rfl (fun K hK => ?_) AllReady.nil)
                    go_simp
                    refine hK _ _ ?_
                    clear hK K
                    refine wpAny_done (by kernel_rfl) ?_ _
                    go_wp2
                    go_roundw
                    case rel => exact ⟨_, _, _, _, _, _, _, rfl, rfl, HFIN.out.1⟩
                    case measure => exact HFIN.out.2
                  · go_simp
                    refine hK _ _ ?_
                    clear hK K
                    have ho6 := setCell_past (w := w5) (b := g) (b' := r5) (j := (0)) (u := .slice (some ⟨r5, 0, none⟩) (nk + 1) c5) hne5
                    have m0 := (cell_past (j := nk * 4) ho6).trans l0
                    have m1 := (cell_past (j := nk * 4 + 1) ho6).trans l1
                    have m2 := (cell_past (j := nk * 4 + 2) ho6).trans l2
                    have m3 := (cell_past (j := nk * 4 + 3) ho6).trans l3
                    have f6 := fun j => (World.frozen?_of_block (a := ⟨r5, j, none⟩) ho6).trans (hfz5 j)
                    have HSW6 := HSW5.out
                    generalize w5.setCell ⟨g, 0, none⟩ (.slice (some ⟨r5, 0, none⟩) (nk + 1) c5) = w6 at *
                    refine wpAny_ready (rs := [9]) (by kernel_rfl) (by simp) (AllReady.cons rfl (fun K hK => ?_) AllReady.nil)
                    have HS6 := hiq HSW6
                    clear HSW6
                    go_simp
                    refine hK _ _ ?_
                    clear hK K
                    refine wpAny_done (by kernel_rfl) ?_ _
                    change Exit.then _ _ _ _ (put4o w6 r5 (nk * 4) (.int .i64 k) (.int .i64 n) (.string t) (.slice none 0 0))
                    rw [HS6.out]
                    go_wp2
                    go_roundw
                    case rel => exact ⟨_, _, _, _, _, _, _, rfl, rfl, HFIN.out.1⟩
                    case measure => exact HFIN.out.2
                · have HDE : Hid (decode s.data.toList = (zeroV, 3)) := hdn.out hp
                  have hbA := HB0.out.trans (hb3.mono (by omega))
                  obtain ⟨g0, g1, g2, g3, f3⟩ := box_cells hh3
                  clear hp HSC FP1 FP2 hh3 hb2 hb3
                  go_wp2_with fail
                  rw [Exit.noGoto_ret]
                  have hb4 := put4_below hbA (Nat.le_refl _) (.int .i64 0) (.int .i64 0) (.string ⟨#[]⟩) (.slice none 0 0)
                  obtain ⟨z0, z1, z2, z3, -⟩ := box_cells (put4_at HH3.out (.int .i64 0) (.int .i64 0) (.string ⟨#[]⟩) (.slice none 0 0))
                  change bodyPost _ _ _ _ _ (put4 (w2.alloc (.cells #[.int .i64 k, .int .i64 n, .string t, .slice none 0 0] 24)) w.heap.size (.int .i64 0) (.int .i64 0) (.string ⟨#[]⟩) (.slice none 0 0))
                  generalize put4 (w2.alloc (.cells #[.int .i64 k, .int .i64 n, .string t, .slice none 0 0] 24)) w.heap.size (.int .i64 0) (.int .i64 0) (.string ⟨#[]⟩) (.slice none 0 0) = W4 at *
                  exact bodyPost_ret (v := .tuple #[(mkLeaf 0 0 ⟨#[]⟩).val, .int .i64 3]) (by simp [results, Tryz.results29, go_sem, z0, z1, z2, z3, Vl.val, Vl.cells, Vl.kind, Vl.num, Vl.text, Vl.sl, Vl.addr, Vl.items, Vl.cap]) rfl (dec_fail HDE.out hb4)
        · have hlen0 := HD.out.own.len
          have d0 : (((nj : Int) - 1) == 0) = false := by
            rw [beq_eq_false_iff_ne]
            have : ll.length ≠ 0 := fun e => h0 (List.eq_nil_of_length_eq_zero e)
            omega
          have hti : ((nj : Int) - 1).toNat = ll.length := by rw [List.length_append, List.length_singleton] at hlen0; omega
          have hge : (0 : Int) <= (nj : Int) - 1 := by rw [List.length_append, List.length_singleton] at hlen0; omega
          have hltn : (nj : Int) - 1 < (nj : Int) := by omega
          have hge1 : 1 <= nj := by omega
          have hge2 : (1 : Int) <= (nj : Int) := by omega
          have hge3 : 0 < nj := by omega
          obtain ⟨g, ak, nk, ck, rfl, hgB, hgl, hfz, hck, hok, hapk, hfk⟩ := HD.out.own.at_ (j := ll.length) (l := top) (by simp)
          have hnk := hok.1
          have HNK := hiq hnk
          have HOK := hiq hok
          have HAPK := hiq hapk
          have HFK := hiq hfk
          have HFZ := hiq hfz
          clear hnk hok hapk hfk hfz hlen0
          have hll := hiq h0
          clear h0 hlen
          generalize hL : sj.data.toList = L at *
          cases L with
          | nil =>
            have FP1 : Hid (Calls Tryz.prog 28 #[.string sj, .string ⟨#[108]⟩] wr fun e w' => e = .returned (.bool false) /\ w' = wr) := by
              have := Tryz.strings_HasPrefix sj ⟨#[108]⟩ wr
              rw [hL] at this
              exact this
            have FP2 : Hid (Calls Tryz.prog 28 #[.string sj, .string ⟨#[101]⟩] wr fun e w' => e = .returned (.bool false) /\ w' = wr) := by
              have := Tryz.strings_HasPrefix sj ⟨#[101]⟩ wr
              rw [hL] at this
              exact this
            have hleaf : Hid (∀ c0 r0, sj.data.toList = c0 :: r0 -> c0 ≠ 108 /\ (c0 = 101 -> ll = [])) := fun c0 r0 he => by
              rw [hL] at he
              cases he
            have hbwr := HD.out.below
            have hzr := hbwr.size
            rw [HZ1.out] at hzr
            have HB0 : Hid (Below w.heap.size w wr) := hb1.trans (hbwr.mono (by omega))
            have SC := scalar_any sj hsz1 wr (HE.out.below HB0.out)
            have HSC := hiq SC
            have HBWR := hiq hbwr
            have HHR : Hid (wr.heap[w.heap.size]? = _) := (hbwr.block w.heap.size (by omega)).trans hh1
            have hdn : Hid (scalP sj.data.toList = none -> decode s.data.toList = (zeroV, 3)) := fun hp => HD.out.none hA hleaf.out hp HS0.out
            have hlf : Hid (∀ (k n : Int) (t rs : ByteArray) (c' : Nat) (w' : World), scalP sj.data.toList = some (.mk k n t [], rs.data.toList) -> OwnVV S w' (w.heap.size + 1) (some ⟨g, 0, none⟩) nj c' (ll ++ [top ++ [mkLeaf k n t]]) -> Below (w.heap.size + 1) W1 w' -> DSt s W1 (w.heap.size + 1) rs (some ⟨g, 0, none⟩) nj c' S ll (top ++ [mkLeaf k n t]) w' /\ rs.size < sj.size) := fun k n t rs c' w' hp ho hb =>
              ⟨HD.out.leaf hA hleaf.out hp ho hb, by have := scalP_lt hp; rw [Array.length_toList, Array.length_toList] at this; exact this⟩
            clear hA hL SC hbwr hleaf
            go_wp2_with fail
            refine FP1.out.mono ?_
            rintro e w9 ⟨rfl, hw9⟩
            obtain rfl := hw9.symm
            go_wp2_with fail
            refine FP2.out.mono ?_
            rintro e w9 ⟨rfl, hw9⟩
            obtain rfl := hw9.symm
            go_wp2_with fail
            refine HSC.out.mono ?_
            rintro e w2 ⟨k, n, t, rs, ok, he, hk, hn, ht, hres, hb2⟩
            change e = .returned (.tuple #[.agg #[.int .i64 k, .int .i64 n, .string t, .slice none 0 0], .string rs, .bool ok]) at he
            subst he
            have hb3 : Below wr.heap.size wr (w2.alloc (.cells #[.int .i64 k, .int .i64 n, .string t, .slice none 0 0] 24)) := hb2.alloc hb2.size _
            have hz2 := hb2.size
            have hh3 : (w2.alloc (.cells #[.int .i64 k, .int .i64 n, .string t, .slice none 0 0] 24)).heap[w.heap.size]? = _ := (hb3.block w.heap.size (by omega)).trans HHR.out
            have HH3 := hiq hh3
            rcases hres with ⟨rfl, hp⟩ | ⟨rfl, hp⟩
            · have HP := hiq hp
              have hO3 := HD.out.own.below hb3
              have c3 := clq hb3 hck
              obtain ⟨v0, v1, v2, v3, -⟩ := box_cells (World.alloc_heap_new w2 (.cells #[.int .i64 k, .int .i64 n, .string t, .slice none 0 0] 24))
              have fg := HFZ.out (ll.length)
              have f3 : (w2.alloc (.cells #[.int .i64 k, .int .i64 n, .string t, .slice none 0 0] 24)).frozen? ⟨g, ll.length, none⟩ = false := (hb3.frozen (p := ⟨g, ll.length, none⟩) hgl).trans fg
              have o3 := HOK.out.below hb3
              have hb13 : Below (w.heap.size + 1) W1 (w2.alloc (.cells #[.int .i64 k, .int .i64 n, .string t, .slice none 0 0] 24)) := HBWR.out.trans (hb3.mono (by omega))
              have hlv : Rd S (w2.alloc (.cells #[.int .i64 k, .int .i64 n, .string t, .slice none 0 0] 24)) (mkLeaf k n t) := rd_iff.2 ⟨hk, hn, (by show t.size <= _; omega), Vals.nil S _⟩
              have hnkb : nk <= 1048576 := by have := HD.out.long top (by simp); have := HNK.out; omega
              have hb2' := hb2
              clear hp HSC FP1 FP2 hh3 fg hck hb3 hb2
              go_wp2_with fail
              generalize w2.alloc (.cells #[.int .i64 k, .int .i64 n, .string t, .slice none 0 0] 24) = W3 at *
              obtain ⟨X, Wf, hX, hS1, hS2⟩ := family (fun W => W.cell? ⟨g, ll.length, none⟩ = some (.slice ak nk ck) /\ W.cell? ⟨w2.heap.size, 0, none⟩ = some (.int .i64 k) /\ W.cell? ⟨w2.heap.size, 1, none⟩ = some (.int .i64 n) /\ W.cell? ⟨w2.heap.size, 2, none⟩ = some (.string t) /\ W.cell? ⟨w2.heap.size, 3, none⟩ = some (.slice none 0 0)) W3 ⟨c3, v0, v1, v2, v3⟩
              have k0 : ∀ x, (Wf x).cell? ⟨g, ll.length, none⟩ = some (.slice ak nk ck) := fun x => (hS1 x).1
              have k1 : ∀ x, (Wf x).cell? ⟨w2.heap.size, 0, none⟩ = some (.int .i64 k) := fun x => (hS1 x).2.1
              have k2 : ∀ x, (Wf x).cell? ⟨w2.heap.size, 1, none⟩ = some (.int .i64 n) := fun x => (hS1 x).2.2.1
              have k3 : ∀ x, (Wf x).cell? ⟨w2.heap.size, 2, none⟩ = some (.string t) := fun x => (hS1 x).2.2.2.1
              have k4 : ∀ x, (Wf x).cell? ⟨w2.heap.size, 3, none⟩ = some (.slice none 0 0) := fun x => (hS1 x).2.2.2.2
              have HS2 := hiq hS2
              clear hS1 hS2
              refine wp_region_bar (Wf := Wf) 8 [0, 1, 2, 3, 4, 5] [6, 7] (by kernel_rfl) (by kernel_rfl) (fun _ _ d _ _ h => by cases d <;> exact h) (HS2.out _ ⟨c3, v0, v1, v2, v3⟩) ?_
              simp only [pickOps, List.filterMap_cons, List.filterMap_nil, List.getElem?_cons_zero, List.getElem?_cons_succ]
              repeat (refine wpReads_step (fun K hK => ?_); unfold rOp; go_simp; (refine hK _ ?_; clear hK K))
              have hb4 : Below W3.heap.size W3 (W3.drew.alloc (.cells #[.int .i64 0, .int .i64 0, .string ⟨#[]⟩, .slice none 0 0] 24)) := (Below.refl _ _).drew.alloc (Nat.le_refl _) _
              have hz3 := hb13.size
              rw [HZ1.out] at hz3
              have hb14 := hb13.trans (hb4.mono hz3)
              have o4 := o3.below hb4
              have va4 : VAt (W3.drew.alloc (.cells #[.int .i64 0, .int .i64 0, .string ⟨#[]⟩, .slice none 0 0] 24)) W3.heap.size 0 (mkLeaf 0 0 ⟨#[]⟩) := by
                obtain ⟨y0, y1, y2, y3, -⟩ := box_cells (World.alloc_heap_new W3.drew (.cells #[.int .i64 0, .int .i64 0, .string ⟨#[]⟩, .slice none 0 0] 24))
                exact ⟨y0, y1, y2, y3⟩
              have q0 := clq hb4 c3
              have q1 := clq hb4 v0
              have q2 := clq hb4 v1
              have q3 := clq hb4 v2
              have q4 := clq hb4 v3
              have fq : (W3.drew.alloc (.cells #[.int .i64 0, .int .i64 0, .string ⟨#[]⟩, .slice none 0 0] 24)).frozen? ⟨g, ll.length, none⟩ = false := (hb4.frozen (p := ⟨g, ll.length, none⟩) (World.block_lt_of_cell? _ _ c3)).trans f3
              have hgB4 := hb14.size
              rw [HZ1.out] at hgB4
              clear k0 k1 k2 k3 k4
              refine wpReads_nil (wpActs_cons ?_)
              go_wp2_with fail
              refine ⟨HS2.out _ ⟨q0, q1, q2, q3, q4⟩, wpActs_cons ?_⟩
              go_wp2_with (at_builtin; refine wpList_app1 (u := mkLeaf 0 0 ⟨#[]⟩) rfl (.tmp 31) (.tmp 34) rfl rfl rfl o4 va4 (rd_zero _ _) (by omega) hgB4 hb14 HFK.out ?_; intro a5 c5 w5 o5 b5 g5 h5)
              have neG : some g ≠ (Value.slice ak nk ck).ownBlock := HAPK.out.symm.own ⟨g, 0, none⟩ rfl
              have neB : some w2.heap.size ≠ (Value.slice ak nk ck).ownBlock := fun e => by have := (HOK.out.lt _ e.symm).2; omega
              have p0 := g5.cell q0 neG
              have p1 := g5.cell q1 neB
              have p2 := g5.cell q2 neB
              have p3 := g5.cell q3 neB
              have p4 := g5.cell q4 neB
              have fp : w5.frozen? ⟨g, ll.length, none⟩ = false := by
                rw [World.frozen?_of_block (g5.block g (World.block_lt_of_cell? _ _ q0) neG)]
                exact fq
              refine ⟨HS2.out _ ⟨p0, p1, p2, p3, p4⟩, wpActs_nil ?_⟩
              obtain ⟨r5, rfl, hB5, hne5, hfz5, hcl5, hO5⟩ := row_put (v := mkLeaf k n t) hO3 c3 hb4 g5 o5 h5 hlv HAPK.out HFK.out HNK.out
              have hb15 := put4o_below b5 hB5 (nk * 4) (.int .i64 k) (.int .i64 n) (.string t) (.slice none 0 0)
              have hfin := hlf.out k n t rs _ _ HP.out hO5 (hb15.setCell (p := ⟨g, ll.length, none⟩) (by omega) _)
              have hsw5 := put4o_swap w5 hne5 (nk * 4) (ll.length) (.int .i64 k) (.int .i64 n) (.string t) (.slice none 0 0) (.slice (some ⟨r5, 0, none⟩) (nk + 1) c5)
              obtain ⟨u0, l0⟩ := hcl5 0 (by omega)
              obtain ⟨u1, l1⟩ := hcl5 1 (by omega)
              obtain ⟨u2, l2⟩ := hcl5 2 (by omega)
              obtain ⟨u3', l3⟩ := hcl5 3 (by omega)
              rw [Nat.add_zero] at l0
              have HFIN := hiq hfin
              have HSW5 := hiq hsw5
              clear hfin hsw5 hO5 hb15 o5 o4 o3 hO3 hcl5 va4 q0 q1 q2 q3 q4 c3 v0 v1 v2 v3 fq f3
              refine wpAny_take (i := 8) (v := .pointer (some ⟨r5, nk * 4, none⟩)) rfl (by kernel_rfl) (by kernel_rfl) (by kernel_rfl) (fun _ _ _ h => h) (Or.inl ⟨by rfl, fun W => by go_simp; intro h; omega⟩) ?_
              refine wpAny_take (i := 10) (v := .pointer (some ⟨g, ll.length, none⟩)) rfl (by kernel_rfl) (by kernel_rfl) (by kernel_rfl) (fun _ _ _ h => h) (Or.inl ⟨by rfl, fun W => by go_simp⟩) ?_
              refine wpAny_ready (rs := [9, 11]) (by kernel_rfl) (by simp) (AllReady.cons rfl (fun K hK => ?_) (AllReady.cons rfl (fun K hK => ?_) AllReady.nil))
              · go_simp
                refine hK _ _ ?_
                clear hK K
                have ho6 := put4o_other (W := w5) (b := r5) (b' := g) (o := nk * 4) (Ne.symm hne5) (.int .i64 k) (.int .i64 n) (.string t) (.slice none 0 0)
                have p6 := (cell_past (j := (ll.length)) ho6).trans p0
                have f6 := (World.frozen?_of_block (a := ⟨g, ll.length, none⟩) ho6).trans fp
                change wpAny _ _ _ _ _ _ _ (put4o w5 r5 (nk * 4) (.int .i64 k) (.int .i64 n) (.string t) (.slice none 0 0))
                change Hid (DSt _ _ _ _ _ _ _ _ _ _ ((put4o w5 r5 (nk * 4) (.int .i64 k) (.int .i64 n) (.string t) (.slice none 0 0)).setCell _ _) /\ _) at HFIN
                generalize put4o w5 r5 (nk * 4) (.int .i64 k) (.int .i64 n) (.string t) (.slice none 0 0) = w6 at *
                refine wpAny_ready (rs := [11]) (by kernel_rfl) (by simp) (AllReady.cons rfl (fun K hK => ?_) AllReady.nil)
                go_simp
                refine hK _ _ ?_
                clear hK K
                refine wpAny_done (by kernel_rfl) ?_ _
                go_wp2
                go_roundw
                case rel => exact ⟨_, _, _, _, _, _, _, rfl, rfl, HFIN.out.1⟩
                case measure => exact HFIN.out.2
              · go_simp
                refine hK _ _ ?_
                clear hK K
                have ho6 := setCell_past (w := w5) (b := g) (b' := r5) (j := (ll.length)) (u := .slice (some ⟨r5, 0, none⟩) (nk + 1) c5) hne5
                have m0 := (cell_past (j := nk * 4) ho6).trans l0
                have m1 := (cell_past (j := nk * 4 + 1) ho6).trans l1
                have m2 := (cell_past (j := nk * 4 + 2) ho6).trans l2
                have m3 := (cell_past (j := nk * 4 + 3) ho6).trans l3
                have f6 := fun j => (World.frozen?_of_block (a := ⟨r5, j, none⟩) ho6).trans (hfz5 j)
                have HSW6 := HSW5.out
                generalize w5.setCell ⟨g, ll.length, none⟩ (.slice (some ⟨r5, 0, none⟩) (nk + 1) c5) = w6 at *
                refine wpAny_ready (rs := [9]) (by kernel_rfl) (by simp) (AllReady.cons rfl (fun K hK => ?_) AllReady.nil)
                have HS6 := hiq HSW6
                clear HSW6
                go_simp
                refine hK _ _ ?_
                clear hK K
                refine wpAny_done (by kernel_rfl) ?_ _
                change Exit.then _ _ _ _ (put4o w6 r5 (nk * 4) (.int .i64 k) (.int .i64 n) (.string t) (.slice none 0 0))
                rw [HS6.out]
                go_wp2
                go_roundw
                case rel => exact ⟨_, _, _, _, _, _, _, rfl, rfl, HFIN.out.1⟩
                case measure => exact HFIN.out.2
            · have HDE : Hid (decode s.data.toList = (zeroV, 3)) := hdn.out hp
              have hbA := HB0.out.trans (hb3.mono (by omega))
              obtain ⟨g0, g1, g2, g3, f3⟩ := box_cells hh3
              clear hp HSC FP1 FP2 hh3 hb2 hb3
              go_wp2_with fail
              rw [Exit.noGoto_ret]
              have hb4 := put4_below hbA (Nat.le_refl _) (.int .i64 0) (.int .i64 0) (.string ⟨#[]⟩) (.slice none 0 0)
              obtain ⟨z0, z1, z2, z3, -⟩ := box_cells (put4_at HH3.out (.int .i64 0) (.int .i64 0) (.string ⟨#[]⟩) (.slice none 0 0))
              change bodyPost _ _ _ _ _ (put4 (w2.alloc (.cells #[.int .i64 k, .int .i64 n, .string t, .slice none 0 0] 24)) w.heap.size (.int .i64 0) (.int .i64 0) (.string ⟨#[]⟩) (.slice none 0 0))
              generalize put4 (w2.alloc (.cells #[.int .i64 k, .int .i64 n, .string t, .slice none 0 0] 24)) w.heap.size (.int .i64 0) (.int .i64 0) (.string ⟨#[]⟩) (.slice none 0 0) = W4 at *
              exact bodyPost_ret (v := .tuple #[(mkLeaf 0 0 ⟨#[]⟩).val, .int .i64 3]) (by simp [results, Tryz.results29, go_sem, z0, z1, z2, z3, Vl.val, Vl.cells, Vl.kind, Vl.num, Vl.text, Vl.sl, Vl.addr, Vl.items, Vl.cap]) rfl (dec_fail HDE.out hb4)

          | cons ch rest =>
            by_cases h108 : ch = 108
            · subst h108
              have FP : Hid (Calls Tryz.prog 28 #[.string sj, .string ⟨#[108]⟩] wr fun e w' => e = .returned (.bool true) /\ w' = wr) := by
                have := Tryz.strings_HasPrefix sj ⟨#[108]⟩ wr
                rw [hL] at this
                exact this
              have hsz := len_list hL
              rw [List.length_cons] at hsz
              have hx1 : (sj.extract 1 sj.size).data.toList = rest := by rw [ext_list, hL, List.take_of_length_le (by simp; omega)]; rfl
              have hnew : Hid (∀ (a' : Option Addr) (c' : Nat) (w' : World), OwnVV S w' (w.heap.size + 1) a' (nj + 1) c' ((ll ++ [top]) ++ [[]]) -> Below (w.heap.size + 1) W1 w' -> DSt s W1 (w.heap.size + 1) (sj.extract 1 sj.size) a' (nj + 1) c' S (ll ++ [top]) [] w') := fun a' c' w' o b => HD.out.push hA hL hx1 o b
              have hmes : Hid ((sj.extract 1 sj.size).size < sj.size) := by show _ < _; rw [len_list hx1]; omega
              have hown := HD.out.own
              have hbwr := HD.out.below
              have hnb : nj <= 1048577 := by have := HS0.out; have := HD.out.deep; have h9 := hown.len; rw [List.length_append, List.length_singleton] at h9; omega
              have hzr := hbwr.size
              rw [HZ1.out] at hzr
              have b5 : Below (w.heap.size + 1) W1 (wr.drew.alloc (.cells #[.slice none 0 0] 22)) := hbwr.drew.alloc (by show _ <= wr.heap.size; omega) _
              have o5 : OwnVV S (wr.drew.alloc (.cells #[.slice none 0 0] 22)) (w.heap.size + 1) _ nj cj (ll ++ [top]) := (hown.below (Below.refl _ _).drew).below ((Below.refl _ _).alloc (Nat.le_refl _) _)
              have c5 : (wr.drew.alloc (.cells #[.slice none 0 0] 22)).cell? ⟨wr.heap.size, 0, none⟩ = some (.slice none 0 0) := cell_lit1 _ _ _ rfl
              have z5 := b5.size
              rw [HZ1.out] at z5
              obtain ⟨X, Wf, hX, -, hS2⟩ := family (fun _ => True) wr trivial
              have HS2 := hiq hS2
              have h1s : (1 : Int) <= (sj.size : Int) := by omega
              have h1n : 1 <= sj.size := by omega
              clear hA hx1 hL hS2 hown hbwr hsz
              go_wp2_with fail
              refine FP.out.mono ?_
              rintro e w9 ⟨rfl, hw9⟩
              subst hw9
              go_wp2_with fail
              refine wp_region_reads (Wf := Wf) 6 [0, 3, 4] [1, 2, 5] (by kernel_rfl) (by kernel_rfl) (fun _ _ d _ _ h => by cases d <;> exact h) (HS2.out _ trivial) ?_
              simp only [pickOps, List.filterMap_cons, List.filterMap_nil, List.getElem?_cons_zero, List.getElem?_cons_succ]
              repeat (refine wpReads_step (fun K hK => ?_); unfold rOp; go_simp; (refine hK _ ?_; clear hK K))
              refine wpReads_nil (wpActs_cons ?_)
              go_wp2_with fail
              refine ⟨HS2.out _ trivial, wpActs_cons ?_⟩
              go_wp2_with (at_builtin; refine wpList_push rfl (.tmp 52) (.tmp 53) rfl rfl rfl o5 c5 (by omega) z5 b5 ?_; intro a6 c6 w6 o6 b6 g6)
              refine ⟨HS2.out _ trivial, wpActs_cons ?_⟩
              go_wp2_with fail
              refine ⟨HS2.out _ trivial, wpActs_nil ?_⟩
              go_wp2_with fail
              go_roundw
              case rel => exact ⟨_, _, _, _, _, _, _, rfl, rfl, hnew.out _ _ _ o6 b6⟩
              case measure => exact hmes.out
            · by_cases h101 : ch = 101
              · subst h101
                obtain ⟨ll', b, rfl⟩ : ∃ ll' b, ll = ll' ++ [b] := by
                  rcases List.eq_nil_or_concat ll with e | ⟨l1, b1, e⟩
                  · exact absurd e hll.out
                  · exact ⟨l1, b1, by rw [e, List.concat_eq_append]⟩
                have FP1 : Hid (Calls Tryz.prog 28 #[.string sj, .string ⟨#[108]⟩] wr fun e w' => e = .returned (.bool false) /\ w' = wr) := by
                  have := Tryz.strings_HasPrefix sj ⟨#[108]⟩ wr
                  rw [hL] at this
                  exact this
                have FP2 : Hid (Calls Tryz.prog 28 #[.string sj, .string ⟨#[101]⟩] wr fun e w' => e = .returned (.bool true) /\ w' = wr) := by
                  have := Tryz.strings_HasPrefix sj ⟨#[101]⟩ wr
                  rw [hL] at this
                  exact this
                have hsz := len_list hL
                rw [List.length_cons] at hsz
                have hx1 : (sj.extract 1 sj.size).data.toList = rest := by rw [ext_list, hL, List.take_of_length_le (by simp; omega)]; rfl
                have hmes : Hid ((sj.extract 1 sj.size).size < sj.size) := by show _ < _; rw [len_list hx1]; omega
                have h1s : (1 : Int) <= (sj.size : Int) := by omega
                have h1n : 1 <= sj.size := by omega
                rw [List.length_append, List.length_singleton] at hti hck
                obtain ⟨m, hm⟩ : ∃ m : Nat, m = ll'.length := ⟨_, rfl⟩
                rw [<- hm] at hti hck
                have hcapI : (nj : Int) - 1 <= (cj : Int) := by have := HD.out.own.cap_le; omega
                have hcapN : nj <= cj := HD.out.own.cap_le
                have hnm : Hid (nj = m + 1 + 1) := by show _ = _; omega
                have hgt : (0 : Int) < (nj : Int) - 1 := by omega
                have hgt1 : (1 : Int) < (nj : Int) := by omega
                have hgt2 : 1 < nj := by omega
                have hbwr := HD.out.below
                have hzr := hbwr.size
                rw [HZ1.out] at hzr
                have hnkb : nk <= 1048576 := by have := HD.out.long top (by simp); have := HNK.out; omega
                have hvals := HOK.out.vals (S' := fun x => S x \/ (Value.slice ak nk ck).ownBlock = some x) (by omega) (fun _ h => .inl h) (fun x hx => .inr (ownBlock_some hx))
                have hak0 : ak = none -> nk = 0 /\ ck = 0 := fun e => by
                  rcases HOK.out.2.1.2 with ⟨hv, h0⟩ | ⟨g9, cap9, cur9, hv, _⟩
                  · cases hv; exact ⟨rfl, rfl⟩
                  · cases hv; cases e
                have FL := list_any _ ak nk ck top wr hvals hak0
                have HFL : Hid (Calls Tryz.prog 50 #[.slice ak nk ck] wr fun e w' => ∃ (a' : Option Addr) (c' : Nat), e = .returned (.agg #[.int .i64 3, .int .i64 0, .string ⟨#[]⟩, .slice a' top.length c']) /\ OwnV (fun x => S x \/ (Value.slice ak nk ck).ownBlock = some x) w' wr.heap.size a' nk c' top /\ Below wr.heap.size wr w') := FL
                have HBWR := hiq hbwr
                have HX1 := hiq hx1
                have HLL := hiq hL
                have hmm := hiq hm
                clear hA hL hbwr hsz hx1 hvals hak0 FL hm
                go_wp2_with fail
                refine FP1.out.mono ?_
                rintro e w9 ⟨rfl, hw9⟩
                obtain rfl := hw9.symm
                go_wp2_with fail
                refine FP2.out.mono ?_
                rintro e w9 ⟨rfl, hw9⟩
                obtain rfl := hw9.symm
                go_wp2_with fail
                refine HFL.out.mono ?_
                rintro e w2 ⟨al, cl, rfl, o2, b2⟩
                have o2S : OwnV S w2 wr.heap.size al nk cl top := ⟨o2.1, o2.2.1, fun u hu => (HOK.out.2.2 u hu).below b2⟩
                have hv2 := o2S.vals (S' := fun x => S x \/ (Value.slice al nk cl).ownBlock = some x) (by omega) (fun _ h => .inl h) (fun x hx => .inr (ownBlock_some hx))
                rw [HNK.out] at hv2
                have hz2 := b2.size
                have b3 : Below wr.heap.size wr (w2.alloc (.cells #[.int .i64 3, .int .i64 0, .string ⟨#[]⟩, .slice al top.length cl] 24)) := b2.alloc b2.size _
                have bx3 : Below w2.heap.size w2 (w2.alloc (.cells #[.int .i64 3, .int .i64 0, .string ⟨#[]⟩, .slice al top.length cl] 24)) := (Below.refl _ _).alloc (Nat.le_refl _) _
                have hr3 : Rd (fun x => S x \/ (Value.slice al nk cl).ownBlock = some x) (w2.alloc (.cells #[.int .i64 3, .int .i64 0, .string ⟨#[]⟩, .slice al top.length cl] 24)) (mkList al cl top) := ((rd_list hv2).below bx3).mono (fun x hx _ => by cases al <;> exact hx)
                have hlb := o2S.lt
                have hO3 := (HD.out.own.pop (m := m + 1) rfl hnm.out).more (S' := fun x => S x \/ (Value.slice al nk cl).ownBlock = some x) (w' := w2.alloc (.cells #[.int .i64 3, .int .i64 0, .string ⟨#[]⟩, .slice al top.length cl] 24)) (fun _ h => .inl h) (fun x hx => by
                  rcases hx with h | h
                  · exact .inl h
                  · have := hlb x h; have := bx3.size; exact .inr ⟨by omega, by omega⟩) b3
                have hlow2 : Hid (∀ x, (S x \/ (Value.slice al nk cl).ownBlock = some x) -> w.heap.size + 1 <= x) := fun x hx => by
                  rcases hx with h | h
                  · exact HD.out.low x h
                  · have := hlb x h; omega
                have hfin : Hid (∀ (c' : Nat) (w' : World), OwnVV (fun x => S x \/ (Value.slice al nk cl).ownBlock = some x) w' (w.heap.size + 1) (some ⟨g, 0, none⟩) (m + 1) c' (ll' ++ [b ++ [mkList al cl top]]) -> Below (w.heap.size + 1) W1 w' -> DSt s W1 (w.heap.size + 1) (sj.extract 1 sj.size) (some ⟨g, 0, none⟩) (m + 1) c' (fun x => S x \/ (Value.slice al nk cl).ownBlock = some x) ll' (b ++ [mkList al cl top]) w') := fun c' w' ho hb => by
                  have hD := HD.out
                  rw [hnm.out] at hD
                  exact hD.list HLL.out HX1.out ho hlow2.out hb
                have hb13 : Below (w.heap.size + 1) W1 (w2.alloc (.cells #[.int .i64 3, .int .i64 0, .string ⟨#[]⟩, .slice al top.length cl] 24)) := HBWR.out.trans (b3.mono (by omega))
                obtain ⟨v0, v1, v2, v3, -⟩ := box_cells (World.alloc_heap_new w2 (.cells #[.int .i64 3, .int .i64 0, .string ⟨#[]⟩, .slice al top.length cl] 24))
                obtain ⟨g', ab, nb, cb, hgg, -, hgl3, hfz3, hc3, hok3, hap3, hfk3⟩ := hO3.at_ (j := m) (l := b) (by rw [show m = ll'.length from hmm.out]; simp)
                cases hgg
                have hab : Hid (∀ q, (Value.slice ab nb cb).ownBlock = some q -> q < wr.heap.size) := by
                  obtain ⟨g9, a9, n9, c9, e9, -, hl9, -, hc9, hok9, -, -⟩ := HD.out.own.at_ (j := m) (l := b) (by rw [show m = ll'.length from hmm.out]; simp)
                  cases e9
                  have h9 := clq b3 hc9
                  rw [hc3] at h9
                  cases h9
                  exact fun q hq => (hok9.lt q hq).2
                have HO3 := hiq hO3
                have HOK3 := hiq hok3
                have HAP3 := hiq hap3
                have HFK3 := hiq hfk3
                have HFZ3 := hiq hfz3
                have HR3 := hiq hr3
                have HNB := hiq hok3.1
                have hlw2 := World.block_lt_of_cell? _ _ v0
                have hnb2 : w2.heap.size ≠ (g : Nat) := by have := b2.size; omega
                clear hfz3 hok3 hap3 hfk3 hO3 hr3 hlb hv2 o2S o2 hck b3 bx3
                go_wp2_with fail
                go_quiet (fail)
                have bq : Below (w2.alloc (.cells #[.int .i64 3, .int .i64 0, .string ⟨#[]⟩, .slice al top.length cl] 24)).heap.size (w2.alloc (.cells #[.int .i64 3, .int .i64 0, .string ⟨#[]⟩, .slice al top.length cl] 24)) ((w2.alloc (.cells #[.int .i64 3, .int .i64 0, .string ⟨#[]⟩, .slice al top.length cl] 24)).drewN nq) := below_drewN (Below.refl _ _) nq
                have hO4 := HO3.out.below bq
                have hzq := bq.size
                have hb14 := hb13.trans (bq.mono (Nat.le_trans (by omega) (show w2.heap.size <= (w2.alloc (.cells #[.int .i64 3, .int .i64 0, .string ⟨#[]⟩, .slice al top.length cl] 24)).heap.size from ((Below.refl _ _).alloc (Nat.le_refl _) _).size)))
                have q0 := clq bq v0
                have q1 := clq bq v1
                have q2 := clq bq v2
                have q3 := clq bq v3
                have qc := clq bq hc3
                have qf : ∀ j, ((w2.alloc (.cells #[.int .i64 3, .int .i64 0, .string ⟨#[]⟩, .slice al top.length cl] 24)).drewN nq).frozen? ⟨g, j, none⟩ = false := fun j => (bq.frozen (p := ⟨g, j, none⟩) hgl3).trans (HFZ3.out j)
                have ok4 := HOK3.out.below bq
                have hr4 := HR3.out.below bq
                clear HO3 HOK3 HR3 HFZ3 hgl3 v0 v1 v2 v3 hc3 hb13 bq
                generalize (w2.alloc (.cells #[.int .i64 3, .int .i64 0, .string ⟨#[]⟩, .slice al top.length cl] 24)).drewN nq = W3 at *
                have HO4 := hiq hO4
                have HOK4 := hiq ok4
                have HR4 := hiq hr4
                have HQF := hiq qf
                clear hO4 ok4 hr4 qf hzq
                go_wp2_with fail
                go_region
                · rename_i K hK
                  refine hK _ _ ?_
                  clear hK K
                  have hmb : m <= 1048576 := by have h9 := HD.out.deep; have := HS0.out; rw [List.length_append, List.length_singleton, <- hmm.out] at h9; omega
                  have hs2 : IntKind.i64.wrap ((nj : Int) - 1 - 1) = (m : Int) := by rw [IntWalk.i64_in _ (by have := hnm.out; omega)]; have := hnm.out; omega
                  have hm0 : (0 : Int) <= (m : Int) := by omega
                  have hm1 : (m : Int) < ((m + 1 : Nat) : Int) := by omega
                  have hm2 : m < m + 1 := by omega
                  have hm3 : (m : Int) < (m : Int) + 1 := by omega
                  have bq : Below W3.heap.size W3 (W3.alloc (.cells #[.bool false] 4)).drew := ((Below.refl _ _).alloc (Nat.le_refl _) _).drew
                  have hO5 := HO4.out.below bq
                  have hzq := bq.size
                  have hb15 := hb14.trans (bq.mono (by have := hb14.size; have := HZ1.out; omega))
                  have c0 := clq bq q0
                  have c1 := clq bq q1
                  have c2 := clq bq q2
                  have c3 := clq bq q3
                  have cc := clq bq qc
                  have fc : (W3.alloc (.cells #[.bool false] 4)).drew.frozen? ⟨g, m, none⟩ = false := (bq.frozen (p := ⟨g, m, none⟩) (World.block_lt_of_cell? _ _ qc)).trans (HQF.out m)
                  have ok5 := HOK4.out.below bq
                  have hr5 := HR4.out.below bq
                  clear HO4 HOK4 HR4 HQF q0 q1 q2 q3 qc bq hzq hb14
                  generalize (W3.alloc (.cells #[.bool false] 4)).drew = W4 at *

                  have HO5 := hiq hO5
                  have HOK5 := hiq ok5
                  have HR5 := hiq hr5
                  clear hO5 ok5 hr5
                  go_wp2_with fail
                  obtain ⟨X, Wf, hX, hS1, hS2⟩ := family (fun W => W.cell? ⟨g, m, none⟩ = some (.slice ab nb cb) /\ W.cell? ⟨w2.heap.size, 0, none⟩ = some (.int .i64 3) /\ W.cell? ⟨w2.heap.size, 1, none⟩ = some (.int .i64 0) /\ W.cell? ⟨w2.heap.size, 2, none⟩ = some (.string ⟨#[]⟩) /\ W.cell? ⟨w2.heap.size, 3, none⟩ = some (.slice al top.length cl)) W4.drew ⟨cc, c0, c1, c2, c3⟩
                  have k0 : ∀ x, (Wf x).cell? ⟨g, m, none⟩ = some (.slice ab nb cb) := fun x => (hS1 x).1
                  have k1 : ∀ x, (Wf x).cell? ⟨w2.heap.size, 0, none⟩ = some (.int .i64 3) := fun x => (hS1 x).2.1
                  have k2 : ∀ x, (Wf x).cell? ⟨w2.heap.size, 1, none⟩ = some (.int .i64 0) := fun x => (hS1 x).2.2.1
                  have k3 : ∀ x, (Wf x).cell? ⟨w2.heap.size, 2, none⟩ = some (.string ⟨#[]⟩) := fun x => (hS1 x).2.2.2.1
                  have k4 : ∀ x, (Wf x).cell? ⟨w2.heap.size, 3, none⟩ = some (.slice al top.length cl) := fun x => (hS1 x).2.2.2.2
                  have HS2 := hiq hS2
                  clear hS1 hS2
                  refine wp_region_reads (Wf := Wf) 11 [0, 1, 2, 3, 4, 5, 6, 7, 8] [9, 10] (by kernel_rfl) (by kernel_rfl) (fun _ _ d _ _ h => by cases d <;> exact h) (HS2.out _ ⟨cc, c0, c1, c2, c3⟩) ?_
                  simp only [pickOps, List.filterMap_cons, List.filterMap_nil, List.getElem?_cons_zero, List.getElem?_cons_succ]
                  repeat (refine wpReads_step (fun K hK => ?_); unfold rOp; go_simp; (refine hK _ ?_; clear hK K))
                  have hb4 : Below W4.heap.size W4 (W4.drew.alloc (.cells #[.int .i64 3, .int .i64 0, .string ⟨#[]⟩, .slice al top.length cl] 24)) := (Below.refl _ _).drew.alloc (Nat.le_refl _) _
                  have hz4 := hb15.size
                  rw [HZ1.out] at hz4
                  have hb16 := hb15.trans (hb4.mono hz4)
                  have o6 := HOK5.out.below hb4
                  have va6 : VAt (W4.drew.alloc (.cells #[.int .i64 3, .int .i64 0, .string ⟨#[]⟩, .slice al top.length cl] 24)) W4.heap.size 0 (mkList al cl top) := by
                    obtain ⟨y0, y1, y2, y3, -⟩ := box_cells (World.alloc_heap_new W4.drew (.cells #[.int .i64 3, .int .i64 0, .string ⟨#[]⟩, .slice al top.length cl] 24))
                    exact ⟨y0, y1, y2, y3⟩
                  have rd6 : Rd (fun x => S x \/ (Value.slice al nk cl).ownBlock = some x) (W4.drew.alloc (.cells #[.int .i64 3, .int .i64 0, .string ⟨#[]⟩, .slice al top.length cl] 24)) (mkList al cl top) := HR5.out.below hb4
                  have q0 := clq hb4 cc
                  have q1 := clq hb4 c0
                  have q2 := clq hb4 c1
                  have q3 := clq hb4 c2
                  have q4 := clq hb4 c3
                  have fq : (W4.drew.alloc (.cells #[.int .i64 3, .int .i64 0, .string ⟨#[]⟩, .slice al top.length cl] 24)).frozen? ⟨g, m, none⟩ = false := (hb4.frozen (p := ⟨g, m, none⟩) (World.block_lt_of_cell? _ _ cc)).trans fc
                  have hgB4 := hb16.size
                  rw [HZ1.out] at hgB4
                  have hnbb : nb <= 1048576 := by have := HD.out.long b (by simp); have := HNB.out; omega
                  clear k0 k1 k2 k3 k4
                  refine wpReads_nil (wpActs_cons ?_)
                  go_wp2_with fail
                  refine ⟨HS2.out _ ⟨q0, q1, q2, q3, q4⟩, wpActs_cons ?_⟩
                  go_wp2_with (at_builtin; refine wpList_app1 (u := mkList al cl top) rfl (.tmp 97) (.tmp 99) rfl rfl rfl o6 va6 rd6 (by omega) hgB4 hb16 HFK3.out ?_; intro a5 c5 w5 o5 b5 g5 h5)
                  have neG : some g ≠ (Value.slice ab nb cb).ownBlock := HAP3.out.symm.own ⟨g, 0, none⟩ rfl
                  have neB : some w2.heap.size ≠ (Value.slice ab nb cb).ownBlock := fun e => by have := hab.out _ e.symm; omega
                  have p0 := g5.cell q0 neG
                  have p1 := g5.cell q1 neB
                  have p2 := g5.cell q2 neB
                  have p3 := g5.cell q3 neB
                  have p4 := g5.cell q4 neB
                  have fp : w5.frozen? ⟨g, m, none⟩ = false := by
                    rw [World.frozen?_of_block (g5.block g (World.block_lt_of_cell? _ _ q0) neG)]
                    exact fq
                  refine ⟨HS2.out _ ⟨p0, p1, p2, p3, p4⟩, wpActs_nil ?_⟩
                  have hO6 := row_app (ll := ll') (top := b) HO5.out (by rw [<- hmm.out]; exact cc) hb4 g5 o5 h5
                  rw [<- hmm.out] at hO6
                  have hfi := hfin.out _ _ hO6 (b5.setCell (p := ⟨g, m, none⟩) (by omega) _)
                  have HFIN := hiq hfi
                  clear hfi hO6 o5 o6 va6 rd6 q0 q1 q2 q3 q4 c0 c1 c2 c3 cc fq fc
                  go_wp2_with fail
                  go_roundw
                  case rel => exact ⟨_, _, _, _, _, _, _, rfl, rfl, HFIN.out⟩
                  case measure => exact hmes.out
                · rename_i K hK
                  refine hK _ _ ?_
                  clear hK K
                  have hmb : m <= 1048576 := by have h9 := HD.out.deep; have := HS0.out; rw [List.length_append, List.length_singleton, <- hmm.out] at h9; omega
                  have hs2 : IntKind.i64.wrap ((nj : Int) - 1 - 1) = (m : Int) := by rw [IntWalk.i64_in _ (by have := hnm.out; omega)]; have := hnm.out; omega
                  have hm0 : (0 : Int) <= (m : Int) := by omega
                  have hm1 : (m : Int) < ((m + 1 : Nat) : Int) := by omega
                  have hm2 : m < m + 1 := by omega
                  have hm3 : (m : Int) < (m : Int) + 1 := by omega
                  have bq : Below W3.heap.size W3 (W3.alloc (.cells #[.bool true] 4)).drew := ((Below.refl _ _).alloc (Nat.le_refl _) _).drew
                  have hO5 := HO4.out.below bq
                  have hzq := bq.size
                  have hb15 := hb14.trans (bq.mono (by have := hb14.size; have := HZ1.out; omega))
                  have c0 := clq bq q0
                  have c1 := clq bq q1
                  have c2 := clq bq q2
                  have c3 := clq bq q3
                  have cc := clq bq qc
                  have fc : (W3.alloc (.cells #[.bool true] 4)).drew.frozen? ⟨g, m, none⟩ = false := (bq.frozen (p := ⟨g, m, none⟩) (World.block_lt_of_cell? _ _ qc)).trans (HQF.out m)
                  have ok5 := HOK4.out.below bq
                  have hr5 := HR4.out.below bq
                  clear HO4 HOK4 HR4 HQF q0 q1 q2 q3 qc bq hzq hb14
                  generalize (W3.alloc (.cells #[.bool true] 4)).drew = W4 at *

                  have HO5 := hiq hO5
                  have HOK5 := hiq ok5
                  have HR5 := hiq hr5
                  clear hO5 ok5 hr5
                  go_wp2_with fail
                  obtain ⟨X, Wf, hX, hS1, hS2⟩ := family (fun W => W.cell? ⟨g, m, none⟩ = some (.slice ab nb cb) /\ W.cell? ⟨w2.heap.size, 0, none⟩ = some (.int .i64 3) /\ W.cell? ⟨w2.heap.size, 1, none⟩ = some (.int .i64 0) /\ W.cell? ⟨w2.heap.size, 2, none⟩ = some (.string ⟨#[]⟩) /\ W.cell? ⟨w2.heap.size, 3, none⟩ = some (.slice al top.length cl)) W4.drew ⟨cc, c0, c1, c2, c3⟩
                  have k0 : ∀ x, (Wf x).cell? ⟨g, m, none⟩ = some (.slice ab nb cb) := fun x => (hS1 x).1
                  have k1 : ∀ x, (Wf x).cell? ⟨w2.heap.size, 0, none⟩ = some (.int .i64 3) := fun x => (hS1 x).2.1
                  have k2 : ∀ x, (Wf x).cell? ⟨w2.heap.size, 1, none⟩ = some (.int .i64 0) := fun x => (hS1 x).2.2.1
                  have k3 : ∀ x, (Wf x).cell? ⟨w2.heap.size, 2, none⟩ = some (.string ⟨#[]⟩) := fun x => (hS1 x).2.2.2.1
                  have k4 : ∀ x, (Wf x).cell? ⟨w2.heap.size, 3, none⟩ = some (.slice al top.length cl) := fun x => (hS1 x).2.2.2.2
                  have HS2 := hiq hS2
                  clear hS1 hS2
                  refine wp_region_reads (Wf := Wf) 12 [0, 1, 2, 3, 4, 5, 6, 7, 8, 9] [10, 11] (by kernel_rfl) (by kernel_rfl) (fun _ _ d _ _ h => by cases d <;> exact h) (HS2.out _ ⟨cc, c0, c1, c2, c3⟩) ?_
                  simp only [pickOps, List.filterMap_cons, List.filterMap_nil, List.getElem?_cons_zero, List.getElem?_cons_succ]
                  repeat (refine wpReads_step (fun K hK => ?_); unfold rOp; go_simp; (refine hK _ ?_; clear hK K))
                  have hb4 : Below W4.heap.size W4 (W4.drew.alloc (.cells #[.int .i64 0, .int .i64 0, .string ⟨#[]⟩, .slice none 0 0] 24)) := (Below.refl _ _).drew.alloc (Nat.le_refl _) _
                  have hz4 := hb15.size
                  rw [HZ1.out] at hz4
                  have hb16 := hb15.trans (hb4.mono hz4)
                  have o6 := HOK5.out.below hb4
                  have va6 : VAt (W4.drew.alloc (.cells #[.int .i64 0, .int .i64 0, .string ⟨#[]⟩, .slice none 0 0] 24)) W4.heap.size 0 (mkLeaf 0 0 ⟨#[]⟩) := by
                    obtain ⟨y0, y1, y2, y3, -⟩ := box_cells (World.alloc_heap_new W4.drew (.cells #[.int .i64 0, .int .i64 0, .string ⟨#[]⟩, .slice none 0 0] 24))
                    exact ⟨y0, y1, y2, y3⟩
                  have rd6 : Rd (fun x => S x \/ (Value.slice al nk cl).ownBlock = some x) (W4.drew.alloc (.cells #[.int .i64 0, .int .i64 0, .string ⟨#[]⟩, .slice none 0 0] 24)) (mkLeaf 0 0 ⟨#[]⟩) := rd_zero _ _
                  have q0 := clq hb4 cc
                  have q1 := clq hb4 c0
                  have q2 := clq hb4 c1
                  have q3 := clq hb4 c2
                  have q4 := clq hb4 c3
                  have fq : (W4.drew.alloc (.cells #[.int .i64 0, .int .i64 0, .string ⟨#[]⟩, .slice none 0 0] 24)).frozen? ⟨g, m, none⟩ = false := (hb4.frozen (p := ⟨g, m, none⟩) (World.block_lt_of_cell? _ _ cc)).trans fc
                  have hgB4 := hb16.size
                  rw [HZ1.out] at hgB4
                  have hnbb : nb <= 1048576 := by have := HD.out.long b (by simp); have := HNB.out; omega
                  clear k0 k1 k2 k3 k4
                  refine wpReads_nil (wpActs_cons ?_)
                  go_wp2_with fail
                  refine ⟨HS2.out _ ⟨q0, q1, q2, q3, q4⟩, wpActs_cons ?_⟩
                  go_wp2_with (at_builtin; refine wpList_app1 (u := mkLeaf 0 0 ⟨#[]⟩) rfl (.tmp 83) (.tmp 86) rfl rfl rfl o6 va6 rd6 (by omega) hgB4 hb16 HFK3.out ?_; intro a5 c5 w5 o5 b5 g5 h5)
                  have neG : some g ≠ (Value.slice ab nb cb).ownBlock := HAP3.out.symm.own ⟨g, 0, none⟩ rfl
                  have neB : some w2.heap.size ≠ (Value.slice ab nb cb).ownBlock := fun e => by have := hab.out _ e.symm; omega
                  have p0 := g5.cell q0 neG
                  have p1 := g5.cell q1 neB
                  have p2 := g5.cell q2 neB
                  have p3 := g5.cell q3 neB
                  have p4 := g5.cell q4 neB
                  have fp : w5.frozen? ⟨g, m, none⟩ = false := by
                    rw [World.frozen?_of_block (g5.block g (World.block_lt_of_cell? _ _ q0) neG)]
                    exact fq
                  refine ⟨HS2.out _ ⟨p0, p1, p2, p3, p4⟩, wpActs_nil ?_⟩
                  obtain ⟨r5, rfl, hB5, hne5, hfz5, hcl5, hO6⟩ := row_put (ll := ll') (top := b) (v := mkList al cl top) HO5.out (by rw [<- hmm.out]; exact cc) hb4 g5 o5 h5 HR5.out HAP3.out HFK3.out HNB.out
                  rw [<- hmm.out] at hO6
                  have hb17 := put4o_below b5 hB5 (nb * 4) (.int .i64 3) (.int .i64 0) (.string ⟨#[]⟩) (.slice al top.length cl)
                  have hfi := hfin.out _ _ hO6 (hb17.setCell (p := ⟨g, m, none⟩) (by omega) _)
                  have hsw5 := put4o_swap w5 hne5 (nb * 4) m (.int .i64 3) (.int .i64 0) (.string ⟨#[]⟩) (.slice al top.length cl) (.slice (some ⟨r5, 0, none⟩) (nb + 1) c5)
                  obtain ⟨u0, l0⟩ := hcl5 0 (by omega)
                  obtain ⟨u1, l1⟩ := hcl5 1 (by omega)
                  obtain ⟨u2, l2⟩ := hcl5 2 (by omega)
                  obtain ⟨u3', l3⟩ := hcl5 3 (by omega)
                  rw [Nat.add_zero] at l0
                  have HFIN := hiq hfi
                  have HSW5 := hiq hsw5
                  clear hfi hsw5 hO6 hb17 o5 o6 va6 rd6 q0 q1 q2 q3 q4 c0 c1 c2 c3 cc fq fc
                  have ho6 := setCell_past (w := w5) (b := g) (b' := r5) (j := m) (u := .slice (some ⟨r5, 0, none⟩) (nb + 1) c5) hne5
                  have m0 := (cell_past (j := nb * 4) ho6).trans l0
                  have m1 := (cell_past (j := nb * 4 + 1) ho6).trans l1
                  have m2 := (cell_past (j := nb * 4 + 2) ho6).trans l2
                  have m3 := (cell_past (j := nb * 4 + 3) ho6).trans l3
                  have f6 := fun j => (World.frozen?_of_block (a := ⟨r5, j, none⟩) ho6).trans (hfz5 j)
                  have hn3 : (nb : Int) < (nb : Int) + 1 := by omega
                  have hn4 : nb < nb + 1 := by omega
                  clear ho6 hfz5 l0 l1 l2 l3
                  go_wp2_with fail
                  have hd : DSt _ _ _ _ _ _ _ _ _ _ ((put4o w5 r5 (nb * 4) (.int .i64 3) (.int .i64 0) (.string ⟨#[]⟩) (.slice al top.length cl)).setCell ⟨g, m, none⟩ (.slice (some ⟨r5, 0, none⟩) (nb + 1) c5)) := HFIN.out
                  rw [<- HSW5.out] at hd
                  go_roundw
                  case rel => exact ⟨_, _, _, _, _, _, _, rfl, rfl, hd⟩
                  case measure => exact hmes.out
              · have n1 : Lib.hasPrefix (ch :: rest) [108] = false := by simp [Lib.hasPrefix, List.isPrefixOf, Ne.symm h108]
                have n2 : Lib.hasPrefix (ch :: rest) [101] = false := by simp [Lib.hasPrefix, List.isPrefixOf, Ne.symm h101]
                have FP1 : Hid (Calls Tryz.prog 28 #[.string sj, .string ⟨#[108]⟩] wr fun e w' => e = .returned (.bool false) /\ w' = wr) := by
                  have := Tryz.strings_HasPrefix sj ⟨#[108]⟩ wr
                  rw [hL] at this
                  change Calls _ _ _ _ (fun e w' => e = .returned (.bool (Lib.hasPrefix (ch :: rest) [108])) /\ _) at this; rw [n1] at this; exact this
                have FP2 : Hid (Calls Tryz.prog 28 #[.string sj, .string ⟨#[101]⟩] wr fun e w' => e = .returned (.bool false) /\ w' = wr) := by
                  have := Tryz.strings_HasPrefix sj ⟨#[101]⟩ wr
                  rw [hL] at this
                  change Calls _ _ _ _ (fun e w' => e = .returned (.bool (Lib.hasPrefix (ch :: rest) [101])) /\ _) at this; rw [n2] at this; exact this
                have hleaf : Hid (∀ c0 r0, sj.data.toList = c0 :: r0 -> c0 ≠ 108 /\ (c0 = 101 -> ll = [])) := fun c0 r0 he => by
                  rw [hL] at he
                  cases he; exact ⟨h108, fun e => absurd e h101⟩
                have hbwr := HD.out.below
                have hzr := hbwr.size
                rw [HZ1.out] at hzr
                have HB0 : Hid (Below w.heap.size w wr) := hb1.trans (hbwr.mono (by omega))
                have SC := scalar_any sj hsz1 wr (HE.out.below HB0.out)
                have HSC := hiq SC
                have HBWR := hiq hbwr
                have HHR : Hid (wr.heap[w.heap.size]? = _) := (hbwr.block w.heap.size (by omega)).trans hh1
                have hdn : Hid (scalP sj.data.toList = none -> decode s.data.toList = (zeroV, 3)) := fun hp => HD.out.none hA hleaf.out hp HS0.out
                have hlf : Hid (∀ (k n : Int) (t rs : ByteArray) (c' : Nat) (w' : World), scalP sj.data.toList = some (.mk k n t [], rs.data.toList) -> OwnVV S w' (w.heap.size + 1) (some ⟨g, 0, none⟩) nj c' (ll ++ [top ++ [mkLeaf k n t]]) -> Below (w.heap.size + 1) W1 w' -> DSt s W1 (w.heap.size + 1) rs (some ⟨g, 0, none⟩) nj c' S ll (top ++ [mkLeaf k n t]) w' /\ rs.size < sj.size) := fun k n t rs c' w' hp ho hb =>
                  ⟨HD.out.leaf hA hleaf.out hp ho hb, by have := scalP_lt hp; rw [Array.length_toList, Array.length_toList] at this; exact this⟩
                clear hA hL SC hbwr hleaf
                go_wp2_with fail
                refine FP1.out.mono ?_
                rintro e w9 ⟨rfl, hw9⟩
                obtain rfl := hw9.symm
                go_wp2_with fail
                refine FP2.out.mono ?_
                rintro e w9 ⟨rfl, hw9⟩
                obtain rfl := hw9.symm
                go_wp2_with fail
                refine HSC.out.mono ?_
                rintro e w2 ⟨k, n, t, rs, ok, he, hk, hn, ht, hres, hb2⟩
                change e = .returned (.tuple #[.agg #[.int .i64 k, .int .i64 n, .string t, .slice none 0 0], .string rs, .bool ok]) at he
                subst he
                have hb3 : Below wr.heap.size wr (w2.alloc (.cells #[.int .i64 k, .int .i64 n, .string t, .slice none 0 0] 24)) := hb2.alloc hb2.size _
                have hz2 := hb2.size
                have hh3 : (w2.alloc (.cells #[.int .i64 k, .int .i64 n, .string t, .slice none 0 0] 24)).heap[w.heap.size]? = _ := (hb3.block w.heap.size (by omega)).trans HHR.out
                have HH3 := hiq hh3
                rcases hres with ⟨rfl, hp⟩ | ⟨rfl, hp⟩
                · have HP := hiq hp
                  have hO3 := HD.out.own.below hb3
                  have c3 := clq hb3 hck
                  obtain ⟨v0, v1, v2, v3, -⟩ := box_cells (World.alloc_heap_new w2 (.cells #[.int .i64 k, .int .i64 n, .string t, .slice none 0 0] 24))
                  have fg := HFZ.out (ll.length)
                  have f3 : (w2.alloc (.cells #[.int .i64 k, .int .i64 n, .string t, .slice none 0 0] 24)).frozen? ⟨g, ll.length, none⟩ = false := (hb3.frozen (p := ⟨g, ll.length, none⟩) hgl).trans fg
                  have o3 := HOK.out.below hb3
                  have hb13 : Below (w.heap.size + 1) W1 (w2.alloc (.cells #[.int .i64 k, .int .i64 n, .string t, .slice none 0 0] 24)) := HBWR.out.trans (hb3.mono (by omega))
                  have hlv : Rd S (w2.alloc (.cells #[.int .i64 k, .int .i64 n, .string t, .slice none 0 0] 24)) (mkLeaf k n t) := rd_iff.2 ⟨hk, hn, (by show t.size <= _; omega), Vals.nil S _⟩
                  have hnkb : nk <= 1048576 := by have := HD.out.long top (by simp); have := HNK.out; omega
                  have hb2' := hb2
                  clear hp HSC FP1 FP2 hh3 fg hck hb3 hb2
                  go_wp2_with fail
                  generalize w2.alloc (.cells #[.int .i64 k, .int .i64 n, .string t, .slice none 0 0] 24) = W3 at *
                  obtain ⟨X, Wf, hX, hS1, hS2⟩ := family (fun W => W.cell? ⟨g, ll.length, none⟩ = some (.slice ak nk ck) /\ W.cell? ⟨w2.heap.size, 0, none⟩ = some (.int .i64 k) /\ W.cell? ⟨w2.heap.size, 1, none⟩ = some (.int .i64 n) /\ W.cell? ⟨w2.heap.size, 2, none⟩ = some (.string t) /\ W.cell? ⟨w2.heap.size, 3, none⟩ = some (.slice none 0 0)) W3 ⟨c3, v0, v1, v2, v3⟩
                  have k0 : ∀ x, (Wf x).cell? ⟨g, ll.length, none⟩ = some (.slice ak nk ck) := fun x => (hS1 x).1
                  have k1 : ∀ x, (Wf x).cell? ⟨w2.heap.size, 0, none⟩ = some (.int .i64 k) := fun x => (hS1 x).2.1
                  have k2 : ∀ x, (Wf x).cell? ⟨w2.heap.size, 1, none⟩ = some (.int .i64 n) := fun x => (hS1 x).2.2.1
                  have k3 : ∀ x, (Wf x).cell? ⟨w2.heap.size, 2, none⟩ = some (.string t) := fun x => (hS1 x).2.2.2.1
                  have k4 : ∀ x, (Wf x).cell? ⟨w2.heap.size, 3, none⟩ = some (.slice none 0 0) := fun x => (hS1 x).2.2.2.2
                  have HS2 := hiq hS2
                  clear hS1 hS2
                  refine wp_region_bar (Wf := Wf) 8 [0, 1, 2, 3, 4, 5] [6, 7] (by kernel_rfl) (by kernel_rfl) (fun _ _ d _ _ h => by cases d <;> exact h) (HS2.out _ ⟨c3, v0, v1, v2, v3⟩) ?_
                  simp only [pickOps, List.filterMap_cons, List.filterMap_nil, List.getElem?_cons_zero, List.getElem?_cons_succ]
                  repeat (refine wpReads_step (fun K hK => ?_); unfold rOp; go_simp; (refine hK _ ?_; clear hK K))
                  have hb4 : Below W3.heap.size W3 (W3.drew.alloc (.cells #[.int .i64 0, .int .i64 0, .string ⟨#[]⟩, .slice none 0 0] 24)) := (Below.refl _ _).drew.alloc (Nat.le_refl _) _
                  have hz3 := hb13.size
                  rw [HZ1.out] at hz3
                  have hb14 := hb13.trans (hb4.mono hz3)
                  have o4 := o3.below hb4
                  have va4 : VAt (W3.drew.alloc (.cells #[.int .i64 0, .int .i64 0, .string ⟨#[]⟩, .slice none 0 0] 24)) W3.heap.size 0 (mkLeaf 0 0 ⟨#[]⟩) := by
                    obtain ⟨y0, y1, y2, y3, -⟩ := box_cells (World.alloc_heap_new W3.drew (.cells #[.int .i64 0, .int .i64 0, .string ⟨#[]⟩, .slice none 0 0] 24))
                    exact ⟨y0, y1, y2, y3⟩
                  have q0 := clq hb4 c3
                  have q1 := clq hb4 v0
                  have q2 := clq hb4 v1
                  have q3 := clq hb4 v2
                  have q4 := clq hb4 v3
                  have fq : (W3.drew.alloc (.cells #[.int .i64 0, .int .i64 0, .string ⟨#[]⟩, .slice none 0 0] 24)).frozen? ⟨g, ll.length, none⟩ = false := (hb4.frozen (p := ⟨g, ll.length, none⟩) (World.block_lt_of_cell? _ _ c3)).trans f3
                  have hgB4 := hb14.size
                  rw [HZ1.out] at hgB4
                  clear k0 k1 k2 k3 k4
                  refine wpReads_nil (wpActs_cons ?_)
                  go_wp2_with fail
                  refine ⟨HS2.out _ ⟨q0, q1, q2, q3, q4⟩, wpActs_cons ?_⟩
                  go_wp2_with (at_builtin; refine wpList_app1 (u := mkLeaf 0 0 ⟨#[]⟩) rfl (.tmp 31) (.tmp 34) rfl rfl rfl o4 va4 (rd_zero _ _) (by omega) hgB4 hb14 HFK.out ?_; intro a5 c5 w5 o5 b5 g5 h5)
                  have neG : some g ≠ (Value.slice ak nk ck).ownBlock := HAPK.out.symm.own ⟨g, 0, none⟩ rfl
                  have neB : some w2.heap.size ≠ (Value.slice ak nk ck).ownBlock := fun e => by have := (HOK.out.lt _ e.symm).2; omega
                  have p0 := g5.cell q0 neG
                  have p1 := g5.cell q1 neB
                  have p2 := g5.cell q2 neB
                  have p3 := g5.cell q3 neB
                  have p4 := g5.cell q4 neB
                  have fp : w5.frozen? ⟨g, ll.length, none⟩ = false := by
                    rw [World.frozen?_of_block (g5.block g (World.block_lt_of_cell? _ _ q0) neG)]
                    exact fq
                  refine ⟨HS2.out _ ⟨p0, p1, p2, p3, p4⟩, wpActs_nil ?_⟩
                  obtain ⟨r5, rfl, hB5, hne5, hfz5, hcl5, hO5⟩ := row_put (v := mkLeaf k n t) hO3 c3 hb4 g5 o5 h5 hlv HAPK.out HFK.out HNK.out
                  have hb15 := put4o_below b5 hB5 (nk * 4) (.int .i64 k) (.int .i64 n) (.string t) (.slice none 0 0)
                  have hfin := hlf.out k n t rs _ _ HP.out hO5 (hb15.setCell (p := ⟨g, ll.length, none⟩) (by omega) _)
                  have hsw5 := put4o_swap w5 hne5 (nk * 4) (ll.length) (.int .i64 k) (.int .i64 n) (.string t) (.slice none 0 0) (.slice (some ⟨r5, 0, none⟩) (nk + 1) c5)
                  obtain ⟨u0, l0⟩ := hcl5 0 (by omega)
                  obtain ⟨u1, l1⟩ := hcl5 1 (by omega)
                  obtain ⟨u2, l2⟩ := hcl5 2 (by omega)
                  obtain ⟨u3', l3⟩ := hcl5 3 (by omega)
                  rw [Nat.add_zero] at l0
                  have HFIN := hiq hfin
                  have HSW5 := hiq hsw5
                  clear hfin hsw5 hO5 hb15 o5 o4 o3 hO3 hcl5 va4 q0 q1 q2 q3 q4 c3 v0 v1 v2 v3 fq f3
                  refine wpAny_take (i := 8) (v := .pointer (some ⟨r5, nk * 4, none⟩)) rfl (by kernel_rfl) (by kernel_rfl) (by kernel_rfl) (fun _ _ _ h => h) (Or.inl ⟨by rfl, fun W => by go_simp; intro h; omega⟩) ?_
                  refine wpAny_take (i := 10) (v := .pointer (some ⟨g, ll.length, none⟩)) rfl (by kernel_rfl) (by kernel_rfl) (by kernel_rfl) (fun _ _ _ h => h) (Or.inl ⟨by rfl, fun W => by go_simp⟩) ?_
                  refine wpAny_ready (rs := [9, 11]) (by kernel_rfl) (by simp) (AllReady.cons rfl (fun K hK => ?_) (AllReady.cons rfl (fun K hK => ?_) AllReady.nil))
                  · go_simp
                    refine hK _ _ ?_
                    clear hK K
                    have ho6 := put4o_other (W := w5) (b := r5) (b' := g) (o := nk * 4) (Ne.symm hne5) (.int .i64 k) (.int .i64 n) (.string t) (.slice none 0 0)
                    have p6 := (cell_past (j := (ll.length)) ho6).trans p0
                    have f6 := (World.frozen?_of_block (a := ⟨g, ll.length, none⟩) ho6).trans fp
                    change wpAny _ _ _ _ _ _ _ (put4o w5 r5 (nk * 4) (.int .i64 k) (.int .i64 n) (.string t) (.slice none 0 0))
                    change Hid (DSt _ _ _ _ _ _ _ _ _ _ ((put4o w5 r5 (nk * 4) (.int .i64 k) (.int .i64 n) (.string t) (.slice none 0 0)).setCell _ _) /\ _) at HFIN
                    generalize put4o w5 r5 (nk * 4) (.int .i64 k) (.int .i64 n) (.string t) (.slice none 0 0) = w6 at *
                    refine wpAny_ready (rs := [11]) (by kernel_rfl) (by simp) (AllReady.cons rfl (fun K hK => ?_) AllReady.nil)
                    go_simp
                    refine hK _ _ ?_
                    clear hK K
                    refine wpAny_done (by kernel_rfl) ?_ _
                    go_wp2
                    go_roundw
                    case rel => exact ⟨_, _, _, _, _, _, _, rfl, rfl, HFIN.out.1⟩
                    case measure => exact HFIN.out.2
                  · go_simp
                    refine hK _ _ ?_
                    clear hK K
                    have ho6 := setCell_past (w := w5) (b := g) (b' := r5) (j := (ll.length)) (u := .slice (some ⟨r5, 0, none⟩) (nk + 1) c5) hne5
                    have m0 := (cell_past (j := nk * 4) ho6).trans l0
                    have m1 := (cell_past (j := nk * 4 + 1) ho6).trans l1
                    have m2 := (cell_past (j := nk * 4 + 2) ho6).trans l2
                    have m3 := (cell_past (j := nk * 4 + 3) ho6).trans l3
                    have f6 := fun j => (World.frozen?_of_block (a := ⟨r5, j, none⟩) ho6).trans (hfz5 j)
                    have HSW6 := HSW5.out
                    generalize w5.setCell ⟨g, ll.length, none⟩ (.slice (some ⟨r5, 0, none⟩) (nk + 1) c5) = w6 at *
                    refine wpAny_ready (rs := [9]) (by kernel_rfl) (by simp) (AllReady.cons rfl (fun K hK => ?_) AllReady.nil)
                    have HS6 := hiq HSW6
                    clear HSW6
                    go_simp
                    refine hK _ _ ?_
                    clear hK K
                    refine wpAny_done (by kernel_rfl) ?_ _
                    change Exit.then _ _ _ _ (put4o w6 r5 (nk * 4) (.int .i64 k) (.int .i64 n) (.string t) (.slice none 0 0))
                    rw [HS6.out]
                    go_wp2
                    go_roundw
                    case rel => exact ⟨_, _, _, _, _, _, _, rfl, rfl, HFIN.out.1⟩
                    case measure => exact HFIN.out.2
                · have HDE : Hid (decode s.data.toList = (zeroV, 3)) := hdn.out hp
                  have hbA := HB0.out.trans (hb3.mono (by omega))
                  obtain ⟨g0, g1, g2, g3, f3⟩ := box_cells hh3
                  clear hp HSC FP1 FP2 hh3 hb2 hb3
                  go_wp2_with fail
                  rw [Exit.noGoto_ret]
                  have hb4 := put4_below hbA (Nat.le_refl _) (.int .i64 0) (.int .i64 0) (.string ⟨#[]⟩) (.slice none 0 0)
                  obtain ⟨z0, z1, z2, z3, -⟩ := box_cells (put4_at HH3.out (.int .i64 0) (.int .i64 0) (.string ⟨#[]⟩) (.slice none 0 0))
                  change bodyPost _ _ _ _ _ (put4 (w2.alloc (.cells #[.int .i64 k, .int .i64 n, .string t, .slice none 0 0] 24)) w.heap.size (.int .i64 0) (.int .i64 0) (.string ⟨#[]⟩) (.slice none 0 0))
                  generalize put4 (w2.alloc (.cells #[.int .i64 k, .int .i64 n, .string t, .slice none 0 0] 24)) w.heap.size (.int .i64 0) (.int .i64 0) (.string ⟨#[]⟩) (.slice none 0 0) = W4 at *
                  exact bodyPost_ret (v := .tuple #[(mkLeaf 0 0 ⟨#[]⟩).val, .int .i64 3]) (by simp [results, Tryz.results29, go_sem, z0, z1, z2, z3, Vl.val, Vl.cells, Vl.kind, Vl.num, Vl.text, Vl.sl, Vl.addr, Vl.items, Vl.cap]) rfl (dec_fail HDE.out hb4)
end Go.Proofs.YtlbcmeebcfalpaaGreatDoor
