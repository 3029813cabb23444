/- CodecLists. -/
import Derived.Test.YtancjkaoocgeeaaDoorCAwk
import Derived.Test.YtancjkaoocgeeaaDoorCLawQ
namespace Go.Proofs.YtancjkaoocgeeaaDoor
open Go.RowKit

theorem sizV_range (v : V) : 0 ≤ sizV v ∧ sizV v ≤ 65536 := by
  unfold sizV
  split
  · cases hm : measR 64 65536 v with
    | none => simp
    | some y => have := measR_le hm; simp; omega
  · omega
def wantL (l : List V) : List UInt8 := 108 :: l.flatMap encB
def sizeL (l : List V) : Int := 1 + (l.map sizV).sum
theorem wantL_take {l : List V} {j : Nat} {u : V} (hu : l[j]? = some u) : wantL (l.take (j + 1)) = wantL (l.take j) ++ encB u := by
  unfold wantL
  rw [List.take_add_one, hu, List.flatMap_append]
  simp
theorem sizeL_take {l : List V} {j : Nat} {u : V} (hu : l[j]? = some u) : sizeL (l.take (j + 1)) = sizeL (l.take j) + sizV u := by
  unfold sizeL
  rw [List.take_add_one, hu, List.map_append, List.sum_append]
  simp; omega
theorem sizeL_range : ∀ l : List V, 1 ≤ sizeL l ∧ sizeL l ≤ 1 + 65536 * l.length
  | [] => by simp [sizeL]
  | u :: l => by
    have h1 := sizeL_range l
    have h2 := sizV_range u
    unfold sizeL at *
    rw [List.map_cons, List.sum_cons, List.length_cons]
    omega
theorem wantL_len : ∀ l : List V, (∀ u ∈ l, (encB u).length ≤ 3840) → (wantL l).length ≤ 1 + 3840 * l.length
  | [], _ => by simp [wantL]
  | u :: l, h => by
    have h1 := wantL_len l (fun x hx => h x (by simp [hx]))
    have h2 := h u (by simp)
    unfold wantL at *
    rw [List.flatMap_cons, List.length_cons, List.length_append, List.length_cons]
    rw [List.length_cons] at h1
    omega
theorem cat_arr (a b : List UInt8) : ((⟨a.toArray⟩ : ByteArray) ++ (⟨b.toArray⟩ : ByteArray)) = ⟨(a ++ b).toArray⟩ := by
  have h : ∀ x y : ByteArray, x.data = y.data → x = y := fun x y e => by cases x; cases y; cases e; rfl
  apply h
  rw [ByteArray.data_append]
  simp
set_option maxRecDepth 100000 in
set_option maxHeartbeats 8000000 in
theorem law_lists (a : Option Addr) (n c : Nat) (l : List Vl) (w : World) (h : Vals (fun b => b < w.heap.size) w a n c l) (h0 : a = none → n = 0 ∧ c = 0) (hE : Env w) :
    Calls Tryd.prog 7 #[.slice a n c] w fun e w' => e = .returned (.bool true) ∧ Below w.heap.size w w' := by
  have HE := Lib.hid hE
  have FN := fine_any _ _ _ _ _ _ h
  have H := Lib.hid h
  have HV := Lib.hid h
  have HN := Lib.hid h.1
  have hbnd := h.2.2.1
  by_cases h6 : 6 < n
  · have h6I : (6 : Int) < (n : Int) := by omega
    clear FN h hE
    go_enter Tryd.func7, Tryd.ntmps7
    go_wp2_with (go_at_call 11; refine (awake_any _ HE.out).mono ?_; rintro e w2 ⟨rfl, b2⟩)
    go_ret
    exact ⟨rfl, b2⟩
  · have h6I : ¬ (6 : Int) < (n : Int) := by omega
    by_cases hbad : (l.map Vl.er).any badV = true
    · rw [hbad] at FN
      have HFN := Lib.hid FN
      clear FN h hE hbad
      go_enter Tryd.func7, Tryd.ntmps7
      go_wp2_with fail
      refine HFN.out.mono ?_
      rintro e W3 ⟨rfl, hb3⟩
      go_wp2_with (go_at_call 11; refine (awake_any _ (HE.out.below hb3)).mono ?_; rintro e W5 ⟨rfl, b5⟩)
      go_ret
      exact ⟨rfl, hb3.trans (b5.mono hb3.size)⟩
    · have hbf : (l.map Vl.er).any badV = false := by simpa using hbad
      rw [hbf] at FN
      have HFN := Lib.hid FN
      have hall : ∀ u ∈ l, badV u.er = false := fun u hu => by
        rw [List.any_eq_false] at hbf
        simpa using hbf u.er (List.mem_map.2 ⟨u, hu, rfl⟩)
      have hnum : ∀ u ∈ l, NumOk u.er := fun u hu => by
        obtain ⟨j, hj⟩ := List.mem_iff_getElem?.1 hu
        exact rd_numOk u (h.2.2.2 j u hj).2
      have LAW := lists_law (l := l.map Vl.er) (by rw [List.length_map, ← HN.out]; omega) (fun u hu => by obtain ⟨x, hx, rfl⟩ := List.mem_map.1 hu; exact hall x hx) (fun u hu => by obtain ⟨x, hx, rfl⟩ := List.mem_map.1 hu; exact hnum x hx)
      have hlen : ∀ u ∈ l.map Vl.er, chkV u = 0 ∧ encE u = 0 ∧ (encB u).length ≤ 3840 := fun u hu => by
        obtain ⟨x, hx, rfl⟩ := List.mem_map.1 hu
        obtain ⟨h1, h2⟩ := fine_spec (hall x hx) (hnum x hx)
        obtain ⟨h3, h4⟩ := encB_fine h1 (by omega)
        exact ⟨h1, h4, by rw [h3]; exact h2⟩
      have HLAW := Lib.hid LAW
      have HLEN := Lib.hid hlen
      clear hbad hbf FN h hE hall hnum LAW hlen
      go_enter Tryd.func7, Tryd.ntmps7
      go_wp2_with fail
      refine HFN.out.mono ?_
      rintro e W1 ⟨rfl, hb1⟩
      have LI := list_any _ a n c l W1 (H.out.below hb1) h0
      have HLI := Lib.hid LI
      clear LI HFN
      go_wp2_with fail
      refine HLI.out.mono ?_
      rintro e W2 ⟨a', c', he, o2, hb2⟩
      change e = .returned (.agg #[.int .i64 3, .int .i64 0, .string ⟨#[]⟩, .slice a' l.length c']) at he
      subst he
      have hv2 := o2.vals (S' := fun x => x < w.heap.size ∨ (Value.slice a' n c').ownBlock = some x) hbnd (fun _ h => .inl h) (fun x hx => .inr (ownBlock_some hx))
      rw [HN.out] at hv2
      have hlt2 := o2.lt
      have hb3 : Below W2.heap.size W2 (W2.alloc (.cells #[.int .i64 3, .int .i64 0, .string ⟨#[]⟩, .slice a' l.length c'] 24)) := (Below.refl _ _).alloc (Nat.le_refl _) _
      have hb02 := hb1.trans (hb2.mono hb1.size)
      have hb03 := hb02.trans (hb3.mono hb02.size)
      have hr3 := (rd_list hv2).below hb3
      have hS3 : Hid (∀ b, (b < w.heap.size ∨ (Value.slice a' l.length c').ownBlock = some b) → b < (W2.alloc (.cells #[.int .i64 3, .int .i64 0, .string ⟨#[]⟩, .slice a' l.length c'] 24)).heap.size) := fun b hb => by
        have := hb02.size
        have h7 := hb3.size
        rcases hb with hb | hb
        · exact Nat.lt_of_lt_of_le hb (Nat.le_trans this h7)
        · rw [← HN.out] at hb; exact Nat.lt_of_lt_of_le (hlt2 b hb).2 h7
      obtain ⟨d0, d1, d2, d3, -⟩ := box_cells (World.alloc_heap_new W2 (.cells #[.int .i64 3, .int .i64 0, .string ⟨#[]⟩, .slice a' l.length c'] 24))
      have HR3 := Lib.hid hr3
      have HB3 := Lib.hid hb03
      clear hv2 hr3 hb03 hb02 hb3 hb2 hb1 o2 hlt2 HLI
      go_wp2_with fail
      generalize W2.alloc (.cells #[.int .i64 3, .int .i64 0, .string ⟨#[]⟩, .slice a' l.length c'] 24) = W3 at *
      clear H
      go_loopw [4, 5, 29] (fun s z i wr => ∃ (j : Nat), i = .int .i64 j ∧ j ≤ n ∧ s = .string ⟨(wantL ((l.map Vl.er).take j)).toArray⟩ ∧ z = .int .i64 (sizeL ((l.map Vl.er).take j)) ∧ Below W3.heap.size W3 wr) (fun _ _ i _ => n - (intOf i).toNat)
      case atStart => exact ⟨0, rfl, Nat.zero_le _, rfl, rfl, Below.refl _ _⟩
      case round =>
        obtain ⟨j, rfl, hj, rfl, rfl, hb⟩ := hrel
        by_cases hlj : j < n
        · obtain ⟨u, bb, off, hu, hmem, rfl, -, hbl, ⟨c1, c2, c3, c4⟩, hru⟩ := (HV.out.below (HB3.out.trans (hb.mono HB3.out.size))).get hlj
          have hb1 : Below wr.heap.size wr (wr.alloc (.cells u.cells 24)) := (Below.refl _ _).alloc (Nat.le_refl _) _
          have hb03 := HB3.out.trans (hb.mono HB3.out.size)
          have hb04 := hb03.trans (hb1.mono hb03.size)
          have hr1 := hru.below hb1
          obtain ⟨k1, k2, k3⟩ := HLEN.out u.er (List.mem_map.2 ⟨u, hmem, rfl⟩)
          have EN := encode_A _ u _ hr1 (fun b h9 => Nat.lt_of_lt_of_le (show b < w.heap.size from h9) hb04.size) (HE.out.below hb04)
          have SZ := fun W (hW : Below _ _ W) => size_any _ u W (hr1.below hW)
          rw [k2] at EN
          rw [k1] at SZ
          have hu' : (l.map Vl.er)[j]? = some u.er := by rw [List.getElem?_map, hu]; rfl
          have hw1 := wantL_take hu'
          have hz1 := sizeL_take hu'
          have hzr := sizeL_range ((l.map Vl.er).take j)
          have hvr := sizV_range u.er
          have hwl := wantL_len ((l.map Vl.er).take j) (fun x hx => (HLEN.out x (List.mem_of_mem_take hx)).2.2)
          have hjl : ((l.map Vl.er).take j).length ≤ 6 := by rw [List.length_take]; omega
          have hcs : (⟨(wantL ((l.map Vl.er).take j)).toArray⟩ : ByteArray).size + (⟨(encB u.er).toArray⟩ : ByteArray).size ≤ 100000 := by
            show (wantL _).toArray.size + (encB u.er).toArray.size ≤ _
            rw [List.size_toArray, List.size_toArray]; omega
          have hwz : IntKind.i64.wrap (sizeL ((l.map Vl.er).take j) + sizV u.er) = sizeL ((l.map Vl.er).take j) + sizV u.er := IntWalk.i64_in _ (by omega)
          have hnx : Hid ((⟨(wantL ((l.map Vl.er).take j)).toArray⟩ : ByteArray) ++ ⟨(encB u.er).toArray⟩ = ⟨(wantL ((l.map Vl.er).take (j + 1))).toArray⟩) := by show _ = _; rw [cat_arr, hw1]
          have hny : Hid (sizeL ((l.map Vl.er).take j) + sizV u.er = sizeL ((l.map Vl.er).take (j + 1))) := hz1.symm
          have hcd : ¬ (9223372036854775807 < (⟨(wantL ((l.map Vl.er).take j)).toArray⟩ : ByteArray).size + (⟨(encB u.er).toArray⟩ : ByteArray).size) := by omega
          clear hw1 hz1 hzr hvr hwl hjl k1 k2 k3 hu' hr1 hru hmem hu
          generalize (⟨(wantL ((l.map Vl.er).take j)).toArray⟩ : ByteArray) = WS at *
          generalize (⟨(encB u.er).toArray⟩ : ByteArray) = ES at *
          generalize sizeL ((l.map Vl.er).take j) = ZS at *
          generalize sizV u.er = ZU at *
          obtain ⟨uk, un, ut, ua, uc, ul⟩ := u
          dsimp only [Vl.val, Vl.cells, Vl.kind, Vl.num, Vl.text, Vl.sl, Vl.addr, Vl.items, Vl.cap] at c1 c2 c3 c4 EN SZ
          change Below _ _ (wr.alloc (.cells #[.int .i64 uk, .int .i64 un, .string ut, .slice ua ul.length uc] 24)) at hb1
          have HEN := Lib.hid EN
          have HSZ := Lib.hid SZ
          have HB1 := Lib.hid hb1
          have HB := Lib.hid hb
          clear EN SZ hb hb1 hb03 hb04
          obtain ⟨e0, e1, e2, e3, -⟩ := box_cells (World.alloc_heap_new wr (.cells #[.int .i64 uk, .int .i64 un, .string ut, .slice ua ul.length uc] 24))
          go_wp2_with fail
          generalize wr.alloc (.cells #[.int .i64 uk, .int .i64 un, .string ut, .slice ua ul.length uc] 24) = W4 at *
          refine HEN.out.mono ?_
          rintro e W5 ⟨rfl, hb5⟩
          have f0 := cell_later hb5 e0
          have f1 := cell_later hb5 e1
          have f2 := cell_later hb5 e2
          have f3 := cell_later hb5 e3
          go_wp2_with fail
          refine (HSZ.out _ hb5).mono ?_
          rintro e W6 ⟨rfl, hb6⟩
          go_wp2_with fail
          have hb7 := hb5.trans (hb6.mono hb5.size)
          go_roundw
          case rel => exact ⟨j + 1, by go_num, by omega, by rw [hnx.out], by rw [hny.out], HB.out.trans ((HB1.out.trans (hb7.mono HB1.out.size)).mono HB.out.size)⟩
          case measure => simp [intOf]; omega
        · obtain rfl : j = n := by omega
          have htk : (l.map Vl.er).take j = l.map Vl.er := List.take_of_length_le (by rw [List.length_map, ← HN.out]; exact Nat.le_refl _)
          rw [htk]
          have hb03 := HB3.out.trans (hb.mono HB3.out.size)
          have hrr := HR3.out.below hb
          have her : (mkList a' c' l).er = lstV (l.map Vl.er) := by rw [Vl.er, Vl.erL_map]
          have EN := encode_A _ _ _ hrr (fun b h9 => Nat.lt_of_lt_of_le (hS3.out b h9) hb.size) (HE.out.below hb03)
          have SZ := fun W (hW : Below _ _ W) => size_any _ _ W (hrr.below hW)
          rw [her] at EN SZ
          have g0 := cell_later hb d0
          have g1 := cell_later hb d1
          have g2 := cell_later hb d2
          have g3 := cell_later hb d3
          have hwl := wantL_len (l.map Vl.er) (fun x hx => (HLEN.out x hx).2.2)
          rw [List.length_map, ← HN.out] at hwl
          have HB := Lib.hid hb
          have HB03 := Lib.hid hb03
          rcases HLAW.out with ⟨q1, q2, q3, q4⟩ | ⟨q1, q2, q3, q4⟩
          · rw [q1, q2] at EN
            rw [q3, q4] at SZ
            dsimp only [Vl.val, Vl.cells, Vl.kind, Vl.num, Vl.text, Vl.sl, Vl.addr, Vl.items, Vl.cap] at EN SZ
            have HEN := Lib.hid EN
            have HSZ := Lib.hid SZ
            clear EN SZ q1 q2 q3 q4 hb hb03 hrr her htk hwl
            go_wp2_with fail
            refine HEN.out.mono ?_
            rintro e W5 ⟨rfl, hb5⟩
            have f0 := cell_later hb5 g0
            have f1 := cell_later hb5 g1
            have f2 := cell_later hb5 g2
            have f3 := cell_later hb5 g3
            go_wp2_with fail
            refine (HSZ.out _ hb5).mono ?_
            rintro e W6 ⟨rfl, hb6⟩
            have hb7 := hb5.trans (hb6.mono hb5.size)
            have hbZ := HB03.out.trans (hb7.mono HB03.out.size)
            go_wp2_with (go_at_call 11; refine (awake_any _ (HE.out.below hbZ)).mono ?_; rintro e WZ ⟨rfl, bz⟩)
            go_ret
            exact ⟨rfl, hbZ.trans (bz.mono hbZ.size)⟩
          · rw [q1] at EN
            rw [q3, q4] at SZ
            have hq : Hid ((⟨(encB (lstV (l.map Vl.er))).toArray⟩ : ByteArray) = (⟨(wantL (l.map Vl.er)).toArray⟩ : ByteArray) ++ ⟨#[101]⟩) := by
              show _ = _
              have := cat_arr (wantL (l.map Vl.er)) [101]
              rw [q2]
              exact this.symm
            have hss : Hid (1 + ((l.map Vl.er).map sizV).sum = sizeL (l.map Vl.er)) := rfl
            have hcs : (⟨(wantL (l.map Vl.er)).toArray⟩ : ByteArray).size + (⟨#[101]⟩ : ByteArray).size ≤ 100000 := by
              show (wantL _).toArray.size + 1 ≤ _
              rw [List.size_toArray]; omega
            rw [hss.out] at SZ
            rw [hq.out] at EN
            generalize (⟨(wantL (l.map Vl.er)).toArray⟩ : ByteArray) = WS at *
            generalize sizeL (l.map Vl.er) = ZS at *
            have hzz : (ZS == ZS) = true := by simp
            have hee : ((WS ++ (⟨#[101]⟩ : ByteArray)).toList == (WS ++ (⟨#[101]⟩ : ByteArray)).toList) = true := by simp
            have hcd : ¬ (9223372036854775807 < WS.size + (⟨#[101]⟩ : ByteArray).size) := by omega
            dsimp only [Vl.val, Vl.cells, Vl.kind, Vl.num, Vl.text, Vl.sl, Vl.addr, Vl.items, Vl.cap] at EN SZ
            have HEN := Lib.hid EN
            have HSZ := Lib.hid SZ
            clear EN SZ q1 q2 q3 q4 hb hb03 hrr her htk hwl hq hss
            go_wp2_with fail
            refine HEN.out.mono ?_
            rintro e W5 ⟨rfl, hb5⟩
            have f0 := cell_later hb5 g0
            have f1 := cell_later hb5 g1
            have f2 := cell_later hb5 g2
            have f3 := cell_later hb5 g3
            go_wp2_with fail
            refine (HSZ.out _ hb5).mono ?_
            rintro e W6 ⟨rfl, hb6⟩
            have hb7 := hb5.trans (hb6.mono hb5.size)
            have hbZ := HB03.out.trans (hb7.mono HB03.out.size)
            go_wp2_with (go_at_call 11; refine (awake_any _ (HE.out.below hbZ)).mono ?_; rintro e WZ ⟨rfl, bz⟩)
            go_ret
            exact ⟨rfl, hbZ.trans (bz.mono hbZ.size)⟩
end Go.Proofs.YtancjkaoocgeeaaDoor
