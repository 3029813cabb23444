/- sequence.Cover, with slices.IndexFunc and the closure that it calls. -/
import Derived.Test.YtdkokpehcmcnpaaPure3
import Derived.Test.YtdkokpehcmcnpaaOwnII
import Derived.Test.YtdkokpehcmcnpaaTail
import Derived.Deep.AppendLies
import Derived.Deep.RegionHeld3
namespace Go.Proofs.Ytdkokpehcmcnpaa
open Go.RowKit

set_option maxHeartbeats 400000 in
theorem fit_any (bl bx : Nat) (a sa : Option Addr) (n cap ns cs y : Nat) (l s : List Int) (x : Int) (w : World) (h : Ints w a n cap l) (hs : Ints w sa ns cs s) (hns : 0 < ns) (hy : s[ns - 1]?.getD 0 = (y : Int)) (hyn : y < n)
    (hbl : w.cell? ⟨bl, 0, none⟩ = some (.slice a n cap)) (hbx : w.cell? ⟨bx, 0, none⟩ = some (.int .i64 x)) :
    Calls Try.prog 49 #[.slice sa ns cs, .pointer (some ⟨bl, 0, none⟩), .pointer (some ⟨bx, 0, none⟩)] w fun e w' => e = .returned (.bool (decide (x ≤ l[y]?.getD 0))) ∧ Drew w w' := by
  obtain ⟨b, off, rfl, -, hc⟩ := h.at_ (by omega)
  obtain ⟨b', off', rfl, -, hc'⟩ := hs.at_ (by omega)
  have c1 := hc.out y hyn
  have c2 := hc'.out (ns - 1) (by omega)
  rw [hy] at c2
  have HY := Lib.hid hy
  clear hy
  have h8 := h.bound
  have h9 := hs.bound
  go_enter Try.func49, Try.ntmps49
  go_wp2
  go_quiet (fail)
  go_wp2
  go_ret
  exact ⟨rfl, nq, rfl⟩

set_option maxHeartbeats 400000 in
theorem indexfunc_cover (bl bx : Nat) (a ac : Option Addr) (n cap nc cc i : Nat) (l : List Int) (ll : List (List Int)) (x : Int) (w : World) (h : Ints w a n cap l) (hc : Intss w ac nc cc ll) (hr : CoverOk ll i) (hi : i ≤ n)
    (hbl : w.cell? ⟨bl, 0, none⟩ = some (.slice a n cap)) (hbx : w.cell? ⟨bx, 0, none⟩ = some (.int .i64 x)) :
    Calls Try.prog 48 #[.slice ac nc cc, .func (.func 49) #[] #[.pointer (some ⟨bl, 0, none⟩), .pointer (some ⟨bx, 0, none⟩)]] w fun e w' => e = .returned (.int .i64 (coverIdx l ll x)) ∧ Drew w w' := by
  have H := Lib.hid hc.len
  have hb := hc.bound
  go_enter Try.func48, Try.ntmps48
  go_wp2
  go_loopw [8] (fun k wr => ∃ j : Nat, j ≤ nc ∧ k = .int .i64 j ∧ Hid (∀ q, q < j → fits l x (ll[q]?.getD []) = false) ∧ Drew w wr) (fun k _ => nc - (intOf k).toNat)
  case atStart => exact ⟨0, Nat.zero_le _, rfl, fun q hq => by omega, Drew.refl _⟩
  case round =>
    obtain ⟨j, hj, rfl, hs, hq⟩ := hrel
    by_cases hlt : j < nc
    · obtain ⟨b, off, rfl, -, hcc⟩ := (hc.drews hq).at_ (by omega)
      obtain ⟨sa, ns, cs, c1, i1⟩ := hcc.out j hlt
      obtain ⟨y, y1, y2, y3, y4⟩ := rows_last hr (j := j) (by rw [← H.out]; exact hlt)
      have n1 := i1.len
      rw [← n1] at y3 y4
      have hbl' := cell_later (hq.below _) hbl
      have hbx' := cell_later (hq.below _) hbx
      have HN := Lib.hid n1
      have Y2 := Lib.hid y2
      have Y4 := Lib.hid y4
      clear n1 y2 y4
      have F := fit_any bl bx a sa n cap ns cs y l _ x wr (h.drews hq) i1 y3 Y4.out (by omega) hbl' hbx'
      by_cases hf : x ≤ l[y]?.getD 0
      · have hd : decide (x ≤ l[y]?.getD 0) = true := by simp [hf]
        have hff : Hid (fits l x (ll[j]?.getD []) = true) := by show fits _ _ _ = true; rw [fits, Y2.out]; exact hd
        rw [hd] at F
        have HF := Lib.hid F
        clear F hd hf
        go_wp2_with (go_at_call 49; refine HF.out.mono ?_; rintro e w' ⟨rfl, hd⟩)
        go_ret
        exact ⟨by rw [coverIdx_at (by rw [← H.out]; exact hlt) hff.out hs.out]; rfl, hq.trans hd⟩
      · have hd : decide (x ≤ l[y]?.getD 0) = false := by simp [hf]
        have hff : Hid (fits l x (ll[j]?.getD []) = false) := by show fits _ _ _ = false; rw [fits, Y2.out]; exact hd
        rw [hd] at F
        have HF := Lib.hid F
        clear F hd hf
        go_wp2_with (go_at_call 49; refine HF.out.mono ?_; rintro e w' ⟨rfl, hd⟩)
        go_roundw
        case rel => exact ⟨j + 1, by omega, by go_num, fun q hq' => by
          by_cases e : q = j
          · rw [e]; exact hff.out
          · exact hs.out q (by omega), hq.trans hd⟩
        case measure => simp [intOf]; omega
    · go_wp2
      go_ret
      obtain rfl : j = nc := by omega
      exact ⟨by rw [coverIdx_none (fun q hq' => hs.out q (by rw [H.out]; exact hq'))]; rfl, hq⟩

set_option maxHeartbeats 1000000 in
theorem cover_any (a : Option Addr) (n cap : Nat) (l : List Int) (w : World) (h : Ints w a n cap l) (hm : n ≤ 1024) :
    Calls Try.prog 16 #[.slice a n cap] w fun e w' => ∃ (a' : Option Addr) (q cap' : Nat), e = .returned (.tuple #[.slice a' q cap', .int .i64 0]) ∧ OwnII w' w.heap.size a' q cap' (cover l n) ∧ Below w.heap.size w w' := by
  have H := Lib.hid h.len
  obtain ⟨i0, hi, hz0, hz1, hz2⟩ := info_parts Try.infoInt
  obtain ⟨i1, ki, kz0, kz1, kz2⟩ := info_parts Try.infoInts
  go_enter Try.func16, Try.ntmps16
  go_wp2
  have hbx : (w.alloc (Obj.cells #[Value.slice a n cap] 22)).cell? ⟨w.heap.size, 0, none⟩ = some (.slice a n cap) := by rw [World.cell?_alloc_at _ _ _ _ rfl]; rfl
  have hB := (Below.refl w.heap.size w).alloc (Nat.le_refl _) (Obj.cells #[Value.slice a n cap] 22)
  have hsz : w.heap.size < (w.alloc (Obj.cells #[Value.slice a n cap] 22)).heap.size := by simp
  generalize w.alloc (Obj.cells #[Value.slice a n cap] 22) = W at *
  go_loopw [4, 13] (fun o i wr => ∃ (k : Nat) (ac : Option Addr) (nc cc : Nat), k ≤ n ∧ i = .int .i64 k ∧ o = .slice ac nc cc ∧ OwnII wr (w.heap.size + 1) ac nc cc (cover l k) ∧
      Below w.heap.size w wr ∧ wr.cell? ⟨w.heap.size, 0, none⟩ = some (.slice a n cap) ∧ w.heap.size < wr.heap.size) (fun _ i _ => n - (intOf i).toNat)
  case atStart => exact ⟨0, none, 0, 0, Nat.zero_le _, rfl, rfl, OwnII.nil _ _, hB, hbx, hsz⟩
  case round =>
    clear hbx hB hsz W
    obtain ⟨k, ac, nc, cc, hk, rfl, rfl, ho, hB, hbx, hsz⟩ := hrel
    by_cases hlt : k < n
    · obtain ⟨b, off, rfl, -, hcl⟩ := (h.below hB).at_ (by omega)
      have c1 := hcl.out k hlt
      obtain ⟨hrows, hlen⟩ := cover_rows l k
      have HR := Lib.hid hrows
      have hncl := ho.len
      have HNC := Lib.hid hncl
      have hnck : nc ≤ k := by omega
      clear hncl hrows hlen
      have hI := h.below hB
      rcases coverIdx_cases l (cover l k) k with ⟨e1, e2⟩ | ⟨j, hj, e1, e2⟩
      · have F : ∀ (w1 : World), Below wr.heap.size wr w1 → w1.cell? ⟨wr.heap.size, 0, none⟩ = some (.int .i64 (l[k]?.getD 0)) → Calls Try.prog 48 #[.slice ac nc cc, .func (.func 49) #[] #[.pointer (some ⟨w.heap.size, 0, none⟩), .pointer (some ⟨wr.heap.size, 0, none⟩)]] w1 fun e w' => e = .returned (.int .i64 (-1)) ∧ Drew w1 w' := by
          intro w1 hb1 hx1
          have := indexfunc_cover w.heap.size wr.heap.size _ ac n cap nc cc k l (cover l k) (l[k]?.getD 0) w1 (hI.below hb1) ((ho.below hb1).intss (by omega) (rows_i64 HR.out (by omega))) HR.out (by omega) (cell_later hb1 hbx) hx1
          rw [e1] at this
          exact this
        have HF := Lib.hid F
        have E2 := Lib.hid e2
        clear F e1 e2
        obtain ⟨rs, hown, hpush⟩ := ho.rows
        have HP := Lib.hid hpush
        clear hpush
        have hlt1 : Hid (∀ q, (Value.slice ac nc cc).ownBlock = some q → w.heap.size + 1 ≤ q ∧ q < wr.heap.size) := hown.lt
        go_wp2_with (first | (go_at_call 48; refine (HF.out _ ((Below.refl _ wr).alloc (Nat.le_refl _) _) (by rw [World.cell?_alloc_at _ _ _ _ rfl]; rfl)).mono ?_; rintro e w2 ⟨rfl, hd⟩; have hb2 : Below wr.heap.size wr w2 := ((Below.refl _ wr).alloc (Nat.le_refl _) _).trans (hd.below _); have hsz2 := hb2.size) | (at_builtin; refine wpList_append_own_at _ rfl _ _ 24 rfl (w.heap.size + 1) 22 i1 (.slice none 0 0) 1 24 Try.underlying24 ki kz0 kz1 kz2 rfl (by decide) _ _ _ rfl (((ownsRow_below hown hb2).alloc _).alloc _) ⟨w2.heap.size + 1, 0, none⟩ 1 1 [.slice (some ⟨w2.heap.size, 0, none⟩) 1 1] rfl rfl (by have := cell_one_new (w2.alloc (.cells #[.int .i64 (k:Int)] 3)) (.slice (some ⟨w2.heap.size, 0, none⟩) 1 1) 22; simpa using this) (by simp [Value.oneCell']) (by unfold maxLen; omega) (by omega) (by simp; omega) ?_; intro v' w3 hown' hgrow _ hat; obtain ⟨a3, cap3, rfl, hO3⟩ := HP.out _ w3 v' (some ⟨w2.heap.size, 0, none⟩) 1 1 [(k : Int)] ((hb2.alloc hsz2 _).alloc (by simp; omega) _) ((OwnI.lit1 w2 (w.heap.size + 1) k (by omega)).alloc _) (fun x hx => by cases hx; exact hsz2) hown' hgrow hat))
        go_roundw
        case rel =>
          have hB2 := hB.trans (hb2.mono (by omega))
          refine ⟨k + 1, a3, nc + 1, cap3, by omega, by go_num, rfl, ?_, ((hB2.alloc (by omega) _).alloc (by simp; omega) _).grown hgrow (by simp; omega) (fun q hq => by have := (hlt1.out q hq).1; omega), ?_, ?_⟩
          · rw [show cover l (k + 1) = coverStep l (cover l k) k from rfl, E2.out]; exact hO3
          · refine hgrow.cell (a := ⟨w.heap.size, 0, none⟩) ?_ (fun e => by have := (hlt1.out _ e.symm).1; simp at this; omega)
            rw [World.cell?_alloc_past _ _ _ (by simp; omega), World.cell?_alloc_past _ _ _ (by omega)]
            exact cell_later hb2 hbx
          · have := hgrow.size; simp at this; omega
        case measure => simp [intOf]; omega
      · have F : ∀ (w1 : World), Below wr.heap.size wr w1 → w1.cell? ⟨wr.heap.size, 0, none⟩ = some (.int .i64 (l[k]?.getD 0)) → Calls Try.prog 48 #[.slice ac nc cc, .func (.func 49) #[] #[.pointer (some ⟨w.heap.size, 0, none⟩), .pointer (some ⟨wr.heap.size, 0, none⟩)]] w1 fun e w' => e = .returned (.int .i64 (j : Int)) ∧ Drew w1 w' := by
          intro w1 hb1 hx1
          have := indexfunc_cover w.heap.size wr.heap.size _ ac n cap nc cc k l (cover l k) (l[k]?.getD 0) w1 (hI.below hb1) ((ho.below hb1).intss (by omega) (rows_i64 HR.out (by omega))) HR.out (by omega) (cell_later hb1 hbx) hx1
          rw [e1] at this
          exact this
        have HF := Lib.hid F
        have E2 := Lib.hid e2
        clear F e1 e2
        have hjn : j < nc := by rw [HNC.out]; exact hj
        obtain ⟨g, aj, nj, cj, rfl, hgB, hgs, hfz, hcj, hoj, hapj⟩ := ho.at_ hjn
        have hnj : nj ≤ k := by
          rw [hoj.len, List.getElem?_eq_getElem hj]
          exact (HR.out _ (List.getElem_mem hj)).2.1
        have hgne : Hid (some g ≠ (Value.slice aj nj cj).ownBlock) := by
          cases aj with
          | none => simp [Value.ownBlock, Hid]
          | some y => intro e; exact hapj y ⟨g, 0, none⟩ rfl rfl (Option.some.inj e).symm
        have hfj := hfz j
        have HO := Lib.hid ho
        clear hj hfz hapj ho
        have j0 : (0 : Int) ≤ (j : Int) := by omega
        have j1 : (j : Int) < (nc : Int) := by omega
        go_wp2_with (first | (go_at_call 48; refine (HF.out _ ((Below.refl _ wr).alloc (Nat.le_refl _) _) (by rw [World.cell?_alloc_at _ _ _ _ rfl]; rfl)).mono ?_; rintro e w2 ⟨rfl, hd⟩; have hb2 : Below wr.heap.size wr w2 := ((Below.refl _ wr).alloc (Nat.le_refl _) _).trans (hd.below _); have hsz2 := hb2.size; have hcj2 := cell_later hb2 hcj; have hfj2 := (hb2.frozen (p := ⟨g, j, none⟩) hgs).trans hfj; have hoj2 := Lib.hid (hoj.below hb2); have ho2 := Lib.hid (HO.out.below hb2)) | (at_builtin; refine wpList_append_own_at _ rfl _ _ 22 rfl (w.heap.size + 1) 3 i0 (.int .i64 0) 1 8 Try.underlying22 hi hz0 hz1 hz2 rfl (by decide) (.slice aj nj cj) nj _ rfl (hoj2.out.2.alloc _) ⟨w2.heap.size, 0, none⟩ 1 1 [.int .i64 (k : Int)] rfl rfl (cell_one_new _ _ _) (by simp [Value.oneCell']) (by unfold maxLen; omega) (by omega) (by simp; omega) ?_; intro v' w3 hown' hgrow _ hat; obtain ⟨a4, cap4, rfl⟩ := own_shape hown'; have hcj3 : w3.cell? ⟨g, j, none⟩ = some (.slice aj nj cj) := hgrow.cell (by rw [World.cell?_alloc_past _ _ _ (by omega)]; exact hcj2) hgne.out; have hfj3 : w3.frozen? ⟨g, j, none⟩ = false := by { rw [World.frozen?_of_block (w := w2.alloc (Obj.cells #[Value.int IntKind.i64 (k : Int)] 3)) (hgrow.block g (by simp; omega) hgne.out), World.frozen?_alloc_past _ _ _ (by omega)]; exact hfj2 }))
        go_roundw
        case rel =>
          have hB2 := hB.trans (hb2.mono (by omega))
          have hgs2 : g < w2.heap.size := by omega
          have hlt1 : ∀ q, (Value.slice aj nj cj).ownBlock = some q → w.heap.size + 1 ≤ q := fun q hq => (hoj.2.lt q hq).1
          have hs3 := hgrow.size
          simp at hs3
          refine ⟨k + 1, some ⟨g, 0, none⟩, nc, cc, by omega, by go_num, rfl, ?_, ((hB2.alloc (by omega) _).grown hgrow (by simp; omega) (fun q hq => by have := hlt1 q hq; omega)).setCell (by show w.heap.size ≤ g; omega) _, ?_, ?_⟩
          · rw [show cover l (k + 1) = coverStep l (cover l k) k from rfl, E2.out]
            exact ho2.out.setRow hjn rfl hcj2 hown' hgrow (by simpa using hat)
          · rw [World.cell?_setCell_other _ _ _ _ (by intro e; cases e; omega)]
            refine hgrow.cell (a := ⟨w.heap.size, 0, none⟩) ?_ (fun e => by have := hlt1 _ e.symm; simp at this; omega)
            rw [World.cell?_alloc_past _ _ _ (by omega)]
            exact cell_later hb2 hbx
          · simp [World.setCell]; omega
        case measure => simp [intOf]; omega
    · go_wp2
      go_ret2
      obtain rfl : k = n := by omega
      exact ⟨ac, nc, cc, rfl, ho.mono (by omega), hB⟩
end Go.Proofs.Ytdkokpehcmcnpaa
