/- The reference's Cover; Cover of what is too long. -/
import Derived.Test.YtdkokpehcmcnpaaPure6
import Derived.Test.YtdkokpehcmcnpaaOwnII
import Derived.Test.YtdkokpehcmcnpaaTail
namespace Go.Proofs.Ytdkokpehcmcnpaa
open Go.RowKit

set_option maxHeartbeats 1000000 in
theorem ref_cover_any (a : Option Addr) (n cap : Nat) (l : List Int) (w : World) (h : Ints w a n cap l) (hm : n ≤ 1024) :
    Calls Try.prog 17 #[.slice a n cap] w fun e w' => ∃ (a' : Option Addr) (q cap' : Nat), e = .returned (.tuple #[.slice a' q cap', .int .i64 0]) ∧ OwnII w' w.heap.size a' q cap' (cover l n) ∧ Below w.heap.size w w' := by
  have H := Lib.hid h.len
  obtain ⟨i0, hi, hz0, hz1, hz2⟩ := info_parts Try.infoInt
  obtain ⟨i1, ki, kz0, kz1, kz2⟩ := info_parts Try.infoInts
  go_enter Try.func17, Try.ntmps17
  go_wp2
  have M0 := OwnII.made0 w w.heap.size (Nat.le_refl _)
  have B0 := (Below.refl w.heap.size w).alloc (Nat.le_refl _) (.cells #[] 22)
  go_loopw [4, 5] (fun o i wr => ∃ (k : Nat) (ac : Option Addr) (nc cc : Nat), k ≤ n ∧ i = .int .i64 k ∧ o = .slice ac nc cc ∧ OwnII wr w.heap.size ac nc cc (cover l k) ∧ Below w.heap.size w wr) (fun _ i _ => n - (intOf i).toNat)
  case atStart => exact ⟨0, _, 0, 0, Nat.zero_le _, rfl, rfl, M0, B0⟩
  case round =>
    clear M0 B0
    obtain ⟨k, ac, nc, cc, hk, rfl, rfl, ho, hB⟩ := hrel
    by_cases hlt : k < n
    · obtain ⟨hrows, hlen⟩ := cover_rows l k
      have HR := Lib.hid hrows
      have hncl := ho.len
      have HNC := Lib.hid hncl
      have hnck : nc ≤ k := by omega
      clear hncl hrows hlen
      have hI := h.below hB
      have hsB := hB.size
      have hII := ho.intss (by omega) (rows_i64 HR.out (by omega))
      have F0 : Hid (FirstFit l (cover l k) (l[k]?.getD 0) nc (-1)) := by rw [HNC.out]; exact FirstFit.start _ _ _
      go_wp2
      obtain ⟨wo, rfl⟩ : ∃ wo : World, wo = wr := ⟨_, rfl⟩
      go_loopw [6, 7] (fun av jv wr => ∃ (j : Nat) (A : Int), j ≤ nc ∧ jv = .int .i64 ((j : Int) - 1) ∧ av = .int .i64 A ∧ Hid (FirstFit l (cover l k) (l[k]?.getD 0) j A) ∧ Drew wo wr) (fun _ jv _ => (intOf jv + 1).toNat)
      case atStart => exact ⟨nc, -1, Nat.le_refl _, rfl, rfl, F0, Drew.refl _⟩
      case round =>
        clear F0
        obtain ⟨j, A, hj, rfl, rfl, hF, hq⟩ := hrel
        by_cases hpos : 0 < j
        · obtain ⟨m, rfl⟩ : ∃ m, j = m + 1 := ⟨j - 1, by omega⟩
          rw [show ((m + 1 : Nat) : Int) - 1 = (m : Int) from by omega]
          have hmc : m < nc := by omega
          have m0 : (0 : Int) ≤ (m : Int) := by omega
          obtain ⟨b, off, rfl, -, hcc⟩ := (hII.drews hq).at_ (by omega)
          obtain ⟨sa, ns, cs, c1, i1⟩ := hcc.out m hmc
          obtain ⟨y, y1, y2, y3, y4⟩ := rows_last HR.out (j := m) (by rw [← HNC.out]; exact hmc)
          have n1 := i1.len
          rw [← n1] at y3 y4
          obtain ⟨b1, off1, rfl, -, hc1⟩ := i1.at_ y3
          obtain ⟨b2, off2, rfl, -, hc2⟩ := (hI.drews hq).at_ (by omega)
          have c2 := hc1.out (ns - 1) (by omega)
          rw [y4] at c2
          have c3 := hc2.out y (by omega)
          have c4 := hc2.out k hlt
          have hyn : y < n := by omega
          have Y2 := Lib.hid y2
          have hb8 := i1.bound
          have hb9 := hII.bound
          clear n1 y2 y4 hpos
          by_cases hx : l[k]?.getD 0 ≤ l[y]?.getD 0
          · have hff : Hid (fits l (l[k]?.getD 0) ((cover l k)[m]?.getD []) = true) := by show fits _ _ _ = true; rw [fits, Y2.out]; simpa using hx
            have hF2 : Hid (FirstFit l (cover l k) (l[k]?.getD 0) m m) := FirstFit.yes (by rw [← HNC.out]; exact hmc) hff.out
            go_wp2
            go_quiet (fail)
            go_wp2
            go_roundw
            case rel => exact ⟨m, (m : Int), by omega, rfl, rfl, hF2.out, hq.drewN _⟩
            case measure => simp [intOf]
          · have hff : Hid (fits l (l[k]?.getD 0) ((cover l k)[m]?.getD []) = false) := by show fits _ _ _ = false; rw [fits, Y2.out]; simpa using hx
            have hF2 : Hid (FirstFit l (cover l k) (l[k]?.getD 0) m A) := hF.out.no hff.out
            go_wp2
            go_quiet (fail)
            go_wp2
            go_roundw
            case rel => exact ⟨m, A, by omega, rfl, rfl, hF2.out, hq.drewN _⟩
            case measure => simp [intOf]
        · obtain rfl : j = 0 := by omega
          rw [show ((0 : Nat) : Int) - 1 = -1 from rfl]
          have hA := hF.out.eq
          obtain ⟨nq, rfl⟩ := hq
          have hb2 : Below wo.heap.size wo (wo.drewN nq) := drewN_below _ _ _
          rcases coverIdx_cases l (cover l k) k with ⟨e1, e2⟩ | ⟨t, ht, e1, e2⟩
          · rw [e1] at hA
            subst hA
            have E2 := Lib.hid e2
            clear e1 e2
            obtain ⟨rs, hown, hpush⟩ := ho.rows
            have HP := Lib.hid hpush
            clear hpush
            have hlt1 : Hid (∀ q, (Value.slice ac nc cc).ownBlock = some q → w.heap.size ≤ q ∧ q < wo.heap.size) := hown.lt
            go_wp2_with (at_builtin; refine wpList_append_own_at _ rfl _ _ 24 rfl w.heap.size 22 i1 (.slice none 0 0) 1 24 Try.underlying24 ki kz0 kz1 kz2 rfl (by decide) (.slice ac nc cc) nc _ rfl (((ownsRow_below hown hb2).alloc _).alloc _) ⟨wo.heap.size + 1, 0, none⟩ 1 1 [.slice (some ⟨wo.heap.size, 0, none⟩) 1 1] rfl rfl (by have := cell_one_new ((wo.drewN nq).alloc (.cells #[.int .i64 (k:Int)] 3)) (.slice (some ⟨wo.heap.size, 0, none⟩) 1 1) 22; simpa using this) (by simp [Value.oneCell']) (by unfold maxLen; omega) (by omega) (by simp; omega) ?_; intro v' w3 hown' hgrow _ hat; obtain ⟨a3, cap3, rfl, hO3⟩ := HP.out _ w3 v' (some ⟨wo.heap.size, 0, none⟩) 1 1 [(k : Int)] ((hb2.alloc (Nat.le_refl _) _).alloc (by simp) _) ((OwnI.lit1 (wo.drewN nq) w.heap.size k hsB).alloc _) (fun x hx => by cases hx; exact Nat.le_refl _) hown' hgrow hat)
            go_roundw
            case rel =>
              refine ⟨k + 1, a3, nc + 1, cap3, by omega, by go_num, rfl, ?_, (((below_drewN hB nq).alloc hsB _).alloc (by simp; omega) _).grown hgrow (by simp; omega) (fun q hq => (hlt1.out q hq).1)⟩
              rw [show cover l (k + 1) = coverStep l (cover l k) k from rfl, E2.out]; exact hO3
            case measure => simp [intOf]; omega
          · rw [e1] at hA
            subst hA
            have E2 := Lib.hid e2
            clear e1 e2
            have htn : t < nc := by rw [HNC.out]; exact ht
            obtain ⟨g, aj, nj, cj, rfl, hgB, hgs, hfz, hcj, hoj, hapj⟩ := ho.at_ htn
            have hnj : nj ≤ k := by
              rw [hoj.len, List.getElem?_eq_getElem ht]
              exact (HR.out _ (List.getElem_mem ht)).2.1
            have hgne : Hid (some g ≠ (Value.slice aj nj cj).ownBlock) := by
              cases aj with
              | none => simp [Value.ownBlock, Hid]
              | some y => intro e; exact hapj y ⟨g, 0, none⟩ rfl rfl (Option.some.inj e).symm
            have hfj := hfz t
            have HO : Hid (OwnII wo w.heap.size (some ⟨g, 0, none⟩) nc cc (cover l k)) := ho
            have j0 : (0 : Int) ≤ (t : Int) := by omega
            have j1 : (t : Int) < (nc : Int) := by omega
            clear ht hfz hapj ho hF
            have hcj2 : (wo.drewN nq).cell? ⟨g, t, none⟩ = some (.slice aj nj cj) := hcj
            have hfj2 : (wo.drewN nq).frozen? ⟨g, t, none⟩ = false := hfj
            go_wp2_with (at_builtin; refine wpList_append_own_at _ rfl _ _ 22 rfl w.heap.size 3 i0 (.int .i64 0) 1 8 Try.underlying22 hi hz0 hz1 hz2 rfl (by decide) (.slice aj nj cj) nj _ rfl ((hoj.drewN nq).2.alloc _) ⟨wo.heap.size, 0, none⟩ 1 1 [.int .i64 (k : Int)] rfl rfl (cell_one_new _ _ _) (by simp [Value.oneCell']) (by unfold maxLen; omega) (by omega) (by simp; omega) ?_; intro v' w3 hown' hgrow _ hat; obtain ⟨a4, cap4, rfl⟩ := own_shape hown'; have hcj3 : w3.cell? ⟨g, t, none⟩ = some (.slice aj nj cj) := hgrow.cell (by rw [World.cell?_alloc_past _ _ _ (by exact hgs)]; exact hcj2) hgne.out; have hfj3 : w3.frozen? ⟨g, t, none⟩ = false := by { rw [World.frozen?_of_block (w := (wo.drewN nq).alloc (Obj.cells #[Value.int IntKind.i64 (k : Int)] 3)) (hgrow.block g (by simp; omega) hgne.out), World.frozen?_alloc_past _ _ _ (by exact hgs)]; exact hfj2 })
            go_roundw
            case rel =>
              have hlt1 : ∀ q, (Value.slice aj nj cj).ownBlock = some q → w.heap.size ≤ q := fun q hq => (hoj.2.lt q hq).1
              refine ⟨k + 1, some ⟨g, 0, none⟩, nc, cc, by omega, by go_num, rfl, ?_, (((below_drewN hB nq).alloc hsB _).grown hgrow (by simp; omega) hlt1).setCell (by exact hgB) _⟩
              rw [show cover l (k + 1) = coverStep l (cover l k) k from rfl, E2.out]
              exact (HO.out.drewN nq).setRow htn rfl hcj2 hown' hgrow (by simpa using hat)
            case measure => simp [intOf]; omega
    · go_wp2
      go_ret2
      obtain rfl : k = n := by omega
      exact ⟨ac, nc, cc, rfl, ho, hB⟩
set_option maxHeartbeats 400000 in
theorem ref_cover_long (a : Option Addr) (n cap : Nat) (w : World) (hm : 1024 < n) :
    Calls Try.prog 17 #[.slice a n cap] w fun e w' => e = .returned (.tuple #[.slice none 0 0, .int .i64 4]) ∧ w' = w := by
  go_enter Try.func17, Try.ntmps17
  go_wp2
  go_ret2
  exact ⟨rfl, rfl⟩
set_option maxHeartbeats 400000 in
theorem cover_long (a : Option Addr) (n cap : Nat) (w : World) (hm : 1024 < n) :
    Calls Try.prog 16 #[.slice a n cap] w fun e w' => e = .returned (.tuple #[.slice none 0 0, .int .i64 4]) ∧ Below w.heap.size w w' := by
  have B1 := (Below.refl w.heap.size w).alloc (Nat.le_refl _) (.cells #[.slice a n cap] 22)
  go_enter Try.func16, Try.ntmps16
  go_wp2
  go_ret2
  exact ⟨rfl, B1⟩
end Go.Proofs.Ytdkokpehcmcnpaa
