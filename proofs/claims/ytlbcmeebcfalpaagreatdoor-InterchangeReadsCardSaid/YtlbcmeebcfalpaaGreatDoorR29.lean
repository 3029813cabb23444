/- Joined: CItem. -/
import Derived.Test.YtlbcmeebcfalpaaGreatDoorR28
import Derived.Test.YtlbcmeebcfalpaaGreatDoorR06
set_option linter.unusedVariables false
set_option linter.unusedSimpArgs false
set_option maxRecDepth 100000
set_option maxHeartbeats 16000000
namespace Go.Proofs.YtlbcmeebcfalpaaGreatDoor
open Go.RowKit

/-- What item answers. -/
def ItemPost (s : ByteArray) (w : World) (en : Ending) (w' : World) : Prop := ∃ (k n : Int) (t : ByteArray) (m : Nat) (ok : Bool), en = .returned (.tuple #[(mkLeaf k n t).val, .int .i64 (m : Int), .bool ok]) /\ I64 k /\ I64 n /\ t.size <= s.size /\ m <= s.size /\
  ((ok = true /\ scalP s.data.toList = some (.mk k n t [], s.data.toList.drop m)) \/ (ok = false /\ scalP s.data.toList = none)) /\ Below w.heap.size w w'
theorem item_ref (s : ByteArray) (hs : s.size <= 1048576) (h0 : 0 < s.size) (w : World) (hE : Env w) : Calls Tryz.prog 53 #[.string s] w (ItemPost s w) := by
  have hb1 : Below w.heap.size w (w.alloc (.cells #[.int .i64 0, .int .i64 0, .string ⟨#[]⟩, .slice none 0 0] 24)) := (Below.refl _ _).alloc (Nat.le_refl _) _
  have hlt : w.heap.size < (w.alloc (.cells #[.int .i64 0, .int .i64 0, .string ⟨#[]⟩, .slice none 0 0] 24)).heap.size := by simp
  have hh1 : (w.alloc (.cells #[.int .i64 0, .int .i64 0, .string ⟨#[]⟩, .slice none 0 0] 24)).heap[w.heap.size]? = some (.cells #[.int .i64 0, .int .i64 0, .string ⟨#[]⟩, .slice none 0 0] 24 (0, 0)) := World.alloc_heap_new _ _
  have hE1 := hE.below hb1
  generalize hl : s.data.toList = L at *
  have HL := hiq hl
  cases L with
  | nil => have := (Array.length_toList).symm.trans (congrArg List.length hl); change s.size = 0 at this; omega
  | cons c r =>
    have hsz : s.size = r.length + 1 := by have := congrArg List.length hl; simpa using this
    have hc0 : s[0]'(by omega) = c := by
      have : s.data.toList[0]? = some c := by rw [hl]; rfl
      simpa [ByteArray.getElem_eq_getElem_data] using (Array.getElem?_eq_some_iff.1 (by simpa using this)).2
    have hx1 : (s.extract 1 (r.length + 1)).data.toList = r := by rw [<- hsz, ext_list, hl, List.take_of_length_le (by simp; omega)]; rfl
    have hx2 : (s.extract 1 (r.length + 1)).size = r.length := (Array.length_toList).symm.trans (congrArg List.length hx1)
    have NUM : Hid (∀ e : UInt8, Calls Tryz.prog 148 #[.string (s.extract 1 (r.length + 1)), .int .u8 e.toNat] (w.alloc (.cells #[.int .i64 0, .int .i64 0, .string ⟨#[]⟩, .slice none 0 0] 24)) (NumRPost e (s.extract 1 (r.length + 1)) (w.alloc (.cells #[.int .i64 0, .int .i64 0, .string ⟨#[]⟩, .slice none 0 0] 24)))) := fun e => number_ref e _ (by omega) _ hE1
    by_cases h105 : c = 105
    · subst h105
      have F := NUM.out 59
      change Calls _ _ #[_, .int .u8 59] _ _ at F
      have HF := hiq F
      clear F NUM hl hE hE1
      go_enter Tryz.func53, Tryz.ntmps53
      go_wp2_with fail
      refine HF.out.mono ?_
      generalize (w.alloc (.cells #[.int .i64 0, .int .i64 0, .string ⟨#[]⟩, .slice none 0 0] 24)) = W1 at *
      rintro e W2 ⟨n, m, ok, rfl, hn, hm, hres, hb2⟩
      rw [hx2] at hm
      have hh2 : W2.heap[w.heap.size]? = _ := (hb2.block _ hlt).trans hh1
      have FI : Hid (Calls Tryz.prog 120 #[.int .i64 n] W2 fun e w' => e = .returned (.agg #[.int .i64 1, .int .i64 n, .string ⟨#[]⟩, .slice none 0 0]) /\ Below W2.heap.size W2 w') := int_ref n W2
      have HH2 := hiq hh2
      have hlt2 := hb2.size
      have hwm : IntKind.i64.wrap (1 + (m : Int)) = ((m + 1 : Nat) : Int) := by rw [IntWalk.i64_in _ (by omega)]; omega
      have f0 : ∀ j, W2.frozen? ⟨w.heap.size, j, none⟩ = false := fun j => Lib.frozen_of_heap hh2 j
      clear hh2 hh1
      have HRES := hiq hres
      clear hres
      go_wp2_with fail
      refine FI.out.mono ?_
      rintro e W3 ⟨rfl, hb3⟩
      have hh3 : W3.heap[w.heap.size]? = _ := (hb3.block _ (by omega)).trans HH2.out
      obtain ⟨e0, e1, e2, e3, f3⟩ := box_cells hh3
      have HH3 := hiq hh3
      have hbA := (hb1.trans (hb2.mono (Nat.le_of_lt hlt))).trans (hb3.mono (by omega))
      clear hh3 f0
      go_wp2
      have hb4 := put4_below hbA (Nat.le_refl _) (.int .i64 1) (.int .i64 n) (.string ⟨#[]⟩) (.slice none 0 0)
      obtain ⟨z0, z1, z2, z3, -⟩ := box_cells (put4_at HH3.out (.int .i64 1) (.int .i64 n) (.string ⟨#[]⟩) (.slice none 0 0))
      change bodyPost _ _ _ _ _ (put4 W3 w.heap.size (.int .i64 1) (.int .i64 n) (.string ⟨#[]⟩) (.slice none 0 0))
      generalize put4 W3 w.heap.size (.int .i64 1) (.int .i64 n) (.string ⟨#[]⟩) (.slice none 0 0) = W4 at *
      refine bodyPost_ret (v := .tuple #[(mkLeaf 1 n ⟨#[]⟩).val, .int .i64 ((m : Int) + 1), .bool ok]) (by simp [results, Tryz.results53, go_sem, z0, z1, z2, z3, Vl.val, Vl.cells, Vl.kind, Vl.num, Vl.text, Vl.sl, Vl.addr, Vl.items, Vl.cap]) rfl ⟨1, n, ⟨#[]⟩, m + 1, ok, rfl, i64_1, hn, Nat.zero_le _, by omega, ?_, hb4⟩
      rw [HL.out, scalP, if_pos rfl]
      have HR := HRES.out
      rw [hx1] at HR
      rcases HR with ⟨rfl, h⟩ | ⟨rfl, h⟩
      · exact .inl ⟨rfl, by rw [h]; rfl⟩
      · exact .inr ⟨rfl, by rw [h]; rfl⟩
    · have b1 : ((c.toNat : Int) == 105) = false := by
        rw [beq_eq_false_iff_ne]; intro h; exact h105 (UInt8.toNat_inj.1 (by have : (105 : UInt8).toNat = 105 := rfl; omega))
      have F := NUM.out 58
      change Calls _ _ #[_, .int .u8 58] _ _ at F
      have HF := hiq F
      clear F NUM hl hE hE1
      by_cases h115 : c = 115
      · subst h115
        clear h105 b1
        go_enter Tryz.func53, Tryz.ntmps53
        go_wp2_with fail
        refine HF.out.mono ?_
        generalize (w.alloc (.cells #[.int .i64 0, .int .i64 0, .string ⟨#[]⟩, .slice none 0 0] 24)) = W1 at *
        rintro e W2 ⟨n, m, ok, rfl, hn, hm, hres, hb2⟩
        rw [hx2] at hm
        rw [hx1] at hres
        have hh2 : W2.heap[w.heap.size]? = _ := (hb2.block _ hlt).trans hh1
        have HH2 := hiq hh2
        have hlt2 := hb2.size
        obtain ⟨e0, e1, e2, e3, f2⟩ := box_cells hh2
        have hbA := hb1.trans (hb2.mono (Nat.le_of_lt hlt))
        clear hh2 hh1 hb1 hb2
        rcases hres with ⟨rfl, hres⟩ | ⟨rfl, hres⟩
        · have HRES := hiq hres
          have hw1 : IntKind.i64.wrap ((s.size : Int) - 1) = (r.length : Int) := by rw [IntWalk.i64_in _ (by omega)]; omega
          have hw2 : IntKind.i64.wrap ((r.length : Int) - (m : Int)) = ((r.length - m : Nat) : Int) := by rw [IntWalk.i64_in _ (by omega)]; omega
          have hw3 : IntKind.i64.wrap ((r.length + 1 : Int) - 1) = (r.length : Int) := by rw [IntWalk.i64_in _ (by omega)]; omega
          clear hres
          by_cases hn0 : n < 0
          · have dn : decide (n < 0) = true := by simpa using hn0
            have HS : Hid (scalP (115 :: r) = none) := by show _ = _; rw [scalP, if_neg (by decide), if_pos rfl, HRES.out]; exact if_pos (.inl hn0)
            clear hn0
            go_wp2
            have hb4 := put4_below hbA (Nat.le_refl _) (.int .i64 0) (.int .i64 0) (.string ⟨#[]⟩) (.slice none 0 0)
            obtain ⟨z0, z1, z2, z3, -⟩ := box_cells (put4_at HH2.out (.int .i64 0) (.int .i64 0) (.string ⟨#[]⟩) (.slice none 0 0))
            change bodyPost _ _ _ _ _ (put4 W2 w.heap.size (.int .i64 0) (.int .i64 0) (.string ⟨#[]⟩) (.slice none 0 0))
            generalize put4 W2 w.heap.size (.int .i64 0) (.int .i64 0) (.string ⟨#[]⟩) (.slice none 0 0) = W4 at *
            exact bodyPost_ret (v := .tuple #[(mkLeaf 0 0 ⟨#[]⟩).val, .int .i64 0, .bool false]) (by simp [results, Tryz.results53, go_sem, z0, z1, z2, z3, Vl.val, Vl.cells, Vl.kind, Vl.num, Vl.text, Vl.sl, Vl.addr, Vl.items, Vl.cap]) rfl ⟨0, 0, ⟨#[]⟩, 0, false, rfl, I64.zero, I64.zero, Nat.zero_le _, Nat.zero_le _, .inr ⟨rfl, by rw [HL.out]; exact HS.out⟩, hb4⟩
          · have dn : decide (n < 0) = false := by simpa using hn0
            by_cases hn1 : ((r.length - m : Nat) : Int) < n
            · have dn1 : decide (((r.length - m : Nat) : Int) < n) = true := by simpa using hn1
              have HS : Hid (scalP (115 :: r) = none) := by show _ = _; rw [scalP, if_neg (by decide), if_pos rfl, HRES.out]; exact if_pos (.inr (by rw [List.length_drop]; exact hn1))
              clear hn0 hn1
              go_wp2
              have hb4 := put4_below hbA (Nat.le_refl _) (.int .i64 0) (.int .i64 0) (.string ⟨#[]⟩) (.slice none 0 0)
              obtain ⟨z0, z1, z2, z3, -⟩ := box_cells (put4_at HH2.out (.int .i64 0) (.int .i64 0) (.string ⟨#[]⟩) (.slice none 0 0))
              change bodyPost _ _ _ _ _ (put4 W2 w.heap.size (.int .i64 0) (.int .i64 0) (.string ⟨#[]⟩) (.slice none 0 0))
              generalize put4 W2 w.heap.size (.int .i64 0) (.int .i64 0) (.string ⟨#[]⟩) (.slice none 0 0) = W4 at *
              exact bodyPost_ret (v := .tuple #[(mkLeaf 0 0 ⟨#[]⟩).val, .int .i64 0, .bool false]) (by simp [results, Tryz.results53, go_sem, z0, z1, z2, z3, Vl.val, Vl.cells, Vl.kind, Vl.num, Vl.text, Vl.sl, Vl.addr, Vl.items, Vl.cap]) rfl ⟨0, 0, ⟨#[]⟩, 0, false, rfl, I64.zero, I64.zero, Nat.zero_le _, Nat.zero_le _, .inr ⟨rfl, by rw [HL.out]; exact HS.out⟩, hb4⟩
            · obtain ⟨p, rfl⟩ : ∃ p : Nat, n = (p : Int) := ⟨n.toNat, by omega⟩
              have dn1 : decide (((r.length - m : Nat) : Int) < (p : Int)) = false := by simpa using hn1
              have hxp : (s.extract (m + 1) (m + 1 + p)).data.toList = (r.drop m).take p := by
                rw [ext_list, HL.out, List.drop_succ_cons]; congr 1; omega
              have hxs : (s.extract (m + 1) (m + 1 + p)).size = p := by
                rw [show (s.extract (m + 1) (m + 1 + p)).size = (s.extract (m + 1) (m + 1 + p)).data.toList.length from (Array.length_toList).symm, hxp, List.length_take, List.length_drop]; omega
              have HS : Hid (scalP (115 :: r) = some (.mk 2 0 (s.extract (m + 1) (m + 1 + p)) [], (115 :: r).drop (m + 1 + p))) := by
                show _ = _
                rw [scalP, if_neg (by decide), if_pos rfl, HRES.out]
                simp only []
                rw [if_neg (by rw [List.length_drop]; omega), bytes_eq hxp, List.drop_drop, show m + 1 + p = (m + p) + 1 by omega, List.drop_succ_cons]; rfl
              have FT : Hid (∀ W : World, Calls Tryz.prog 113 #[.string (s.extract (m + 1) (m + 1 + p))] W fun e w' => e = .returned (.agg #[.int .i64 2, .int .i64 0, .string (s.extract (m + 1) (m + 1 + p)), .slice none 0 0]) /\ Below W.heap.size W w') := fun W => text_ref (s.extract (m + 1) (m + 1 + p)) W
              have hwa : IntKind.i64.wrap (1 + (m : Int)) = (m : Int) + 1 := by rw [IntWalk.i64_in _ (by omega)]; omega
              have hwb : IntKind.i64.wrap ((m : Int) + 1 + (p : Int)) = (m : Int) + 1 + (p : Int) := IntWalk.i64_in _ (by omega)
              have hta : ((m : Int) + 1).toNat = m + 1 := by omega
              have htb : ((m : Int) + 1 + (p : Int)).toNat = m + 1 + p := by omega
              have hpp : m + 1 + p <= s.size := by omega
              have hpq : (m : Int) + 1 + (p : Int) <= (s.size : Int) := by omega
              have hpr : (m : Int) + 1 <= (m : Int) + 1 + (p : Int) := by omega
              have hps : (0 : Int) <= (m : Int) + 1 := by omega
              have HSS := hiq (show (s.extract (m + 1) (m + 1 + p)).size <= s.size by omega)
              clear hxp hxs hn0 hn1
              go_wp2_with fail
              refine (FT.out _).mono ?_
              rintro e W3 ⟨rfl, hb3⟩
              have hh3 : W3.heap[w.heap.size]? = _ := (hb3.block _ (by show w.heap.size < W2.heap.size; omega)).trans HH2.out
              obtain ⟨g0, g1, g2, g3, f3⟩ := box_cells hh3
              have HH3 := hiq hh3
              have hbB := hbA.trans (hb3.mono (by show w.heap.size <= W2.heap.size; omega))
              clear hh3
              go_wp2
              have hb4 := put4_below hbB (Nat.le_refl _) (.int .i64 2) (.int .i64 0) (.string (s.extract (m + 1) (m + 1 + p))) (.slice none 0 0)
              obtain ⟨z0, z1, z2, z3, -⟩ := box_cells (put4_at HH3.out (.int .i64 2) (.int .i64 0) (.string (s.extract (m + 1) (m + 1 + p))) (.slice none 0 0))
              change bodyPost _ _ _ _ _ (put4 W3 w.heap.size (.int .i64 2) (.int .i64 0) (.string (s.extract (m + 1) (m + 1 + p))) (.slice none 0 0))
              generalize put4 W3 w.heap.size (.int .i64 2) (.int .i64 0) (.string (s.extract (m + 1) (m + 1 + p))) (.slice none 0 0) = W4 at *
              exact bodyPost_ret (v := .tuple #[(mkLeaf 2 0 (s.extract (m + 1) (m + 1 + p))).val, .int .i64 ((m : Int) + 1 + (p : Int)), .bool true]) (by simp [results, Tryz.results53, go_sem, z0, z1, z2, z3, Vl.val, Vl.cells, Vl.kind, Vl.num, Vl.text, Vl.sl, Vl.addr, Vl.items, Vl.cap]) rfl ⟨2, 0, s.extract (m + 1) (m + 1 + p), m + 1 + p, true, rfl, i64_2, I64.zero, HSS.out, hpp, .inl ⟨rfl, by rw [HL.out]; exact HS.out⟩, hb4⟩
        · have HS : Hid (scalP (115 :: r) = none) := by show _ = _; rw [scalP, if_neg (by decide), if_pos rfl, hres]
          clear hres
          go_wp2
          have hb4 := put4_below hbA (Nat.le_refl _) (.int .i64 0) (.int .i64 0) (.string ⟨#[]⟩) (.slice none 0 0)
          obtain ⟨z0, z1, z2, z3, -⟩ := box_cells (put4_at HH2.out (.int .i64 0) (.int .i64 0) (.string ⟨#[]⟩) (.slice none 0 0))
          change bodyPost _ _ _ _ _ (put4 W2 w.heap.size (.int .i64 0) (.int .i64 0) (.string ⟨#[]⟩) (.slice none 0 0))
          generalize put4 W2 w.heap.size (.int .i64 0) (.int .i64 0) (.string ⟨#[]⟩) (.slice none 0 0) = W4 at *
          exact bodyPost_ret (v := .tuple #[(mkLeaf 0 0 ⟨#[]⟩).val, .int .i64 0, .bool false]) (by simp [results, Tryz.results53, go_sem, z0, z1, z2, z3, Vl.val, Vl.cells, Vl.kind, Vl.num, Vl.text, Vl.sl, Vl.addr, Vl.items, Vl.cap]) rfl ⟨0, 0, ⟨#[]⟩, 0, false, rfl, I64.zero, I64.zero, Nat.zero_le _, Nat.zero_le _, .inr ⟨rfl, by rw [HL.out]; exact HS.out⟩, hb4⟩
      · have HS : Hid (scalP (c :: r) = none) := by show _ = _; rw [scalP, if_neg h105, if_neg h115]
        have b2 : ((c.toNat : Int) != 115) = true := by
          rw [bne_iff_ne]; intro h; exact h115 (UInt8.toNat_inj.1 (by have : (115 : UInt8).toNat = 115 := rfl; omega))
        clear h105 h115
        go_enter Tryz.func53, Tryz.ntmps53
        go_wp2_with fail
        refine HF.out.mono ?_
        generalize (w.alloc (.cells #[.int .i64 0, .int .i64 0, .string ⟨#[]⟩, .slice none 0 0] 24)) = W1 at *
        rintro e W2 ⟨n, m, ok, rfl, hn, hm, hres, hb2⟩
        have hh2 : W2.heap[w.heap.size]? = _ := (hb2.block _ hlt).trans hh1
        have HH2 := hiq hh2
        obtain ⟨e0, e1, e2, e3, f2⟩ := box_cells hh2
        have hbA := hb1.trans (hb2.mono (Nat.le_of_lt hlt))
        clear hh2 hh1 hb1 hb2 hres
        go_wp2
        have hb4 := put4_below hbA (Nat.le_refl _) (.int .i64 0) (.int .i64 0) (.string ⟨#[]⟩) (.slice none 0 0)
        obtain ⟨z0, z1, z2, z3, -⟩ := box_cells (put4_at HH2.out (.int .i64 0) (.int .i64 0) (.string ⟨#[]⟩) (.slice none 0 0))
        change bodyPost _ _ _ _ _ (put4 W2 w.heap.size (.int .i64 0) (.int .i64 0) (.string ⟨#[]⟩) (.slice none 0 0))
        generalize put4 W2 w.heap.size (.int .i64 0) (.int .i64 0) (.string ⟨#[]⟩) (.slice none 0 0) = W4 at *
        exact bodyPost_ret (v := .tuple #[(mkLeaf 0 0 ⟨#[]⟩).val, .int .i64 0, .bool false]) (by simp [results, Tryz.results53, go_sem, z0, z1, z2, z3, Vl.val, Vl.cells, Vl.kind, Vl.num, Vl.text, Vl.sl, Vl.addr, Vl.items, Vl.cap]) rfl ⟨0, 0, ⟨#[]⟩, 0, false, rfl, I64.zero, I64.zero, Nat.zero_le _, Nat.zero_le _, .inr ⟨rfl, by rw [HL.out]; exact HS.out⟩, hb4⟩
end Go.Proofs.YtlbcmeebcfalpaaGreatDoor
