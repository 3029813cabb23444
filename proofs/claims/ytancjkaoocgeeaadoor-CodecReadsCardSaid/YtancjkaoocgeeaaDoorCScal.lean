/- scalar of the program. -/
import Derived.Test.YtancjkaoocgeeaaDoorCNumW
import Derived.Test.YtancjkaoocgeeaaDoorCMk
import Derived.Test.YtancjkaoocgeeaaDoorCList
namespace Go.Proofs.YtancjkaoocgeeaaDoor
open Go.RowKit

/-- A value without items. -/
abbrev mkLeaf (k n : Int) (t : ByteArray) : Vl := .mk k n t none 0 []
theorem leaf_er (k n : Int) (t : ByteArray) : (mkLeaf k n t).er = .mk k n t [] := by rw [Vl.er, Vl.erL]
/-- What scalar answers. -/
def ScalPost (s : ByteArray) (w : World) (en : Ending) (w' : World) : Prop := ∃ (k n : Int) (t rest : ByteArray) (ok : Bool), en = .returned (.tuple #[(mkLeaf k n t).val, .string rest, .bool ok]) ∧ I64 k ∧ I64 n ∧ t.size ≤ s.size ∧
  ((ok = true ∧ scalP s.data.toList = some (.mk k n t [], rest.data.toList)) ∨ (ok = false ∧ scalP s.data.toList = none)) ∧ Below w.heap.size w w'
theorem bytes_eq {s : ByteArray} {l : List UInt8} (h : s.data.toList = l) : s = ⟨l.toArray⟩ := by
  obtain ⟨⟨x⟩⟩ := s; subst h; rfl
theorem numP_len {e : UInt8} (he : e ≠ 45 ∧ (e.toNat < 48 ∨ 57 < e.toNat)) {s r : List UInt8} {n : Int} (h : numP e s = some (n, r)) : r.length ≤ s.length := by
  obtain ⟨_, rfl⟩ := (numP_iff e he s r n).1 h
  simp; omega
theorem box_cells {W : World} {b : Nat} {c0 c1 c2 c3 : Value} {t : TypeId} (h : W.heap[b]? = some (.cells #[c0, c1, c2, c3] t (0, 0))) :
    W.cell? ⟨b, 0, none⟩ = some c0 ∧ W.cell? ⟨b, 1, none⟩ = some c1 ∧ W.cell? ⟨b, 2, none⟩ = some c2 ∧ W.cell? ⟨b, 3, none⟩ = some c3 ∧ ∀ j, W.frozen? ⟨b, j, none⟩ = false :=
  ⟨by rw [Lib.cell_of_heap h]; rfl, by rw [Lib.cell_of_heap h]; rfl, by rw [Lib.cell_of_heap h]; rfl, by rw [Lib.cell_of_heap h]; rfl, fun j => Lib.frozen_of_heap h j⟩
set_option maxRecDepth 100000 in
set_option maxHeartbeats 4000000 in
theorem scalar_any (s : ByteArray) (hs : s.size ≤ 1048576) (w : World) (hE : Env w) : Calls Tryd.prog 46 #[.string s] w (ScalPost s w) := by
  have hb1 : Below w.heap.size w (w.alloc (.cells #[.int .i64 0, .int .i64 0, .string ⟨#[]⟩, .slice none 0 0] 24)) := (Below.refl _ _).alloc (Nat.le_refl _) _
  have hlt : w.heap.size < (w.alloc (.cells #[.int .i64 0, .int .i64 0, .string ⟨#[]⟩, .slice none 0 0] 24)).heap.size := by simp
  have hh1 : (w.alloc (.cells #[.int .i64 0, .int .i64 0, .string ⟨#[]⟩, .slice none 0 0] 24)).heap[w.heap.size]? = some (.cells #[.int .i64 0, .int .i64 0, .string ⟨#[]⟩, .slice none 0 0] 24 (0, 0)) := World.alloc_heap_new _ _
  have hE1 := hE.below hb1
  generalize hl : s.data.toList = L at *
  have HL := Lib.hid hl
  cases L with
  | nil =>
    obtain rfl : s = ⟨#[]⟩ := bytes_eq hl
    have HN : Hid (scalP [] = none) := rfl
    have z0 : (w.alloc (.cells #[.int .i64 0, .int .i64 0, .string ⟨#[]⟩, .slice none 0 0] 24)).cell? ⟨w.heap.size, 0, none⟩ = some (.int .i64 0) := by rw [Lib.cell_of_heap hh1]; rfl
    have z1 : (w.alloc (.cells #[.int .i64 0, .int .i64 0, .string ⟨#[]⟩, .slice none 0 0] 24)).cell? ⟨w.heap.size, 1, none⟩ = some (.int .i64 0) := by rw [Lib.cell_of_heap hh1]; rfl
    have z2 : (w.alloc (.cells #[.int .i64 0, .int .i64 0, .string ⟨#[]⟩, .slice none 0 0] 24)).cell? ⟨w.heap.size, 2, none⟩ = some (.string ⟨#[]⟩) := by rw [Lib.cell_of_heap hh1]; rfl
    have z3 : (w.alloc (.cells #[.int .i64 0, .int .i64 0, .string ⟨#[]⟩, .slice none 0 0] 24)).cell? ⟨w.heap.size, 3, none⟩ = some (.slice none 0 0) := by rw [Lib.cell_of_heap hh1]; rfl
    clear hl hE hs hE1 hlt hh1
    go_enter Tryd.func46, Tryd.ntmps46
    go_wp2_with fail
    exact bodyPost_ret (v := .tuple #[(mkLeaf 0 0 ⟨#[]⟩).val, .string ⟨#[]⟩, .bool false]) (by simp [results, Tryd.results46, go_sem, z0, z1, z2, z3, Vl.val, Vl.cells, Vl.kind, Vl.num, Vl.text, Vl.sl, Vl.addr, Vl.items, Vl.cap]) rfl ⟨0, 0, ⟨#[]⟩, ⟨#[]⟩, false, rfl, I64.zero, I64.zero, Nat.zero_le _, .inr ⟨rfl, HN.out⟩, hb1⟩
  | cons c r =>
    have hsz : s.size = r.length + 1 := by have := congrArg List.length hl; simpa using this
    have hne : (s.toList.isEmpty) = false := by rw [Lib.toList_data, hl]; rfl
    have hc0 : s[0]'(by omega) = c := by
      have : s.data.toList[0]? = some c := by rw [hl]; rfl
      simpa [ByteArray.getElem_eq_getElem_data] using (Array.getElem?_eq_some_iff.1 (by simpa using this)).2
    have hx1 : (s.extract 1 (r.length + 1)).data.toList = r := by rw [← hsz, ext_list, hl, List.take_of_length_le (by simp; omega)]; rfl
    have hx2 : (s.extract 1 (r.length + 1)).size = r.length := (Array.length_toList).symm.trans (congrArg List.length hx1)
    have NUM : Hid (∀ e : UInt8, Calls Tryd.prog 57 #[.string (s.extract 1 (r.length + 1)), .int .u8 e.toNat] (w.alloc (.cells #[.int .i64 0, .int .i64 0, .string ⟨#[]⟩, .slice none 0 0] 24)) (NumPost e (s.extract 1 (r.length + 1)) (w.alloc (.cells #[.int .i64 0, .int .i64 0, .string ⟨#[]⟩, .slice none 0 0] 24)))) := fun e => number_any e _ (by omega) _ hE1
    have Z : Hid (∀ W : World, W.heap[w.heap.size]? = some (.cells #[.int .i64 0, .int .i64 0, .string ⟨#[]⟩, .slice none 0 0] 24 (0, 0)) → ∀ j, W.cell? ⟨w.heap.size, j, none⟩ = #[Value.int .i64 0, .int .i64 0, .string ⟨#[]⟩, .slice none 0 0][j]?) := fun W h j => by rw [Lib.cell_of_heap h]
    by_cases h105 : c = 105
    · subst h105
      have F := NUM.out 59
      change Calls _ _ #[_, .int .u8 59] _ _ at F
      have HF := Lib.hid F
      clear F NUM hl hE hE1
      go_enter Tryd.func46, Tryd.ntmps46
      go_wp2_with fail
      refine HF.out.mono ?_
      generalize (w.alloc (.cells #[.int .i64 0, .int .i64 0, .string ⟨#[]⟩, .slice none 0 0] 24)) = W1 at *
      rintro e W2 ⟨n, rest, ok, rfl, hn, hres, hb2⟩
      have hh2 : W2.heap[w.heap.size]? = _ := (hb2.block _ hlt).trans hh1
      have FI : Hid (Calls Tryd.prog 23 #[.int .i64 n] W2 fun e w' => e = .returned (.agg #[.int .i64 1, .int .i64 n, .string ⟨#[]⟩, .slice none 0 0]) ∧ Below W2.heap.size W2 w') := int_any n W2
      have HH2 := Lib.hid hh2
      have hlt2 := hb2.size
      have f0 : ∀ j, W2.frozen? ⟨w.heap.size, j, none⟩ = false := fun j => Lib.frozen_of_heap hh2 j
      clear hh2 hh1
      have HRES := Lib.hid hres
      clear hres
      go_wp2_with fail
      refine FI.out.mono ?_
      rintro e W3 ⟨rfl, hb3⟩
      have hh3 : W3.heap[w.heap.size]? = _ := (hb3.block _ (by omega)).trans HH2.out
      obtain ⟨e0, e1, e2, e3, f3⟩ := box_cells hh3
      have HH3 := Lib.hid hh3
      have hbA := (hb1.trans (hb2.mono (Nat.le_of_lt hlt))).trans (hb3.mono (by omega))
      clear hh3 f0
      go_wp2
      have hb4 := put4_below hbA (Nat.le_refl _) (.int .i64 1) (.int .i64 n) (.string ⟨#[]⟩) (.slice none 0 0)
      obtain ⟨z0, z1, z2, z3, -⟩ := box_cells (put4_at HH3.out (.int .i64 1) (.int .i64 n) (.string ⟨#[]⟩) (.slice none 0 0))
      change bodyPost _ _ _ _ _ (put4 W3 w.heap.size (.int .i64 1) (.int .i64 n) (.string ⟨#[]⟩) (.slice none 0 0))
      generalize put4 W3 w.heap.size (.int .i64 1) (.int .i64 n) (.string ⟨#[]⟩) (.slice none 0 0) = W4 at *
      refine bodyPost_ret (v := .tuple #[(mkLeaf 1 n ⟨#[]⟩).val, .string rest, .bool ok]) (by simp [results, Tryd.results46, go_sem, z0, z1, z2, z3, Vl.val, Vl.cells, Vl.kind, Vl.num, Vl.text, Vl.sl, Vl.addr, Vl.items, Vl.cap]) rfl ⟨1, n, ⟨#[]⟩, rest, ok, rfl, i64_1, hn, Nat.zero_le _, ?_, hb4⟩
      rw [HL.out, scalP, if_pos rfl]
      have HR := HRES.out
      rw [hx1] at HR
      rcases HR with ⟨rfl, h⟩ | ⟨rfl, h⟩
      · exact .inl ⟨rfl, by rw [h]; rfl⟩
      · exact .inr ⟨rfl, by rw [h]; rfl⟩
    · by_cases h115 : c = 115
      · subst h115
        have F := NUM.out 58
        change Calls _ _ #[_, .int .u8 58] _ _ at F
        have HF := Lib.hid F
        clear F NUM hl hE hE1 h105
        go_enter Tryd.func46, Tryd.ntmps46
        go_wp2_with fail
        refine HF.out.mono ?_
        generalize (w.alloc (.cells #[.int .i64 0, .int .i64 0, .string ⟨#[]⟩, .slice none 0 0] 24)) = W1 at *
        rintro e W2 ⟨n, rest, ok, rfl, hn, hres, hb2⟩
        rw [hx1] at hres
        have hh2 : W2.heap[w.heap.size]? = _ := (hb2.block _ hlt).trans hh1
        have HH2 := Lib.hid hh2
        have hlt2 := hb2.size
        obtain ⟨e0, e1, e2, e3, f2⟩ := box_cells hh2
        have hbA := hb1.trans (hb2.mono (Nat.le_of_lt hlt))
        clear hh2 hh1 hb1 hb2
        have fin : Hid (∀ W : World, Below w.heap.size w W → W.heap[w.heap.size]? = some (.cells #[.int .i64 0, .int .i64 0, .string ⟨#[]⟩, .slice none 0 0] 24 (0, 0)) → scalP (115 :: r) = none → True) := fun _ _ _ _ => trivial
        rcases hres with ⟨rfl, hres⟩ | ⟨rfl, hres⟩
        · have HRES := Lib.hid hres
          clear hres
          by_cases hn0 : n < 0
          · have dn : decide (n < 0) = true := by simpa using hn0
            have HS : Hid (scalP (115 :: r) = none) := by show _ = _; rw [scalP, if_neg (by decide), if_pos rfl, HRES.out]; exact if_pos (.inl hn0)
            clear hn0
            go_wp2
            have hb4 := put4_below hbA (Nat.le_refl _) (.int .i64 0) (.int .i64 0) (.string ⟨#[]⟩) (.slice none 0 0)
            obtain ⟨z0, z1, z2, z3, -⟩ := box_cells (put4_at HH2.out (.int .i64 0) (.int .i64 0) (.string ⟨#[]⟩) (.slice none 0 0))
            change bodyPost _ _ _ _ _ (put4 W2 w.heap.size (.int .i64 0) (.int .i64 0) (.string ⟨#[]⟩) (.slice none 0 0))
            generalize put4 W2 w.heap.size (.int .i64 0) (.int .i64 0) (.string ⟨#[]⟩) (.slice none 0 0) = W4 at *
            exact bodyPost_ret (v := .tuple #[(mkLeaf 0 0 ⟨#[]⟩).val, .string ⟨#[]⟩, .bool false]) (by simp [results, Tryd.results46, go_sem, z0, z1, z2, z3, Vl.val, Vl.cells, Vl.kind, Vl.num, Vl.text, Vl.sl, Vl.addr, Vl.items, Vl.cap]) rfl ⟨0, 0, ⟨#[]⟩, ⟨#[]⟩, false, rfl, I64.zero, I64.zero, Nat.zero_le _, .inr ⟨rfl, by rw [HL.out]; exact HS.out⟩, hb4⟩
          · have dn : decide (n < 0) = false := by simpa using hn0
            by_cases hn1 : (rest.size : Int) < n
            · have dn1 : decide ((rest.size : Int) < n) = true := by simpa using hn1
              have HS : Hid (scalP (115 :: r) = none) := by show _ = _; rw [scalP, if_neg (by decide), if_pos rfl, HRES.out]; exact if_pos (.inr (by rw [show rest.data.toList.length = rest.size from Array.length_toList]; exact hn1))
              clear hn0 hn1
              go_wp2
              have hb4 := put4_below hbA (Nat.le_refl _) (.int .i64 0) (.int .i64 0) (.string ⟨#[]⟩) (.slice none 0 0)
              obtain ⟨z0, z1, z2, z3, -⟩ := box_cells (put4_at HH2.out (.int .i64 0) (.int .i64 0) (.string ⟨#[]⟩) (.slice none 0 0))
              change bodyPost _ _ _ _ _ (put4 W2 w.heap.size (.int .i64 0) (.int .i64 0) (.string ⟨#[]⟩) (.slice none 0 0))
              generalize put4 W2 w.heap.size (.int .i64 0) (.int .i64 0) (.string ⟨#[]⟩) (.slice none 0 0) = W4 at *
              exact bodyPost_ret (v := .tuple #[(mkLeaf 0 0 ⟨#[]⟩).val, .string ⟨#[]⟩, .bool false]) (by simp [results, Tryd.results46, go_sem, z0, z1, z2, z3, Vl.val, Vl.cells, Vl.kind, Vl.num, Vl.text, Vl.sl, Vl.addr, Vl.items, Vl.cap]) rfl ⟨0, 0, ⟨#[]⟩, ⟨#[]⟩, false, rfl, I64.zero, I64.zero, Nat.zero_le _, .inr ⟨rfl, by rw [HL.out]; exact HS.out⟩, hb4⟩
            · obtain ⟨m, rfl⟩ : ∃ m : Nat, n = (m : Int) := ⟨n.toNat, by omega⟩
              have dn1 : decide ((rest.size : Int) < (m : Int)) = false := by simpa using hn1
              have hmr : m ≤ rest.size := by omega
              have hrs := numP_len (by decide) HRES.out
              have hrl : rest.data.toList.length = rest.size := Array.length_toList
              have hxm : (rest.extract 0 m).data.toList = rest.data.toList.take m := by rw [ext_list, List.drop_zero, Nat.sub_zero]
              have hxr : (rest.extract m rest.size).data.toList = rest.data.toList.drop m := by rw [ext_list, List.take_of_length_le (by simp)]
              have hxs : (rest.extract 0 m).size = m := by
                rw [show (rest.extract 0 m).size = (rest.extract 0 m).data.toList.length from (Array.length_toList).symm, hxm, List.length_take]; omega
              have HS : Hid (scalP (115 :: r) = some (.mk 2 0 (rest.extract 0 m) [], (rest.extract m rest.size).data.toList)) := by
                show _ = _
                rw [scalP, if_neg (by decide), if_pos rfl, HRES.out]
                simp only []
                rw [if_neg (by omega), hxr, bytes_eq hxm]; rfl
              have FT : Hid (∀ W : World, Calls Tryd.prog 25 #[.string (rest.extract 0 m)] W fun e w' => e = .returned (.agg #[.int .i64 2, .int .i64 0, .string (rest.extract 0 m), .slice none 0 0]) ∧ Below W.heap.size W w') := fun W => text_any (rest.extract 0 m) W
              have hss : (rest.extract 0 m).size ≤ s.size := by omega
              have HSS := Lib.hid hss
              clear hxm hxr hxs hss hrl hrs hn0 hn1
              go_wp2
              obtain ⟨X, Wf, hX, -, hS2⟩ := family (fun W => Below w.heap.size w W) W2 hbA
              have HS2 := Lib.hid hS2
              clear hS2
              refine wp_region_reads (Wf := Wf) 8 [0, 1, 2, 4, 5, 6] [3, 7] (by kernel_rfl) (by kernel_rfl) (fun _ _ d _ _ h => by cases d <;> exact h) (HS2.out _ hbA.drew) ?_
              simp only [pickOps, List.filterMap_cons, List.filterMap_nil, List.getElem?_cons_zero, List.getElem?_cons_succ]
              repeat (refine wpReads_step (fun K hK => ?_); unfold rOp; go_simp; (refine hK _ ?_; clear hK K))
              refine wpReads_nil (wpActs_cons ?_)
              go_wp2_with fail
              refine (FT.out _).mono ?_
              rintro e W3 ⟨rfl, hb3⟩
              have hh3 : W3.heap[w.heap.size]? = _ := (hb3.block _ (by show w.heap.size < W2.heap.size; omega)).trans (show W2.drew.heap[w.heap.size]? = _ from HH2.out)
              obtain ⟨g0, g1, g2, g3, f3⟩ := box_cells hh3
              have HH3 := Lib.hid hh3
              have hbB := hbA.drew.trans (hb3.mono (by show w.heap.size ≤ W2.heap.size; omega))
              clear hh3
              go_wp2_with fail
              refine ⟨HS2.out _ hbB, wpActs_cons ?_⟩
              go_wp2_with fail
              have hb4 := put4_below hbB (Nat.le_refl _) (.int .i64 2) (.int .i64 0) (.string (rest.extract 0 m)) (.slice none 0 0)
              obtain ⟨z0, z1, z2, z3, -⟩ := box_cells (put4_at HH3.out (.int .i64 2) (.int .i64 0) (.string (rest.extract 0 m)) (.slice none 0 0))
              refine ⟨HS2.out _ hb4, wpActs_nil ?_⟩
              change wpList _ _ _ _ _ (put4 W3 w.heap.size (.int .i64 2) (.int .i64 0) (.string (rest.extract 0 m)) (.slice none 0 0))
              generalize put4 W3 w.heap.size (.int .i64 2) (.int .i64 0) (.string (rest.extract 0 m)) (.slice none 0 0) = W4 at *
              go_wp2
              exact bodyPost_ret (v := .tuple #[(mkLeaf 2 0 (rest.extract 0 m)).val, .string (rest.extract m rest.size), .bool true]) (by simp [results, Tryd.results46, go_sem, z0, z1, z2, z3, Vl.val, Vl.cells, Vl.kind, Vl.num, Vl.text, Vl.sl, Vl.addr, Vl.items, Vl.cap]) rfl ⟨2, 0, rest.extract 0 m, rest.extract m rest.size, true, rfl, i64_2, I64.zero, HSS.out, .inl ⟨rfl, by rw [HL.out]; exact HS.out⟩, hb4⟩
        · have HS : Hid (scalP (115 :: r) = none) := by show _ = _; rw [scalP, if_neg (by decide), if_pos rfl, hres]
          clear hres
          go_wp2
          have hb4 := put4_below hbA (Nat.le_refl _) (.int .i64 0) (.int .i64 0) (.string ⟨#[]⟩) (.slice none 0 0)
          obtain ⟨z0, z1, z2, z3, -⟩ := box_cells (put4_at HH2.out (.int .i64 0) (.int .i64 0) (.string ⟨#[]⟩) (.slice none 0 0))
          change bodyPost _ _ _ _ _ (put4 W2 w.heap.size (.int .i64 0) (.int .i64 0) (.string ⟨#[]⟩) (.slice none 0 0))
          generalize put4 W2 w.heap.size (.int .i64 0) (.int .i64 0) (.string ⟨#[]⟩) (.slice none 0 0) = W4 at *
          exact bodyPost_ret (v := .tuple #[(mkLeaf 0 0 ⟨#[]⟩).val, .string ⟨#[]⟩, .bool false]) (by simp [results, Tryd.results46, go_sem, z0, z1, z2, z3, Vl.val, Vl.cells, Vl.kind, Vl.num, Vl.text, Vl.sl, Vl.addr, Vl.items, Vl.cap]) rfl ⟨0, 0, ⟨#[]⟩, ⟨#[]⟩, false, rfl, I64.zero, I64.zero, Nat.zero_le _, .inr ⟨rfl, by rw [HL.out]; exact HS.out⟩, hb4⟩
      · have hs0 : Hid (scalP (c :: r) = none) := by show _ = _; rw [scalP, if_neg h105, if_neg h115]
        have b1 : ((c.toNat : Int) == 105) = false := by
          rw [beq_eq_false_iff_ne]; intro h; exact h105 (UInt8.toNat_inj.1 (by have : (105 : UInt8).toNat = 105 := rfl; omega))
        have b2 : ((c.toNat : Int) == 115) = false := by
          rw [beq_eq_false_iff_ne]; intro h; exact h115 (UInt8.toNat_inj.1 (by have : (115 : UInt8).toNat = 115 := rfl; omega))
        clear hl hE hE1 h105 h115 NUM
        obtain ⟨z0, z1, z2, z3, -⟩ := box_cells hh1
        go_enter Tryd.func46, Tryd.ntmps46
        go_wp2_with fail
        exact bodyPost_ret (v := .tuple #[(mkLeaf 0 0 ⟨#[]⟩).val, .string ⟨#[]⟩, .bool false]) (by simp [results, Tryd.results46, go_sem, z0, z1, z2, z3, Vl.val, Vl.cells, Vl.kind, Vl.num, Vl.text, Vl.sl, Vl.addr, Vl.items, Vl.cap]) rfl ⟨0, 0, ⟨#[]⟩, ⟨#[]⟩, false, rfl, I64.zero, I64.zero, Nat.zero_le _, .inr ⟨rfl, by rw [HL.out]; exact hs0.out⟩, hb1⟩
end Go.Proofs.YtancjkaoocgeeaaDoor
