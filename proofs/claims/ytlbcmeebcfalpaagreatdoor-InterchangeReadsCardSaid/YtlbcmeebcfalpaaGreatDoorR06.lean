/- Joined: CScal, IRdr. -/
import Derived.Test.YtlbcmeebcfalpaaGreatDoorR05
import Derived.Test.YtlbcmeebcfalpaaGreatDoorR04
import Derived.Laws.EntriesVeiled
set_option linter.unusedVariables false
set_option linter.unusedSimpArgs false
set_option maxRecDepth 100000
set_option maxHeartbeats 16000000
namespace Go.Proofs.YtlbcmeebcfalpaaGreatDoor
open Go.RowKit

/-- A value without items. -/
abbrev mkLeaf (k n : Int) (t : ByteArray) : Vl := .mk k n t none 0 []
theorem leaf_er (k n : Int) (t : ByteArray) : (mkLeaf k n t).er = .mk k n t [] := by rw [Vl.er, Vl.erL]
/-- What scalar answers. -/
def ScalPost (s : ByteArray) (w : World) (en : Ending) (w' : World) : Prop := ∃ (k n : Int) (t rest : ByteArray) (ok : Bool), en = .returned (.tuple #[(mkLeaf k n t).val, .string rest, .bool ok]) /\ I64 k /\ I64 n /\ t.size <= s.size /\
  ((ok = true /\ scalP s.data.toList = some (.mk k n t [], rest.data.toList)) \/ (ok = false /\ scalP s.data.toList = none)) /\ Below w.heap.size w w'
theorem bytes_eq {s : ByteArray} {l : List UInt8} (h : s.data.toList = l) : s = ⟨l.toArray⟩ := by
  obtain ⟨⟨x⟩⟩ := s; subst h; rfl
theorem numP_len {e : UInt8} (he : e ≠ 45 /\ (e.toNat < 48 \/ 57 < e.toNat)) {s r : List UInt8} {n : Int} (h : numP e s = some (n, r)) : r.length <= s.length := by
  obtain ⟨_, rfl⟩ := (numP_iff e he s r n).1 h
  simp; omega
theorem box_cells {W : World} {b : Nat} {c0 c1 c2 c3 : Value} {t : TypeId} (h : W.heap[b]? = some (.cells #[c0, c1, c2, c3] t (0, 0))) :
    W.cell? ⟨b, 0, none⟩ = some c0 /\ W.cell? ⟨b, 1, none⟩ = some c1 /\ W.cell? ⟨b, 2, none⟩ = some c2 /\ W.cell? ⟨b, 3, none⟩ = some c3 /\ ∀ j, W.frozen? ⟨b, j, none⟩ = false :=
  ⟨by rw [Lib.cell_of_heap h]; rfl, by rw [Lib.cell_of_heap h]; rfl, by rw [Lib.cell_of_heap h]; rfl, by rw [Lib.cell_of_heap h]; rfl, fun j => Lib.frozen_of_heap h j⟩
theorem scalar_any (s : ByteArray) (hs : s.size <= 1048576) (w : World) (hE : Env w) : Calls Tryz.prog 51 #[.string s] w (ScalPost s w) := by
  have hb1 : Below w.heap.size w (w.alloc (.cells #[.int .i64 0, .int .i64 0, .string ⟨#[]⟩, .slice none 0 0] 24)) := (Below.refl _ _).alloc (Nat.le_refl _) _
  have hlt : w.heap.size < (w.alloc (.cells #[.int .i64 0, .int .i64 0, .string ⟨#[]⟩, .slice none 0 0] 24)).heap.size := by simp
  have hh1 : (w.alloc (.cells #[.int .i64 0, .int .i64 0, .string ⟨#[]⟩, .slice none 0 0] 24)).heap[w.heap.size]? = some (.cells #[.int .i64 0, .int .i64 0, .string ⟨#[]⟩, .slice none 0 0] 24 (0, 0)) := World.alloc_heap_new _ _
  have hE1 := hE.below hb1
  generalize hl : s.data.toList = L at *
  have HL := hiq hl
  cases L with
  | nil =>
    obtain rfl : s = ⟨#[]⟩ := bytes_eq hl
    have HN : Hid (scalP [] = none) := rfl
    have z0 : (w.alloc (.cells #[.int .i64 0, .int .i64 0, .string ⟨#[]⟩, .slice none 0 0] 24)).cell? ⟨w.heap.size, 0, none⟩ = some (.int .i64 0) := by rw [Lib.cell_of_heap hh1]; rfl
    have z1 : (w.alloc (.cells #[.int .i64 0, .int .i64 0, .string ⟨#[]⟩, .slice none 0 0] 24)).cell? ⟨w.heap.size, 1, none⟩ = some (.int .i64 0) := by rw [Lib.cell_of_heap hh1]; rfl
    have z2 : (w.alloc (.cells #[.int .i64 0, .int .i64 0, .string ⟨#[]⟩, .slice none 0 0] 24)).cell? ⟨w.heap.size, 2, none⟩ = some (.string ⟨#[]⟩) := by rw [Lib.cell_of_heap hh1]; rfl
    have z3 : (w.alloc (.cells #[.int .i64 0, .int .i64 0, .string ⟨#[]⟩, .slice none 0 0] 24)).cell? ⟨w.heap.size, 3, none⟩ = some (.slice none 0 0) := by rw [Lib.cell_of_heap hh1]; rfl
    clear hl hE hs hE1 hlt hh1
    go_enter Tryz.func51, Tryz.ntmps51
    go_wp2_with fail
    exact bodyPost_ret (v := .tuple #[(mkLeaf 0 0 ⟨#[]⟩).val, .string ⟨#[]⟩, .bool false]) (by simp [results, Tryz.results51, go_sem, z0, z1, z2, z3, Vl.val, Vl.cells, Vl.kind, Vl.num, Vl.text, Vl.sl, Vl.addr, Vl.items, Vl.cap]) rfl ⟨0, 0, ⟨#[]⟩, ⟨#[]⟩, false, rfl, I64.zero, I64.zero, Nat.zero_le _, .inr ⟨rfl, HN.out⟩, hb1⟩
  | cons c r =>
    have hsz : s.size = r.length + 1 := by have := congrArg List.length hl; simpa using this
    have hne : (s.toList.isEmpty) = false := by rw [Lib.toList_data, hl]; rfl
    have hc0 : s[0]'(by omega) = c := by
      have : s.data.toList[0]? = some c := by rw [hl]; rfl
      simpa [ByteArray.getElem_eq_getElem_data] using (Array.getElem?_eq_some_iff.1 (by simpa using this)).2
    have hx1 : (s.extract 1 (r.length + 1)).data.toList = r := by rw [<- hsz, ext_list, hl, List.take_of_length_le (by simp; omega)]; rfl
    have hx2 : (s.extract 1 (r.length + 1)).size = r.length := (Array.length_toList).symm.trans (congrArg List.length hx1)
    have NUM : Hid (∀ e : UInt8, Calls Tryz.prog 147 #[.string (s.extract 1 (r.length + 1)), .int .u8 e.toNat] (w.alloc (.cells #[.int .i64 0, .int .i64 0, .string ⟨#[]⟩, .slice none 0 0] 24)) (NumPost e (s.extract 1 (r.length + 1)) (w.alloc (.cells #[.int .i64 0, .int .i64 0, .string ⟨#[]⟩, .slice none 0 0] 24)))) := fun e => number_any e _ (by omega) _ hE1
    have Z : Hid (∀ W : World, W.heap[w.heap.size]? = some (.cells #[.int .i64 0, .int .i64 0, .string ⟨#[]⟩, .slice none 0 0] 24 (0, 0)) -> ∀ j, W.cell? ⟨w.heap.size, j, none⟩ = #[Value.int .i64 0, .int .i64 0, .string ⟨#[]⟩, .slice none 0 0][j]?) := fun W h j => by rw [Lib.cell_of_heap h]
    by_cases h105 : c = 105
    · subst h105
      have F := NUM.out 59
      change Calls _ _ #[_, .int .u8 59] _ _ at F
      have HF := hiq F
      clear F NUM hl hE hE1
      go_enter Tryz.func51, Tryz.ntmps51
      go_wp2_with fail
      refine HF.out.mono ?_
      generalize (w.alloc (.cells #[.int .i64 0, .int .i64 0, .string ⟨#[]⟩, .slice none 0 0] 24)) = W1 at *
      rintro e W2 ⟨n, rest, ok, rfl, hn, hres, hb2⟩
      have hh2 : W2.heap[w.heap.size]? = _ := (hb2.block _ hlt).trans hh1
      have FI : Hid (Calls Tryz.prog 108 #[.int .i64 n] W2 fun e w' => e = .returned (.agg #[.int .i64 1, .int .i64 n, .string ⟨#[]⟩, .slice none 0 0]) /\ Below W2.heap.size W2 w') := int_any n W2
      have HH2 := hiq hh2
      have hlt2 := hb2.size
      have f0 : ∀ j, W2.frozen? ⟨w.heap.size, j, none⟩ = false := fun j => Lib.frozen_of_heap hh2 j
      clear hh2 hh1
      have HRES := hiq hres
      clear hres
      go_wp2_with fail
      refine FI.out.mono ?_
      rintro e W3 ⟨rfl, hb3⟩
      have hh3 : W3.heap[w.heap.size]? = _ := (hb3.block _ (by omega)).trans HH2.out
      obtain ⟨e0, e1, e2, e3, f3⟩ := box_cells hh3
      have HH3 := hiq hh3
      have hbA := (hb1.trans (hb2.mono (Nat.le_of_lt hlt))).trans (hb3.mono (by omega))
      clear hh3 f0
      go_wp2
      have hb4 := put4_below hbA (Nat.le_refl _) (.int .i64 1) (.int .i64 n) (.string ⟨#[]⟩) (.slice none 0 0)
      obtain ⟨z0, z1, z2, z3, -⟩ := box_cells (put4_at HH3.out (.int .i64 1) (.int .i64 n) (.string ⟨#[]⟩) (.slice none 0 0))
      change bodyPost _ _ _ _ _ (put4 W3 w.heap.size (.int .i64 1) (.int .i64 n) (.string ⟨#[]⟩) (.slice none 0 0))
      generalize put4 W3 w.heap.size (.int .i64 1) (.int .i64 n) (.string ⟨#[]⟩) (.slice none 0 0) = W4 at *
      refine bodyPost_ret (v := .tuple #[(mkLeaf 1 n ⟨#[]⟩).val, .string rest, .bool ok]) (by simp [results, Tryz.results51, go_sem, z0, z1, z2, z3, Vl.val, Vl.cells, Vl.kind, Vl.num, Vl.text, Vl.sl, Vl.addr, Vl.items, Vl.cap]) rfl ⟨1, n, ⟨#[]⟩, rest, ok, rfl, i64_1, hn, Nat.zero_le _, ?_, hb4⟩
      rw [HL.out, scalP, if_pos rfl]
      have HR := HRES.out
      rw [hx1] at HR
      rcases HR with ⟨rfl, h⟩ | ⟨rfl, h⟩
      · exact .inl ⟨rfl, by rw [h]; rfl⟩
      · exact .inr ⟨rfl, by rw [h]; rfl⟩
    · by_cases h115 : c = 115
      · subst h115
        have F := NUM.out 58
        change Calls _ _ #[_, .int .u8 58] _ _ at F
        have HF := hiq F
        clear F NUM hl hE hE1 h105
        go_enter Tryz.func51, Tryz.ntmps51
        go_wp2_with fail
        refine HF.out.mono ?_
        generalize (w.alloc (.cells #[.int .i64 0, .int .i64 0, .string ⟨#[]⟩, .slice none 0 0] 24)) = W1 at *
        rintro e W2 ⟨n, rest, ok, rfl, hn, hres, hb2⟩
        rw [hx1] at hres
        have hh2 : W2.heap[w.heap.size]? = _ := (hb2.block _ hlt).trans hh1
        have HH2 := hiq hh2
        have hlt2 := hb2.size
        obtain ⟨e0, e1, e2, e3, f2⟩ := box_cells hh2
        have hbA := hb1.trans (hb2.mono (Nat.le_of_lt hlt))
        clear hh2 hh1 hb1 hb2
        have fin : Hid (∀ W : World, Below w.heap.size w W -> W.heap[w.heap.size]? = some (.cells #[.int .i64 0, .int .i64 0, .string ⟨#[]⟩, .slice none 0 0] 24 (0, 0)) -> scalP (115 :: r) = none -> True) := fun _ _ _ _ => trivial
        rcases hres with ⟨rfl, hres⟩ | ⟨rfl, hres⟩
        · have HRES := hiq hres
          clear hres
          by_cases hn0 : n < 0
          · have dn : decide (n < 0) = true := by simpa using hn0
            have HS : Hid (scalP (115 :: r) = none) := by show _ = _; rw [scalP, if_neg (by decide), if_pos rfl, HRES.out]; exact if_pos (.inl hn0)
            clear hn0
            go_wp2
            have hb4 := put4_below hbA (Nat.le_refl _) (.int .i64 0) (.int .i64 0) (.string ⟨#[]⟩) (.slice none 0 0)
            obtain ⟨z0, z1, z2, z3, -⟩ := box_cells (put4_at HH2.out (.int .i64 0) (.int .i64 0) (.string ⟨#[]⟩) (.slice none 0 0))
            change bodyPost _ _ _ _ _ (put4 W2 w.heap.size (.int .i64 0) (.int .i64 0) (.string ⟨#[]⟩) (.slice none 0 0))
            generalize put4 W2 w.heap.size (.int .i64 0) (.int .i64 0) (.string ⟨#[]⟩) (.slice none 0 0) = W4 at *
            exact bodyPost_ret (v := .tuple #[(mkLeaf 0 0 ⟨#[]⟩).val, .string ⟨#[]⟩, .bool false]) (by simp [results, Tryz.results51, go_sem, z0, z1, z2, z3, Vl.val, Vl.cells, Vl.kind, Vl.num, Vl.text, Vl.sl, Vl.addr, Vl.items, Vl.cap]) rfl ⟨0, 0, ⟨#[]⟩, ⟨#[]⟩, false, rfl, I64.zero, I64.zero, Nat.zero_le _, .inr ⟨rfl, by rw [HL.out]; exact HS.out⟩, hb4⟩
          · have dn : decide (n < 0) = false := by simpa using hn0
            by_cases hn1 : (rest.size : Int) < n
            · have dn1 : decide ((rest.size : Int) < n) = true := by simpa using hn1
              have HS : Hid (scalP (115 :: r) = none) := by show _ = _; rw [scalP, if_neg (by decide), if_pos rfl, HRES.out]; exact if_pos (.inr (by rw [show rest.data.toList.length = rest.size from Array.length_toList]; exact hn1))
              clear hn0 hn1
              go_wp2
              have hb4 := put4_below hbA (Nat.le_refl _) (.int .i64 0) (.int .i64 0) (.string ⟨#[]⟩) (.slice none 0 0)
              obtain ⟨z0, z1, z2, z3, -⟩ := box_cells (put4_at HH2.out (.int .i64 0) (.int .i64 0) (.string ⟨#[]⟩) (.slice none 0 0))
              change bodyPost _ _ _ _ _ (put4 W2 w.heap.size (.int .i64 0) (.int .i64 0) (.string ⟨#[]⟩) (.slice none 0 0))
              generalize put4 W2 w.heap.size (.int .i64 0) (.int .i64 0) (.string ⟨#[]⟩) (.slice none 0 0) = W4 at *
              exact bodyPost_ret (v := .tuple #[(mkLeaf 0 0 ⟨#[]⟩).val, .string ⟨#[]⟩, .bool false]) (by simp [results, Tryz.results51, go_sem, z0, z1, z2, z3, Vl.val, Vl.cells, Vl.kind, Vl.num, Vl.text, Vl.sl, Vl.addr, Vl.items, Vl.cap]) rfl ⟨0, 0, ⟨#[]⟩, ⟨#[]⟩, false, rfl, I64.zero, I64.zero, Nat.zero_le _, .inr ⟨rfl, by rw [HL.out]; exact HS.out⟩, hb4⟩
            · obtain ⟨m, rfl⟩ : ∃ m : Nat, n = (m : Int) := ⟨n.toNat, by omega⟩
              have dn1 : decide ((rest.size : Int) < (m : Int)) = false := by simpa using hn1
              have hmr : m <= rest.size := by omega
              have hrs := numP_len (by decide) HRES.out
              have hrl : rest.data.toList.length = rest.size := Array.length_toList
              have hxm : (rest.extract 0 m).data.toList = rest.data.toList.take m := by rw [ext_list, List.drop_zero, Nat.sub_zero]
              have hxr : (rest.extract m rest.size).data.toList = rest.data.toList.drop m := by rw [ext_list, List.take_of_length_le (by simp)]
              have hxs : (rest.extract 0 m).size = m := by
                rw [show (rest.extract 0 m).size = (rest.extract 0 m).data.toList.length from (Array.length_toList).symm, hxm, List.length_take]; omega
              have HS : Hid (scalP (115 :: r) = some (.mk 2 0 (rest.extract 0 m) [], (rest.extract m rest.size).data.toList)) := by
                show _ = _
                rw [scalP, if_neg (by decide), if_pos rfl, HRES.out]
                simp only []
                rw [if_neg (by omega), hxr, bytes_eq hxm]; rfl
              have FT : Hid (∀ W : World, Calls Tryz.prog 96 #[.string (rest.extract 0 m)] W fun e w' => e = .returned (.agg #[.int .i64 2, .int .i64 0, .string (rest.extract 0 m), .slice none 0 0]) /\ Below W.heap.size W w') := fun W => text_any (rest.extract 0 m) W
              have hss : (rest.extract 0 m).size <= s.size := by omega
              have HSS := hiq hss
              clear hxm hxr hxs hss hrl hrs hn0 hn1
              go_wp2
              obtain ⟨X, Wf, hX, -, hS2⟩ := family (fun W => Below w.heap.size w W) W2 hbA
              have HS2 := hiq hS2
              clear hS2
              refine wp_region_reads (Wf := Wf) 8 [0, 1, 2, 4, 5, 6] [3, 7] (by kernel_rfl) (by kernel_rfl) (fun _ _ d _ _ h => by cases d <;> exact h) (HS2.out _ hbA.drew) ?_
              simp only [pickOps, List.filterMap_cons, List.filterMap_nil, List.getElem?_cons_zero, List.getElem?_cons_succ]
              repeat (refine wpReads_step (fun K hK => ?_); unfold rOp; go_simp; (refine hK _ ?_; clear hK K))
              refine wpReads_nil (wpActs_cons ?_)
              go_wp2_with fail
              refine (FT.out _).mono ?_
              rintro e W3 ⟨rfl, hb3⟩
              have hh3 : W3.heap[w.heap.size]? = _ := (hb3.block _ (by show w.heap.size < W2.heap.size; omega)).trans (show W2.drew.heap[w.heap.size]? = _ from HH2.out)
              obtain ⟨g0, g1, g2, g3, f3⟩ := box_cells hh3
              have HH3 := hiq hh3
              have hbB := hbA.drew.trans (hb3.mono (by show w.heap.size <= W2.heap.size; omega))
              clear hh3
              go_wp2_with fail
              refine ⟨HS2.out _ hbB, wpActs_cons ?_⟩
              go_wp2_with fail
              have hb4 := put4_below hbB (Nat.le_refl _) (.int .i64 2) (.int .i64 0) (.string (rest.extract 0 m)) (.slice none 0 0)
              obtain ⟨z0, z1, z2, z3, -⟩ := box_cells (put4_at HH3.out (.int .i64 2) (.int .i64 0) (.string (rest.extract 0 m)) (.slice none 0 0))
              refine ⟨HS2.out _ hb4, wpActs_nil ?_⟩
              change wpList _ _ _ _ _ (put4 W3 w.heap.size (.int .i64 2) (.int .i64 0) (.string (rest.extract 0 m)) (.slice none 0 0))
              generalize put4 W3 w.heap.size (.int .i64 2) (.int .i64 0) (.string (rest.extract 0 m)) (.slice none 0 0) = W4 at *
              go_wp2
              exact bodyPost_ret (v := .tuple #[(mkLeaf 2 0 (rest.extract 0 m)).val, .string (rest.extract m rest.size), .bool true]) (by simp [results, Tryz.results51, go_sem, z0, z1, z2, z3, Vl.val, Vl.cells, Vl.kind, Vl.num, Vl.text, Vl.sl, Vl.addr, Vl.items, Vl.cap]) rfl ⟨2, 0, rest.extract 0 m, rest.extract m rest.size, true, rfl, i64_2, I64.zero, HSS.out, .inl ⟨rfl, by rw [HL.out]; exact HS.out⟩, hb4⟩
        · have HS : Hid (scalP (115 :: r) = none) := by show _ = _; rw [scalP, if_neg (by decide), if_pos rfl, hres]
          clear hres
          go_wp2
          have hb4 := put4_below hbA (Nat.le_refl _) (.int .i64 0) (.int .i64 0) (.string ⟨#[]⟩) (.slice none 0 0)
          obtain ⟨z0, z1, z2, z3, -⟩ := box_cells (put4_at HH2.out (.int .i64 0) (.int .i64 0) (.string ⟨#[]⟩) (.slice none 0 0))
          change bodyPost _ _ _ _ _ (put4 W2 w.heap.size (.int .i64 0) (.int .i64 0) (.string ⟨#[]⟩) (.slice none 0 0))
          generalize put4 W2 w.heap.size (.int .i64 0) (.int .i64 0) (.string ⟨#[]⟩) (.slice none 0 0) = W4 at *
          exact bodyPost_ret (v := .tuple #[(mkLeaf 0 0 ⟨#[]⟩).val, .string ⟨#[]⟩, .bool false]) (by simp [results, Tryz.results51, go_sem, z0, z1, z2, z3, Vl.val, Vl.cells, Vl.kind, Vl.num, Vl.text, Vl.sl, Vl.addr, Vl.items, Vl.cap]) rfl ⟨0, 0, ⟨#[]⟩, ⟨#[]⟩, false, rfl, I64.zero, I64.zero, Nat.zero_le _, .inr ⟨rfl, by rw [HL.out]; exact HS.out⟩, hb4⟩
      · have hs0 : Hid (scalP (c :: r) = none) := by show _ = _; rw [scalP, if_neg h105, if_neg h115]
        have b1 : ((c.toNat : Int) == 105) = false := by
          rw [beq_eq_false_iff_ne]; intro h; exact h105 (UInt8.toNat_inj.1 (by have : (105 : UInt8).toNat = 105 := rfl; omega))
        have b2 : ((c.toNat : Int) == 115) = false := by
          rw [beq_eq_false_iff_ne]; intro h; exact h115 (UInt8.toNat_inj.1 (by have : (115 : UInt8).toNat = 115 := rfl; omega))
        clear hl hE hE1 h105 h115 NUM
        obtain ⟨z0, z1, z2, z3, -⟩ := box_cells hh1
        go_enter Tryz.func51, Tryz.ntmps51
        go_wp2_with fail
        exact bodyPost_ret (v := .tuple #[(mkLeaf 0 0 ⟨#[]⟩).val, .string ⟨#[]⟩, .bool false]) (by simp [results, Tryz.results51, go_sem, z0, z1, z2, z3, Vl.val, Vl.cells, Vl.kind, Vl.num, Vl.text, Vl.sl, Vl.addr, Vl.items, Vl.cap]) rfl ⟨0, 0, ⟨#[]⟩, ⟨#[]⟩, false, rfl, I64.zero, I64.zero, Nat.zero_le _, .inr ⟨rfl, by rw [HL.out]; exact hs0.out⟩, hb1⟩
end Go.Proofs.YtlbcmeebcfalpaaGreatDoor
namespace Go.Proofs.YtlbcmeebcfalpaaGreatDoor
open Go.RowKit

/-- A reader lies at block rb, its flag in block wb. -/
structure Rdr (w : World) (rb wb : Nat) (a : Option Addr) (n c : Nat) (g : Bool) : Prop where
  box : w.heap[rb]? = some (.cells #[.slice a n c, .pointer (some ⟨wb, 0, none⟩)] 74 (0, 0))
  flag : w.heap[wb]? = some (.cells #[.bool g] 4 (0, 0))
  ne : rb ≠ wb
abbrev Two (rb wb : Nat) : Nat -> Prop := fun b => b = rb \/ b = wb
/-- What is left behind one item that was to be read as a type. -/
def Got (T : Ty) (l : List Vl) (g : Bool) (d : Dv) (l' : List Vl) (g' : Bool) : Prop :=
  l' <:+ l /\ ((g' = true /\ (g = true \/ ∀ v r, l = v :: r -> ¬ Fit T v.er)) \/ (g' = false /\ g = false /\ ∃ v, l = v :: l' /\ Fit T v.er /\ d.toV = v.er))
/-- The same for several items. -/
def GotL (ts : List Ty) (l : List Vl) (g : Bool) (ds : List Dv) (l' : List Vl) (g' : Bool) : Prop :=
  l' <:+ l /\ ((g' = true /\ (g = true \/ ∀ us r, l = us ++ r -> ¬ FitL ts (us.map Vl.er))) \/ (g' = false /\ g = false /\ ∃ us, l = us ++ l' /\ FitL ts (us.map Vl.er) /\ Dv.toVL ds = us.map Vl.er))
theorem GotL.nil (l : List Vl) (g : Bool) : GotL [] l g [] l g := by
  refine ⟨List.suffix_refl _, ?_⟩
  cases g with
  | true => exact .inl ⟨rfl, .inl rfl⟩
  | false => exact .inr ⟨rfl, rfl, [], rfl, .nil, rfl⟩
theorem GotL.cons {T : Ty} {ts : List Ty} {l l1 l2 : List Vl} {g g1 g2 : Bool} {d : Dv} {ds : List Dv} (h : Got T l g d l1 g1) (k : GotL ts l1 g1 ds l2 g2) : GotL (T :: ts) l g (d :: ds) l2 g2 := by
  refine ⟨k.1.trans h.1, ?_⟩
  have hx : ∀ us r, l = us ++ r -> FitL (T :: ts) (us.map Vl.er) -> ∃ v us', us = v :: us' /\ Fit T v.er /\ FitL ts (us'.map Vl.er) := fun us r _ hf => by
    cases us with
    | nil => cases hf
    | cons v us => rw [List.map_cons, fitL_cons] at hf; exact ⟨v, us, rfl, hf⟩
  rcases h.2 with ⟨hg1, hb⟩ | ⟨hg1, hg, v, hl, hf, hd⟩
  · rcases k.2 with ⟨hg2, _⟩ | ⟨_, hn, _⟩
    · refine .inl ⟨hg2, hb.imp id fun hb us r e hf => ?_⟩
      obtain ⟨v, us', rfl, hv, _⟩ := hx us r e hf
      exact hb v _ e hv
    · rw [hg1] at hn; cases hn
  · rcases k.2 with ⟨hg2, hb⟩ | ⟨hg2, _, us, he, hfs, hds⟩
    · refine .inl ⟨hg2, .inr fun us r e hf' => ?_⟩
      obtain ⟨v', us', rfl, hv, hr⟩ := hx us r e hf'
      rw [hl] at e
      injection e with e1 e2
      rcases hb with hb | hb
      · rw [hg1] at hb; cases hb
      · exact hb us' r e2 hr
    · exact .inr ⟨hg2, hg, v :: us, by rw [hl, he]; rfl, by rw [List.map_cons]; exact .cons hf hfs, by rw [Dv.toVL, List.map_cons, hd, hds]⟩
theorem good_int {v : V} (h : allV v = 0) (hk : v.kind = 1) : v = .mk 1 v.num ⟨#[]⟩ [] := by rw [<- nrm_int hk, nrm_ok v h]
theorem good_text {v : V} (h : allV v = 0) (hk : v.kind = 2) : v = .mk 2 0 v.text [] := by rw [<- nrm_text hk, nrm_ok v h]
theorem good_list {v : V} (h : allV v = 0) (hk : v.kind = 3) : v = .mk 3 0 ⟨#[]⟩ v.items := by
  have e := nrm_list hk
  rw [nrm_ok v h] at e
  have e2 := congrArg V.items e
  change v.items = v.items.map nrm at e2
  rw [<- e2] at e
  exact e
/-- One struct: its items are read by another reader; none may be left. -/
theorem Got.struc {ts : List Ty} {l l' l2 : List Vl} {g g2 g3 : Bool} {v : Vl} {ds : List Dv} (hl : l = v :: l') (hk : v.er.kind = 3) (hv : allV v.er = 0) (h : GotL ts v.items g ds l2 g2) (h3 : g3 = (g2 || decide (0 < l2.length))) : Got (.struc ts) l g (.struc ds) l' g3 := by
  refine ⟨hl ▸ List.suffix_cons _ _, ?_⟩
  rcases h.2 with ⟨hg2, hb⟩ | ⟨hg2, hg, us, he, hf, hd⟩
  · refine .inl ⟨by rw [h3, hg2]; rfl, hb.imp id fun hb u r e hfit => ?_⟩
    rw [hl] at e; injection e with e1 e2; subst e1
    have := (fit_struc.1 hfit).2
    rw [Vl.er_items] at this
    exact hb v.items [] (by simp) this
  · by_cases h0 : 0 < l2.length
    · refine .inl ⟨by rw [h3, hg2, decide_eq_true h0]; rfl, .inr fun u r e hfit => ?_⟩
      rw [hl] at e; injection e with e1 e2; subst e1
      have h5 := fitL_len (fit_struc.1 hfit).2
      have h6 := fitL_len hf
      rw [Vl.er_items, List.length_map, he, List.length_append] at h5
      rw [List.length_map] at h6
      omega
    · obtain rfl : l2 = [] := List.eq_nil_of_length_eq_zero (by omega)
      rw [List.append_nil] at he
      refine .inr ⟨by rw [h3, hg2]; rfl, hg, v, hl, fit_struc.2 ⟨hk, by rw [Vl.er_items, he]; exact hf⟩, ?_⟩
      rw [Dv.toV, hd, <- he, <- Vl.er_items]
      exact (good_list hv hk).symm
/-- The next item is not even a list. -/
theorem Got.bad {T : Ty} (hT : ∀ v, Fit T v -> v.kind = 3) {l l' : List Vl} {g : Bool} (d : Dv) (h : l' <:+ l) (hb : g = true \/ ∀ v r, l = v :: r -> v.er.kind ≠ 3) : Got T l g d l' true :=
  ⟨h, .inl ⟨rfl, hb.imp id fun hb v r e hf => hb v r e (hT _ hf)⟩⟩
theorem fit_struc3 {ts : List Ty} (v : V) (h : Fit (.struc ts) v) : v.kind = 3 := (fit_struc.1 h).1
theorem fit_list3 {k s : Nat} {t : Ty} (v : V) (h : Fit (.list k s t) v) : v.kind = 3 := (fit_list.1 h).1
theorem GotL.stay {ts : List Ty} {l l' : List Vl} {ds : List Dv} {g' : Bool} (h : GotL ts l true ds l' g') : g' = true := by
  rcases h.2 with ⟨h, _⟩ | ⟨_, h, _⟩
  · exact h
  · cases h
/-- Reading the elements of a list, one by one. -/
def EGot (t : Ty) (vi : List Vl) (g : Bool) (ds : List Dv) (l1 : List Vl) (g1 : Bool) : Prop :=
  l1 <:+ vi /\ ds.length <= vi.length /\ ((g1 = true /\ (g = true \/ ∃ u ∈ vi, ¬ Fit t u.er)) \/ (g1 = false /\ g = false /\ ∃ us, vi = us ++ l1 /\ (∀ u ∈ us, Fit t u.er) /\ ds.map Dv.toV = us.map Vl.er))
theorem EGot.init (t : Ty) (vi : List Vl) (g : Bool) : EGot t vi g [] vi g := by
  refine ⟨List.suffix_refl _, Nat.zero_le _, ?_⟩
  cases g with
  | true => exact .inl ⟨rfl, .inl rfl⟩
  | false => exact .inr ⟨rfl, rfl, [], rfl, by simp, rfl⟩
theorem EGot.room {t : Ty} {vi l1 : List Vl} {g : Bool} {ds : List Dv} (h : EGot t vi g ds l1 false) : ds.length + l1.length <= vi.length := by
  rcases h.2.2 with ⟨h, _⟩ | ⟨_, _, us, e, _, hm⟩
  · cases h
  · have := congrArg List.length hm
    rw [List.length_map, List.length_map] at this
    rw [e, List.length_append]; omega
theorem EGot.step {t : Ty} {vi l1 l2 : List Vl} {g g2 : Bool} {ds : List Dv} {d : Dv} (h : EGot t vi g ds l1 false) (h0 : 0 < l1.length) (k : Got t l1 false d l2 g2) : EGot t vi g (ds ++ [d]) l2 g2 := by
  have hr := h.room
  refine ⟨k.1.trans h.1, by rw [List.length_append]; show _ + 1 <= _; omega, ?_⟩
  rcases h.2.2 with ⟨h, _⟩ | ⟨_, hg, us, e, hf, hm⟩
  · cases h
  · rcases k.2 with ⟨hg2, hb⟩ | ⟨hg2, _, v, hv, hfv, hd⟩
    · refine .inl ⟨hg2, .inr ?_⟩
      rcases hb with hb | hb
      · cases hb
      · cases l1 with
        | nil => simp at h0
        | cons v r => exact ⟨v, by rw [e]; simp, hb v r rfl⟩
    · refine .inr ⟨hg2, hg, us ++ [v], by rw [e, hv]; simp, fun u hu => ?_, by rw [List.map_append, List.map_append, hm]; simp [hd]⟩
      rcases List.mem_append.1 hu with hu | hu
      · exact hf u hu
      · rw [List.mem_singleton] at hu; subst hu; exact hfv
theorem EGot.fin {k s : Nat} {t : Ty} {l l' l1 : List Vl} {g g1 : Bool} {v : Vl} {ds : List Dv} {a : Option Addr} {c : Nat} (hl : l = v :: l') (hk : v.er.kind = 3) (hv : allV v.er = 0) (h : EGot t v.items g ds l1 g1) (h1 : l1.length = 0 \/ g1 = true) : Got (.list k s t) l g (.list k s a c ds) l' g1 := by
  refine ⟨hl ▸ List.suffix_cons _ _, ?_⟩
  rcases h.2.2 with ⟨hg, hb⟩ | ⟨hg1, hg, us, e, hf, hm⟩
  · refine .inl ⟨hg, hb.imp id fun ⟨u, hu, hnf⟩ x r e hfit => ?_⟩
    rw [hl] at e; injection e with e1 e2; subst e1
    exact hnf ((fit_list.1 hfit).2 _ (by rw [Vl.er_items]; exact List.mem_map_of_mem hu))
  · rcases h1 with h1 | h1
    · obtain rfl : l1 = [] := List.eq_nil_of_length_eq_zero h1
      rw [List.append_nil] at e
      refine .inr ⟨hg1, hg, v, hl, fit_list.2 ⟨hk, fun u hu => ?_⟩, ?_⟩
      · rw [Vl.er_items, e] at hu
        obtain ⟨x, hx, rfl⟩ := List.mem_map.1 hu
        exact hf x hx
      · rw [Dv.toV, Dv.toVL_map, hm, <- e, <- Vl.er_items]
        exact (good_list hv hk).symm
    · rw [hg1] at h1; cases h1
/-- What next answers. -/
def Nx (k : Int) (l : List Vl) (g : Bool) (v : Vl) (l' : List Vl) (g' : Bool) : Prop :=
  (v = .mk 0 0 ⟨#[]⟩ none 0 [] /\ l' = l /\ g' = true /\ ∀ u r, l = u :: r -> u.kind ≠ k) \/ (l = v :: l' /\ v.kind = k /\ g' = g)
def NxPost (S : Nat -> Prop) (rb wb : Nat) (k : Int) (l : List Vl) (g : Bool) (w : World) (e : Ending) (w' : World) : Prop :=
  ∃ (v : Vl) (a' : Option Addr) (n' c' : Nat) (l' : List Vl) (g' : Bool), e = .returned v.val /\ Nx k l g v l' g' /\ Rdr w' rb wb a' n' c' g' /\ Vals S w' a' n' c' l' /\ Rd S w' v /\ Exc (Two rb wb) w w'
theorem Rdr.cells {w : World} {rb wb : Nat} {a : Option Addr} {n c : Nat} {g : Bool} (h : Rdr w rb wb a n c g) : w.cell? ⟨rb, 0, none⟩ = some (.slice a n c) /\ w.cell? ⟨rb, 1, none⟩ = some (.pointer (some ⟨wb, 0, none⟩)) /\ w.cell? ⟨wb, 0, none⟩ = some (.bool g) /\ w.frozen? ⟨rb, 0, none⟩ = false /\ w.frozen? ⟨wb, 0, none⟩ = false := by
  refine ⟨?_, ?_, ?_, ?_, ?_⟩
  · rw [Lib.cell_of_heap h.box]; rfl
  · rw [Lib.cell_of_heap h.box]; rfl
  · rw [Lib.cell_of_heap h.flag]; rfl
  · simp [World.frozen?, h.box]
  · simp [World.frozen?, h.flag]
theorem Rdr.lt {w : World} {rb wb : Nat} {a : Option Addr} {n c : Nat} {g : Bool} (h : Rdr w rb wb a n c g) : rb < w.heap.size /\ wb < w.heap.size := ⟨(Array.getElem?_eq_some_iff.1 h.box).1, (Array.getElem?_eq_some_iff.1 h.flag).1⟩
theorem Rdr.below {w w' : World} {rb wb : Nat} {a : Option Addr} {n c : Nat} {g : Bool} (h : Rdr w rb wb a n c g) (hb : Below w.heap.size w w') : Rdr w' rb wb a n c g :=
  ⟨by rw [hb.block _ h.lt.1]; exact h.box, by rw [hb.block _ h.lt.2]; exact h.flag, h.ne⟩
theorem Rdr.wrong {w : World} {rb wb : Nat} {a : Option Addr} {n c : Nat} {g : Bool} (h : Rdr w rb wb a n c g) : Rdr (w.setCell ⟨wb, 0, none⟩ (.bool true)) rb wb a n c true :=
  ⟨by rw [Below.heap_setCell _ _ _ _ h.ne]; exact h.box, heap_setCell_at h.flag _, h.ne⟩
theorem Rdr.adv {w : World} {rb wb : Nat} {a : Option Addr} {n c : Nat} {g : Bool} (h : Rdr w rb wb a n c g) (a' : Option Addr) (n' c' : Nat) : Rdr (w.setCell ⟨rb, 0, none⟩ (.slice a' n' c')) rb wb a' n' c' g :=
  ⟨heap_setCell_at h.box _, by rw [Below.heap_setCell _ _ _ _ (Ne.symm h.ne)]; exact h.flag, h.ne⟩
theorem vals_tail {S : Nat -> Prop} {w : World} {b off n c : Nat} {v : Vl} {l : List Vl} (h : Vals S w (some ⟨b, off, none⟩) (n + 1) c (v :: l)) : Vals S w (some ⟨b, off + 4, none⟩) n (c - 1) l := by
  obtain ⟨h1, h2, h3, h4⟩ := h
  refine ⟨by simpa using h1, by omega, by omega, fun j u hj => ?_⟩
  obtain ⟨⟨b', off', e, hs, hat⟩, hr⟩ := h4 (j + 1) u (by simpa using hj)
  cases e
  exact ⟨⟨b, off + 4, rfl, hs, by rw [show off + 4 + j * 4 = off + (j + 1) * 4 by omega]; exact hat⟩, hr⟩
theorem next_nil (S : Nat -> Prop) (rb wb : Nat) (k : Int) (a : Option Addr) (c : Nat) (g : Bool) (w : World) (h : Rdr w rb wb a 0 c g) (hv : Vals S w a 0 c []) (hS : ∀ b, S b -> b ≠ rb /\ b ≠ wb) :
    Calls Tryz.prog 55 #[.pointer (some ⟨rb, 0, none⟩), .int .i64 k] w (NxPost S rb wb k [] g w) := by
  have hb1 : Below w.heap.size w (w.alloc (.cells #[.int .i64 0, .int .i64 0, .string ⟨#[]⟩, .slice none 0 0] 24)) := (Below.refl _ _).alloc (Nat.le_refl _) _
  obtain ⟨x0, x1, x2, f0, f1⟩ := (h.below hb1).cells
  have hlt := h.lt
  have HR := hiq h
  have HV := hiq hv
  have HS := hiq hS
  clear h hv hb1 hS
  go_enter Tryz.func55, Tryz.ntmps55
  go_wp2
  have NOT : ∀ u r, ([] : List Vl) = u :: r -> u.kind ≠ k := fun u r e => by cases e
  have hbz : Below (w.setCell ⟨wb, 0, none⟩ (.bool true)).heap.size (w.setCell ⟨wb, 0, none⟩ (.bool true)) ((w.setCell ⟨wb, 0, none⟩ (.bool true)).alloc (.cells #[.int .i64 0, .int .i64 0, .string ⟨#[]⟩, .slice none 0 0] 24)) := (Below.refl _ _).alloc (Nat.le_refl _) _
  have he : Exc (Two rb wb) w (w.setCell ⟨wb, 0, none⟩ (.bool true)) := Exc.setCell w (.inr rfl) _
  have hvs := (HV.out.keep (he.keepS fun b hb hn => by have := HS.out b hb; rcases hn with h | h <;> simp_all)).below hbz
  refine bodyPost_ret (v := .agg #[.int .i64 0, .int .i64 0, .string ⟨#[]⟩, .slice none 0 0]) (by simp [results, Tryz.results55, go_sem]) rfl ?_
  exact ⟨.mk 0 0 ⟨#[]⟩ none 0 [], _, _, _, _, true, rfl, .inl ⟨rfl, rfl, rfl, NOT⟩, HR.out.wrong.below hbz, hvs, rd_iff.2 ⟨I64.zero, I64.zero, Nat.zero_le _, Vals.nil _ _⟩, he.trans (.below hbz)⟩
theorem next_cons (S : Nat -> Prop) (rb wb : Nat) (k : Int) (b off : Nat) (n c : Nat) (kk nn : Int) (t : ByteArray) (aa : Option Addr) (cc : Nat) (ll r : List Vl) (g : Bool) (w : World) (h : Rdr w rb wb (some ⟨b, off, none⟩) n c g) (hv : Vals S w (some ⟨b, off, none⟩) n c (.mk kk nn t aa cc ll :: r)) (hS : ∀ b, S b -> b ≠ rb /\ b ≠ wb) :
    Calls Tryz.prog 55 #[.pointer (some ⟨rb, 0, none⟩), .int .i64 k] w (NxPost S rb wb k (.mk kk nn t aa cc ll :: r) g w) := by
  have hb1 : Below w.heap.size w (w.alloc (.cells #[.int .i64 0, .int .i64 0, .string ⟨#[]⟩, .slice none 0 0] 24)) := (Below.refl _ _).alloc (Nat.le_refl _) _
  obtain ⟨x0, x1, x2, f0, f1⟩ := (h.below hb1).cells
  have hlt := h.lt
  have HR := hiq h
  have HV := hiq hv
  have HS := hiq hS
  have hn9 : n = r.length + 1 := hv.1
  have hn0 : 0 < n := by omega
  have hn1 : 1 <= n := hn0
  have hn2 : ¬ n = 0 := by omega
  obtain ⟨v, b', off', ev, -, eb, hSb, hbl, ⟨y0, y1, y2, y3⟩, hru⟩ := (hv.below hb1).get (j := 0) hn0
  cases eb
  cases ev
  rw [Nat.zero_mul, Nat.add_zero] at y0 y1 y2 y3
  dsimp only [Vl.kind, Vl.num, Vl.text, Vl.sl, Vl.addr, Vl.items, Vl.cap] at y0 y1 y2 y3
  have HRU := hiq hru
  have HC := hiq hv.2.1
  have hcn : n <= c := hv.2.1
  have HN9 := hiq hn9
  clear h hv hb1 hS hSb hbl hru hn9
  by_cases hk : kk = k
  · subst hk
    have HT : Hid (∀ a' c', Vals S w a' (n - 1) c' r -> NxPost S rb wb kk (.mk kk nn t aa cc ll :: r) g w (.returned (.agg #[.int .i64 kk, .int .i64 nn, .string t, .slice aa ll.length cc])) (((w.setCell ⟨rb, 0, none⟩ (.slice a' (n - 1) c')).alloc (.cells #[.int .i64 kk, .int .i64 nn, .string t, .slice aa ll.length cc] 24)).alloc (.cells #[.int .i64 kk, .int .i64 nn, .string t, .slice aa ll.length cc] 24))) := fun a' c' hv' => by
      have he : Exc (Two rb wb) w (w.setCell ⟨rb, 0, none⟩ (.slice a' (n - 1) c')) := Exc.setCell w (.inl rfl) _
      have hbz : Below (w.setCell ⟨rb, 0, none⟩ (.slice a' (n - 1) c')).heap.size (w.setCell ⟨rb, 0, none⟩ (.slice a' (n - 1) c')) (((w.setCell ⟨rb, 0, none⟩ (.slice a' (n - 1) c')).alloc (.cells #[.int .i64 kk, .int .i64 nn, .string t, .slice aa ll.length cc] 24)).alloc (.cells #[.int .i64 kk, .int .i64 nn, .string t, .slice aa ll.length cc] 24)) := ((Below.refl _ _).alloc (Nat.le_refl _) _).alloc (by simp) _
      have hk9 := he.keepS (S := S) fun b hb hn => by have := HS.out b hb; rcases hn with h | h <;> simp_all
      exact ⟨.mk kk nn t aa cc ll, a', _, c', r, g, rfl, .inr ⟨rfl, rfl, rfl⟩, (HR.out.adv _ _ _).below hbz, (hv'.keep hk9).below hbz, ((HV.out.2.2.2 0 _ rfl).2.keep hk9).below hbz, he.trans (.below hbz)⟩
    have HV1 : Hid (Vals S w (some ⟨b, off + 4, none⟩) (n - 1) (c - 1) r) := by
      have := HV.out
      rw [HN9.out] at this ⊢
      exact vals_tail this
    by_cases hc1 : c = 1
    · subst hc1
      obtain rfl : n = 1 := by omega
      have HV2 : Hid (Vals S w (some ⟨b, off, none⟩) 0 0 r) := by
        obtain rfl : r = [] := List.eq_nil_of_length_eq_zero (by have := HN9.out; omega)
        exact ⟨rfl, Nat.le_refl _, by omega, fun j v hj => by simp at hj⟩
      go_enter Tryz.func55, Tryz.ntmps55
      go_wp2
      exact bodyPost_ret (v := .agg #[.int .i64 kk, .int .i64 nn, .string t, .slice aa ll.length cc]) (by simp [results, Tryz.results55, go_sem]) rfl (HT.out _ _ HV2.out)
    · go_enter Tryz.func55, Tryz.ntmps55
      go_wp2
      exact bodyPost_ret (v := .agg #[.int .i64 kk, .int .i64 nn, .string t, .slice aa ll.length cc]) (by simp [results, Tryz.results55, go_sem]) rfl (HT.out _ _ HV1.out)
  · have hk2 : (kk != k) = true := by simp [hk]
    have NOT : ∀ x y, (Vl.mk kk nn t aa cc ll) :: r = x :: y -> x.kind ≠ k := fun x y e => by injection e with e1 e2; subst e1; exact hk
    have NOT := hiq NOT
    clear hk
    go_enter Tryz.func55, Tryz.ntmps55
    go_wp2
    have NOT := NOT.out
    have hbz : Below (w.setCell ⟨wb, 0, none⟩ (.bool true)).heap.size (w.setCell ⟨wb, 0, none⟩ (.bool true)) ((w.setCell ⟨wb, 0, none⟩ (.bool true)).alloc (.cells #[.int .i64 0, .int .i64 0, .string ⟨#[]⟩, .slice none 0 0] 24)) := (Below.refl _ _).alloc (Nat.le_refl _) _
    have he : Exc (Two rb wb) w (w.setCell ⟨wb, 0, none⟩ (.bool true)) := Exc.setCell w (.inr rfl) _
    have hvs := (HV.out.keep (he.keepS fun b hb hn => by have := HS.out b hb; rcases hn with h | h <;> simp_all)).below hbz
    refine bodyPost_ret (v := .agg #[.int .i64 0, .int .i64 0, .string ⟨#[]⟩, .slice none 0 0]) (by simp [results, Tryz.results55, go_sem]) rfl ?_
    exact ⟨.mk 0 0 ⟨#[]⟩ none 0 [], _, _, _, _, true, rfl, .inl ⟨rfl, rfl, rfl, NOT⟩, HR.out.wrong.below hbz, hvs, rd_iff.2 ⟨I64.zero, I64.zero, Nat.zero_le _, Vals.nil _ _⟩, he.trans (.below hbz)⟩
theorem next_any (S : Nat -> Prop) (rb wb : Nat) (k : Int) (a : Option Addr) (n c : Nat) (l : List Vl) (g : Bool) (w : World) (h : Rdr w rb wb a n c g) (hv : Vals S w a n c l) (hS : ∀ b, S b -> b ≠ rb /\ b ≠ wb) :
    Calls Tryz.prog 55 #[.pointer (some ⟨rb, 0, none⟩), .int .i64 k] w (NxPost S rb wb k l g w) := by
  cases l with
  | nil =>
    obtain rfl : n = 0 := hv.1
    exact next_nil S rb wb k a c g w h hv hS
  | cons u r =>
    obtain ⟨v, b, off, -, -, rfl, -⟩ := hv.get (j := 0) (by rw [hv.1]; simp)
    cases u
    exact next_cons S rb wb k b off n c _ _ _ _ _ _ r g w h hv hS
end Go.Proofs.YtlbcmeebcfalpaaGreatDoor
