/- strings.Builder: copyCheck, WriteString, and what they keep. -/

import Derived.Test.YtbjanlmnmeegnaaDoorTEnv
import Derived.Test.YtbjanlmnmeegnaaDoorShelf
import Derived.Lib.AppendStr
namespace Go.Proofs.YtbjanlmnmeegnaaDoor
open Go.RowKit Go.Shelf

abbrev Bld (B b : Nat) (bs : List Value) (w : World) : Prop := Lib.IsBuilder 53 5 B b bs w
theorem Tryd.sizeBld : (Tryd.prog.info? 53).map (fun i => i.size) = some 2 := by kernel_rfl
theorem Tryd.infoByte : (Tryd.prog.info? 5).map (fun i => (i.zero, i.size, i.bytes)) = some (some (.int .u8 0), 1, 1) := by kernel_rfl
set_option maxRecDepth 100000 in
theorem copyCheck_used (b : Nat) (w : World) (h0 : w.cell? ⟨b, 0, none⟩ = some (.pointer (some ⟨b, 0, none⟩))) :
    Calls Tryd.prog 36 #[.pointer (some ⟨b, 0, none⟩)] w fun e w' => e = .returned (.tuple #[]) ∧ w' = w := by
  obtain ⟨j, hj, _⟩ := Option.map_eq_some_iff.1 Tryd.sizeBld
  go_enter Tryd.func36, Tryd.ntmps36
  go_wp2
  rw [Lib.run_neq_ptr_same w _ Tryd.underlying50 hj]
  go_wp2
  go_end0
  exact ⟨rfl, rfl⟩
set_option maxRecDepth 100000 in
theorem copyCheck_fresh (b : Nat) (w : World) (h0 : w.cell? ⟨b, 0, none⟩ = some (.pointer none)) (hsh : w.shape? b = some (53, 2)) (hfz : w.frozen? ⟨b, 0, none⟩ = false) :
    Calls Tryd.prog 36 #[.pointer (some ⟨b, 0, none⟩)] w fun e w' => e = .returned (.tuple #[]) ∧ w' = w.setCell ⟨b, 0, none⟩ (.pointer (some ⟨b, 0, none⟩)) := by
  obtain ⟨j, hj, hjs⟩ := Option.map_eq_some_iff.1 Tryd.sizeBld
  go_enter Tryd.func36, Tryd.ntmps36
  go_wp2
  rw [Lib.run_to_unsafe w ⟨b, 0, none⟩ Tryd.underlying50 Tryd.underlying83 hj (by rw [hjs]; decide) hsh (Nat.zero_lt_succ 1)]
  simp only [Result.andThen]
  rw [Oper.upon_value]
  go_wp2
  rw [run_callFunc_extern Tryd.func47 (by kernel_rfl) (by kernel_rfl) (by kernel_rfl) (e := Extern.AbiNoEscape.same) (by kernel_rfl)]
  rw [Lib.run_noEscape]
  simp only [Result.andThen]
  rw [Oper.upon_value]
  go_wp2
  rw [Lib.run_from_unsafe w ⟨b, 0, none⟩ Tryd.underlying83 Tryd.underlying50 hj hsh (by kernel_rfl)]
  simp only [Result.andThen]
  rw [Oper.upon_value]
  go_wp2
  go_end0
  exact ⟨rfl, rfl⟩
theorem copyCheck_any (B b : Nat) (bs : List Value) (w : World) (h : Bld B b bs w) :
    Calls Tryd.prog 36 #[.pointer (some ⟨b, 0, none⟩)] w fun e w' => e = .returned (.tuple #[]) ∧ (Lib.BuilderAt 53 5 B b (.pointer (some ⟨b, 0, none⟩)) bs w' ∧ Below B w w') := by
  rcases h with h | h
  · refine (copyCheck_fresh b w h.cell0 h.shape h.frozen0).mono ?_
    rintro e w' ⟨rfl, rfl⟩
    exact ⟨rfl, h.used _, (Below.refl B w).setCell (p := ⟨b, 0, none⟩) h.1 _⟩
  · refine (copyCheck_used b w h.cell0).mono ?_
    rintro e w' ⟨rfl, rfl⟩
    exact ⟨rfl, h, Below.refl B _⟩
/-- Cells that are no bytes, outside of block b, stay. -/
def KeepT (b : Nat) (w w' : World) : Prop := w.heap.size ≤ w'.heap.size ∧ ∀ x cs t fr, x ≠ b → t ≠ 5 → w.heap[x]? = some (.cells cs t fr) → w'.heap[x]? = some (.cells cs t fr)
namespace KeepT
variable {b : Nat} {w w' w'' : World}
theorem refl (b : Nat) (w : World) : KeepT b w w := ⟨Nat.le_refl _, fun _ _ _ _ _ _ h => h⟩
theorem trans (h : KeepT b w w') (k : KeepT b w' w'') : KeepT b w w'' := ⟨Nat.le_trans h.1 k.1, fun x cs t fr h1 h2 hx => k.2 x cs t fr h1 h2 (h.2 x cs t fr h1 h2 hx)⟩
theorem below (h : Below w.heap.size w w') : KeepT b w w' := ⟨h.size, fun x cs t fr _ _ hx => by rw [h.block x (Array.getElem?_eq_some_iff.1 hx).1]; exact hx⟩
theorem setCell (w : World) (b j : Nat) (v : Value) : KeepT b w (w.setCell ⟨b, j, none⟩ v) :=
  ⟨by simp [World.setCell], fun x cs t fr h1 _ hx => by rw [Below.heap_setCell _ _ _ _ (by simpa using h1)]; exact hx⟩
theorem grown {B : Nat} {v : Value} {n : Nat} {xs : List Value} (hown : w.ownsRow B 5 1 v n xs) (hg : w.grownBy w' v.ownBlock) : KeepT b w w' :=
  ⟨hg.size, fun x cs t fr _ ht hx => by
    rw [hg.block x (Array.getElem?_eq_some_iff.1 hx).1 (fun e => ?_)]
    · exact hx
    · rcases hown.2 with ⟨rfl, _⟩ | ⟨g, c, cur, rfl, _, hgb, _⟩
      · cases e
      · cases e
        rw [hgb] at hx
        cases hx
        exact ht rfl⟩
end KeepT
theorem copyCheck_K (B b : Nat) (bs : List Value) (w : World) (h : Bld B b bs w) :
    Calls Tryd.prog 36 #[.pointer (some ⟨b, 0, none⟩)] w fun e w' => e = .returned (.tuple #[]) ∧ (Lib.BuilderAt 53 5 B b (.pointer (some ⟨b, 0, none⟩)) bs w' ∧ Below B w w' ∧ KeepT b w w') := by
  rcases h with h | h
  · refine (copyCheck_fresh b w h.cell0 h.shape h.frozen0).mono ?_
    rintro e w' ⟨rfl, rfl⟩
    exact ⟨rfl, h.used _, (Below.refl B w).setCell (p := ⟨b, 0, none⟩) h.1 _, KeepT.setCell _ _ _ _⟩
  · refine (copyCheck_used b w h.cell0).mono ?_
    rintro e w' ⟨rfl, rfl⟩
    exact ⟨rfl, h, Below.refl B _, KeepT.refl _ _⟩
set_option maxHeartbeats 1000000 in
set_option maxRecDepth 100000 in
theorem writeString_K (B b : Nat) (bs : List Value) (s : ByteArray) (w : World) (h : Bld B b bs w) (hlen : bs.length + s.size ≤ 140737488355328) (hBw : B ≤ w.heap.size) :
    Calls Tryd.prog 24 #[.pointer (some ⟨b, 0, none⟩), .string s] w fun e w' => e = .returned (.tuple #[.int .i64 s.size, .nilIface]) ∧ Bld B b (bs ++ Lib.strCells s) w' ∧ Below B w w' ∧ KeepT b w w' := by
  obtain ⟨i0, hi, hz0, hz1, hz2⟩ := info_parts Tryd.infoByte
  have F := Lib.hid (copyCheck_K B b bs w h)
  go_enter Tryd.func24, Tryd.ntmps24
  go_wp2_with fail
  refine F.out.mono ?_
  rintro e w1 ⟨rfl, h1, hb1, hk1⟩
  obtain ⟨hB, v, hbk, hown, hne⟩ := h1
  have c0 : w1.cell? ⟨b, 0, none⟩ = some (.pointer (some ⟨b, 0, none⟩)) := by rw [Lib.cell_of_heap hbk]; rfl
  have c1 : w1.cell? ⟨b, 1, none⟩ = some v := by rw [Lib.cell_of_heap hbk]; rfl
  have HBK := Lib.hid hbk
  clear hbk F
  go_wp2_with (at_builtin; refine Lib.wpList_append_own_string _ rfl _ _ 51 9 rfl B 5 i0 Tryd.underlying51 Tryd.underlying9 hi hz0 hz1 hz2 _ _ _ rfl hown s rfl ?c3 ?c4 ?c5 ?_)
  case c3 => unfold maxLen; omega
  case c4 => omega
  case c5 => have := hb1.size; omega
  intro v' w2 hown' hgrow _
  have hbk := HBK.out
  have hlt : b < w1.heap.size := (Array.getElem?_eq_some_iff.1 hbk).1
  have hb2 : w2.heap[b]? = some (.cells #[.pointer (some ⟨b, 0, none⟩), v] 53 (0, 0)) := by
    rw [hgrow.block b hlt (fun e => hne e.symm)]
    exact hbk
  have d0 : w2.cell? ⟨b, 0, none⟩ = some (.pointer (some ⟨b, 0, none⟩)) := by rw [Lib.cell_of_heap hb2]; rfl
  have d1 : w2.cell? ⟨b, 1, none⟩ = some v := by rw [Lib.cell_of_heap hb2]; rfl
  have f1 : w2.frozen? ⟨b, 1, none⟩ = false := Lib.frozen_of_heap hb2 1
  obtain ⟨ao, n', cap, rfl⟩ : ∃ ao n' cap, v' = .slice ao n' cap := by
    rcases hown'.2 with ⟨hv, _⟩ | ⟨g, cap, cur, hv, _⟩
    · exact ⟨_, _, _, hv⟩
    · exact ⟨_, _, _, hv⟩
  have HB2 := Lib.hid hb2
  clear hb2 hbk
  go_wp2
  go_ret2
  refine ⟨rfl, .inr ?_, ?_, ?_⟩
  · exact Lib.BuilderAt.put (T := 53) (e := 5) hB HB2.out (bs' := bs ++ Lib.strCells s) (by simpa [Lib.strCells_length] using hown') (by decide)
  · exact (hb1.grown hgrow (by have := hb1.size; omega) (fun k hk => (hown.lt k hk).1)).setCell (p := ⟨b, 1, none⟩) hB _
  · exact (hk1.trans (KeepT.grown hown hgrow)).trans (KeepT.setCell _ _ _ _)
theorem Bld.below {B b : Nat} {bs : List Value} {w w' : World} (h : Bld B b bs w) (hb : Below w.heap.size w w') : Bld B b bs w' := by
  have key : ∀ p, Lib.BuilderAt 53 5 B b p bs w → Lib.BuilderAt 53 5 B b p bs w' := by
    rintro p ⟨h1, v, h2, h3, h4⟩
    exact ⟨h1, v, by rw [hb.block b (Array.getElem?_eq_some_iff.1 h2).1]; exact h2, ownsRow_below h3 hb, h4⟩
  exact h.elim (fun x => .inl (key _ x)) (fun x => .inr (key _ x))
theorem Bld.lt {B b : Nat} {bs : List Value} {w : World} (h : Bld B b bs w) : B ≤ b ∧ b < w.heap.size := by
  rcases h with h | h <;> exact ⟨h.1, h.lt⟩
end Go.Proofs.YtbjanlmnmeegnaaDoor
