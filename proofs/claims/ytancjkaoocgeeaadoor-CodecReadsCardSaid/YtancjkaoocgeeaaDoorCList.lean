/- List: of the program, and of the reference. -/
import Derived.Test.YtancjkaoocgeeaaDoorCMk
namespace Go.Proofs.YtancjkaoocgeeaaDoor
open Go.RowKit

theorem heap_setCell_at {W : World} {b j : Nat} {cs : Array Value} {t : TypeId} {fr : Nat × Nat} (h : W.heap[b]? = some (.cells cs t fr)) (v : Value) : (W.setCell ⟨b, j, none⟩ v).heap[b]? = some (.cells (cs.setIfInBounds j v) t fr) := by
  simp [World.setCell, Array.getElem?_modify, h]
/-- Four cells stored one by one. -/
abbrev put4 (W : World) (b : Nat) (d0 d1 d2 d3 : Value) : World := (((W.setCell ⟨b, 0, none⟩ d0).setCell ⟨b, 1, none⟩ d1).setCell ⟨b, 2, none⟩ d2).setCell ⟨b, 3, none⟩ d3
theorem put4_at {W : World} {b : Nat} {c0 c1 c2 c3 : Value} {t : TypeId} {fr : Nat × Nat} (h : W.heap[b]? = some (.cells #[c0, c1, c2, c3] t fr)) (d0 d1 d2 d3 : Value) : (put4 W b d0 d1 d2 d3).heap[b]? = some (.cells #[d0, d1, d2, d3] t fr) := by
  have h0 := heap_setCell_at (j := 0) h d0
  have h1 := heap_setCell_at (j := 1) h0 d1
  have h2 := heap_setCell_at (j := 2) h1 d2
  have h3 := heap_setCell_at (j := 3) h2 d3
  rw [h3]; rfl
theorem put4_other {W : World} {b b' : Nat} (hb : b' ≠ b) (d0 d1 d2 d3 : Value) : (put4 W b d0 d1 d2 d3).heap[b']? = W.heap[b']? := by
  have hh : ∀ (W : World) (j : Nat) (v : Value), (W.setCell ⟨b, j, none⟩ v).heap[b']? = W.heap[b']? := fun W j v => Below.heap_setCell _ _ _ _ (by simpa using hb)
  rw [hh, hh, hh, hh]
theorem put4_size (W : World) (b : Nat) (d0 d1 d2 d3 : Value) : (put4 W b d0 d1 d2 d3).heap.size = W.heap.size := by simp [World.setCell]
theorem put4_below {n : Nat} {A W : World} (h : Below n A W) {b : Nat} (hb : n ≤ b) (d0 d1 d2 d3 : Value) : Below n A (put4 W b d0 d1 d2 d3) :=
  (((h.setCell (p := ⟨b, 0, none⟩) hb _).setCell (p := ⟨b, 1, none⟩) hb _).setCell (p := ⟨b, 2, none⟩) hb _).setCell (p := ⟨b, 3, none⟩) hb _
theorem put4_keep {S : Nat → Prop} {W : World} {b : Nat} (hb : ¬ S b) (d0 d1 d2 d3 : Value) : KeepS S W (put4 W b d0 d1 d2 d3) :=
  (((KeepS.setCell W hb d0).trans (KeepS.setCell _ hb d1)).trans (KeepS.setCell _ hb d2)).trans (KeepS.setCell _ hb d3)
theorem OwnV.put4 {S : Nat → Prop} {w : World} {B : Nat} {a : Option Addr} {n cap : Nat} {l : List Vl} (h : OwnV S w B a n cap l) {b : Nat} (hb : b < B) (hS : ¬ S b) (d0 d1 d2 d3 : Value) : OwnV S (put4 w b d0 d1 d2 d3) B a n cap l := by
  refine ⟨h.1, ⟨h.2.1.1, ?_⟩, fun u hu => (h.2.2 u hu).keep (put4_keep hS _ _ _ _)⟩
  rcases h.2.1.2 with h0 | ⟨g, cap', cur, hv, hB, hg, hrest⟩
  · exact .inl h0
  · exact .inr ⟨g, cap', cur, hv, hB, by rw [put4_other (by omega)]; exact hg, hrest⟩
set_option maxRecDepth 100000 in
set_option maxHeartbeats 1000000 in
theorem list_any (S : Nat → Prop) (a : Option Addr) (n c : Nat) (l : List Vl) (w : World) (h : Vals S w a n c l) (h0 : a = none → n = 0 ∧ c = 0) :
    Calls Tryd.prog 27 #[.slice a n c] w fun e w' => ∃ (a' : Option Addr) (c' : Nat), e = .returned (mkList a' c' l).val ∧ OwnV S w' w.heap.size a' n c' l ∧ Below w.heap.size w w' := by
  have hb1 : Below w.heap.size w (w.alloc (.cells #[.int .i64 0, .int .i64 0, .string ⟨#[]⟩, .slice none 0 0] 24)) := (Below.refl _ _).alloc (Nat.le_refl _) _
  have F := Lib.hid (clone_any (fun b => S b ∧ b < w.heap.size) a n c l _ ((h.mono (S' := fun b => S b ∧ b < w.heap.size) (fun b hb hlt => ⟨hb, hlt⟩)).below hb1) h0)
  have HN := Lib.hid h.1
  clear h h0
  have hc0 : (w.alloc (.cells #[.int .i64 0, .int .i64 0, .string ⟨#[]⟩, .slice none 0 0] 24)).heap[w.heap.size]? = some (.cells #[.int .i64 0, .int .i64 0, .string ⟨#[]⟩, .slice none 0 0] 24 (0, 0)) := World.alloc_heap_new _ _
  have hlt : w.heap.size < (w.alloc (.cells #[.int .i64 0, .int .i64 0, .string ⟨#[]⟩, .slice none 0 0] 24)).heap.size := by simp
  have HC := Lib.hid hc0
  clear hc0
  go_enter Tryd.func27, Tryd.ntmps27
  go_wp2_with fail
  generalize w.alloc (.cells #[.int .i64 0, .int .i64 0, .string ⟨#[]⟩, .slice none 0 0] 24) = W1 at *
  refine F.out.mono ?_
  rintro e W2 ⟨a', c', rfl, o2, b2⟩
  have g2 : W2.heap[w.heap.size]? = some (.cells #[.int .i64 0, .int .i64 0, .string ⟨#[]⟩, .slice none 0 0] 24 (0, 0)) := by rw [b2.block _ hlt]; exact HC.out
  have e0 : W2.cell? ⟨w.heap.size, 0, none⟩ = some (.int .i64 0) := by simp [World.cell?, g2]
  have e1 : W2.cell? ⟨w.heap.size, 1, none⟩ = some (.int .i64 0) := by simp [World.cell?, g2]
  have e2 : W2.cell? ⟨w.heap.size, 2, none⟩ = some (.string ⟨#[]⟩) := by simp [World.cell?, g2]
  have e3 : W2.cell? ⟨w.heap.size, 3, none⟩ = some (.slice none 0 0) := by simp [World.cell?, g2]
  have f0 : ∀ j, W2.frozen? ⟨w.heap.size, j, none⟩ = false := fun j => by simp [World.frozen?, g2]
  have HG2 := Lib.hid g2
  clear g2
  go_wp2
  have hb3 := put4_below (hb1.trans (b2.mono hb1.size)) (Nat.le_refl _) (.int .i64 3) (.int .i64 0) (.string ⟨#[]⟩) (.slice a' n c')
  have o3 := (o2.put4 hlt (fun h => by omega) (.int .i64 3) (.int .i64 0) (.string ⟨#[]⟩) (.slice a' n c')).mono (Nat.le_of_lt hlt)
  have g3 := put4_at HG2.out (.int .i64 3) (.int .i64 0) (.string ⟨#[]⟩) (.slice a' n c')
  change bodyPost _ _ _ _ _ (put4 W2 w.heap.size (.int .i64 3) (.int .i64 0) (.string ⟨#[]⟩) (.slice a' n c'))
  generalize put4 W2 w.heap.size (.int .i64 3) (.int .i64 0) (.string ⟨#[]⟩) (.slice a' n c') = W3 at *
  have z0 : W3.cell? ⟨w.heap.size, 0, none⟩ = some (.int .i64 3) := by simp [World.cell?, g3]
  have z1 : W3.cell? ⟨w.heap.size, 1, none⟩ = some (.int .i64 0) := by simp [World.cell?, g3]
  have z2 : W3.cell? ⟨w.heap.size, 2, none⟩ = some (.string ⟨#[]⟩) := by simp [World.cell?, g3]
  have z3 : W3.cell? ⟨w.heap.size, 3, none⟩ = some (.slice a' n c') := by simp [World.cell?, g3]
  exact bodyPost_ret (v := .agg #[.int .i64 3, .int .i64 0, .string ⟨#[]⟩, .slice a' n c']) (by simp [results, Tryd.results27, go_sem, z0, z1, z2, z3]) rfl ⟨a', c', by rw [HN.out]; rfl, o3.monoS (fun b hb _ => hb.1), hb3⟩
set_option maxRecDepth 100000 in
set_option maxHeartbeats 1000000 in
theorem list_ref (S : Nat → Prop) (a : Option Addr) (n c : Nat) (l : List Vl) (w : World) (h : Vals S w a n c l) (h0 : a = none → n = 0 ∧ c = 0) :
    Calls Tryd.prog 28 #[.slice a n c] w fun e w' => ∃ (a' : Option Addr) (c' : Nat), e = .returned (mkList a' c' l).val ∧ OwnV S w' w.heap.size a' n c' l ∧ Below w.heap.size w w' := by
  have hb1 : Below w.heap.size w (w.alloc (.cells #[.int .i64 0, .int .i64 0, .string ⟨#[]⟩, .slice none 0 0] 24)) := (Below.refl _ _).alloc (Nat.le_refl _) _
  have hlt : w.heap.size < (w.alloc (.cells #[.int .i64 0, .int .i64 0, .string ⟨#[]⟩, .slice none 0 0] 24)).heap.size := by simp
  have HC : Hid ((w.alloc (.cells #[.int .i64 0, .int .i64 0, .string ⟨#[]⟩, .slice none 0 0] 24)).heap[w.heap.size]? = some (.cells #[.int .i64 0, .int .i64 0, .string ⟨#[]⟩, .slice none 0 0] 24 (0, 0))) := World.alloc_heap_new _ _
  have hb2 : Below (w.alloc (.cells #[.int .i64 0, .int .i64 0, .string ⟨#[]⟩, .slice none 0 0] 24)).heap.size (w.alloc (.cells #[.int .i64 0, .int .i64 0, .string ⟨#[]⟩, .slice none 0 0] 24)) ((w.alloc (.cells #[.int .i64 0, .int .i64 0, .string ⟨#[]⟩, .slice none 0 0] 24)).alloc (.cells #[] 24)) := (Below.refl _ _).alloc (Nat.le_refl _) _
  have hv1 := (((h.mono (S' := fun b => S b ∧ b < w.heap.size) (fun b hb hlt => ⟨hb, hlt⟩)).below hb1).below hb2)
  have hB := h.2.2.1
  have HN := Lib.hid h.1
  have hsz : (w.alloc (.cells #[.int .i64 0, .int .i64 0, .string ⟨#[]⟩, .slice none 0 0] 24)).heap.size = w.heap.size + 1 := by simp
  have ho := OwnV.made0 (fun b => S b ∧ b < w.heap.size) (w.alloc (.cells #[.int .i64 0, .int .i64 0, .string ⟨#[]⟩, .slice none 0 0] 24))
  rw [hsz] at ho
  have H0 := Lib.hid h0
  have hb2' := hb2
  rw [hsz] at hb2'
  have HSZ := Lib.hid hsz
  clear h h0 hsz
  go_enter Tryd.func28, Tryd.ntmps28
  go_wp2_with (at_builtin; refine wpList_appVals rfl (.tmp 3) (.tmp 4) rfl rfl rfl ho hv1 H0.out (by omega) (by simp) hb2' (fun q hq hs => by simp [Value.ownBlock] at hq; omega) ?_; intro a' c' W2 o2 b2 gr2 at2; rw [Nat.zero_add, List.nil_append] at o2; have g2 : W2.heap[w.heap.size]? = some (.cells #[.int .i64 0, .int .i64 0, .string ⟨#[]⟩, .slice none 0 0] 24 (0, 0)) := (by rw [b2.block _ (by omega)]; exact HC.out); have e0 : W2.cell? ⟨w.heap.size, 0, none⟩ = some (.int .i64 0) := (by simp [World.cell?, g2]); have e1 : W2.cell? ⟨w.heap.size, 1, none⟩ = some (.int .i64 0) := (by simp [World.cell?, g2]); have e2 : W2.cell? ⟨w.heap.size, 2, none⟩ = some (.string ⟨#[]⟩) := (by simp [World.cell?, g2]); have e3 : W2.cell? ⟨w.heap.size, 3, none⟩ = some (.slice none 0 0) := (by simp [World.cell?, g2]); have f0 : ∀ j, W2.frozen? ⟨w.heap.size, j, none⟩ = false := (fun j => by simp [World.frozen?, g2]); have HG2 := Lib.hid g2; clear g2)
  have hb2'' : Below w.heap.size w W2 := hb1.trans (b2.mono (by omega))
  have hb3 := put4_below hb2'' (Nat.le_refl _) (.int .i64 3) (.int .i64 0) (.string ⟨#[]⟩) (.slice a' n c')
  have o3 := (o2.put4 (b := w.heap.size) (by omega) (fun h => by omega) (.int .i64 3) (.int .i64 0) (.string ⟨#[]⟩) (.slice a' n c')).mono (B' := w.heap.size) (by omega)
  have g3 := put4_at HG2.out (.int .i64 3) (.int .i64 0) (.string ⟨#[]⟩) (.slice a' n c')
  change bodyPost _ _ _ _ _ (put4 W2 w.heap.size (.int .i64 3) (.int .i64 0) (.string ⟨#[]⟩) (.slice a' n c'))
  generalize put4 W2 w.heap.size (.int .i64 3) (.int .i64 0) (.string ⟨#[]⟩) (.slice a' n c') = W3 at *
  have z0 : W3.cell? ⟨w.heap.size, 0, none⟩ = some (.int .i64 3) := by simp [World.cell?, g3]
  have z1 : W3.cell? ⟨w.heap.size, 1, none⟩ = some (.int .i64 0) := by simp [World.cell?, g3]
  have z2 : W3.cell? ⟨w.heap.size, 2, none⟩ = some (.string ⟨#[]⟩) := by simp [World.cell?, g3]
  have z3 : W3.cell? ⟨w.heap.size, 3, none⟩ = some (.slice a' n c') := by simp [World.cell?, g3]
  exact bodyPost_ret (v := .agg #[.int .i64 3, .int .i64 0, .string ⟨#[]⟩, .slice a' n c']) (by simp [results, Tryd.results28, go_sem, z0, z1, z2, z3]) rfl ⟨a', c', by rw [HN.out]; rfl, o3.monoS (fun b hb _ => hb.1), hb3⟩
end Go.Proofs.YtancjkaoocgeeaaDoor
