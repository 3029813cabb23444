/- Joined: CMk, CList. -/
import Derived.Test.YtlbcmeebcfalpaaGreatDoorP02
import Derived.WalkSpells
set_option linter.unusedVariables false
set_option linter.unusedSimpArgs false
set_option maxRecDepth 100000
set_option maxHeartbeats 16000000
namespace Go.Proofs.YtlbcmeebcfalpaaGreatDoor
open Go.RowKit

abbrev mkInt (n : Int) : Vl := .mk 1 n ⟨#[]⟩ none 0 []
abbrev mkText (s : ByteArray) : Vl := .mk 2 0 s none 0 []
abbrev mkList (a : Option Addr) (c : Nat) (l : List Vl) : Vl := .mk 3 0 ⟨#[]⟩ a c l
theorem i64_1 : I64 1 := ⟨by decide, by decide⟩
theorem i64_2 : I64 2 := ⟨by decide, by decide⟩
theorem i64_3 : I64 3 := ⟨by decide, by decide⟩
theorem rd_int {S : Nat -> Prop} {w : World} {n : Int} (h : I64 n) : Rd S w (mkInt n) := rd_iff.2 ⟨i64_1, h, by show 0 <= _; omega, Vals.nil S w⟩
theorem rd_text {S : Nat -> Prop} {w : World} {s : ByteArray} (h : s.size <= 140737488355328) : Rd S w (mkText s) := rd_iff.2 ⟨i64_2, I64.zero, h, Vals.nil S w⟩
theorem rd_list {S : Nat -> Prop} {w : World} {a : Option Addr} {c : Nat} {l : List Vl} (h : Vals S w a l.length c l) : Rd S w (mkList a c l) := rd_iff.2 ⟨i64_3, I64.zero, by show 0 <= _; omega, h⟩
theorem int_any (n : Int) (w : World) : Calls Tryz.prog 108 #[.int .i64 n] w fun e w' => e = .returned (mkInt n).val /\ Below w.heap.size w w' := by
  go_enter Tryz.func108, Tryz.ntmps108
  go_wp2
  exact bodyPost_ret (v := .agg #[.int .i64 1, .int .i64 n, .string ⟨#[]⟩, .slice none 0 0]) (by simp [results, Tryz.results108, go_sem]) rfl ⟨rfl, (Below.refl _ _).alloc (Nat.le_refl _) _⟩
theorem int_ref (n : Int) (w : World) : Calls Tryz.prog 120 #[.int .i64 n] w fun e w' => e = .returned (mkInt n).val /\ Below w.heap.size w w' := by
  go_enter Tryz.func120, Tryz.ntmps120
  go_wp2
  exact bodyPost_ret (v := .agg #[.int .i64 1, .int .i64 n, .string ⟨#[]⟩, .slice none 0 0]) (by simp [results, Tryz.results120, go_sem]) rfl ⟨rfl, (Below.refl _ _).alloc (Nat.le_refl _) _⟩
theorem text_any (s : ByteArray) (w : World) : Calls Tryz.prog 96 #[.string s] w fun e w' => e = .returned (mkText s).val /\ Below w.heap.size w w' := by
  go_enter Tryz.func96, Tryz.ntmps96
  go_wp2
  exact bodyPost_ret (v := .agg #[.int .i64 2, .int .i64 0, .string s, .slice none 0 0]) (by simp [results, Tryz.results96, go_sem]) rfl ⟨rfl, (Below.refl _ _).alloc (Nat.le_refl _) _⟩
theorem text_ref (s : ByteArray) (w : World) : Calls Tryz.prog 113 #[.string s] w fun e w' => e = .returned (mkText s).val /\ Below w.heap.size w w' := by
  go_enter Tryz.func113, Tryz.ntmps113
  go_wp2
  exact bodyPost_ret (v := .agg #[.int .i64 2, .int .i64 0, .string s, .slice none 0 0]) (by simp [results, Tryz.results113, go_sem]) rfl ⟨rfl, (Below.refl _ _).alloc (Nat.le_refl _) _⟩
/-- The empty slice at the head of a new block. -/
theorem OwnV.made0 (S : Nat -> Prop) (w : World) : OwnV S (w.alloc (.cells #[] 24)) w.heap.size (some ⟨w.heap.size, 0, none⟩) 0 0 [] :=
  ⟨rfl, World.ownsRow_made w #[] 0 (Nat.le_refl _) (Nat.zero_le _) rfl, by simp⟩
theorem clone_any (S : Nat -> Prop) (a : Option Addr) (n c : Nat) (l : List Vl) (w : World) (h : Vals S w a n c l) (h0 : a = none -> n = 0 /\ c = 0) :
    Calls Tryz.prog 146 #[.slice a n c] w fun e w' => ∃ (a' : Option Addr) (c' : Nat), e = .returned (.slice a' n c') /\ OwnV S w' w.heap.size a' n c' l /\ Below w.heap.size w w' := by
  have hl := h.1
  have hB := h.2.2.1
  cases a with
  | none =>
    obtain ⟨rfl, rfl⟩ := h0 rfl
    obtain rfl : l = [] := List.eq_nil_of_length_eq_zero hl.symm
    clear h h0 hl
    go_enter Tryz.func146, Tryz.ntmps146
    have hnil : (binOp .eql 22 (.slice none 0 0) (.slice none 0 0)).run Tryz.prog w = .ok (.bool true) w := Lib.run_eql_slice_nil w 22 24 none 0 0 0 0 Tryz.underlying22
    go_wp2
    go_ret
    exact ⟨none, 0, rfl, OwnV.nil _ _ _, Below.refl _ _⟩
  | some x =>
    have hb1 : Below w.heap.size w (w.alloc (.cells #[] 24)) := (Below.refl _ _).alloc (Nat.le_refl _) _
    have hv : Vals (fun b => S b /\ b < w.heap.size) w (some x) n c l := h.mono (fun b hb hlt => ⟨hb, hlt⟩)
    have hv1 := hv.below hb1
    have hnil : (binOp .eql 22 (.slice (some x) n c) (.slice none 0 0)).run Tryz.prog w = .ok (.bool false) w := Lib.run_eql_slice_nil w 22 24 (some x) n c 0 0 Tryz.underlying22
    clear h h0 hv hl
    go_enter Tryz.func146, Tryz.ntmps146
    go_wp2_with (at_builtin; refine wpList_appVals rfl (.tmp 5) (.tmp 6) rfl rfl rfl (OwnV.made0 (fun b => S b /\ b < w.heap.size) w) hv1 (fun e => by cases e) (by omega) (by simp) hb1 (fun q hq hs => by simp [Value.ownBlock] at hq; omega) ?_; intro a' c' w' o5 b5 g5 at5)
    rw [Nat.zero_add, List.nil_append] at o5
    go_ret
    exact ⟨a', c', by simp, o5.monoS (fun b hb _ => hb.1), b5⟩
end Go.Proofs.YtlbcmeebcfalpaaGreatDoor
namespace Go.Proofs.YtlbcmeebcfalpaaGreatDoor
open Go.RowKit

theorem heap_setCell_at {W : World} {b j : Nat} {cs : Array Value} {t : TypeId} {fr : Nat × Nat} (h : W.heap[b]? = some (.cells cs t fr)) (v : Value) : (W.setCell ⟨b, j, none⟩ v).heap[b]? = some (.cells (cs.setIfInBounds j v) t fr) := by
  simp [World.setCell, Array.getElem?_modify, h]
/-- Four cells stored one by one. -/
abbrev put4 (W : World) (b : Nat) (d0 d1 d2 d3 : Value) : World := (((W.setCell ⟨b, 0, none⟩ d0).setCell ⟨b, 1, none⟩ d1).setCell ⟨b, 2, none⟩ d2).setCell ⟨b, 3, none⟩ d3
theorem put4_at {W : World} {b : Nat} {c0 c1 c2 c3 : Value} {t : TypeId} {fr : Nat × Nat} (h : W.heap[b]? = some (.cells #[c0, c1, c2, c3] t fr)) (d0 d1 d2 d3 : Value) : (put4 W b d0 d1 d2 d3).heap[b]? = some (.cells #[d0, d1, d2, d3] t fr) := by
  have h0 := heap_setCell_at (j := 0) h d0
  have h1 := heap_setCell_at (j := 1) h0 d1
  have h2 := heap_setCell_at (j := 2) h1 d2
  have h3 := heap_setCell_at (j := 3) h2 d3
  rw [h3]; rfl
theorem put4_other {W : World} {b b' : Nat} (hb : b' ≠ b) (d0 d1 d2 d3 : Value) : (put4 W b d0 d1 d2 d3).heap[b']? = W.heap[b']? := by
  have hh : ∀ (W : World) (j : Nat) (v : Value), (W.setCell ⟨b, j, none⟩ v).heap[b']? = W.heap[b']? := fun W j v => Below.heap_setCell _ _ _ _ (by simpa using hb)
  rw [hh, hh, hh, hh]
theorem put4_size (W : World) (b : Nat) (d0 d1 d2 d3 : Value) : (put4 W b d0 d1 d2 d3).heap.size = W.heap.size := by simp [World.setCell]
theorem put4_below {n : Nat} {A W : World} (h : Below n A W) {b : Nat} (hb : n <= b) (d0 d1 d2 d3 : Value) : Below n A (put4 W b d0 d1 d2 d3) :=
  (((h.setCell (p := ⟨b, 0, none⟩) hb _).setCell (p := ⟨b, 1, none⟩) hb _).setCell (p := ⟨b, 2, none⟩) hb _).setCell (p := ⟨b, 3, none⟩) hb _
theorem put4_keep {S : Nat -> Prop} {W : World} {b : Nat} (hb : ¬ S b) (d0 d1 d2 d3 : Value) : KeepS S W (put4 W b d0 d1 d2 d3) :=
  (((KeepS.setCell W hb d0).trans (KeepS.setCell _ hb d1)).trans (KeepS.setCell _ hb d2)).trans (KeepS.setCell _ hb d3)
theorem OwnV.put4 {S : Nat -> Prop} {w : World} {B : Nat} {a : Option Addr} {n cap : Nat} {l : List Vl} (h : OwnV S w B a n cap l) {b : Nat} (hb : b < B) (hS : ¬ S b) (d0 d1 d2 d3 : Value) : OwnV S (put4 w b d0 d1 d2 d3) B a n cap l := by
  refine ⟨h.1, ⟨h.2.1.1, ?_⟩, fun u hu => (h.2.2 u hu).keep (put4_keep hS _ _ _ _)⟩
  rcases h.2.1.2 with h0 | ⟨g, cap', cur, hv, hB, hg, hrest⟩
  · exact .inl h0
  · exact .inr ⟨g, cap', cur, hv, hB, by rw [put4_other (by omega)]; exact hg, hrest⟩
theorem list_any (S : Nat -> Prop) (a : Option Addr) (n c : Nat) (l : List Vl) (w : World) (h : Vals S w a n c l) (h0 : a = none -> n = 0 /\ c = 0) :
    Calls Tryz.prog 50 #[.slice a n c] w fun e w' => ∃ (a' : Option Addr) (c' : Nat), e = .returned (mkList a' c' l).val /\ OwnV S w' w.heap.size a' n c' l /\ Below w.heap.size w w' := by
  have hb1 : Below w.heap.size w (w.alloc (.cells #[.int .i64 0, .int .i64 0, .string ⟨#[]⟩, .slice none 0 0] 24)) := (Below.refl _ _).alloc (Nat.le_refl _) _
  have F := hiq (clone_any (fun b => S b /\ b < w.heap.size) a n c l _ ((h.mono (S' := fun b => S b /\ b < w.heap.size) (fun b hb hlt => ⟨hb, hlt⟩)).below hb1) h0)
  have HN := hiq h.1
  clear h h0
  have hc0 : (w.alloc (.cells #[.int .i64 0, .int .i64 0, .string ⟨#[]⟩, .slice none 0 0] 24)).heap[w.heap.size]? = some (.cells #[.int .i64 0, .int .i64 0, .string ⟨#[]⟩, .slice none 0 0] 24 (0, 0)) := World.alloc_heap_new _ _
  have hlt : w.heap.size < (w.alloc (.cells #[.int .i64 0, .int .i64 0, .string ⟨#[]⟩, .slice none 0 0] 24)).heap.size := by simp
  have HC := hiq hc0
  clear hc0
  go_enter Tryz.func50, Tryz.ntmps50
  go_wp2_with fail
  generalize w.alloc (.cells #[.int .i64 0, .int .i64 0, .string ⟨#[]⟩, .slice none 0 0] 24) = W1 at *
  refine F.out.mono ?_
  rintro e W2 ⟨a', c', rfl, o2, b2⟩
  have g2 : W2.heap[w.heap.size]? = some (.cells #[.int .i64 0, .int .i64 0, .string ⟨#[]⟩, .slice none 0 0] 24 (0, 0)) := by rw [b2.block _ hlt]; exact HC.out
  have e0 : W2.cell? ⟨w.heap.size, 0, none⟩ = some (.int .i64 0) := by simp [World.cell?, g2]
  have e1 : W2.cell? ⟨w.heap.size, 1, none⟩ = some (.int .i64 0) := by simp [World.cell?, g2]
  have e2 : W2.cell? ⟨w.heap.size, 2, none⟩ = some (.string ⟨#[]⟩) := by simp [World.cell?, g2]
  have e3 : W2.cell? ⟨w.heap.size, 3, none⟩ = some (.slice none 0 0) := by simp [World.cell?, g2]
  have f0 : ∀ j, W2.frozen? ⟨w.heap.size, j, none⟩ = false := fun j => by simp [World.frozen?, g2]
  have HG2 := hiq g2
  clear g2
  go_wp2
  have hb3 := put4_below (hb1.trans (b2.mono hb1.size)) (Nat.le_refl _) (.int .i64 3) (.int .i64 0) (.string ⟨#[]⟩) (.slice a' n c')
  have o3 := (o2.put4 hlt (fun h => by omega) (.int .i64 3) (.int .i64 0) (.string ⟨#[]⟩) (.slice a' n c')).mono (Nat.le_of_lt hlt)
  have g3 := put4_at HG2.out (.int .i64 3) (.int .i64 0) (.string ⟨#[]⟩) (.slice a' n c')
  change bodyPost _ _ _ _ _ (put4 W2 w.heap.size (.int .i64 3) (.int .i64 0) (.string ⟨#[]⟩) (.slice a' n c'))
  generalize put4 W2 w.heap.size (.int .i64 3) (.int .i64 0) (.string ⟨#[]⟩) (.slice a' n c') = W3 at *
  have z0 : W3.cell? ⟨w.heap.size, 0, none⟩ = some (.int .i64 3) := by simp [World.cell?, g3]
  have z1 : W3.cell? ⟨w.heap.size, 1, none⟩ = some (.int .i64 0) := by simp [World.cell?, g3]
  have z2 : W3.cell? ⟨w.heap.size, 2, none⟩ = some (.string ⟨#[]⟩) := by simp [World.cell?, g3]
  have z3 : W3.cell? ⟨w.heap.size, 3, none⟩ = some (.slice a' n c') := by simp [World.cell?, g3]
  exact bodyPost_ret (v := .agg #[.int .i64 3, .int .i64 0, .string ⟨#[]⟩, .slice a' n c']) (by simp [results, Tryz.results50, go_sem, z0, z1, z2, z3]) rfl ⟨a', c', by rw [HN.out]; rfl, o3.monoS (fun b hb _ => hb.1), hb3⟩
theorem list_ref (S : Nat -> Prop) (a : Option Addr) (n c : Nat) (l : List Vl) (w : World) (h : Vals S w a n c l) (h0 : a = none -> n = 0 /\ c = 0) :
    Calls Tryz.prog 52 #[.slice a n c] w fun e w' => ∃ (a' : Option Addr) (c' : Nat), e = .returned (mkList a' c' l).val /\ OwnV S w' w.heap.size a' n c' l /\ Below w.heap.size w w' := by
  have hb1 : Below w.heap.size w (w.alloc (.cells #[.int .i64 0, .int .i64 0, .string ⟨#[]⟩, .slice none 0 0] 24)) := (Below.refl _ _).alloc (Nat.le_refl _) _
  have hlt : w.heap.size < (w.alloc (.cells #[.int .i64 0, .int .i64 0, .string ⟨#[]⟩, .slice none 0 0] 24)).heap.size := by simp
  have HC : Hid ((w.alloc (.cells #[.int .i64 0, .int .i64 0, .string ⟨#[]⟩, .slice none 0 0] 24)).heap[w.heap.size]? = some (.cells #[.int .i64 0, .int .i64 0, .string ⟨#[]⟩, .slice none 0 0] 24 (0, 0))) := World.alloc_heap_new _ _
  have hb2 : Below (w.alloc (.cells #[.int .i64 0, .int .i64 0, .string ⟨#[]⟩, .slice none 0 0] 24)).heap.size (w.alloc (.cells #[.int .i64 0, .int .i64 0, .string ⟨#[]⟩, .slice none 0 0] 24)) ((w.alloc (.cells #[.int .i64 0, .int .i64 0, .string ⟨#[]⟩, .slice none 0 0] 24)).alloc (.cells #[] 24)) := (Below.refl _ _).alloc (Nat.le_refl _) _
  have hv1 := (((h.mono (S' := fun b => S b /\ b < w.heap.size) (fun b hb hlt => ⟨hb, hlt⟩)).below hb1).below hb2)
  have hB := h.2.2.1
  have HN := hiq h.1
  have hsz : (w.alloc (.cells #[.int .i64 0, .int .i64 0, .string ⟨#[]⟩, .slice none 0 0] 24)).heap.size = w.heap.size + 1 := by simp
  have ho := OwnV.made0 (fun b => S b /\ b < w.heap.size) (w.alloc (.cells #[.int .i64 0, .int .i64 0, .string ⟨#[]⟩, .slice none 0 0] 24))
  rw [hsz] at ho
  have H0 := hiq h0
  have hb2' := hb2
  rw [hsz] at hb2'
  have HSZ := hiq hsz
  clear h h0 hsz
  go_enter Tryz.func52, Tryz.ntmps52
  go_wp2_with (at_builtin; refine wpList_appVals rfl (.tmp 3) (.tmp 4) rfl rfl rfl ho hv1 H0.out (by omega) (by simp) hb2' (fun q hq hs => by simp [Value.ownBlock] at hq; omega) ?_; intro a' c' W2 o2 b2 gr2 at2; rw [Nat.zero_add, List.nil_append] at o2; have g2 : W2.heap[w.heap.size]? = some (.cells #[.int .i64 0, .int .i64 0, .string ⟨#[]⟩, .slice none 0 0] 24 (0, 0)) := (by rw [b2.block _ (by omega)]; exact HC.out); have e0 : W2.cell? ⟨w.heap.size, 0, none⟩ = some (.int .i64 0) := (by simp [World.cell?, g2]); have e1 : W2.cell? ⟨w.heap.size, 1, none⟩ = some (.int .i64 0) := (by simp [World.cell?, g2]); have e2 : W2.cell? ⟨w.heap.size, 2, none⟩ = some (.string ⟨#[]⟩) := (by simp [World.cell?, g2]); have e3 : W2.cell? ⟨w.heap.size, 3, none⟩ = some (.slice none 0 0) := (by simp [World.cell?, g2]); have f0 : ∀ j, W2.frozen? ⟨w.heap.size, j, none⟩ = false := (fun j => by simp [World.frozen?, g2]); have HG2 := hiq g2; clear g2)
  have hb2'' : Below w.heap.size w W2 := hb1.trans (b2.mono (by omega))
  have hb3 := put4_below hb2'' (Nat.le_refl _) (.int .i64 3) (.int .i64 0) (.string ⟨#[]⟩) (.slice a' n c')
  have o3 := (o2.put4 (b := w.heap.size) (by omega) (fun h => by omega) (.int .i64 3) (.int .i64 0) (.string ⟨#[]⟩) (.slice a' n c')).mono (B' := w.heap.size) (by omega)
  have g3 := put4_at HG2.out (.int .i64 3) (.int .i64 0) (.string ⟨#[]⟩) (.slice a' n c')
  change bodyPost _ _ _ _ _ (put4 W2 w.heap.size (.int .i64 3) (.int .i64 0) (.string ⟨#[]⟩) (.slice a' n c'))
  generalize put4 W2 w.heap.size (.int .i64 3) (.int .i64 0) (.string ⟨#[]⟩) (.slice a' n c') = W3 at *
  have z0 : W3.cell? ⟨w.heap.size, 0, none⟩ = some (.int .i64 3) := by simp [World.cell?, g3]
  have z1 : W3.cell? ⟨w.heap.size, 1, none⟩ = some (.int .i64 0) := by simp [World.cell?, g3]
  have z2 : W3.cell? ⟨w.heap.size, 2, none⟩ = some (.string ⟨#[]⟩) := by simp [World.cell?, g3]
  have z3 : W3.cell? ⟨w.heap.size, 3, none⟩ = some (.slice a' n c') := by simp [World.cell?, g3]
  exact bodyPost_ret (v := .agg #[.int .i64 3, .int .i64 0, .string ⟨#[]⟩, .slice a' n c']) (by simp [results, Tryz.results52, go_sem, z0, z1, z2, z3]) rfl ⟨a', c', by rw [HN.out]; rfl, o3.monoS (fun b hb _ => hb.1), hb3⟩
end Go.Proofs.YtlbcmeebcfalpaaGreatDoor
