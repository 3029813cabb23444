/- Joined: CMk, CList, CStk. -/
import Derived.Test.YtlbcmeebcfalpaaGreatDoorR03
import Derived.WalkSpells
import Derived.Laws.OwnMore
set_option linter.unusedVariables false
set_option linter.unusedSimpArgs false
set_option maxRecDepth 100000
set_option maxHeartbeats 16000000
namespace Go.Proofs.YtlbcmeebcfalpaaGreatDoor
open Go.RowKit

abbrev mkInt (n : Int) : Vl := .mk 1 n ⟨#[]⟩ none 0 []
abbrev mkText (s : ByteArray) : Vl := .mk 2 0 s none 0 []
abbrev mkList (a : Option Addr) (c : Nat) (l : List Vl) : Vl := .mk 3 0 ⟨#[]⟩ a c l
theorem i64_1 : I64 1 := ⟨by decide, by decide⟩
theorem i64_2 : I64 2 := ⟨by decide, by decide⟩
theorem i64_3 : I64 3 := ⟨by decide, by decide⟩
theorem rd_int {S : Nat -> Prop} {w : World} {n : Int} (h : I64 n) : Rd S w (mkInt n) := rd_iff.2 ⟨i64_1, h, by show 0 <= _; omega, Vals.nil S w⟩
theorem rd_text {S : Nat -> Prop} {w : World} {s : ByteArray} (h : s.size <= 140737488355328) : Rd S w (mkText s) := rd_iff.2 ⟨i64_2, I64.zero, h, Vals.nil S w⟩
theorem rd_list {S : Nat -> Prop} {w : World} {a : Option Addr} {c : Nat} {l : List Vl} (h : Vals S w a l.length c l) : Rd S w (mkList a c l) := rd_iff.2 ⟨i64_3, I64.zero, by show 0 <= _; omega, h⟩
theorem int_any (n : Int) (w : World) : Calls Tryz.prog 108 #[.int .i64 n] w fun e w' => e = .returned (mkInt n).val /\ Below w.heap.size w w' := by
  go_enter Tryz.func108, Tryz.ntmps108
  go_wp2
  exact bodyPost_ret (v := .agg #[.int .i64 1, .int .i64 n, .string ⟨#[]⟩, .slice none 0 0]) (by simp [results, Tryz.results108, go_sem]) rfl ⟨rfl, (Below.refl _ _).alloc (Nat.le_refl _) _⟩
theorem int_ref (n : Int) (w : World) : Calls Tryz.prog 120 #[.int .i64 n] w fun e w' => e = .returned (mkInt n).val /\ Below w.heap.size w w' := by
  go_enter Tryz.func120, Tryz.ntmps120
  go_wp2
  exact bodyPost_ret (v := .agg #[.int .i64 1, .int .i64 n, .string ⟨#[]⟩, .slice none 0 0]) (by simp [results, Tryz.results120, go_sem]) rfl ⟨rfl, (Below.refl _ _).alloc (Nat.le_refl _) _⟩
theorem text_any (s : ByteArray) (w : World) : Calls Tryz.prog 96 #[.string s] w fun e w' => e = .returned (mkText s).val /\ Below w.heap.size w w' := by
  go_enter Tryz.func96, Tryz.ntmps96
  go_wp2
  exact bodyPost_ret (v := .agg #[.int .i64 2, .int .i64 0, .string s, .slice none 0 0]) (by simp [results, Tryz.results96, go_sem]) rfl ⟨rfl, (Below.refl _ _).alloc (Nat.le_refl _) _⟩
theorem text_ref (s : ByteArray) (w : World) : Calls Tryz.prog 113 #[.string s] w fun e w' => e = .returned (mkText s).val /\ Below w.heap.size w w' := by
  go_enter Tryz.func113, Tryz.ntmps113
  go_wp2
  exact bodyPost_ret (v := .agg #[.int .i64 2, .int .i64 0, .string s, .slice none 0 0]) (by simp [results, Tryz.results113, go_sem]) rfl ⟨rfl, (Below.refl _ _).alloc (Nat.le_refl _) _⟩
/-- The empty slice at the head of a new block. -/
theorem OwnV.made0 (S : Nat -> Prop) (w : World) : OwnV S (w.alloc (.cells #[] 24)) w.heap.size (some ⟨w.heap.size, 0, none⟩) 0 0 [] :=
  ⟨rfl, World.ownsRow_made w #[] 0 (Nat.le_refl _) (Nat.zero_le _) rfl, by simp⟩
theorem clone_any (S : Nat -> Prop) (a : Option Addr) (n c : Nat) (l : List Vl) (w : World) (h : Vals S w a n c l) (h0 : a = none -> n = 0 /\ c = 0) :
    Calls Tryz.prog 146 #[.slice a n c] w fun e w' => ∃ (a' : Option Addr) (c' : Nat), e = .returned (.slice a' n c') /\ OwnV S w' w.heap.size a' n c' l /\ Below w.heap.size w w' := by
  have hl := h.1
  have hB := h.2.2.1
  cases a with
  | none =>
    obtain ⟨rfl, rfl⟩ := h0 rfl
    obtain rfl : l = [] := List.eq_nil_of_length_eq_zero hl.symm
    clear h h0 hl
    go_enter Tryz.func146, Tryz.ntmps146
    have hnil : (binOp .eql 22 (.slice none 0 0) (.slice none 0 0)).run Tryz.prog w = .ok (.bool true) w := Lib.run_eql_slice_nil w 22 24 none 0 0 0 0 Tryz.underlying22
    go_wp2
    go_ret
    exact ⟨none, 0, rfl, OwnV.nil _ _ _, Below.refl _ _⟩
  | some x =>
    have hb1 : Below w.heap.size w (w.alloc (.cells #[] 24)) := (Below.refl _ _).alloc (Nat.le_refl _) _
    have hv : Vals (fun b => S b /\ b < w.heap.size) w (some x) n c l := h.mono (fun b hb hlt => ⟨hb, hlt⟩)
    have hv1 := hv.below hb1
    have hnil : (binOp .eql 22 (.slice (some x) n c) (.slice none 0 0)).run Tryz.prog w = .ok (.bool false) w := Lib.run_eql_slice_nil w 22 24 (some x) n c 0 0 Tryz.underlying22
    clear h h0 hv hl
    go_enter Tryz.func146, Tryz.ntmps146
    go_wp2_with (at_builtin; refine wpList_appVals rfl (.tmp 5) (.tmp 6) rfl rfl rfl (OwnV.made0 (fun b => S b /\ b < w.heap.size) w) hv1 (fun e => by cases e) (by omega) (by simp) hb1 (fun q hq hs => by simp [Value.ownBlock] at hq; omega) ?_; intro a' c' w' o5 b5 g5 at5)
    rw [Nat.zero_add, List.nil_append] at o5
    go_ret
    exact ⟨a', c', by simp, o5.monoS (fun b hb _ => hb.1), b5⟩
end Go.Proofs.YtlbcmeebcfalpaaGreatDoor
namespace Go.Proofs.YtlbcmeebcfalpaaGreatDoor
open Go.RowKit

theorem heap_setCell_at {W : World} {b j : Nat} {cs : Array Value} {t : TypeId} {fr : Nat × Nat} (h : W.heap[b]? = some (.cells cs t fr)) (v : Value) : (W.setCell ⟨b, j, none⟩ v).heap[b]? = some (.cells (cs.setIfInBounds j v) t fr) := by
  simp [World.setCell, Array.getElem?_modify, h]
/-- Four cells stored one by one. -/
abbrev put4 (W : World) (b : Nat) (d0 d1 d2 d3 : Value) : World := (((W.setCell ⟨b, 0, none⟩ d0).setCell ⟨b, 1, none⟩ d1).setCell ⟨b, 2, none⟩ d2).setCell ⟨b, 3, none⟩ d3
theorem put4_at {W : World} {b : Nat} {c0 c1 c2 c3 : Value} {t : TypeId} {fr : Nat × Nat} (h : W.heap[b]? = some (.cells #[c0, c1, c2, c3] t fr)) (d0 d1 d2 d3 : Value) : (put4 W b d0 d1 d2 d3).heap[b]? = some (.cells #[d0, d1, d2, d3] t fr) := by
  have h0 := heap_setCell_at (j := 0) h d0
  have h1 := heap_setCell_at (j := 1) h0 d1
  have h2 := heap_setCell_at (j := 2) h1 d2
  have h3 := heap_setCell_at (j := 3) h2 d3
  rw [h3]; rfl
theorem put4_other {W : World} {b b' : Nat} (hb : b' ≠ b) (d0 d1 d2 d3 : Value) : (put4 W b d0 d1 d2 d3).heap[b']? = W.heap[b']? := by
  have hh : ∀ (W : World) (j : Nat) (v : Value), (W.setCell ⟨b, j, none⟩ v).heap[b']? = W.heap[b']? := fun W j v => Below.heap_setCell _ _ _ _ (by simpa using hb)
  rw [hh, hh, hh, hh]
theorem put4_size (W : World) (b : Nat) (d0 d1 d2 d3 : Value) : (put4 W b d0 d1 d2 d3).heap.size = W.heap.size := by simp [World.setCell]
theorem put4_below {n : Nat} {A W : World} (h : Below n A W) {b : Nat} (hb : n <= b) (d0 d1 d2 d3 : Value) : Below n A (put4 W b d0 d1 d2 d3) :=
  (((h.setCell (p := ⟨b, 0, none⟩) hb _).setCell (p := ⟨b, 1, none⟩) hb _).setCell (p := ⟨b, 2, none⟩) hb _).setCell (p := ⟨b, 3, none⟩) hb _
theorem put4_keep {S : Nat -> Prop} {W : World} {b : Nat} (hb : ¬ S b) (d0 d1 d2 d3 : Value) : KeepS S W (put4 W b d0 d1 d2 d3) :=
  (((KeepS.setCell W hb d0).trans (KeepS.setCell _ hb d1)).trans (KeepS.setCell _ hb d2)).trans (KeepS.setCell _ hb d3)
theorem OwnV.put4 {S : Nat -> Prop} {w : World} {B : Nat} {a : Option Addr} {n cap : Nat} {l : List Vl} (h : OwnV S w B a n cap l) {b : Nat} (hb : b < B) (hS : ¬ S b) (d0 d1 d2 d3 : Value) : OwnV S (put4 w b d0 d1 d2 d3) B a n cap l := by
  refine ⟨h.1, ⟨h.2.1.1, ?_⟩, fun u hu => (h.2.2 u hu).keep (put4_keep hS _ _ _ _)⟩
  rcases h.2.1.2 with h0 | ⟨g, cap', cur, hv, hB, hg, hrest⟩
  · exact .inl h0
  · exact .inr ⟨g, cap', cur, hv, hB, by rw [put4_other (by omega)]; exact hg, hrest⟩
theorem list_any (S : Nat -> Prop) (a : Option Addr) (n c : Nat) (l : List Vl) (w : World) (h : Vals S w a n c l) (h0 : a = none -> n = 0 /\ c = 0) :
    Calls Tryz.prog 50 #[.slice a n c] w fun e w' => ∃ (a' : Option Addr) (c' : Nat), e = .returned (mkList a' c' l).val /\ OwnV S w' w.heap.size a' n c' l /\ Below w.heap.size w w' := by
  have hb1 : Below w.heap.size w (w.alloc (.cells #[.int .i64 0, .int .i64 0, .string ⟨#[]⟩, .slice none 0 0] 24)) := (Below.refl _ _).alloc (Nat.le_refl _) _
  have F := hiq (clone_any (fun b => S b /\ b < w.heap.size) a n c l _ ((h.mono (S' := fun b => S b /\ b < w.heap.size) (fun b hb hlt => ⟨hb, hlt⟩)).below hb1) h0)
  have HN := hiq h.1
  clear h h0
  have hc0 : (w.alloc (.cells #[.int .i64 0, .int .i64 0, .string ⟨#[]⟩, .slice none 0 0] 24)).heap[w.heap.size]? = some (.cells #[.int .i64 0, .int .i64 0, .string ⟨#[]⟩, .slice none 0 0] 24 (0, 0)) := World.alloc_heap_new _ _
  have hlt : w.heap.size < (w.alloc (.cells #[.int .i64 0, .int .i64 0, .string ⟨#[]⟩, .slice none 0 0] 24)).heap.size := by simp
  have HC := hiq hc0
  clear hc0
  go_enter Tryz.func50, Tryz.ntmps50
  go_wp2_with fail
  generalize w.alloc (.cells #[.int .i64 0, .int .i64 0, .string ⟨#[]⟩, .slice none 0 0] 24) = W1 at *
  refine F.out.mono ?_
  rintro e W2 ⟨a', c', rfl, o2, b2⟩
  have g2 : W2.heap[w.heap.size]? = some (.cells #[.int .i64 0, .int .i64 0, .string ⟨#[]⟩, .slice none 0 0] 24 (0, 0)) := by rw [b2.block _ hlt]; exact HC.out
  have e0 : W2.cell? ⟨w.heap.size, 0, none⟩ = some (.int .i64 0) := by simp [World.cell?, g2]
  have e1 : W2.cell? ⟨w.heap.size, 1, none⟩ = some (.int .i64 0) := by simp [World.cell?, g2]
  have e2 : W2.cell? ⟨w.heap.size, 2, none⟩ = some (.string ⟨#[]⟩) := by simp [World.cell?, g2]
  have e3 : W2.cell? ⟨w.heap.size, 3, none⟩ = some (.slice none 0 0) := by simp [World.cell?, g2]
  have f0 : ∀ j, W2.frozen? ⟨w.heap.size, j, none⟩ = false := fun j => by simp [World.frozen?, g2]
  have HG2 := hiq g2
  clear g2
  go_wp2
  have hb3 := put4_below (hb1.trans (b2.mono hb1.size)) (Nat.le_refl _) (.int .i64 3) (.int .i64 0) (.string ⟨#[]⟩) (.slice a' n c')
  have o3 := (o2.put4 hlt (fun h => by omega) (.int .i64 3) (.int .i64 0) (.string ⟨#[]⟩) (.slice a' n c')).mono (Nat.le_of_lt hlt)
  have g3 := put4_at HG2.out (.int .i64 3) (.int .i64 0) (.string ⟨#[]⟩) (.slice a' n c')
  change bodyPost _ _ _ _ _ (put4 W2 w.heap.size (.int .i64 3) (.int .i64 0) (.string ⟨#[]⟩) (.slice a' n c'))
  generalize put4 W2 w.heap.size (.int .i64 3) (.int .i64 0) (.string ⟨#[]⟩) (.slice a' n c') = W3 at *
  have z0 : W3.cell? ⟨w.heap.size, 0, none⟩ = some (.int .i64 3) := by simp [World.cell?, g3]
  have z1 : W3.cell? ⟨w.heap.size, 1, none⟩ = some (.int .i64 0) := by simp [World.cell?, g3]
  have z2 : W3.cell? ⟨w.heap.size, 2, none⟩ = some (.string ⟨#[]⟩) := by simp [World.cell?, g3]
  have z3 : W3.cell? ⟨w.heap.size, 3, none⟩ = some (.slice a' n c') := by simp [World.cell?, g3]
  exact bodyPost_ret (v := .agg #[.int .i64 3, .int .i64 0, .string ⟨#[]⟩, .slice a' n c']) (by simp [results, Tryz.results50, go_sem, z0, z1, z2, z3]) rfl ⟨a', c', by rw [HN.out]; rfl, o3.monoS (fun b hb _ => hb.1), hb3⟩
theorem list_ref (S : Nat -> Prop) (a : Option Addr) (n c : Nat) (l : List Vl) (w : World) (h : Vals S w a n c l) (h0 : a = none -> n = 0 /\ c = 0) :
    Calls Tryz.prog 52 #[.slice a n c] w fun e w' => ∃ (a' : Option Addr) (c' : Nat), e = .returned (mkList a' c' l).val /\ OwnV S w' w.heap.size a' n c' l /\ Below w.heap.size w w' := by
  have hb1 : Below w.heap.size w (w.alloc (.cells #[.int .i64 0, .int .i64 0, .string ⟨#[]⟩, .slice none 0 0] 24)) := (Below.refl _ _).alloc (Nat.le_refl _) _
  have hlt : w.heap.size < (w.alloc (.cells #[.int .i64 0, .int .i64 0, .string ⟨#[]⟩, .slice none 0 0] 24)).heap.size := by simp
  have HC : Hid ((w.alloc (.cells #[.int .i64 0, .int .i64 0, .string ⟨#[]⟩, .slice none 0 0] 24)).heap[w.heap.size]? = some (.cells #[.int .i64 0, .int .i64 0, .string ⟨#[]⟩, .slice none 0 0] 24 (0, 0))) := World.alloc_heap_new _ _
  have hb2 : Below (w.alloc (.cells #[.int .i64 0, .int .i64 0, .string ⟨#[]⟩, .slice none 0 0] 24)).heap.size (w.alloc (.cells #[.int .i64 0, .int .i64 0, .string ⟨#[]⟩, .slice none 0 0] 24)) ((w.alloc (.cells #[.int .i64 0, .int .i64 0, .string ⟨#[]⟩, .slice none 0 0] 24)).alloc (.cells #[] 24)) := (Below.refl _ _).alloc (Nat.le_refl _) _
  have hv1 := (((h.mono (S' := fun b => S b /\ b < w.heap.size) (fun b hb hlt => ⟨hb, hlt⟩)).below hb1).below hb2)
  have hB := h.2.2.1
  have HN := hiq h.1
  have hsz : (w.alloc (.cells #[.int .i64 0, .int .i64 0, .string ⟨#[]⟩, .slice none 0 0] 24)).heap.size = w.heap.size + 1 := by simp
  have ho := OwnV.made0 (fun b => S b /\ b < w.heap.size) (w.alloc (.cells #[.int .i64 0, .int .i64 0, .string ⟨#[]⟩, .slice none 0 0] 24))
  rw [hsz] at ho
  have H0 := hiq h0
  have hb2' := hb2
  rw [hsz] at hb2'
  have HSZ := hiq hsz
  clear h h0 hsz
  go_enter Tryz.func52, Tryz.ntmps52
  go_wp2_with (at_builtin; refine wpList_appVals rfl (.tmp 3) (.tmp 4) rfl rfl rfl ho hv1 H0.out (by omega) (by simp) hb2' (fun q hq hs => by simp [Value.ownBlock] at hq; omega) ?_; intro a' c' W2 o2 b2 gr2 at2; rw [Nat.zero_add, List.nil_append] at o2; have g2 : W2.heap[w.heap.size]? = some (.cells #[.int .i64 0, .int .i64 0, .string ⟨#[]⟩, .slice none 0 0] 24 (0, 0)) := (by rw [b2.block _ (by omega)]; exact HC.out); have e0 : W2.cell? ⟨w.heap.size, 0, none⟩ = some (.int .i64 0) := (by simp [World.cell?, g2]); have e1 : W2.cell? ⟨w.heap.size, 1, none⟩ = some (.int .i64 0) := (by simp [World.cell?, g2]); have e2 : W2.cell? ⟨w.heap.size, 2, none⟩ = some (.string ⟨#[]⟩) := (by simp [World.cell?, g2]); have e3 : W2.cell? ⟨w.heap.size, 3, none⟩ = some (.slice none 0 0) := (by simp [World.cell?, g2]); have f0 : ∀ j, W2.frozen? ⟨w.heap.size, j, none⟩ = false := (fun j => by simp [World.frozen?, g2]); have HG2 := hiq g2; clear g2)
  have hb2'' : Below w.heap.size w W2 := hb1.trans (b2.mono (by omega))
  have hb3 := put4_below hb2'' (Nat.le_refl _) (.int .i64 3) (.int .i64 0) (.string ⟨#[]⟩) (.slice a' n c')
  have o3 := (o2.put4 (b := w.heap.size) (by omega) (fun h => by omega) (.int .i64 3) (.int .i64 0) (.string ⟨#[]⟩) (.slice a' n c')).mono (B' := w.heap.size) (by omega)
  have g3 := put4_at HG2.out (.int .i64 3) (.int .i64 0) (.string ⟨#[]⟩) (.slice a' n c')
  change bodyPost _ _ _ _ _ (put4 W2 w.heap.size (.int .i64 3) (.int .i64 0) (.string ⟨#[]⟩) (.slice a' n c'))
  generalize put4 W2 w.heap.size (.int .i64 3) (.int .i64 0) (.string ⟨#[]⟩) (.slice a' n c') = W3 at *
  have z0 : W3.cell? ⟨w.heap.size, 0, none⟩ = some (.int .i64 3) := by simp [World.cell?, g3]
  have z1 : W3.cell? ⟨w.heap.size, 1, none⟩ = some (.int .i64 0) := by simp [World.cell?, g3]
  have z2 : W3.cell? ⟨w.heap.size, 2, none⟩ = some (.string ⟨#[]⟩) := by simp [World.cell?, g3]
  have z3 : W3.cell? ⟨w.heap.size, 3, none⟩ = some (.slice a' n c') := by simp [World.cell?, g3]
  exact bodyPost_ret (v := .agg #[.int .i64 3, .int .i64 0, .string ⟨#[]⟩, .slice a' n c']) (by simp [results, Tryz.results52, go_sem, z0, z1, z2, z3]) rfl ⟨a', c', by rw [HN.out]; rfl, o3.monoS (fun b hb _ => hb.1), hb3⟩
end Go.Proofs.YtlbcmeebcfalpaaGreatDoor
namespace Go.Proofs.YtlbcmeebcfalpaaGreatDoor
open Go.RowKit

theorem Tryz.infoVals : (Tryz.prog.info? 22).map (fun i => (i.zero, i.size, i.bytes)) = some (some (.slice none 0 0), 1, 24) := by kernel_rfl
/-- A slice value's parts. -/
abbrev Row := Option Addr × Nat × Nat
def rowV (r : Row) : Value := .slice r.1 r.2.1 r.2.2
theorem ownBlock_some {a : Option Addr} {n c : Nat} {x : Addr} (h : a = some x) : (Value.slice a n c).ownBlock = some x.block := by subst h; rfl
/-- Two addresses do not lie in one block. -/
def Apart (a b : Option Addr) : Prop := ∀ x y, a = some x -> b = some y -> x.block ≠ y.block
theorem Apart.symm {a b : Option Addr} (h : Apart a b) : Apart b a := fun x y hx hy e => h y x hy hx e.symm
/-- The address does not lie in S. -/
def Free (S : Nat -> Prop) (a : Option Addr) : Prop := ∀ x, a = some x -> ¬ S x.block
theorem Free.own {S : Nat -> Prop} {a : Option Addr} {n c : Nat} (h : Free S a) : ∀ q, (Value.slice a n c).ownBlock = some q -> ¬ S q := by
  intro q hq
  cases a with
  | none => cases hq
  | some x => cases hq; exact h x rfl
theorem Apart.own {a b : Option Addr} {n c : Nat} (h : Apart a b) : ∀ x, a = some x -> some x.block ≠ (Value.slice b n c).ownBlock := by
  intro x hx
  cases b with
  | none => simp [Value.ownBlock]
  | some y => intro e; exact h x y hx rfl (Option.some.inj e)
theorem OwnV.size {S : Nat -> Prop} {w : World} {B : Nat} {a : Option Addr} {n cap : Nat} {l : List Vl} (h : OwnV S w B a n cap l) {x : Addr} (hx : a = some x) : x.block < w.heap.size := (h.2.1.lt x.block (ownBlock_some hx)).2
/-- The row's own block, and what lies in S, are as they were. -/
theorem OwnV.still {S : Nat -> Prop} {w w' : World} {B : Nat} {a : Option Addr} {n cap : Nat} {l : List Vl} (h : OwnV S w B a n cap l) (hb : ∀ x, a = some x -> w'.heap[x.block]? = w.heap[x.block]?) (hk : KeepS S w w') : OwnV S w' B a n cap l := by
  refine ⟨h.1, ⟨h.2.1.1, ?_⟩, fun u hu => (h.2.2 u hu).keep hk⟩
  rcases h.2.1.2 with h0 | ⟨g, cap', cur, hv, hB, hg, hrest⟩
  · exact .inl h0
  · cases hv
    exact .inr ⟨g, cap, cur, rfl, hB, by rw [hb _ rfl]; exact hg, hrest⟩
theorem OwnV.grow {S S' : Nat -> Prop} {w : World} {B : Nat} {a : Option Addr} {n cap : Nat} {l : List Vl} (h : OwnV S w B a n cap l) (hS : ∀ b, S b -> b < w.heap.size -> S' b) : OwnV S' w B a n cap l := h.monoS hS
/-- The last value of a row is replaced. -/
theorem OwnV.setLast {S : Nat -> Prop} {w : World} {B : Nat} {a : Option Addr} {n cap : Nat} {l : List Vl} {z v : Vl} (h : OwnV S w B a n cap (l ++ [z])) (hf : Free S a) (hv : Rd S w v) :
    ∃ g, a = some ⟨g, 0, none⟩ /\ B <= g /\ (∀ j, w.frozen? ⟨g, j, none⟩ = false) /\ (∀ i, i < 4 -> ∃ u, w.cell? ⟨g, l.length * 4 + i, none⟩ = some u) /\
      OwnV S ((((w.setCell ⟨g, l.length * 4, none⟩ (.int .i64 v.kind)).setCell ⟨g, l.length * 4 + 1, none⟩ (.int .i64 v.num)).setCell ⟨g, l.length * 4 + 2, none⟩ (.string v.text)).setCell ⟨g, l.length * 4 + 3, none⟩ v.sl) B a n cap (l ++ [v]) := by
  have hn := h.1
  rw [List.length_append, List.length_singleton] at hn
  have hr := h.2.1
  rcases hr.2 with ⟨_, h0⟩ | ⟨g, cap', cur, hvv, hB, hg, hc, hm, hs, ht⟩
  · omega
  · cases hvv
    have hSg : ¬ S g := hf _ rfl
    have k1 := (hr.stored (l.length * 4) (.int .i64 v.kind)).1
    have k2 := (k1.stored (l.length * 4 + 1) (.int .i64 v.num)).1
    have k3 := (k2.stored (l.length * 4 + 2) (.string v.text)).1
    have k4 := (k3.stored (l.length * 4 + 3) v.sl).1
    have hfl : ((((flat (l ++ [z])).set (l.length * 4) (.int .i64 v.kind)).set (l.length * 4 + 1) (.int .i64 v.num)).set (l.length * 4 + 2) (.string v.text)).set (l.length * 4 + 3) v.sl = flat (l ++ [v]) := by
      rw [flat_append, flat_append]
      rw [<- flat_length l]
      have hz : flat [z] = [.int .i64 z.kind, .int .i64 z.num, .string z.text, z.sl] := by simp [flat, Vl.cells]
      have hv' : flat [v] = [.int .i64 v.kind, .int .i64 v.num, .string v.text, v.sl] := by simp [flat, Vl.cells]
      rw [hz, hv']
      generalize flat l = F
      rw [List.set_append_right _ _ (Nat.le_refl _), List.set_append_right _ _ (by omega), List.set_append_right _ _ (by omega), List.set_append_right _ _ (by omega)]
      rw [Nat.sub_self, show F.length + 1 - F.length = 1 by omega, show F.length + 2 - F.length = 2 by omega, show F.length + 3 - F.length = 3 by omega]
      rfl
    rw [hfl] at k4
    refine ⟨g, rfl, hB, fun j => Lib.frozen_of_heap hg j, fun i hi => ?_, by rw [h.1]; simp, k4, fun u hu => ?_⟩
    · refine ⟨_, (cell_row hg).trans (Array.getElem?_eq_getElem (show l.length * 4 + i < cur.size by rw [hs]; have := Nat.mul_le_mul_right 4 hc; omega))⟩
    · have hk : KeepS S w ((((w.setCell ⟨g, l.length * 4, none⟩ (.int .i64 v.kind)).setCell ⟨g, l.length * 4 + 1, none⟩ (.int .i64 v.num)).setCell ⟨g, l.length * 4 + 2, none⟩ (.string v.text)).setCell ⟨g, l.length * 4 + 3, none⟩ v.sl) :=
        (((KeepS.setCell w hSg _).trans (KeepS.setCell _ hSg _)).trans (KeepS.setCell _ hSg _)).trans (KeepS.setCell _ hSg _)
      rcases List.mem_append.1 hu with hu | hu
      · exact (h.2.2 u (List.mem_append_left _ hu)).keep hk
      · rw [List.mem_singleton] at hu
        subst hu
        exact hv.keep hk
end Go.Proofs.YtlbcmeebcfalpaaGreatDoor

namespace Go.Proofs.YtlbcmeebcfalpaaGreatDoor
open Go.RowKit

def OwnVV (S : Nat -> Prop) (w : World) (B : Nat) (a : Option Addr) (n cap : Nat) (ll : List (List Vl)) : Prop :=
  ∃ rs : List Row, n = ll.length /\ rs.length = n /\ w.ownsRow B 22 1 (.slice a n cap) n (rs.map rowV) /\
    (∀ (j : Nat) (r : Row) (l : List Vl), rs[j]? = some r -> ll[j]? = some l -> OwnV S w B r.1 r.2.1 r.2.2 l /\ Apart r.1 a /\ Free S r.1) /\
    (∀ (i j : Nat) (r s : Row), i ≠ j -> rs[i]? = some r -> rs[j]? = some s -> Apart r.1 s.1) /\ Free S a /\ ∀ b, S b -> b < w.heap.size
namespace OwnVV
variable {S S' : Nat -> Prop} {w w' : World} {B : Nat} {a : Option Addr} {n cap : Nat} {ll : List (List Vl)}
theorem len (h : OwnVV S w B a n cap ll) : n = ll.length := by obtain ⟨_, h, _⟩ := h; exact h
theorem sub (h : OwnVV S w B a n cap ll) : ∀ b, S b -> b < w.heap.size := by obtain ⟨_, _, _, _, _, _, _, h⟩ := h; exact h
theorem free (h : OwnVV S w B a n cap ll) : Free S a := by obtain ⟨_, _, _, _, _, _, h, _⟩ := h; exact h
theorem lit0 (w : World) (B : Nat) (hB : B <= w.heap.size) (hS : ∀ b, S b -> b < w.heap.size) : OwnVV S (w.alloc (.cells #[.slice none 0 0] 22)) B (some ⟨w.heap.size, 0, none⟩) 1 1 [[]] := by
  refine ⟨[(none, 0, 0)], rfl, rfl, World.ownsRow_lit w #[.slice none 0 0] 1 hB (by unfold maxLen; omega) rfl, fun j r l hr hl => ?_, fun i j r s hij hr hs => ?_, fun x hx hs => ?_, fun b hb => ?_⟩
  · match j, hr, hl with
    | 0, hr, hl => simp at hr hl; subst hr hl; exact ⟨OwnV.nil _ _ _, (fun x y hx => by cases hx), (fun x hx => by cases hx)⟩
  · match i, j, hr, hs with
    | 0, 0, _, _ => exact absurd rfl hij
  · cases hx; exact absurd (hS _ hs) (Nat.lt_irrefl _)
  · have := hS b hb; simp; omega
theorem below (h : OwnVV S w B a n cap ll) (hb : Below w.heap.size w w') : OwnVV S w' B a n cap ll := by
  obtain ⟨rs, h1, h2, h3, h4, h5, h6, h7⟩ := h
  exact ⟨rs, h1, h2, ownsRow_below h3 hb, fun j r l hr hl => ⟨(h4 j r l hr hl).1.below hb, (h4 j r l hr hl).2⟩, h5, h6, fun b hs => Nat.lt_of_lt_of_le (h7 b hs) hb.size⟩
/-- More blocks are held. -/
theorem more (h : OwnVV S w B a n cap ll) (h1 : ∀ b, S b -> S' b) (h2 : ∀ b, S' b -> S b \/ (b < w'.heap.size /\ w.heap.size <= b)) (hb : Below w.heap.size w w') : OwnVV S' w' B a n cap ll := by
  have hfree : ∀ x : Option Addr, Free S x -> (∀ y, x = some y -> y.block < w.heap.size) -> Free S' x := fun x hx hl y hy hs => by
    rcases h2 _ hs with e | e
    · exact hx y hy e
    · have := hl y hy; omega
  obtain ⟨rs, k1, k2, k3, k4, k5, k6, k7⟩ := h
  refine ⟨rs, k1, k2, ownsRow_below k3 hb, fun j r l hr hl => ?_, k5, hfree a k6 (fun y hy => (k3.lt y.block (ownBlock_some hy)).2), fun b hs => ?_⟩
  · obtain ⟨o1, o2, o3⟩ := k4 j r l hr hl
    exact ⟨(o1.below hb).monoS (fun b hb _ => h1 b hb), o2, hfree r.1 o3 (fun y hy => o1.size hy)⟩
  · rcases h2 b hs with e | e
    · exact Nat.lt_of_lt_of_le (k7 b e) hb.size
    · exact e.1
/-- Row j: where it lies. -/
theorem at_ (h : OwnVV S w B a n cap ll) {j : Nat} {l : List Vl} (hl : ll[j]? = some l) : ∃ g aj nj cj, a = some ⟨g, 0, none⟩ /\ B <= g /\ g < w.heap.size /\ (∀ k, w.frozen? ⟨g, k, none⟩ = false) /\
    w.cell? ⟨g, j, none⟩ = some (.slice aj nj cj) /\ OwnV S w B aj nj cj l /\ Apart aj a /\ Free S aj := by
  obtain ⟨rs, h1, h2, h3, h4, h5, h6, h7⟩ := h
  have hj : j < ll.length := (List.getElem?_eq_some_iff.1 hl).1
  rcases h3.2 with ⟨_, h0⟩ | ⟨g, cap', cur, hv, hb, hg, hrest⟩
  · omega
  · cases hv
    obtain ⟨r, hr⟩ : ∃ r, rs[j]? = some r := ⟨_, List.getElem?_eq_getElem (by omega)⟩
    have hc := h3.cellAt j (by omega)
    rw [List.getElem?_map, hr] at hc
    exact ⟨g, r.1, r.2.1, r.2.2, rfl, hb, (Array.getElem?_eq_some_iff.1 hg).1, h3.frozenAt, hc, h4 j r l hr hl⟩
theorem cap_le (h : OwnVV S w B a n cap ll) : n <= cap := by
  obtain ⟨rs, h1, h2, h3, _⟩ := h
  rcases h3.2 with ⟨hv, h0⟩ | ⟨g, cap', cur, hv, _, _, hc, _⟩
  · omega
  · cases hv; exact hc
/-- open[:n-1]. -/
theorem pop (h : OwnVV S w B a n cap ll) {m : Nat} {ll' : List (List Vl)} {x : List Vl} (hl : ll = ll' ++ [x]) (hm : n = m + 1) : OwnVV S w B a m cap ll' := by
  subst hl
  subst hm
  obtain ⟨rs, h1, h2, h3, h4, h5, h6, h7⟩ := h
  simp only [List.length_append, List.length_singleton] at h1
  have hget : ∀ (j : Nat) (r : Row), (rs.take m)[j]? = some r -> j < m /\ rs[j]? = some r := fun j r hr => by
    have hjm : j < m := by have := (List.getElem?_eq_some_iff.1 hr).1; rw [List.length_take] at this; omega
    rw [List.getElem?_take_of_lt hjm] at hr
    exact ⟨hjm, hr⟩
  refine ⟨rs.take m, by omega, by rw [List.length_take]; omega, ?_, fun j r l hr hl => ?_, fun i j r s hij hr hs => h5 i j r s hij (hget i r hr).2 (hget j s hs).2, h6, h7⟩
  · rw [List.map_take]
    refine ⟨by rw [List.length_take, h3.1]; omega, ?_⟩
    rcases h3.2 with ⟨hv, h0⟩ | ⟨g, cap', cur, hv, hb, hg, hc, hmx, hs, ht⟩
    · omega
    · refine .inr ⟨g, cap', cur, by cases hv; rfl, hb, hg, by omega, hmx, hs, ?_⟩
      rw [<- ht, List.take_take]; congr 1; omega
  · obtain ⟨hjm, hr'⟩ := hget j r hr
    exact h4 j r l hr' (by rw [List.getElem?_append_left (by omega)]; exact hl)
/-- A row is another now; only its own block has turned, or is new. -/
theorem setRow (h : OwnVV S w B a n cap ll) {k g nk ck nr cr : Nat} {ak ar : Option Addr} {row' : List Vl} (hk : k < n) (ha : a = some ⟨g, 0, none⟩)
    (hc : w.cell? ⟨g, k, none⟩ = some (.slice ak nk ck)) (hsz : w.heap.size <= w'.heap.size)
    (hch : ∀ b, b < w.heap.size -> some b ≠ (Value.slice ak nk ck).ownBlock -> w'.heap[b]? = w.heap[b]?)
    (hown : OwnV S w' B ar nr cr row') (hat : ∀ x, ar = some x -> some x.block = (Value.slice ak nk ck).ownBlock \/ w.heap.size <= x.block) :
    OwnVV S (w'.setCell ⟨g, k, none⟩ (.slice ar nr cr)) B a n cap (ll.set k row') := by
  subst ha
  obtain ⟨rs, h1, h2, h3, h4, h5, h6, h7⟩ := h
  obtain ⟨r, hr⟩ : ∃ r, rs[k]? = some r := ⟨_, List.getElem?_eq_getElem (by omega)⟩
  obtain ⟨lk, hlk⟩ : ∃ l, ll[k]? = some l := ⟨_, List.getElem?_eq_getElem (by omega)⟩
  have hc' := h3.cellAt k (by omega)
  rw [List.getElem?_map, hr, hc] at hc'
  simp only [Option.map_some, Option.some.injEq, rowV, Value.slice.injEq] at hc'
  obtain ⟨rfl, rfl, rfl⟩ := hc'
  obtain ⟨ok, apk, fk⟩ := h4 k r lk hr hlk
  have hgl : g < w.heap.size := (h3.lt g rfl).2
  have hlt : ∀ (j : Nat) (q : Row), rs[j]? = some q -> ∀ y, q.1 = some y -> y.block < w.heap.size := fun j q hq y hy => by
    have hj : j < rs.length := (List.getElem?_eq_some_iff.1 hq).1
    obtain ⟨o1, _⟩ := h4 j q _ hq (List.getElem?_eq_getElem (by omega))
    exact o1.size hy
  have hSk : KeepS S w w' := ⟨hsz, fun b cs t fr hs hb => by
    rw [hch b (h7 b hs) (fun e => fk.own b e.symm hs)]; exact hb⟩
  have hout : ∀ e : Option Addr, Apart e r.1 -> (∀ y, e = some y -> y.block < w.heap.size) -> Apart e ar := by
    intro e he hl y z hy hz hyz
    rcases hat z hz with h | h
    · exact he.own y hy (by rw [hyz]; exact h)
    · have := hl y hy; omega
  have hgo : some g ≠ (Value.slice r.1 r.2.1 r.2.2).ownBlock := apk.symm.own ⟨g, 0, none⟩ rfl
  have hga : Apart (some ⟨g, 0, none⟩) ar := hout _ apk.symm (fun y hy => by cases hy; exact hgl)
  have h3' : w'.ownsRow B 22 1 (.slice (some ⟨g, 0, none⟩) n cap) n (rs.map rowV) := by
    refine ⟨h3.1, ?_⟩
    rcases h3.2 with h0 | ⟨g', cap', cur, hv, hb, hg, hrest⟩
    · exact .inl h0
    · cases hv
      exact .inr ⟨g, cap, cur, rfl, hb, by rw [hch g hgl hgo]; exact hg, hrest⟩
  have hfa : Free S ar := fun x hx hs => by
    rcases hat x hx with h | h
    · exact fk.own _ h.symm hs
    · have := h7 _ hs; omega
  have hSg : ¬ S g := h6 _ rfl
  have hset : ∀ (b : Option Addr) (m c : Nat) (s : List Vl), OwnV S w' B b m c s -> Apart b (some ⟨g, 0, none⟩) -> OwnV S (w'.setCell ⟨g, k, none⟩ (.slice ar nr cr)) B b m c s := by
    intro b m c s hb hap
    exact hb.still (fun x hx => Below.heap_setCell _ _ _ _ (by intro e; exact hap x ⟨g, 0, none⟩ hx rfl e)) (KeepS.setCell _ hSg _)
  refine ⟨rs.set k (ar, nr, cr), by simpa using h1, by simpa using h2, ?_, ?_, ?_, h6, fun b hs => by have := h7 b hs; simp only [World.setCell, Array.size_modify]; omega⟩
  · rw [List.map_set]; exact (h3'.stored k _).1
  · intro j q l hq hl
    by_cases hj : j = k
    · subst hj
      rw [List.getElem?_set_self (by omega)] at hq hl
      cases hq
      cases hl
      exact ⟨hset ar nr cr _ hown hga.symm, hga.symm, hfa⟩
    · rw [List.getElem?_set_ne (by omega)] at hq hl
      obtain ⟨o1, o2, o3⟩ := h4 j q l hq hl
      exact ⟨hset _ _ _ _ (o1.still (fun x hx => hch _ (o1.size hx) ((h5 j k q r hj hq hr).own x hx)) hSk) o2, o2, o3⟩
  · intro i j p q hij hp hq
    by_cases hi : i = k
    · subst hi
      rw [List.getElem?_set_self (by omega)] at hp
      rw [List.getElem?_set_ne hij] at hq
      cases hp
      exact (hout q.1 (h5 j i q r (Ne.symm hij) hq hr) (hlt j q hq)).symm
    · rw [List.getElem?_set_ne (by omega)] at hp
      by_cases hj : j = k
      · subst hj
        rw [List.getElem?_set_self (by omega)] at hq
        cases hq
        exact hout p.1 (h5 i j p r hij hp hr) (hlt i p hp)
      · rw [List.getElem?_set_ne (by omega)] at hq
        exact h5 i j p q hij hp hq
/-- open, and one empty list more behind it. -/
theorem push (h : OwnVV S w B a n cap ll) {v' : Value} (hown : w'.ownsRow B 22 1 v' (n + 1) (h.choose.map rowV ++ [.slice none 0 0])) (hg : w.grownBy w' (Value.slice a n cap).ownBlock)
    (hv' : v'.ownBlock = (Value.slice a n cap).ownBlock \/ v'.ownBlock = some w.heap.size) : ∃ a' cap', v' = .slice a' (n + 1) cap' /\ OwnVV S w' B a' (n + 1) cap' (ll ++ [[]]) := by
  obtain ⟨h1, h2, h3, h4, h5, h6, h7⟩ := h.choose_spec
  generalize h.choose = rs at *
  obtain ⟨a', cap', rfl⟩ : ∃ a' cap', v' = .slice a' (n + 1) cap' := by
    rcases hown.2 with ⟨rfl, h0⟩ | ⟨g, c', cur, rfl, _⟩
    · omega
    · exact ⟨_, _, rfl⟩
  have hSk : KeepS S w w' := .grown hg h6.own
  have hlt : ∀ (j : Nat) (q : Row), rs[j]? = some q -> ∀ y, q.1 = some y -> y.block < w.heap.size := fun j q hq y hy => by
    have hj : j < rs.length := (List.getElem?_eq_some_iff.1 hq).1
    obtain ⟨o1, _⟩ := h4 j q _ hq (List.getElem?_eq_getElem (by omega))
    exact o1.size hy
  have hout : ∀ e : Option Addr, Apart e a -> (∀ x, e = some x -> x.block < w.heap.size) -> Apart e a' := by
    intro e he hl x y hx hy hxy
    rw [ownBlock_some hy] at hv'
    rcases hv' with h | h
    · exact he.own x hx (by rw [hxy]; exact h)
    · have := hl x hx; have := Option.some.inj h; omega
  refine ⟨a', cap', rfl, rs ++ [(none, 0, 0)], by simp [h1], by simp [h2], by rw [List.map_append]; exact hown, ?_, ?_, ?_, fun b hs => Nat.lt_of_lt_of_le (h7 b hs) hg.size⟩
  · intro j r l hr hl
    by_cases hj : j < rs.length
    · rw [List.getElem?_append_left hj] at hr
      rw [List.getElem?_append_left (by omega)] at hl
      obtain ⟨o1, o2, o3⟩ := h4 j r l hr hl
      exact ⟨o1.still (fun x hx => hg.block _ (o1.size hx) (o2.own x hx)) hSk, hout r.1 o2 (fun x hx => o1.size hx), o3⟩
    · have hj' : j = rs.length := by
        have := (List.getElem?_eq_some_iff.1 hr).1
        simp at this; omega
      subst hj'
      rw [List.getElem?_append_right (Nat.le_refl _), Nat.sub_self] at hr
      rw [List.getElem?_append_right (by omega), show rs.length - ll.length = 0 by omega] at hl
      simp at hr hl
      subst hr hl
      exact ⟨OwnV.nil _ _ _, (fun x y hx => by cases hx), (fun x hx => by cases hx)⟩
  · intro i j r s' hij hr hs
    have get : ∀ k t, (rs ++ [(none, 0, 0)])[k]? = some t -> (k < rs.length /\ rs[k]? = some t) \/ (k = rs.length /\ t = (none, 0, 0)) := by
      intro k t hk
      by_cases hk' : k < rs.length
      · rw [List.getElem?_append_left hk'] at hk; exact .inl ⟨hk', hk⟩
      · have : k = rs.length := by have := (List.getElem?_eq_some_iff.1 hk).1; simp at this; omega
        subst this
        rw [List.getElem?_append_right (Nat.le_refl _), Nat.sub_self] at hk
        simp at hk
        exact .inr ⟨rfl, hk.symm⟩
    rcases get i r hr with ⟨hi, hr⟩ | ⟨hi, rfl⟩ <;> rcases get j s' hs with ⟨hj, hs⟩ | ⟨hj, rfl⟩
    · exact h5 i j r s' hij hr hs
    · intro x y hx hy; cases hy
    · intro x y hx hy; cases hx
    · omega
  · intro x hx hs
    rw [ownBlock_some hx] at hv'
    rcases hv' with h | h
    · exact h6.own _ h.symm hs
    · have := h7 _ hs; have := Option.some.inj h; omega
end OwnVV
end Go.Proofs.YtlbcmeebcfalpaaGreatDoor

namespace Go.Proofs.YtlbcmeebcfalpaaGreatDoor
open Go.RowKit

theorem setCell_swap (w : World) {b b' : Nat} (hne : b ≠ b') (j j' : Nat) (u u' : Value) : (w.setCell ⟨b, j, none⟩ u).setCell ⟨b', j', none⟩ u' = (w.setCell ⟨b', j', none⟩ u').setCell ⟨b, j, none⟩ u := by
  unfold World.setCell
  simp only []
  congr 1
  apply Array.ext_getElem?
  intro i
  simp only [Array.getElem?_modify]
  by_cases h1 : b = i <;> by_cases h2 : b' = i
  · omega
  · simp [h1, h2]
  · simp [h1, h2]
  · simp [h1, h2]
section
variable {ops : Array Oper} {rest : List Oper} {o : Oper} {act : Act} {Q : Exit -> Act -> World -> Prop} {w w0 : World} {B b : Nat} {a : Option Addr} {n cap : Nat} {l : List Vl} {u : Vl} {S : Nat -> Prop} {ll : List (List Vl)}
theorem wpList_app1 (hgd : o.guard = none) (os ox : Operand) (ho : o.op = .call { callee := .builtin .append, args := #[os, ox], argTypes := #[22, 22] })
    (hs : act.eval os = .slice a n cap) (hx : act.eval ox = .slice (some ⟨b, 0, none⟩) 1 1) (hown : OwnV S w B a n cap l) (hy : VAt w b 0 u) (hu : Rd S w u) (hnm : (n + 1) * 56 <= 140737488355328) (hB : B <= w.heap.size) (hb : Below B w0 w) (hSo : Free S a)
    (h : ∀ a' c' w', OwnV S w' B a' (n + 1) c' (l ++ [u]) -> Below B w0 w' -> w.grownBy w' (Value.slice a n cap).ownBlock -> ((Value.slice a' (n + 1) c').ownBlock = (Value.slice a n cap).ownBlock \/ (Value.slice a' (n + 1) c').ownBlock = some w.heap.size) -> wpList Tryz.prog ops Q rest (act.put o.dst (.slice a' (n + 1) c')) w') :
    wpList Tryz.prog ops Q (o :: rest) act w := by
  obtain ⟨i0, hi, hz0, hz1, hz2⟩ := info_parts Tryz.infoVal
  have hl := hown.1
  have hlt := hown.lt
  have hfl : flat [u] = [.int .i64 u.kind, .int .i64 u.num, .string u.text, u.sl] := by simp [flat, Vl.cells]
  obtain ⟨c0, c1, c2, c3⟩ := hy
  rw [Nat.zero_add] at c1 c2 c3
  have hnews : ∀ j v, (flat [u])[j]? = some v -> w.cell? ((⟨b, 0, none⟩ : Addr).add j) = some v := by
    intro j v hj
    rw [hfl] at hj
    rw [Addr.add_lit, Nat.zero_add]
    match j, hj with
    | 0, hj => cases hj; exact c0
    | 1, hj => cases hj; exact c1
    | 2, hj => cases hj; exact c2
    | 3, hj => cases hj; exact c3
  refine wpList_append_own_at _ hgd os ox 22 ho B 24 i0 (.agg #[.int .i64 0, .int .i64 0, .string ⟨#[]⟩, .slice none 0 0]) 4 56 Tryz.underlying22 hi hz0 hz1 hz2 rfl (by decide) _ _ _ hs hown.2.1 ⟨b, 0, none⟩ 1 1 (flat [u]) hx (by rw [flat_length]; rfl)
    hnews (flat_one [u]) (by unfold maxLen; omega) hnm hB ?_
  intro v' w' h1 h2 _ h4
  obtain ⟨a', c', rfl⟩ : ∃ a' c', v' = .slice a' (n + 1) c' := by
    rcases h1.2 with ⟨rfl, h0⟩ | ⟨g, cap', cur, rfl, _⟩
    · omega
    · exact ⟨_, _, rfl⟩
  have hk : KeepS S w w' := .grown h2 hSo.own
  refine h a' c' w' ⟨by rw [List.length_append, hl]; rfl, by rw [flat_append]; exact h1, fun v hv => ?_⟩ (hb.grown h2 hB (fun j hj => (hlt j hj).1)) h2 h4
  rcases List.mem_append.1 hv with hv | hv
  · exact (hown.2.2 v hv).keep hk
  · rw [List.mem_singleton] at hv; subst hv; exact hu.keep hk
theorem wpList_push (hgd : o.guard = none) (os ox : Operand) (ho : o.op = .call { callee := .builtin .append, args := #[os, ox], argTypes := #[92, 92] })
    (hs : act.eval os = .slice a n cap) (hx : act.eval ox = .slice (some ⟨b, 0, none⟩) 1 1) (hown : OwnVV S w B a n cap ll) (hy : w.cell? ⟨b, 0, none⟩ = some (.slice none 0 0)) (hnm : (n + 1) * 24 <= 140737488355328) (hB : B <= w.heap.size) (hb : Below B w0 w)
    (h : ∀ a' c' w', OwnVV S w' B a' (n + 1) c' (ll ++ [[]]) -> Below B w0 w' -> w.grownBy w' (Value.slice a n cap).ownBlock -> wpList Tryz.prog ops Q rest (act.put o.dst (.slice a' (n + 1) c')) w') :
    wpList Tryz.prog ops Q (o :: rest) act w := by
  obtain ⟨i0, hi, hz0, hz1, hz2⟩ := info_parts Tryz.infoVals
  obtain ⟨h1, h2, h3, h4, h5, h6, h7⟩ := hown.choose_spec
  have hlt := h3.lt
  refine wpList_append_own_at _ hgd os ox 92 ho B 22 i0 (.slice none 0 0) 1 24 Tryz.underlying92 hi hz0 hz1 hz2 rfl (by decide) _ _ _ hs h3 ⟨b, 0, none⟩ 1 1 [.slice none 0 0] hx rfl
    (fun j u hj => by
      match j, hj with
      | 0, hj => simp at hj; subst hj; exact hy) (by simp [Value.oneCell']) (by unfold maxLen; omega) (by omega) hB ?_
  intro v' w' g1 g2 _ g4
  obtain ⟨a', c', rfl, hO⟩ := hown.push g1 g2 g4
  exact h a' c' w' hO (hb.grown g2 hB (fun j hj => (hlt j hj).1)) g2
end
end Go.Proofs.YtlbcmeebcfalpaaGreatDoor

namespace Go.Proofs.YtlbcmeebcfalpaaGreatDoor
open Go.RowKit

/-- Four cells at o. -/
abbrev put4o (W : World) (b o : Nat) (d0 d1 d2 d3 : Value) : World := (((W.setCell ⟨b, o, none⟩ d0).setCell ⟨b, o + 1, none⟩ d1).setCell ⟨b, o + 2, none⟩ d2).setCell ⟨b, o + 3, none⟩ d3
theorem put4o_other {W : World} {b b' o : Nat} (hb : b' ≠ b) (d0 d1 d2 d3 : Value) : (put4o W b o d0 d1 d2 d3).heap[b']? = W.heap[b']? := by
  have hh : ∀ (W : World) (j : Nat) (v : Value), (W.setCell ⟨b, j, none⟩ v).heap[b']? = W.heap[b']? := fun W j v => Below.heap_setCell _ _ _ _ (by simpa using hb)
  rw [hh, hh, hh, hh]
theorem put4o_size (W : World) (b o : Nat) (d0 d1 d2 d3 : Value) : (put4o W b o d0 d1 d2 d3).heap.size = W.heap.size := by simp [World.setCell]
theorem put4o_below {n : Nat} {A W : World} (h : Below n A W) {b : Nat} (hb : n <= b) (o : Nat) (d0 d1 d2 d3 : Value) : Below n A (put4o W b o d0 d1 d2 d3) :=
  (((h.setCell (p := ⟨b, o, none⟩) hb _).setCell (p := ⟨b, o + 1, none⟩) hb _).setCell (p := ⟨b, o + 2, none⟩) hb _).setCell (p := ⟨b, o + 3, none⟩) hb _
theorem put4o_swap (W : World) {b b' : Nat} (hne : b ≠ b') (o j : Nat) (d0 d1 d2 d3 u : Value) : put4o (W.setCell ⟨b', j, none⟩ u) b o d0 d1 d2 d3 = (put4o W b o d0 d1 d2 d3).setCell ⟨b', j, none⟩ u := by
  unfold put4o
  rw [setCell_swap W (Ne.symm hne), setCell_swap _ (Ne.symm hne), setCell_swap _ (Ne.symm hne), setCell_swap _ (Ne.symm hne)]
theorem set_last {α : Type} (l : List α) (x y : α) : (l ++ [x]).set l.length y = l ++ [y] := by
  rw [List.set_append_right _ _ (Nat.le_refl _), Nat.sub_self]; rfl
section
variable {S : Nat -> Prop} {W w4 w5 : World} {B g n c nk ck c5 : Nat} {ak a5 : Option Addr} {ll : List (List Vl)} {top : List Vl} {z v : Vl}
/-- The value appended, and the row stored back. -/
theorem row_app (hO : OwnVV S W B (some ⟨g, 0, none⟩) n c (ll ++ [top])) (hc : W.cell? ⟨g, ll.length, none⟩ = some (.slice ak nk ck)) (hb4 : Below W.heap.size W w4) (hgr : w4.grownBy w5 (Value.slice ak nk ck).ownBlock)
    (o5 : OwnV S w5 B a5 (nk + 1) c5 (top ++ [v])) (h5 : (Value.slice a5 (nk + 1) c5).ownBlock = (Value.slice ak nk ck).ownBlock \/ (Value.slice a5 (nk + 1) c5).ownBlock = some w4.heap.size) :
    OwnVV S (w5.setCell ⟨g, ll.length, none⟩ (.slice a5 (nk + 1) c5)) B (some ⟨g, 0, none⟩) n c (ll ++ [top ++ [v]]) := by
  have hn := hO.len
  rw [List.length_append, List.length_singleton] at hn
  have := hO.setRow (k := ll.length) (w' := w5) (by omega) rfl hc (Nat.le_trans hb4.size hgr.size) (fun b hb hne => (hgr.block b (Nat.lt_of_lt_of_le hb hb4.size) hne).trans (hb4.block b hb)) o5 (fun x hx => by
    rw [ownBlock_some hx] at h5
    rcases h5 with h | h
    · exact .inl h
    · have := hb4.size; have := Option.some.inj h; exact .inr (by omega))
  rwa [set_last] at this
/-- A placeholder appended, the value stored over it, and the row stored back. -/
theorem row_put (hO : OwnVV S W B (some ⟨g, 0, none⟩) n c (ll ++ [top])) (hc : W.cell? ⟨g, ll.length, none⟩ = some (.slice ak nk ck)) (hb4 : Below W.heap.size W w4) (hgr : w4.grownBy w5 (Value.slice ak nk ck).ownBlock)
    (o5 : OwnV S w5 B a5 (nk + 1) c5 (top ++ [z])) (h5 : (Value.slice a5 (nk + 1) c5).ownBlock = (Value.slice ak nk ck).ownBlock \/ (Value.slice a5 (nk + 1) c5).ownBlock = some w4.heap.size)
    (hv : Rd S W v) (hap : Apart ak (some ⟨g, 0, none⟩)) (hf : Free S ak) (hnk : nk = top.length) :
    ∃ g5, a5 = some ⟨g5, 0, none⟩ /\ B <= g5 /\ g5 ≠ g /\ (∀ j, w5.frozen? ⟨g5, j, none⟩ = false) /\ (∀ i, i < 4 -> ∃ u, w5.cell? ⟨g5, nk * 4 + i, none⟩ = some u) /\
      OwnVV S ((put4o w5 g5 (nk * 4) (.int .i64 v.kind) (.int .i64 v.num) (.string v.text) v.sl).setCell ⟨g, ll.length, none⟩ (.slice a5 (nk + 1) c5)) B (some ⟨g, 0, none⟩) n c (ll ++ [top ++ [v]]) := by
  subst hnk
  have hn := hO.len
  rw [List.length_append, List.length_singleton] at hn
  have hsub := hO.sub
  have hgl : g < W.heap.size := World.block_lt_of_cell? _ _ hc
  have hf5 : Free S a5 := fun x hx hs => by
    rw [ownBlock_some hx] at h5
    rcases h5 with h | h
    · exact hf.own _ h.symm hs
    · have := hsub _ hs; have := hb4.size; have := Option.some.inj h; omega
  have hk45 : KeepS S W w5 := (KeepS.below hb4).trans (.grown hgr hf.own)
  obtain ⟨g5, rfl, hB5, hfz, hcl, hset⟩ := o5.setLast hf5 (hv.keep hk45)
  have hg5 : some g5 = (Value.slice ak top.length ck).ownBlock \/ W.heap.size <= g5 := by
    rcases h5 with h | h
    · exact .inl h
    · have := hb4.size; have h' : g5 = w4.heap.size := Option.some.inj h; exact .inr (by omega)
  have hne : g5 ≠ g := by
    rcases hg5 with h | h
    · intro e; exact hap.symm.own ⟨g, 0, none⟩ rfl (by rw [<- h, e])
    · omega
  refine ⟨g5, rfl, hB5, hne, hfz, hcl, ?_⟩
  have := hO.setRow (k := ll.length) (w' := put4o w5 g5 (top.length * 4) (.int .i64 v.kind) (.int .i64 v.num) (.string v.text) v.sl) (by omega) rfl hc (by rw [put4o_size]; exact Nat.le_trans hb4.size hgr.size) (fun b hb hne' => by
    rw [put4o_other (by
      intro e
      subst e
      rcases hg5 with h | h
      · exact hne' h
      · exact absurd hb (Nat.not_lt.2 h))]
    exact (hgr.block b (Nat.lt_of_lt_of_le hb hb4.size) hne').trans (hb4.block b hb)) hset (fun x hx => by cases hx; exact hg5)
  rwa [set_last] at this
end
end Go.Proofs.YtlbcmeebcfalpaaGreatDoor
