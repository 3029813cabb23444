/- Int, Text, List: of the program, and of the reference; slices.Clone of values. -/
import Derived.Test.YtancjkaoocgeeaaDoorCOwnV
import Derived.WalkSpells
namespace Go.Proofs.YtancjkaoocgeeaaDoor
open Go.RowKit

abbrev mkInt (n : Int) : Vl := .mk 1 n ⟨#[]⟩ none 0 []
abbrev mkText (s : ByteArray) : Vl := .mk 2 0 s none 0 []
abbrev mkList (a : Option Addr) (c : Nat) (l : List Vl) : Vl := .mk 3 0 ⟨#[]⟩ a c l
theorem i64_1 : I64 1 := ⟨by decide, by decide⟩
theorem i64_2 : I64 2 := ⟨by decide, by decide⟩
theorem i64_3 : I64 3 := ⟨by decide, by decide⟩
theorem rd_int {S : Nat → Prop} {w : World} {n : Int} (h : I64 n) : Rd S w (mkInt n) := rd_iff.2 ⟨i64_1, h, by show 0 ≤ _; omega, Vals.nil S w⟩
theorem rd_text {S : Nat → Prop} {w : World} {s : ByteArray} (h : s.size ≤ 140737488355328) : Rd S w (mkText s) := rd_iff.2 ⟨i64_2, I64.zero, h, Vals.nil S w⟩
theorem rd_list {S : Nat → Prop} {w : World} {a : Option Addr} {c : Nat} {l : List Vl} (h : Vals S w a l.length c l) : Rd S w (mkList a c l) := rd_iff.2 ⟨i64_3, I64.zero, by show 0 ≤ _; omega, h⟩
theorem int_any (n : Int) (w : World) : Calls Tryd.prog 23 #[.int .i64 n] w fun e w' => e = .returned (mkInt n).val ∧ Below w.heap.size w w' := by
  go_enter Tryd.func23, Tryd.ntmps23
  go_wp2
  exact bodyPost_ret (v := .agg #[.int .i64 1, .int .i64 n, .string ⟨#[]⟩, .slice none 0 0]) (by simp [results, Tryd.results23, go_sem]) rfl ⟨rfl, (Below.refl _ _).alloc (Nat.le_refl _) _⟩
theorem int_ref (n : Int) (w : World) : Calls Tryd.prog 24 #[.int .i64 n] w fun e w' => e = .returned (mkInt n).val ∧ Below w.heap.size w w' := by
  go_enter Tryd.func24, Tryd.ntmps24
  go_wp2
  exact bodyPost_ret (v := .agg #[.int .i64 1, .int .i64 n, .string ⟨#[]⟩, .slice none 0 0]) (by simp [results, Tryd.results24, go_sem]) rfl ⟨rfl, (Below.refl _ _).alloc (Nat.le_refl _) _⟩
theorem text_any (s : ByteArray) (w : World) : Calls Tryd.prog 25 #[.string s] w fun e w' => e = .returned (mkText s).val ∧ Below w.heap.size w w' := by
  go_enter Tryd.func25, Tryd.ntmps25
  go_wp2
  exact bodyPost_ret (v := .agg #[.int .i64 2, .int .i64 0, .string s, .slice none 0 0]) (by simp [results, Tryd.results25, go_sem]) rfl ⟨rfl, (Below.refl _ _).alloc (Nat.le_refl _) _⟩
theorem text_ref (s : ByteArray) (w : World) : Calls Tryd.prog 26 #[.string s] w fun e w' => e = .returned (mkText s).val ∧ Below w.heap.size w w' := by
  go_enter Tryd.func26, Tryd.ntmps26
  go_wp2
  exact bodyPost_ret (v := .agg #[.int .i64 2, .int .i64 0, .string s, .slice none 0 0]) (by simp [results, Tryd.results26, go_sem]) rfl ⟨rfl, (Below.refl _ _).alloc (Nat.le_refl _) _⟩
/-- The empty slice at the head of a new block. -/
theorem OwnV.made0 (S : Nat → Prop) (w : World) : OwnV S (w.alloc (.cells #[] 24)) w.heap.size (some ⟨w.heap.size, 0, none⟩) 0 0 [] :=
  ⟨rfl, World.ownsRow_made w #[] 0 (Nat.le_refl _) (Nat.zero_le _) rfl, by simp⟩
set_option maxRecDepth 100000 in
set_option maxHeartbeats 1000000 in
theorem clone_any (S : Nat → Prop) (a : Option Addr) (n c : Nat) (l : List Vl) (w : World) (h : Vals S w a n c l) (h0 : a = none → n = 0 ∧ c = 0) :
    Calls Tryd.prog 49 #[.slice a n c] w fun e w' => ∃ (a' : Option Addr) (c' : Nat), e = .returned (.slice a' n c') ∧ OwnV S w' w.heap.size a' n c' l ∧ Below w.heap.size w w' := by
  have hl := h.1
  have hB := h.2.2.1
  cases a with
  | none =>
    obtain ⟨rfl, rfl⟩ := h0 rfl
    obtain rfl : l = [] := List.eq_nil_of_length_eq_zero hl.symm
    clear h h0 hl
    go_enter Tryd.func49, Tryd.ntmps49
    have hnil : (binOp .eql 22 (.slice none 0 0) (.slice none 0 0)).run Tryd.prog w = .ok (.bool true) w := Lib.run_eql_slice_nil w 22 24 none 0 0 0 0 Tryd.underlying22
    go_wp2
    go_ret
    exact ⟨none, 0, rfl, OwnV.nil _ _ _, Below.refl _ _⟩
  | some x =>
    have hb1 : Below w.heap.size w (w.alloc (.cells #[] 24)) := (Below.refl _ _).alloc (Nat.le_refl _) _
    have hv : Vals (fun b => S b ∧ b < w.heap.size) w (some x) n c l := h.mono (fun b hb hlt => ⟨hb, hlt⟩)
    have hv1 := hv.below hb1
    have hnil : (binOp .eql 22 (.slice (some x) n c) (.slice none 0 0)).run Tryd.prog w = .ok (.bool false) w := Lib.run_eql_slice_nil w 22 24 (some x) n c 0 0 Tryd.underlying22
    clear h h0 hv hl
    go_enter Tryd.func49, Tryd.ntmps49
    go_wp2_with (at_builtin; refine wpList_appVals rfl (.tmp 5) (.tmp 6) rfl rfl rfl (OwnV.made0 (fun b => S b ∧ b < w.heap.size) w) hv1 (fun e => by cases e) (by omega) (by simp) hb1 (fun q hq hs => by simp [Value.ownBlock] at hq; omega) ?_; intro a' c' w' o5 b5 g5 at5)
    rw [Nat.zero_add, List.nil_append] at o5
    go_ret
    exact ⟨a', c', by simp, o5.monoS (fun b hb _ => hb.1), b5⟩
end Go.Proofs.YtancjkaoocgeeaaDoor
